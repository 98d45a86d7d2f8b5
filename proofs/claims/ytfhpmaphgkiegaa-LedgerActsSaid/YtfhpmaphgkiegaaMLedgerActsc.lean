/- What the law needs. -/
import Derived.Test.YtfhpmaphgkiegaaMLedgerActsa
import Derived.Test.YtfhpmaphgkiegaaMLedgerActsb
import Derived.Test.YtfhpmaphgkiegaaProg
section
namespace Go.Proofs.Ytfhpmaphgkiegaa
open Go Go.RowKit Go.Hp
set_option linter.unusedVariables false
set_option linter.unusedSimpArgs false
set_option maxRecDepth 100000
set_option maxHeartbeats 8000000

structure S_api_Request where
  ID : Int
  Most : Int
  Prompt : (List Int)
  deriving DecidableEq

def S_api_Request.pr : PR S_api_Request 3 := pMap (fun x : S_api_Request => (x.ID, x.Most, x.Prompt)) (pSeq (pInt .i64) (pSeq (pInt .i64) (pRo (pInt .i64))))

structure S_ledger_entry where
  Request : S_api_Request
  log : (List Int)
  fed : Int
  deriving DecidableEq

def S_ledger_entry.hp (b : Nat) (x : S_ledger_entry) : HP := Ex fun v2 : Value => Ex fun v3 : Value => Sep (Sep (B b [.int .i64 x.Request.ID, .int .i64 x.Request.Most, v2, v3, .int .i64 x.fed] 87) (Hold (pRo (pInt .i64)) [v2] x.Request.Prompt)) (Own (pInt .i64) 3 v3 x.log)

theorem S_ledger_entry.uf {w : World} {l : List HP} {b : Nat} {x : S_ledger_entry} (h : Ctx w (S_ledger_entry.hp b x :: l)) : ∃ (a2 : Option Addr) (q2 : Nat) (a3 : Option Addr) (q3 : Nat), Ctx w (B b [.int .i64 x.Request.ID, .int .i64 x.Request.Most, .slice a2 x.Request.Prompt.length q2, .slice a3 x.log.length q3, .int .i64 x.fed] 87 :: Hold (pRo (pInt .i64)) [(.slice a2 x.Request.Prompt.length q2)] x.Request.Prompt :: Own (pInt .i64) 3 (.slice a3 x.log.length q3) x.log :: l) := by
  obtain ⟨v2, h⟩ := Ctx.exF h
  obtain ⟨v3, h⟩ := Ctx.exF h
  replace h := Ctx.sepF h
  replace h := Ctx.sepF h
  obtain ⟨a2, q2, u2⟩ := h.rd (k := 1) rfl rfl reads_ro; subst u2
  obtain ⟨a3, q3, u3⟩ := h.rd (k := 2) rfl rfl reads_own; subst u3
  exact ⟨a2, q2, a3, q3, h⟩
theorem S_ledger_entry.fd {w : World} {l : List HP} {b : Nat} {x : S_ledger_entry} {v2 : Value} {v3 : Value} (h : Ctx w (B b [.int .i64 x.Request.ID, .int .i64 x.Request.Most, v2, v3, .int .i64 x.fed] 87 :: Hold (pRo (pInt .i64)) [v2] x.Request.Prompt :: Own (pInt .i64) 3 v3 x.log :: l)) : Ctx w (S_ledger_entry.hp b x :: l) := Ctx.exB _ _ (Ctx.exB _ _ (Ctx.sepB (Ctx.sepB h)))

structure S_ledger_Ledger where
  m : (List (Int × S_ledger_entry))
  deriving DecidableEq

def S_ledger_Ledger.hp (b : Nat) (x : S_ledger_Ledger) : HP := Ex fun v0 : Nat => Sep (B b [.map (some v0)] 83) (MpV (ekI .i64) vf1 (vPt S_ledger_entry.hp) v0 x.m)

theorem S_ledger_Ledger.uf {w : World} {l : List HP} {b : Nat} {x : S_ledger_Ledger} (h : Ctx w (S_ledger_Ledger.hp b x :: l)) : ∃ (v0 : Nat), Ctx w (B b [.map (some v0)] 83 :: MpV (ekI .i64) vf1 (vPt S_ledger_entry.hp) v0 x.m :: l) := by
  obtain ⟨v0, h⟩ := Ctx.exF h
  replace h := Ctx.sepF h
  exact ⟨v0, h⟩
theorem S_ledger_Ledger.fd {w : World} {l : List HP} {b : Nat} {x : S_ledger_Ledger} {v0 : Nat} (h : Ctx w (B b [.map (some v0)] 83 :: MpV (ekI .i64) vf1 (vPt S_ledger_entry.hp) v0 x.m :: l)) : Ctx w (S_ledger_Ledger.hp b x :: l) := Ctx.exB _ _ (Ctx.sepB h)

structure S_api_Say where
  Request : Int
  Place : Int
  Token : Int
  deriving DecidableEq

def S_api_Say.cs (x : S_api_Say) : List Value := [.int .i64 x.Request, .int .i64 x.Place, .int .i64 x.Token]
theorem S_api_Say.eql (w : World) (x y : S_api_Say) : (Op.equal 35 (.agg (S_api_Say.cs x).toArray) (.agg (S_api_Say.cs y).toArray)).run Try.prog w = .ok (decide (x = y)) w := by
  have hst : Try.prog.stoodInHeld 35 = false := by kernel_rfl
  have pt3 : ∀ {off : Nat} {xs : Array Value} {v : Value} {w : World}, xs[off]? = some v → (part 3 xs off).run Try.prog w = .ok v w := fun h => by simp [part, Try.isAgg3, h]
  have eq3 : ∀ (d : Nat) (k : IntKind) (a b : Int) (w : World), (Op.equalIn (d + 1) 3 (.int k a) (.int k b)).run Try.prog w = .ok (a == b) w := fun d k a b w => by simp [Op.equalIn, run_underlying Try.underlying3]
  have key : ∀ d, (Op.equalIn (d + 2) 35 (.agg (S_api_Say.cs x).toArray) (.agg (S_api_Say.cs y).toArray)).run Try.prog w = .ok (decide (x = y)) w := by
    intro d
    obtain ⟨a0, a1, a2⟩ := x
    obtain ⟨b0, b1, b2⟩ := y
    rw [Op.equalIn]
    simp [run_underlying Try.underlying35, S_api_Say.cs, hst, pt3, eq3]
    repeat' split
    all_goals simp_all
  exact key 9998
structure S_ref23_Entry where
  R : S_api_Request
  Log : (List Int)
  Fed : Int
  deriving DecidableEq

def S_ref23_Entry.pr : PR S_ref23_Entry 5 := pMap (fun x : S_ref23_Entry => (x.R, x.Log, x.Fed)) (pSeq S_api_Request.pr (pSeq (pRo (pInt .i64)) (pInt .i64)))

theorem S_ref23_Entry.op {w : World} {l : List HP} {cs : List Value} {x : S_ref23_Entry} (h : Ctx w (Hold S_ref23_Entry.pr cs x :: l)) : ∃ a2 q2 a3 q3, cs = [.int .i64 x.R.ID, .int .i64 x.R.Most, .slice a2 x.R.Prompt.length q2, .slice a3 x.Log.length q3, .int .i64 x.Fed] ∧ Ctx w (Hold (pRo (pInt .i64)) [.slice a2 x.R.Prompt.length q2] x.R.Prompt :: Hold (pRo (pInt .i64)) [.slice a3 x.Log.length q3] x.Log :: l) := by
  obtain ⟨R, Ss, hc⟩ := h
  match Ss, hc with
  | S :: Ss, hc =>
    obtain ⟨⟨rfl, ⟨_, _, rfl, ⟨_, _, rfl, rfl, ⟨_, _, rfl, rfl, ⟨_, rfl, a2, q2, rfl, hc2, hr2⟩⟩⟩, ⟨_, _, rfl, ⟨_, rfl, a3, q3, rfl, hc3, hr3⟩, rfl⟩⟩⟩, h3⟩ := hc.all
    exact ⟨a2, q2, a3, q3, rfl, R, [] :: [] :: Ss, ⟨⟨rfl, _, rfl, a2, q2, rfl, hc2, hr2⟩, ⟨rfl, _, rfl, a3, q3, rfl, hc3, hr3⟩, h3⟩, by simpa using hc.nodup, by simpa using hc.own, hc.fz⟩
theorem S_ref23_Entry.cl {w : World} {l : List HP} {z0 : Int} {z1 : Int} {z2 : (List Int)} {z3 : (List Int)} {z4 : Int} {v2 v3 : Value} (h : Ctx w (Hold (pRo (pInt .i64)) [v2] z2 :: Hold (pRo (pInt .i64)) [v3] z3 :: l)) : Ctx w (Hold S_ref23_Entry.pr [.int .i64 z0, .int .i64 z1, v2, v3, .int .i64 z4] (⟨⟨z0, z1, z2⟩, z3, z4⟩ : S_ref23_Entry) :: l) := by
  obtain ⟨R, Ss, hc⟩ := h
  match Ss, hc with
  | S2 :: S3 :: Ss, hc =>
    obtain ⟨⟨rfl, _, e2, hr2⟩, ⟨rfl, _, e3, hr3⟩, h3⟩ := hc.all
    injection e2 with e2; subst e2
    injection e3 with e3; subst e3
    exact ⟨R, [] :: Ss, ⟨⟨rfl, ⟨_, _, rfl, ⟨_, _, rfl, rfl, ⟨_, _, rfl, rfl, ⟨_, rfl, hr2⟩⟩⟩, ⟨_, _, rfl, ⟨_, rfl, hr3⟩, rfl⟩⟩⟩, h3⟩, by simpa using hc.nodup, by simpa using hc.own, hc.fz⟩
  | [], hc => exact hc.all.elim
  | [_], hc => exact hc.all.2.elim

structure S_ref23_Ledger where
  L : (List S_ref23_Entry)
  deriving DecidableEq

def S_ref23_Ledger.hp (b : Nat) (x : S_ref23_Ledger) : HP := Ex fun v0 : Value => Sep (B b [v0] 70) (Own S_ref23_Entry.pr 111 v0 x.L)

theorem S_ref23_Ledger.uf {w : World} {l : List HP} {b : Nat} {x : S_ref23_Ledger} (h : Ctx w (S_ref23_Ledger.hp b x :: l)) : ∃ (a0 : Option Addr) (q0 : Nat), Ctx w (B b [.slice a0 x.L.length q0] 70 :: Own S_ref23_Entry.pr 111 (.slice a0 x.L.length q0) x.L :: l) := by
  obtain ⟨v0, h⟩ := Ctx.exF h
  replace h := Ctx.sepF h
  obtain ⟨a0, q0, u0⟩ := h.rd (k := 1) rfl rfl reads_own; subst u0
  exact ⟨a0, q0, h⟩
theorem S_ref23_Ledger.fd {w : World} {l : List HP} {b : Nat} {x : S_ref23_Ledger} {v0 : Value} (h : Ctx w (B b [v0] 70 :: Own S_ref23_Entry.pr 111 v0 x.L :: l)) : Ctx w (S_ref23_Ledger.hp b x :: l) := Ctx.exB _ _ (Ctx.sepB h)

structure S_law23_Act where
  Kind : Int
  ID : Int
  Place : Int
  Token : Int
  R : S_api_Request
  Ids : (List Int)
  deriving DecidableEq

def S_law23_Act.pr : PR S_law23_Act 8 := pMap (fun x : S_law23_Act => (x.Kind, x.ID, x.Place, x.Token, x.R, x.Ids)) (pSeq (pInt .i64) (pSeq (pInt .i64) (pSeq (pInt .i64) (pSeq (pInt .i64) (pSeq S_api_Request.pr (pRo (pInt .i64)))))))

abbrev S_api_Request.cz (x : S_api_Request) (a2 : Option Addr) (q2 : Nat) : List Value := [.int .i64 x.ID, .int .i64 x.Most, .slice a2 x.Prompt.length q2]
abbrev S_api_Say.cz (x : S_api_Say) : List Value := [.int .i64 x.Request, .int .i64 x.Place, .int .i64 x.Token]
abbrev S_ref23_Entry.cz (x : S_ref23_Entry) (a2 : Option Addr) (q2 : Nat) (a3 : Option Addr) (q3 : Nat) : List Value := [.int .i64 x.R.ID, .int .i64 x.R.Most, .slice a2 x.R.Prompt.length q2, .slice a3 x.Log.length q3, .int .i64 x.Fed]
abbrev S_law23_Act.cz (x : S_law23_Act) (a6 : Option Addr) (q6 : Nat) (a7 : Option Addr) (q7 : Nat) : List Value := [.int .i64 x.Kind, .int .i64 x.ID, .int .i64 x.Place, .int .i64 x.Token, .int .i64 x.R.ID, .int .i64 x.R.Most, .slice a6 x.R.Prompt.length q6, .slice a7 x.Ids.length q7]
abbrev C10 := @Try.call10
abbrev C11 := @Try.call11
abbrev C12 := @Try.call12
abbrev C13 := @Try.call13
abbrev C17 := @Try.call17
abbrev C21 := @Try.call21
abbrev C22 := @Try.call22
abbrev C23 := @Try.call23
abbrev C24 := @Try.call24
abbrev C25 := @Try.call25
abbrev C26 := @Try.call26
abbrev C27 := @Try.call27
abbrev C28 := @Try.call28
abbrev C29 := @Try.call29
abbrev C30 := @Try.call30
abbrev C31 := @Try.call31
abbrev C44 := @Try.call44
abbrev C45 := @Try.call45
abbrev C46 := @Try.call46
abbrev C47 := @Try.call47
abbrev C6 := @Try.call6
abbrev C61 := @Try.call61
abbrev C62 := @Try.call62
abbrev C7 := @Try.call7
abbrev C8 := @Try.call8
abbrev C9 := @Try.call9
abbrev F10 := @Try.func10
abbrev F11 := @Try.func11
abbrev F12 := @Try.func12
abbrev F13 := @Try.func13
abbrev F17 := @Try.func17
abbrev F21 := @Try.func21
abbrev F22 := @Try.func22
abbrev F23 := @Try.func23
abbrev F24 := @Try.func24
abbrev F25 := @Try.func25
abbrev F26 := @Try.func26
abbrev F27 := @Try.func27
abbrev F28 := @Try.func28
abbrev F29 := @Try.func29
abbrev F30 := @Try.func30
abbrev F31 := @Try.func31
abbrev F44 := @Try.func44
abbrev F45 := @Try.func45
abbrev F46 := @Try.func46
abbrev F47 := @Try.func47
abbrev F5 := @Try.func5
abbrev F6 := @Try.func6
abbrev F7 := @Try.func7
abbrev F8 := @Try.func8
abbrev F9 := @Try.func9
abbrev G111 := @Try.isAgg111
abbrev G23 := @Try.isAgg23
abbrev G29 := @Try.isAgg29
abbrev G3 := @Try.isAgg3
abbrev G35 := @Try.isAgg35
abbrev G68 := @Try.isAgg68
abbrev G72 := @Try.isAgg72
abbrev G81 := @Try.isAgg81
abbrev M10 := @Try.ntmps10
abbrev M11 := @Try.ntmps11
abbrev M12 := @Try.ntmps12
abbrev M13 := @Try.ntmps13
abbrev M17 := @Try.ntmps17
abbrev M21 := @Try.ntmps21
abbrev M22 := @Try.ntmps22
abbrev M23 := @Try.ntmps23
abbrev M24 := @Try.ntmps24
abbrev M25 := @Try.ntmps25
abbrev M26 := @Try.ntmps26
abbrev M27 := @Try.ntmps27
abbrev M28 := @Try.ntmps28
abbrev M29 := @Try.ntmps29
abbrev M30 := @Try.ntmps30
abbrev M31 := @Try.ntmps31
abbrev M44 := @Try.ntmps44
abbrev M45 := @Try.ntmps45
abbrev M46 := @Try.ntmps46
abbrev M47 := @Try.ntmps47
abbrev M5 := @Try.ntmps5
abbrev M6 := @Try.ntmps6
abbrev M7 := @Try.ntmps7
abbrev M8 := @Try.ntmps8
abbrev M9 := @Try.ntmps9
abbrev R10 := @Try.results10
abbrev R11 := @Try.results11
abbrev R12 := @Try.results12
abbrev R13 := @Try.results13
abbrev R17 := @Try.results17
abbrev R21 := @Try.results21
abbrev R22 := @Try.results22
abbrev R23 := @Try.results23
abbrev R24 := @Try.results24
abbrev R25 := @Try.results25
abbrev R26 := @Try.results26
abbrev R27 := @Try.results27
abbrev R28 := @Try.results28
abbrev R29 := @Try.results29
abbrev R30 := @Try.results30
abbrev R31 := @Try.results31
abbrev R44 := @Try.results44
abbrev R45 := @Try.results45
abbrev R46 := @Try.results46
abbrev R47 := @Try.results47
abbrev R5 := @Try.results5
abbrev R6 := @Try.results6
abbrev R7 := @Try.results7
abbrev R8 := @Try.results8
abbrev R9 := @Try.results9
abbrev U111 := @Try.underlying111
abbrev U23 := @Try.underlying23
abbrev U25 := @Try.underlying25
abbrev U29 := @Try.underlying29
abbrev U3 := @Try.underlying3
abbrev U4 := @Try.underlying4
abbrev U66 := @Try.underlying66
abbrev U68 := @Try.underlying68
abbrev U70 := @Try.underlying70
abbrev U72 := @Try.underlying72
abbrev U81 := @Try.underlying81
abbrev U83 := @Try.underlying83
abbrev U84 := @Try.underlying84
abbrev U87 := @Try.underlying87
abbrev V111 := @Try.zeroValue111
abbrev V3 := @Try.zeroValue3
abbrev V35 := @Try.zeroValue35
abbrev V72 := @Try.zeroValue72
abbrev V84 := @Try.zeroValue84
abbrev Z111 := @Try.sizeOf111
abbrev Z23 := @Try.sizeOf23
abbrev Z29 := @Try.sizeOf29
abbrev Z3 := @Try.sizeOf3
abbrev Z35 := @Try.sizeOf35
abbrev Z68 := @Try.sizeOf68
abbrev Z72 := @Try.sizeOf72
abbrev Z81 := @Try.sizeOf81
theorem S_law23_Act.op {w : World} {l : List HP} {cs : List Value} {x : S_law23_Act} (h : Ctx w (Hold S_law23_Act.pr cs x :: l)) : ∃ a6 q6 a7 q7, cs = [.int .i64 x.Kind, .int .i64 x.ID, .int .i64 x.Place, .int .i64 x.Token, .int .i64 x.R.ID, .int .i64 x.R.Most, .slice a6 x.R.Prompt.length q6, .slice a7 x.Ids.length q7] ∧ Ctx w (Hold (pRo (pInt .i64)) [.slice a6 x.R.Prompt.length q6] x.R.Prompt :: Hold (pRo (pInt .i64)) [.slice a7 x.Ids.length q7] x.Ids :: l) := by
  obtain ⟨R, Ss, hc⟩ := h
  match Ss, hc with
  | S :: Ss, hc =>
    obtain ⟨⟨rfl, ⟨_, _, rfl, rfl, ⟨_, _, rfl, rfl, ⟨_, _, rfl, rfl, ⟨_, _, rfl, rfl, ⟨_, _, rfl, ⟨_, _, rfl, rfl, ⟨_, _, rfl, rfl, ⟨_, rfl, a6, q6, rfl, hc6, hr6⟩⟩⟩, ⟨_, rfl, a7, q7, rfl, hc7, hr7⟩⟩⟩⟩⟩⟩⟩, h3⟩ := hc.all
    exact ⟨a6, q6, a7, q7, rfl, R, [] :: [] :: Ss, ⟨⟨rfl, _, rfl, a6, q6, rfl, hc6, hr6⟩, ⟨rfl, _, rfl, a7, q7, rfl, hc7, hr7⟩, h3⟩, by simpa using hc.nodup, by simpa using hc.own, hc.fz⟩
def slices_Index_s_int_int.L1 (x0 : (List Int)) (x1 : Int) : Nat → Int → Option (Int)
  | 0, _ => none
  | m1 + 1, j1 =>
    if j1 < ((x0.length : Nat) : Int) then
      (idx x0 j1).bind fun y4 =>
      if x1 = y4 then
        some j1
      else
        (slices_Index_s_int_int.L1 x0 x1 m1) (IntKind.i64.wrap (j1 + 1))
    else
      some (-1)

def slices_Index_s_int_int (N : Nat) (x0 : (List Int)) (x1 : Int) : Option (Int) :=
  slices_Index_s_int_int.L1 x0 x1 N 0

theorem slices_Index_s_int_int_any {N nx0 qx0 : Nat} {x0 : (List Int)} {ax0 : Option Addr} {P0 : HP} {x1 r : Int} {Fr : List HP} {w : World} {K : Value → World → Prop} (hrd0 : Reads P0 (pInt .i64) (.slice ax0 nx0 qx0) x0) (hc : Ctx w (P0 :: Fr)) (hp : slices_Index_s_int_int N x0 x1 = some r)
    (k : ∀ w', Ctx w' (P0 :: Fr) → K (.int .i64 r) w') : Calls Try.prog 47 #[.slice ax0 nx0 qx0, .int .i64 x1] w (Ret K) := by
 unfold slices_Index_s_int_int at hp; refine Center2 F47 M47 rfl rfl ?_; obtain ⟨hn0, _⟩ := Ctx.rdLen hc (k := 0) rfl rfl hrd0; subst hn0; refine Wseq (Wreg ?_); refine au 1 rfl <| rn (qn (Wseq (Wseq (Wreg ?_)))); refine au 1 rfl <| sz (ln rfl U23) <| au 1 rfl <| rn (qn (Wblk ?_)); refine Wloop (rg [4, 2, 8, 11]) [8] (fun m vs w' => ∃ j1 : Int, vs = [.int .i64 j1] ∧ slices_Index_s_int_int.L1 x0 x1 m j1 = some r ∧ Ctx w' (P0 :: Fr)) N ?_ ?_
 · exact ⟨0, rfl, hp, hc⟩
 · clear hp hc; intro m vs u w2 hJ; obtain ⟨j1, rfl, hp, hc⟩ := hJ; rcases m with _ | m1
   · cases (show none = some r from hp)
   rw [slices_Index_s_int_int.L1] at hp; refine Wseq (Wreg ?_); refine au 1 rfl <| rn (qn (Wseq ?_)); refine Wif hp (fun _ hp => ?_) fun _ hp => ?_
   · refine Wexit (qx (qx (be (qn (Wseq (Wreg ?_)))))); refine au 1 rfl <| rn (qn (Wret ?_)); obtain rfl := sj hp; exact fz R47 M47 (k _ hc)
   · refine Wskip (qn (Wseq (Wblk (Wseq (Wreg ?_))))); refine au 2 rfl <| rn (qn (Wseq (Wreg ?_))); refine au 3 rfl ?_; obtain ⟨y4, hy4, hp⟩ := bind_some hp; obtain ⟨b7, o8, rfl, hi5, hi6⟩ := hc.ra 0 hrd0 hy4; refine sz (ixx rfl rfl U23 Z3 hi5 hi6 rfl) ?_; have hcell11 := hc.rv 0 hrd0 hy4; refine sz (ld rfl G3 (hcell11 0 _ rfl)) <| au 1 rfl <| rn (qn ?_); refine Wif hp (fun _ hp => ?_) fun _ hp => ?_
     · refine Wskip (bn (qn (Wreg ?_))); refine au 2 rfl <| rn (qn ?_); exact ⟨m1, Nat.lt_succ_self _, ⟨(IntKind.i64.wrap (j1 + 1)), rfl, hp, hc⟩, (kl rfl k0)⟩
     · refine Wseq (Wreg ?_); refine au 2 rfl <| rn (qn (Wret (br (qr (qr (br (qr ?_))))))); obtain rfl := sj hp; exact fz R47 M47 (k _ hc)

def slices_Contains_s_int_int (N : Nat) (x0 : (List Int)) (x1 : Int) : Option (Bool) :=
  (slices_Index_s_int_int N x0 x1).bind fun r1 =>
  some (decide (r1 ≥ 0))

theorem slices_Contains_s_int_int_any {N nx0 qx0 : Nat} {x0 : (List Int)} {ax0 : Option Addr} {P0 : HP} {x1 : Int} {Fr : List HP} {w : World} {r : Bool} {K : Value → World → Prop} (hrd0 : Reads P0 (pInt .i64) (.slice ax0 nx0 qx0) x0) (hc : Ctx w (P0 :: Fr)) (hp : slices_Contains_s_int_int N x0 x1 = some r)
    (k : ∀ w', Ctx w' (P0 :: Fr) → K (.bool r) w') : Calls Try.prog 31 #[.slice ax0 nx0 qx0, .int .i64 x1] w (Ret K) := by
 unfold slices_Contains_s_int_int at hp; refine Center2 F31 M31 rfl rfl ?_; obtain ⟨hn0, _⟩ := Ctx.rdLen hc (k := 0) rfl rfl hrd0; subst hn0; refine Wseq (Wreg ?_); refine au 1 rfl <| rn (qn (Wseq (Wreg ?_))); refine au 2 rfl ?_; obtain ⟨r1, hr1, hp⟩ := bind_some hp; refine kz C47 ?_; refine slices_Index_s_int_int_any hrd0 hc hr1 ?_; clear hc; intro w2 hc; refine au 2 rfl <| rn (qn (Wret ?_)); obtain rfl := sj hp; exact fz R31 M31 (k _ hc)

def slices_Clone_s_int_int (x0 : (List Int)) : Option ((List Int)) :=
  (app ([]) x0).bind fun z3 =>
  some z3

theorem slices_Clone_s_int_int_any {x0 r : (List Int)} {ax0 : Option Addr} {nx0 qx0 : Nat} {P0 : HP} {Fr : List HP} {w : World} {K : Value → World → Prop} (hrd0 : Reads P0 (pInt .i64) (.slice ax0 nx0 qx0) x0) (hc : Ctx w (P0 :: Fr)) (hp : slices_Clone_s_int_int x0 = some r)
    (k : ∀ a9 n10 q11 w', Ctx w' (Own (pInt .i64) 3 (.slice a9 n10 q11) r :: P0 :: Fr) → K (.slice a9 n10 q11) w') : Calls Try.prog 28 #[.slice ax0 nx0 qx0] w (Ret K) := by
 unfold slices_Clone_s_int_int at hp; refine Center1 F28 M28 rfl rfl ?_; obtain ⟨hn0, _⟩ := Ctx.rdLen hc (k := 0) rfl rfl hrd0; subst hn0; rcases ax0 with _ | ax0
 · have hx := Ctx.nilRows hc (k := 0) rfl rfl hrd0; subst hx; obtain ⟨z, hz, hp⟩ := bind_some hp; obtain rfl := sj hp; obtain ⟨_, hz⟩ := app_some hz; subst hz; refine Wseq (Wreg ?_); refine au 1 rfl <| rn (qn (Wseq (Wseq (Wreg ?_)))); refine au 1 rfl <| sz (v := .bool true) (esnT U23 rfl rfl) <| rn (qn (Wct rfl (Wseq (Wreg ?_)))); refine au 1 rfl <| rn (qn (Wret (qr ?_))); replace hc := hc.nilOwn (pInt .i64) 3; exact fz R28 M28 (k _ _ _ _ hc)
 · refine Wseq (Wreg ?_); refine au 1 rfl <| rn (qn (Wseq (Wseq (Wreg ?_)))); refine au 1 rfl <| sz (v := .bool false) (esnF U23 rfl rfl) <| rn (qn (Wcf rfl (Wskip (qn (Wseq (Wreg ?_)))))); refine rsE (Ctx.builtOp (css := []) (xs := ([] : List Int)) (E := (pInt .i64)) hc U23 Z3 V3 rfl rfl rfl rfl rfl rfl rfl rfl) rfl ?_; clear hc; rintro _ w2 ⟨a1, rfl, hc⟩; refine au 1 rfl ?_; obtain ⟨z3, hz3, hp⟩ := bind_some hp; obtain ⟨hg4, e5⟩ := app_some hz3; refine rsE (hc.ap 0 1 hrd0 U23 Try.t3 hg4) rfl ?_; clear hc; rintro _ w8 ⟨a6, q7, rfl, hc⟩; rw [← e5] at hc ⊢; replace hc := Ctx.n0 hc; refine au 1 rfl <| rn (qn (Wret ?_)); obtain rfl := sj hp; exact fz R28 M28 (k _ _ _ _ hc)

theorem bd_83_0 {ρ : Operand → Value} {w : World} {dst : Option Nat} {ty : TypeId} {pos : String} {after : Array Edge} {g : Option (Nat × Bool)} {x0 : Operand} {a0 : Option Nat} (h0 : ρ x0 = (.map a0)) :
    (execOp ρ ⟨dst, .build 83 #[(0, x0)], ty, pos, after, g⟩).run Try.prog w = .ok (.value (.agg #[(.map a0)])) w := by
  simp [execOp, Instr.build, Instr.fill, Try.zeroValue83, Try.runUnderlying83, Try.sizeOf81, h0, Value.cells]

def ledger_New  : Option (S_ledger_Ledger) :=
  some (⟨[]⟩ : S_ledger_Ledger)

theorem ledger_New_any {Fr : List HP} {w : World} {r : S_ledger_Ledger} {K : Value → World → Prop}  (hc : Ctx w (Fr)) (hp : ledger_New = some r)
    (k : ∀ (b6 : Nat) w', Ctx w' (S_ledger_Ledger.hp b6 r :: Fr) → K (pt b6 0) w') : Calls Try.prog 7 #[] w (Ret K) := by
 unfold ledger_New at hp; refine Center (args := []) (l := []) F7 M7 rfl rfl rfl ?_; refine Wseq (Wreg ?_); refine au 1 rfl <| rn (qn (Wseq (Wreg ?_))); refine rsE (Ctx.mpvMake (ekI .i64) vf1 (vPt S_ledger_entry.hp) hc) rfl ?_; clear hc; rintro _ w2 ⟨b1, rfl, hc⟩; refine sz (v := .agg #[.map (some b1)]) (bd_83_0 rfl) ?_; refine rsE (Ctx.boxOp (cs := [.map (some b1)]) (v := .agg #[.map (some b1)]) hc rfl rfl) rfl ?_; clear hc; rintro _ w5 ⟨b3, rfl, hc⟩; refine au 1 rfl <| rn (qn (Wret ?_)); replace hc := hc.m [2, 2]; replace hc := S_ledger_Ledger.fd (x := (⟨[]⟩ : S_ledger_Ledger)) hc; obtain rfl := sj hp; exact fz R7 M7 (k _ _ hc)

def ledger_entry_done (x0 : S_ledger_entry) : Option (Bool) :=
  some (decide (((x0.log.length : Nat) : Int) ≥ x0.Request.Most))

theorem ledger_entry_done_any {b0 : Nat} {x0 : S_ledger_entry} {Fr : List HP} {w : World} {r : Bool} {K : Value → World → Prop}  (hc : Ctx w (S_ledger_entry.hp b0 x0 :: Fr)) (hp : ledger_entry_done x0 = some r)
    (k : ∀ w', Ctx w' (S_ledger_entry.hp b0 x0 :: Fr) → K (.bool r) w') : Calls Try.prog 29 #[pt b0 0] w (Ret K) := by
 unfold ledger_entry_done at hp; refine Center1 F29 M29 rfl rfl ?_; refine Wseq (Wreg ?_); refine au 1 rfl <| rn (qn (Wseq ?_)); replace hc := S_ledger_entry.uf hc; obtain ⟨a1, q2, a3, q4, hc⟩ := hc; replace hc := hc.drew; refine Wdrw (fun _ w' => w' = World.drew w) [0, 1, 3, 7, 15, 0, 32, 96, 224, 480, 1023, 2047] 0 0 rfl (by kernel_rfl) (fun _ _ => rfl) ?_; generalize hw : World.drew w = w5 at *; clear hw; refine ad_ 2 rfl <| dE (v := pt b0 3) (fax 3 rfl U87 rfl Z23 rfl rfl rfl) rfl rfl <| dE (ld rfl G23 (Ctx.cell hc (k := 0) rfl rfl rfl)) rfl rfl <| dE (ln rfl U23) rfl rfl <| ad_ 2 rfl <| dE (v := pt b0 0) (fax 0 rfl U87 rfl Z29 rfl rfl rfl) rfl rfl <| dE (v := pt b0 1) (fax 1 rfl U29 rfl Z3 rfl rfl rfl) rfl rfl <| dE (ld rfl G3 (Ctx.cell hc (k := 0) rfl rfl rfl)) rfl rfl <| ad_ 2 rfl <| dn (qn (Wret ?_)); replace hc := hc.m [4, 4, 4]; replace hc := S_ledger_entry.fd (x := x0) hc; obtain rfl := sj hp; exact fz R29 M29 (k _ hc)

def ledger_entry_token (x0 : S_ledger_entry) (x1 : Int) : Option (Int) :=
  if x1 < ((x0.Request.Prompt.length : Nat) : Int) then
    (idx x0.Request.Prompt x1).bind fun y16 =>
    some y16
  else
    (idx x0.log (IntKind.i64.wrap (x1 - ((x0.Request.Prompt.length : Nat) : Int)))).bind fun y7 =>
    some y7

theorem ledger_entry_token_any {b0 : Nat} {x0 : S_ledger_entry} {x1 r : Int} {Fr : List HP} {w : World} {K : Value → World → Prop}  (hc : Ctx w (S_ledger_entry.hp b0 x0 :: Fr)) (hp : ledger_entry_token x0 x1 = some r)
    (k : ∀ w', Ctx w' (S_ledger_entry.hp b0 x0 :: Fr) → K (.int .i64 r) w') : Calls Try.prog 30 #[pt b0 0, .int .i64 x1] w (Ret K) := by
 unfold ledger_entry_token at hp; refine Center2 F30 M30 rfl rfl ?_; refine Wseq (Wreg ?_); refine au 1 rfl <| rn (qn (Wseq (Wseq (Wreg ?_)))); refine au 3 rfl <| sz (v := pt b0 0) (fax 0 rfl U87 rfl Z29 rfl rfl rfl) <| sz (v := pt b0 2) (fax 2 rfl U29 rfl Z23 rfl rfl rfl) ?_; replace hc := S_ledger_entry.uf hc; obtain ⟨a1, q2, a3, q4, hc⟩ := hc; refine sz (ld rfl G23 (Ctx.cell hc (k := 0) rfl rfl rfl)) <| sz (ln rfl U23) <| au 1 rfl <| rn (qn ?_); refine Wif hp (fun _ hp => ?_) fun _ hp => ?_
 · refine Wskip (qn (Wseq ?_)); replace hc := hc.drew; refine Wdrw (fun _ w' => w' = World.drew w) [0, 1, 3, 7, 0, 0, 32, 96, 224, 480, 992, 2032, 4095, 8191, 16383] 0 0 rfl (by kernel_rfl) (fun _ _ => rfl) ?_; generalize hw : World.drew w = w6 at *; clear hw; refine ad_ 2 rfl <| dE (v := pt b0 3) (fax 3 rfl U87 rfl Z23 rfl rfl rfl) rfl rfl <| dE (ld rfl G23 (Ctx.cell hc (k := 0) rfl rfl rfl)) rfl rfl <| ad_ 3 rfl <| dE (v := pt b0 0) (fax 0 rfl U87 rfl Z29 rfl rfl rfl) rfl rfl <| dE (v := pt b0 2) (fax 2 rfl U29 rfl Z23 rfl rfl rfl) rfl rfl <| dE (ld rfl G23 (Ctx.cell hc (k := 0) rfl rfl rfl)) rfl rfl <| dE (ln rfl U23) rfl rfl <| ad_ 1 rfl ?_; obtain ⟨y7, hy7, hp⟩ := bind_some hp; obtain ⟨b10, o11, rfl, hi8, hi9⟩ := hc.ra 2 reads_own hy7; refine dE (ixx rfl rfl U23 Z3 hi8 hi9 rfl) rfl rfl ?_; have hcell14 := hc.rv 2 reads_own hy7; refine dE (ld rfl G3 (hcell14 0 _ rfl)) rfl rfl <| ad_ 1 rfl <| dn (qn (Wret ?_)); replace hc := hc.m [4, 4, 4]; replace hc := S_ledger_entry.fd (x := x0) hc; obtain rfl := sj hp; exact fz R30 M30 (k _ hc)
 · refine Wseq (Wreg ?_); refine au 2 rfl <| sz (v := pt b0 0) (fax 0 rfl U87 rfl Z29 rfl rfl rfl) ?_; refine fq 2 U29 Z23 G23 hc 0 ?_; refine au 1 rfl ?_; obtain ⟨y16, hy16, hp⟩ := bind_some hp; obtain ⟨b19, o20, rfl, hi17, hi18⟩ := hc.ra 1 reads_ro hy16; refine sz (ixx rfl rfl U23 Z3 hi17 hi18 rfl) ?_; have hcell23 := hc.rv 1 reads_ro hy16; refine sz (ld rfl G3 (hcell23 0 _ rfl)) <| au 1 rfl <| rn (qn (Wret (qr ?_))); replace hc := hc.m [4, 4, 4]; replace hc := S_ledger_entry.fd (x := x0) hc; obtain rfl := sj hp; exact fz R30 M30 (k _ hc)

theorem bd_87_0 {ρ : Operand → Value} {w : World} {dst : Option Nat} {ty : TypeId} {pos : String} {after : Array Edge} {g : Option (Nat × Bool)} {x0 : Operand} {c0_0 c0_1 c0_2 : Value} (h0 : ρ x0 = .agg #[c0_0, c0_1, c0_2]) :
    (execOp ρ ⟨dst, .build 87 #[(0, x0)], ty, pos, after, g⟩).run Try.prog w = .ok (.value (.agg #[c0_0, c0_1, c0_2, (.slice none 0 0), (.int .i64 0)])) w := by
  simp [execOp, Instr.build, Instr.fill, Try.zeroValue87, Try.runUnderlying87, Try.sizeOf23, Try.sizeOf29, Try.sizeOf3, h0, Value.cells]

def ledger_Ledger_Open (x0 : S_ledger_Ledger) (x1 : S_api_Request) : Option (Int × S_ledger_Ledger) :=
  optc (mget x0.m x1.ID) (
    if ((x1.Prompt.length : Nat) : Int) = 0 then
      some (90, x0)
    else
      if x1.Most < 1 then
        some (2, x0)
      else
        (slices_Clone_s_int_int x1.Prompt).bind fun r14 =>
        some (0, (⟨(mset x0.m x1.ID (⟨(⟨x1.ID, x1.Most, r14⟩ : S_api_Request), [], 0⟩ : S_ledger_entry))⟩ : S_ledger_Ledger))) fun y11 =>
    some (210, x0)

theorem ledger_Ledger_Open_any {b0 n2 q3 : Nat} {x0 : S_ledger_Ledger} {x1 : S_api_Request} {a1 : Option Addr} {Fr : List HP} {w : World} {r : Int × S_ledger_Ledger} {K : Value → World → Prop}  (hc : Ctx w (S_ledger_Ledger.hp b0 x0 :: Hold (pRo (pInt .i64)) [.slice a1 n2 q3] x1.Prompt :: Fr)) (hp : ledger_Ledger_Open x0 x1 = some r)
    (k : ∀ w', Ctx w' (S_ledger_Ledger.hp b0 r.2 :: Fr) → K (.int .i64 r.1) w') : Calls Try.prog 8 #[pt b0 0, .agg #[.int .i64 x1.ID, .int .i64 x1.Most, .slice a1 n2 q3]] w (Ret K) := by
 unfold ledger_Ledger_Open at hp; refine Center2 F8 M8 rfl rfl ?_; obtain rfl := hc.rz 1 reads_ro; refine Wseq (Wreg ?_); refine rsE (Ctx.boxOp (cs := (S_api_Request.cz x1 a1 q3)) (v := .agg (S_api_Request.cz x1 a1 q3).toArray) hc rfl rfl) rfl ?_; clear hc; rintro _ w7 ⟨b5, rfl, hc⟩; refine au 1 rfl <| rn (qn (Wseq (Wblk (Wseq ?_)))); replace hc := hc.m [2]; replace hc := S_ledger_Ledger.uf hc; obtain ⟨v8, hc⟩ := hc; replace hc := hc.drew; refine Wdrw (fun _ w' => w' = World.drew w7) [0, 1, 3, 7, 0, 16, 63, 127, 255] 0 0 rfl (by kernel_rfl) (fun _ _ => rfl) ?_; generalize hw : World.drew w7 = w9 at *; clear hw; refine ad_ 2 rfl <| dE (v := pt b0 0) (fax 0 rfl U83 rfl Z81 rfl rfl rfl) rfl rfl <| dE (ld rfl G81 (Ctx.cell hc (k := 0) rfl rfl rfl)) rfl rfl <| dE (v := pt b5 0) (fax 0 rfl U29 rfl Z3 rfl rfl rfl) rfl rfl <| dE (ld rfl G3 (Ctx.cell hc (k := 2) rfl rfl rfl)) rfl rfl ?_; cases hb10 : mget x0.m x1.ID
 · replace hp := optN hp hb10; refine dE (v := .pointer none) (Ctx.mpvGetN (k := x1.ID) false (keyL_int U3) hc (i := 1) rfl rfl U81 rfl rfl V84 hb10) rfl rfl <| dE (v := .bool false) (npt U84 rfl rfl) rfl rfl <| ad_ 1 rfl <| dn (qn (Wcf rfl (Wseq (Wreg ?_)))); refine fq 2 U29 Z23 G23 hc 2 ?_; refine sz (ln rfl U23) <| au 2 rfl <| rn (qn ?_); refine Wif hp (fun _ hp => ?_) fun _ hp => ?_
   · refine Wseq (Wreg ?_); refine fq 1 U29 Z3 G3 hc 2 ?_; refine au 2 rfl <| rn (qn ?_); refine Wif hp (fun _ hp => ?_) fun _ hp => ?_
     · refine Wskip (bn (qn (Wseq (Wreg ?_)))); refine fq 2 U29 Z23 G23 hc 2 ?_; replace hc := hc.dz 3; obtain ⟨r14, hr14, hp⟩ := bind_some hp; refine kz C28 ?_; refine slices_Clone_s_int_int_any reads_ro hc hr14 ?_; clear hc; intro a15 n16 q17 w18 hc; obtain rfl := hc.rz 0 reads_own; refine sz (v := pt b5 2) (fax 2 rfl U29 rfl Z23 rfl rfl rfl) <| po hc 4 Z23 ?_; clear hc; rintro w20 hc; refine rn (qn (Wseq ?_)); replace hc := hc.drew; refine Wdrw (fun j w' => (j = 3 → w'.cell? ⟨b0, 0, none⟩ = some (.map (some v8))) ∧ (j = 5 → w'.cell? ⟨b5, 0, none⟩ = some (.int .i64 x1.ID)) ∧ True) [0, 1, 3, 7, 0, 16, 0, 64, 192, 511] 0 64 rfl (by kernel_rfl) (fun j hj => ⟨fun _ => hc.cell (k := 2) rfl rfl rfl, fun _ => hc.cell (k := 4) rfl rfl rfl, trivial⟩) ?_; generalize hw : World.drew w20 = w21 at *; clear hw; refine ad_ 2 rfl <| ds (v := pt b0 0) rfl (fun w' hF => fax 0 rfl U83 rfl Z81 rfl rfl rfl) rfl <| ds rfl (fun w' hF => ld rfl G81 ((hF.1 rfl))) rfl <| ds (v := pt b5 0) rfl (fun w' hF => fax 0 rfl U29 rfl Z3 rfl rfl rfl) rfl <| ds rfl (fun w' hF => ld rfl G3 ((hF.2.1 rfl))) rfl <| dx (v := .agg #[.int .i64 x1.ID, .int .i64 x1.Most, .slice a15 r14.length q17]) rfl (ldg rfl G29 Z29 rfl (Ctx.cells hc (k := 4) rfl rfl 0 (vs := [.int .i64 x1.ID, .int .i64 x1.Most, .slice a15 r14.length q17]) rfl)) rfl rfl <| ds (v := .agg #[.int .i64 x1.ID, .int .i64 x1.Most, .slice a15 r14.length q17, .slice none 0 0, .int .i64 0]) rfl (fun w' hF => bd_87_0 rfl) rfl ?_; refine deE (Ctx.boxOp (cs := [.int .i64 x1.ID, .int .i64 x1.Most, .slice a15 r14.length q17, .slice none 0 0, .int .i64 0]) (v := .agg #[.int .i64 x1.ID, .int .i64 x1.Most, .slice a15 r14.length q17, .slice none 0 0, .int .i64 0]) hc rfl rfl) rfl rfl ?_; clear hc; rintro _ w24 ⟨b22, rfl, hc⟩; refine ⟨fun j hj hb => ⟨fun _ => hc.cell (k := 3) rfl rfl rfl, fun _ => hc.cell (k := 5) rfl rfl rfl, trivial⟩, ?_⟩; replace hc := hc.freeze (k := 1) rfl rfl rfl; replace hc := Ctx.n1 hc; replace hc := hc.nilOwn (pInt .i64) 3; replace hc := hc.m [4, 4]; replace hc := S_ledger_entry.fd (x := (⟨(⟨x1.ID, x1.Most, r14⟩ : S_api_Request), [], 0⟩ : S_ledger_entry)) hc; replace hc : Ctx w24 ((vPt S_ledger_entry.hp).r [pt b22 0] (⟨(⟨x1.ID, x1.Most, r14⟩ : S_api_Request), [], 0⟩ : S_ledger_entry) :: hR .i64 a1 q3 x1.Prompt :: B b0 [.map (some v8)] 83 :: MpV (ekI .i64) vf1 (vPt S_ledger_entry.hp) v8 x0.m :: B b5 [.int .i64 x1.ID, .int .i64 x1.Most, .slice a15 r14.length q17] 29 :: hR .i64 a1 q3 x1.Prompt :: Fr) := Ctx.exB _ _ (Ctx.sepB (Ctx.puB rfl hc)); replace hc := hc.pull 3 rfl rfl; replace hc := hc.swap; refine duE (A := fun w' => Ctx w' (MpV (ekI .i64) vf1 (vPt S_ledger_entry.hp) v8 (mset x0.m x1.ID (⟨(⟨x1.ID, x1.Most, r14⟩ : S_api_Request), [], 0⟩ : S_ledger_entry)) :: hR .i64 a1 q3 x1.Prompt :: B b0 [.map (some v8)] 83 :: B b5 [.int .i64 x1.ID, .int .i64 x1.Most, .slice a15 r14.length q17] 29 :: hR .i64 a1 q3 x1.Prompt :: Fr)) (Ctx.mpvSet (k := x1.ID) (keyL_int U3) hc U81 rfl rfl rfl) rfl rfl ?_; clear hc; rintro w25 hc; refine ⟨fun j hj hb => ⟨fun e => nja hj e, fun e => nja hj e, trivial⟩, ?_⟩; refine dn (qn (Wseq (Wreg ?_))); refine au 1 rfl <| rn (qn (Wret ?_)); replace hc := hc.m [4]; replace hc := S_ledger_Ledger.fd (x := (⟨(mset x0.m x1.ID (⟨(⟨x1.ID, x1.Most, r14⟩ : S_api_Request), [], 0⟩ : S_ledger_entry))⟩ : S_ledger_Ledger)) hc; replace hc := hc.m [7, 5, 3]; obtain rfl := sj hp; exact fz R8 M8 (k _ hc)
     · refine Wseq (Wreg ?_); refine au 1 rfl <| rn (qn (Wret (br (qr ?_)))); replace hc := hc.m [2, 2]; replace hc := S_ledger_Ledger.fd (x := x0) hc; replace hc := hc.m [5, 3]; obtain rfl := sj hp; exact fz R8 M8 (k _ hc)
   · refine Wseq (Wreg ?_); refine au 1 rfl <| rn (qn (Wret (br (qr ?_)))); replace hc := hc.m [2, 2]; replace hc := S_ledger_Ledger.fd (x := x0) hc; replace hc := hc.m [5, 3]; obtain rfl := sj hp; exact fz R8 M8 (k _ hc)
 · rename_i y11; replace hp := optS hp hb10; replace hc := hc.m [2]; replace hc := Ctx.mpVF hc; obtain ⟨lh26, hK27, hc⟩ := hc; replace hc := Ctx.bigGetS hc.swap hb10; obtain ⟨c29, hg28, hc⟩ := hc; replace hc := Ctx.exF hc; obtain ⟨b31, hc⟩ := hc; replace hc := Ctx.sepF hc; replace hc := Ctx.puF hc; obtain ⟨u30, hc⟩ := hc; subst u30; replace hc : Ctx w9 (S_ledger_entry.hp b31 y11 :: Big (VK (vPt S_ledger_entry.hp)) (mdel lh26 x1.ID) (mdel x0.m x1.ID) :: Mp (ekI .i64) (HV vf1 (pAny 1)) v8 lh26 :: B b0 [.map (some v8)] 83 :: B b5 (S_api_Request.cz x1 a1 q3) 29 :: hR .i64 a1 q3 x1.Prompt :: Fr) := hc; refine dE (v := pt b31 0) (Ctx.mpGetH (k := x1.ID) false (keyL_int U3) hc (i := 2) rfl rfl U81 rfl rfl hg28) rfl rfl <| dE (v := .bool true) (npf U84 rfl rfl) rfl rfl <| ad_ 1 rfl <| dn (qn (Wct rfl (Wseq (Wreg ?_)))); refine au 1 rfl <| rn (qn (Wret (br (qr ?_)))); replace hc : Ctx w9 ((vPt S_ledger_entry.hp).r [pt b31 0] y11 :: Big (VK (vPt S_ledger_entry.hp)) (mdel lh26 x1.ID) (mdel x0.m x1.ID) :: Mp (ekI .i64) (HV vf1 (pAny 1)) v8 lh26 :: B b0 [.map (some v8)] 83 :: B b5 (S_api_Request.cz x1 a1 q3) 29 :: hR .i64 a1 q3 x1.Prompt :: Fr) := Ctx.exB _ _ (Ctx.sepB (Ctx.puB rfl hc)); replace hc := hc.m [4, 4, 4]; replace hc := Ctx.bigBack0 hc hK27 hg28 hb10; replace hc : Ctx w9 (MpV (ekI .i64) vf1 (vPt S_ledger_entry.hp) v8 x0.m :: B b0 [.map (some v8)] 83 :: B b5 (S_api_Request.cz x1 a1 q3) 29 :: hR .i64 a1 q3 x1.Prompt :: Fr) := Ctx.mpVB hc.swap; replace hc := hc.m [2]; replace hc := S_ledger_Ledger.fd (x := x0) hc; replace hc := hc.m [5, 3]; obtain rfl := sj hp; exact fz R8 M8 (k _ hc)

def ledger_Ledger_Next (x0 : S_ledger_Ledger) (x1 : Int) : Option (Int × Int × Bool) :=
  optc (mget x0.m x1) (
    some (0, 0, false)) fun y3 =>
    (ledger_entry_done y3).bind fun r10 =>
    if r10 = true then
      some (0, 0, false)
    else
      (ledger_entry_token y3 y3.fed).bind fun r18 =>
      some (y3.fed, r18, true)

theorem ledger_Ledger_Next_any {b0 : Nat} {x0 : S_ledger_Ledger} {x1 : Int} {Fr : List HP} {w : World} {r : Int × Int × Bool} {K : Value → World → Prop}  (hc : Ctx w (S_ledger_Ledger.hp b0 x0 :: Fr)) (hp : ledger_Ledger_Next x0 x1 = some r)
    (k : ∀ w', Ctx w' (S_ledger_Ledger.hp b0 x0 :: Fr) → K (.tuple #[.int .i64 r.1, .int .i64 r.2.1, .bool r.2.2]) w') : Calls Try.prog 9 #[pt b0 0, .int .i64 x1] w (Ret K) := by
 unfold ledger_Ledger_Next at hp; refine Center2 F9 M9 rfl rfl ?_; refine Wseq (Wreg ?_); refine au 3 rfl <| rn (qn (Wseq (Wreg ?_))); refine au 2 rfl <| sz (v := pt b0 0) (fax 0 rfl U83 rfl Z81 rfl rfl rfl) ?_; replace hc := S_ledger_Ledger.uf hc; obtain ⟨v1, hc⟩ := hc; refine sz (ld rfl G81 (Ctx.cell hc (k := 0) rfl rfl rfl)) <| au 1 rfl ?_; cases hb2 : mget x0.m x1
 · replace hp := optN hp hb2; refine sz (v := .pointer none) (Ctx.mpvGetN (k := x1) false (keyL_int U3) hc (i := 1) rfl rfl U81 rfl rfl V84 hb2) <| au 1 rfl <| rn (qn (Wseq (Wseq (Wreg ?_)))); refine au 1 rfl <| sz (v := .bool true) (ept U84 rfl rfl) <| au 1 rfl ?_; (iterate 2 refine r0 rfl ?_); refine au 1 rfl <| rn (qn (Wct rfl (Wseq (Wreg ?_)))); refine au 3 rfl <| rn (qn (Wret (qr ?_))); replace hc := hc.m [2, 2]; replace hc := S_ledger_Ledger.fd (x := x0) hc; obtain rfl := sj hp; refine f3 (v := .int .i64 0) (u := .int .i64 0) (z := .bool false) R9 M9 rfl rfl rfl ?_; exact ⟨_, rfl, k _ hc⟩
 · rename_i y3; replace hp := optS hp hb2; replace hc := hc.m [2]; replace hc := Ctx.mpVF hc; obtain ⟨lh4, hK5, hc⟩ := hc; replace hc := Ctx.bigGetS hc.swap hb2; obtain ⟨c7, hg6, hc⟩ := hc; replace hc := Ctx.exF hc; obtain ⟨b9, hc⟩ := hc; replace hc := Ctx.sepF hc; replace hc := Ctx.puF hc; obtain ⟨u8, hc⟩ := hc; subst u8; replace hc : Ctx w (S_ledger_entry.hp b9 y3 :: Big (VK (vPt S_ledger_entry.hp)) (mdel lh4 x1) (mdel x0.m x1) :: Mp (ekI .i64) (HV vf1 (pAny 1)) v1 lh4 :: B b0 [.map (some v1)] 83 :: Fr) := hc; refine sz (v := pt b9 0) (Ctx.mpGetH (k := x1) false (keyL_int U3) hc (i := 2) rfl rfl U81 rfl rfl hg6) <| au 1 rfl <| rn (qn (Wseq (Wseq (Wreg ?_)))); refine au 1 rfl <| sz (v := .bool false) (epf U84 rfl rfl) <| au 2 rfl ?_; replace hp := bind_some hp; obtain ⟨r10, hr10, hp⟩ := hp; refine kz C29 ?_; refine ledger_entry_done_any hc hr10 ?_; clear hc; intro w11 hc; refine au 1 rfl <| rn (qn ?_); cases hb12 : r10
   · replace hp := gneg hp (by rw [hb12]; exact Bool.false_ne_true); subst hb12; refine Wcf rfl (Wskip (qn (Wseq ?_))); replace hc := S_ledger_entry.uf hc; obtain ⟨a13, q14, a15, q16, hc⟩ := hc; replace hc := hc.drew; refine Wdrw (fun j w' => (j = 3 → w'.cell? ⟨b9, 4, none⟩ = some (.int .i64 y3.fed)) ∧ True) [0, 1, 3, 7, 0, 0, 32, 96, 224, 496, 1023, 2047, 4095] 0 256 rfl (by kernel_rfl) (fun j hj => ⟨fun _ => hc.cell (k := 0) rfl rfl rfl, trivial⟩) ?_; generalize hw : World.drew w11 = w17 at *; clear hw; refine ad_ 2 rfl <| ds (v := pt b9 4) rfl (fun w' hF => fax 4 rfl U87 rfl Z3 rfl rfl rfl) rfl <| ds rfl (fun w' hF => ld rfl G3 ((hF.1 rfl))) rfl <| ad_ 3 rfl <| ds (v := pt b9 4) rfl (fun w' hF => fax 4 rfl U87 rfl Z3 rfl rfl rfl) rfl <| dx rfl (ld rfl G3 (Ctx.cell hc (k := 0) rfl rfl rfl)) rfl rfl ?_; replace hc := hc.m [4, 4, 4]; replace hc := S_ledger_entry.fd (x := y3) hc; replace hp := bind_some hp; obtain ⟨r18, hr18, hp⟩ := hp; refine dc (cl C30 rfl rfl) rfl rfl ?_; refine ledger_entry_token_any hc hr18 ?_; clear hc; intro w19 hc; replace hc := S_ledger_entry.uf hc; obtain ⟨a20, q21, a22, q23, hc⟩ := hc; refine ⟨fun j hj hb => ⟨fun _ => hc.cell (k := 0) rfl rfl rfl, trivial⟩, ?_⟩; refine ad_ 3 rfl <| dn (qn (Wret ?_)); replace hc := hc.m [4, 4, 4]; replace hc := S_ledger_entry.fd (x := y3) hc; replace hc : Ctx w19 ((vPt S_ledger_entry.hp).r [pt b9 0] y3 :: Big (VK (vPt S_ledger_entry.hp)) (mdel lh4 x1) (mdel x0.m x1) :: Mp (ekI .i64) (HV vf1 (pAny 1)) v1 lh4 :: B b0 [.map (some v1)] 83 :: Fr) := Ctx.exB _ _ (Ctx.sepB (Ctx.puB rfl hc)); replace hc := hc.m [4, 4, 4]; replace hc := Ctx.bigBack0 hc hK5 hg6 hb2; replace hc : Ctx w19 (MpV (ekI .i64) vf1 (vPt S_ledger_entry.hp) v1 x0.m :: B b0 [.map (some v1)] 83 :: Fr) := Ctx.mpVB hc.swap; replace hc := hc.m [2]; replace hc := S_ledger_Ledger.fd (x := x0) hc; obtain rfl := sj hp; refine f3 (v := .int .i64 y3.fed) (u := .int .i64 r18) (z := .bool true) R9 M9 rfl rfl rfl ?_; exact ⟨_, rfl, k _ hc⟩
   · replace hp := gpos hp hb12; subst hb12; refine Wct rfl (Wseq (Wreg ?_)); refine au 3 rfl <| rn (qn (Wret (qr ?_))); replace hc : Ctx w11 ((vPt S_ledger_entry.hp).r [pt b9 0] y3 :: Big (VK (vPt S_ledger_entry.hp)) (mdel lh4 x1) (mdel x0.m x1) :: Mp (ekI .i64) (HV vf1 (pAny 1)) v1 lh4 :: B b0 [.map (some v1)] 83 :: Fr) := Ctx.exB _ _ (Ctx.sepB (Ctx.puB rfl hc)); replace hc := hc.m [4, 4, 4]; replace hc := Ctx.bigBack0 hc hK5 hg6 hb2; replace hc : Ctx w11 (MpV (ekI .i64) vf1 (vPt S_ledger_entry.hp) v1 x0.m :: B b0 [.map (some v1)] 83 :: Fr) := Ctx.mpVB hc.swap; replace hc := hc.m [2]; replace hc := S_ledger_Ledger.fd (x := x0) hc; obtain rfl := sj hp; refine f3 (v := .int .i64 0) (u := .int .i64 0) (z := .bool false) R9 M9 rfl rfl rfl ?_; exact ⟨_, rfl, k _ hc⟩

theorem bd_35_ {ρ : Operand → Value} {w : World} {dst : Option Nat} {ty : TypeId} {pos : String} {after : Array Edge} {g : Option (Nat × Bool)}    :
    (execOp ρ ⟨dst, .build 35 #[], ty, pos, after, g⟩).run Try.prog w = .ok (.value (.agg #[(.int .i64 0), (.int .i64 0), (.int .i64 0)])) w := by
  simp [execOp, Instr.build, Instr.fill, Try.zeroValue35, Try.runUnderlying35, Try.sizeOf3, Value.cells]

theorem bd_35_0_1_2 {ρ : Operand → Value} {w : World} {dst : Option Nat} {ty : TypeId} {pos : String} {after : Array Edge} {g : Option (Nat × Bool)} {x0 x1 x2 : Operand} {k0 : IntKind} {a0 : Int} {k1 : IntKind} {a1 : Int} {k2 : IntKind} {a2 : Int} (h0 : ρ x0 = (.int k0 a0)) (h1 : ρ x1 = (.int k1 a1)) (h2 : ρ x2 = (.int k2 a2)) :
    (execOp ρ ⟨dst, .build 35 #[(0, x0), (1, x1), (2, x2)], ty, pos, after, g⟩).run Try.prog w = .ok (.value (.agg #[(.int k0 a0), (.int k1 a1), (.int k2 a2)])) w := by
  simp [execOp, Instr.build, Instr.fill, Try.zeroValue35, Try.runUnderlying35, Try.sizeOf3, h0, h1, h2, Value.cells]

def ledger_Ledger_Answer (x0 : S_ledger_Ledger) (x1 : Int) (x2 : Int) (x3 : Int) : Option (S_api_Say × Bool × Int × S_ledger_Ledger) :=
  optc (mget x0.m x1) (
    some ((⟨0, 0, 0⟩ : S_api_Say), false, 121, x0)) fun y6 =>
    (ledger_entry_done y6).bind fun r14 =>
    if r14 = true then
      some ((⟨0, 0, 0⟩ : S_api_Say), false, 2, x0)
    else
      if x2 ≠ y6.fed then
        some ((⟨0, 0, 0⟩ : S_api_Say), false, 2, x0)
      else
        (some (IntKind.i64.wrap (x2 - (IntKind.i64.wrap (((y6.Request.Prompt.length : Nat) : Int) - 1))))).bind fun e23 =>
        if e23 < ((y6.log.length : Nat) : Int) then
          some ((⟨0, 0, 0⟩ : S_api_Say), false, 0, (⟨(mset x0.m x1 (⟨y6.Request, y6.log, (IntKind.i64.wrap (y6.fed + 1))⟩ : S_ledger_entry))⟩ : S_ledger_Ledger))
        else
          (app y6.log ([x3])).bind fun z27 =>
          some ((⟨x1, e23, x3⟩ : S_api_Say), true, 0, (⟨(mset x0.m x1 (⟨y6.Request, z27, (IntKind.i64.wrap (y6.fed + 1))⟩ : S_ledger_entry))⟩ : S_ledger_Ledger))

theorem ledger_Ledger_Answer_any {b0 : Nat} {x0 : S_ledger_Ledger} {x1 x2 x3 : Int} {Fr : List HP} {w : World} {r : S_api_Say × Bool × Int × S_ledger_Ledger} {K : Value → World → Prop}  (hc : Ctx w (S_ledger_Ledger.hp b0 x0 :: Fr)) (hp : ledger_Ledger_Answer x0 x1 x2 x3 = some r)
    (k : ∀ w', Ctx w' (S_ledger_Ledger.hp b0 r.2.2.2 :: Fr) → K (.tuple #[.agg (S_api_Say.cz r.1).toArray, .bool r.2.1, .int .i64 r.2.2.1]) w') : Calls Try.prog 10 #[pt b0 0, .int .i64 x1, .int .i64 x2, .int .i64 x3] w (Ret K) := by
 unfold ledger_Ledger_Answer at hp; refine Center4 F10 M10 rfl rfl ?_; refine Wseq (Wreg ?_); refine rsE (Ctx.allocOp (cs := [.int .i64 0, .int .i64 0, .int .i64 0]) hc V35 rfl) rfl ?_; clear hc; rintro _ w3 ⟨b1, rfl, hc⟩; refine au 2 rfl <| rn (qn (Wseq (Wreg ?_))); refine au 2 rfl <| sz (v := pt b0 0) (fax 0 rfl U83 rfl Z81 rfl rfl rfl) ?_; replace hc := hc.m [2]; replace hc := S_ledger_Ledger.uf hc; obtain ⟨v4, hc⟩ := hc; refine sz (ld rfl G81 (Ctx.cell hc (k := 0) rfl rfl rfl)) <| au 1 rfl ?_; cases hb5 : mget x0.m x1
 · replace hp := optN hp hb5; refine sz (v := .pointer none) (Ctx.mpvGetN (k := x1) false (keyL_int U3) hc (i := 1) rfl rfl U81 rfl rfl V84 hb5) <| au 1 rfl <| rn (qn (Wseq (Wblk (Wseq (Wreg ?_))))); refine au 1 rfl <| sz (v := .bool true) (ept U84 rfl rfl) <| au 1 rfl <| rn (qn (Wct rfl (Wseq (Wreg ?_)))); refine sz (v := .agg #[.int .i64 0, .int .i64 0, .int .i64 0]) (bd_35_ ) <| pa hc 2 Z35 ?_; clear hc; rintro w7 hc; refine au 2 rfl <| rn (qn (Wret (br (qr ?_)))); have hres := Ctx.cells hc (k := 2) rfl rfl 0 (vs := [.int .i64 0, .int .i64 0, .int .i64 0]) rfl; replace hc := hc.m [2, 2]; replace hc := S_ledger_Ledger.fd (x := x0) hc; replace hc := hc.m [3]; obtain rfl := sj hp; refine f3c (cs := [.int .i64 0, .int .i64 0, .int .i64 0]) (u := .bool false) (z := .int .i64 121) R10 M10 rfl G35 Z35 rfl hres rfl rfl ?_; exact ⟨_, rfl, k _ hc⟩
 · rename_i y6; replace hp := optS hp hb5; replace hc := hc.m [2]; replace hc := Ctx.mpVF hc; obtain ⟨lh8, hK9, hc⟩ := hc; replace hc := Ctx.bigGetS hc.swap hb5; obtain ⟨c11, hg10, hc⟩ := hc; replace hc := Ctx.exF hc; obtain ⟨b13, hc⟩ := hc; replace hc := Ctx.sepF hc; replace hc := Ctx.puF hc; obtain ⟨u12, hc⟩ := hc; subst u12; replace hc : Ctx w3 (S_ledger_entry.hp b13 y6 :: Big (VK (vPt S_ledger_entry.hp)) (mdel lh8 x1) (mdel x0.m x1) :: Mp (ekI .i64) (HV vf1 (pAny 1)) v4 lh8 :: B b0 [.map (some v4)] 83 :: B b1 [.int .i64 0, .int .i64 0, .int .i64 0] 35 :: Fr) := hc; refine sz (v := pt b13 0) (Ctx.mpGetH (k := x1) false (keyL_int U3) hc (i := 2) rfl rfl U81 rfl rfl hg10) <| au 1 rfl <| rn (qn (Wseq (Wblk (Wseq (Wreg ?_))))); refine au 1 rfl <| sz (v := .bool false) (epf U84 rfl rfl) <| au 1 rfl <| rn (qn (Wcf rfl (Wseq (Wreg ?_)))); refine au 1 rfl ?_; replace hp := bind_some hp; obtain ⟨r14, hr14, hp⟩ := hp; refine kz C29 ?_; refine ledger_entry_done_any hc hr14 ?_; clear hc; intro w15 hc; refine au 1 rfl ?_; cases hb16 : r14
   · replace hp := gneg hp (by rw [hb16]; exact Bool.false_ne_true); subst hb16; refine au 3 rfl <| sz (v := pt b13 4) (fax 4 rfl U87 rfl Z3 rfl rfl rfl) ?_; replace hc := S_ledger_entry.uf hc; obtain ⟨a17, q18, a19, q20, hc⟩ := hc; refine sz (ld rfl G3 (Ctx.cell hc (k := 0) rfl rfl rfl)) <| au 3 rfl <| rn (qn ?_); refine Wif hp (fun _ h => ?_) fun _ h => ?_
     · replace hp := h; clear h; refine Wskip (bn (qn (Wseq (Wreg ?_)))); refine au 2 rfl ?_; refine fq 4 U87 Z3 G3 hc 0 ?_; refine au 2 rfl <| sz (v := pt b13 4) (fax 4 rfl U87 rfl Z3 rfl rfl rfl) <| po hc 0 Z3 ?_; clear hc; rintro w22 hc; refine rn (qn (Wseq (Wreg ?_))); refine au 3 rfl <| sz (v := pt b13 0) (fax 0 rfl U87 rfl Z29 rfl rfl rfl) ?_; refine fq 2 U29 Z23 G23 hc 0 ?_; refine sz (ln rfl U23) <| au 2 rfl ?_; replace hp := bind_some hp; obtain ⟨e23, he23, hp⟩ := hp; injection he23 with he23; refine sz (v := .int .i64 e23) (av (v := .int .i64 e23) (by rw [← he23]; rfl)) <| rn (qn (Wseq (Wseq (Wreg ?_)))); refine au 3 rfl ?_; refine fq 3 U87 Z23 G23 hc 0 ?_; refine sz (ln rfl U23) <| au 1 rfl <| rn (qn ?_); refine Wif hp (fun _ h => ?_) fun _ h => ?_
       · replace hp := h; clear h; refine Wskip (qn (Wseq (Wreg ?_))); refine au 3 rfl ?_; refine fq 3 U87 Z23 G23 hc 0 ?_; refine au 1 rfl ?_; refine rsE (oneI hc U23 Z3 V3) rfl ?_; clear hc; rintro _ w26 ⟨a25, rfl, hc⟩; replace hp := bind_some hp; obtain ⟨z27, hz27, hp⟩ := hp; obtain ⟨hg28, e29⟩ := app_some hz27; refine rsE (hc.ap 3 0 reads_own U23 Try.t3 hg28) rfl ?_; clear hc; rintro _ w32 ⟨a30, q31, rfl, hc⟩; rw [← e29] at hc ⊢; replace hc := Ctx.n3 hc; refine au 1 rfl <| sz (v := pt b13 3) (fax 3 rfl U87 rfl Z23 rfl rfl rfl) <| po hc 1 Z23 ?_; clear hc; rintro w33 hc; refine rn (qn (Wseq (Wreg ?_))); refine au 3 rfl <| sz (v := .agg #[.int .i64 x1, .int .i64 e23, .int .i64 x3]) (bd_35_0_1_2 rfl rfl rfl) <| pa hc 7 Z35 ?_; clear hc; rintro w34 hc; refine au 2 rfl <| rn (qn (Wret ?_)); have hres := Ctx.cells hc (k := 7) rfl rfl 0 (vs := [.int .i64 x1, .int .i64 e23, .int .i64 x3]) rfl; replace hc := hc.m [6, 6, 6]; replace hc := S_ledger_entry.fd (x := (⟨y6.Request, z27, (IntKind.i64.wrap (y6.fed + 1))⟩ : S_ledger_entry)) hc; replace hc : Ctx w34 ((vPt S_ledger_entry.hp).r [pt b13 0] (⟨y6.Request, z27, (IntKind.i64.wrap (y6.fed + 1))⟩ : S_ledger_entry) :: Own (pInt .i64) 3 (.slice a25 1 1) ([x3]) :: Big (VK (vPt S_ledger_entry.hp)) (mdel lh8 x1) (mdel x0.m x1) :: Mp (ekI .i64) (HV vf1 (pAny 1)) v4 lh8 :: B b0 [.map (some v4)] 83 :: B b1 [.int .i64 x1, .int .i64 e23, .int .i64 x3] 35 :: Fr) := Ctx.exB _ _ (Ctx.sepB (Ctx.puB rfl hc)); replace hc := hc.m [6, 6, 4]; replace hc := Ctx.bigBack1 hc hK9 hg10 hb5; replace hc : Ctx w34 (MpV (ekI .i64) vf1 (vPt S_ledger_entry.hp) v4 (mset x0.m x1 (⟨y6.Request, z27, (IntKind.i64.wrap (y6.fed + 1))⟩ : S_ledger_entry)) :: Own (pInt .i64) 3 (.slice a25 1 1) ([x3]) :: B b0 [.map (some v4)] 83 :: B b1 [.int .i64 x1, .int .i64 e23, .int .i64 x3] 35 :: Fr) := Ctx.mpVB hc.swap; replace hc := hc.m [4]; replace hc := S_ledger_Ledger.fd (x := (⟨(mset x0.m x1 (⟨y6.Request, z27, (IntKind.i64.wrap (y6.fed + 1))⟩ : S_ledger_entry))⟩ : S_ledger_Ledger)) hc; replace hc := hc.m [5, 3]; obtain rfl := sj hp; refine f3c (cs := [.int .i64 x1, .int .i64 e23, .int .i64 x3]) (u := .bool true) (z := .int .i64 0) R10 M10 rfl G35 Z35 rfl hres rfl rfl ?_; exact ⟨_, rfl, k _ hc⟩
       · replace hp := h; clear h; refine Wseq (Wreg ?_); refine sz (v := .agg #[.int .i64 0, .int .i64 0, .int .i64 0]) (bd_35_ ) <| pa hc 6 Z35 ?_; clear hc; rintro w35 hc; refine au 2 rfl <| rn (qn (Wret (qr ?_))); have hres := Ctx.cells hc (k := 6) rfl rfl 0 (vs := [.int .i64 0, .int .i64 0, .int .i64 0]) rfl; replace hc := hc.m [4, 4, 4]; replace hc := S_ledger_entry.fd (x := (⟨y6.Request, y6.log, (IntKind.i64.wrap (y6.fed + 1))⟩ : S_ledger_entry)) hc; replace hc : Ctx w35 ((vPt S_ledger_entry.hp).r [pt b13 0] (⟨y6.Request, y6.log, (IntKind.i64.wrap (y6.fed + 1))⟩ : S_ledger_entry) :: Big (VK (vPt S_ledger_entry.hp)) (mdel lh8 x1) (mdel x0.m x1) :: Mp (ekI .i64) (HV vf1 (pAny 1)) v4 lh8 :: B b0 [.map (some v4)] 83 :: B b1 [.int .i64 0, .int .i64 0, .int .i64 0] 35 :: Fr) := Ctx.exB _ _ (Ctx.sepB (Ctx.puB rfl hc)); replace hc := hc.m [4, 4, 4]; replace hc := Ctx.bigBack1 hc hK9 hg10 hb5; replace hc : Ctx w35 (MpV (ekI .i64) vf1 (vPt S_ledger_entry.hp) v4 (mset x0.m x1 (⟨y6.Request, y6.log, (IntKind.i64.wrap (y6.fed + 1))⟩ : S_ledger_entry)) :: B b0 [.map (some v4)] 83 :: B b1 [.int .i64 0, .int .i64 0, .int .i64 0] 35 :: Fr) := Ctx.mpVB hc.swap; replace hc := hc.m [2]; replace hc := S_ledger_Ledger.fd (x := (⟨(mset x0.m x1 (⟨y6.Request, y6.log, (IntKind.i64.wrap (y6.fed + 1))⟩ : S_ledger_entry))⟩ : S_ledger_Ledger)) hc; replace hc := hc.m [3]; obtain rfl := sj hp; refine f3c (cs := [.int .i64 0, .int .i64 0, .int .i64 0]) (u := .bool false) (z := .int .i64 0) R10 M10 rfl G35 Z35 rfl hres rfl rfl ?_; exact ⟨_, rfl, k _ hc⟩
     · replace hp := h; clear h; refine Wseq (Wreg ?_); refine sz (v := .agg #[.int .i64 0, .int .i64 0, .int .i64 0]) (bd_35_ ) <| pa hc 6 Z35 ?_; clear hc; rintro w36 hc; refine au 2 rfl <| rn (qn (Wret (br (qr ?_)))); have hres := Ctx.cells hc (k := 6) rfl rfl 0 (vs := [.int .i64 0, .int .i64 0, .int .i64 0]) rfl; replace hc := hc.m [4, 4, 4]; replace hc := S_ledger_entry.fd (x := y6) hc; replace hc : Ctx w36 ((vPt S_ledger_entry.hp).r [pt b13 0] y6 :: Big (VK (vPt S_ledger_entry.hp)) (mdel lh8 x1) (mdel x0.m x1) :: Mp (ekI .i64) (HV vf1 (pAny 1)) v4 lh8 :: B b0 [.map (some v4)] 83 :: B b1 [.int .i64 0, .int .i64 0, .int .i64 0] 35 :: Fr) := Ctx.exB _ _ (Ctx.sepB (Ctx.puB rfl hc)); replace hc := hc.m [4, 4, 4]; replace hc := Ctx.bigBack0 hc hK9 hg10 hb5; replace hc : Ctx w36 (MpV (ekI .i64) vf1 (vPt S_ledger_entry.hp) v4 x0.m :: B b0 [.map (some v4)] 83 :: B b1 [.int .i64 0, .int .i64 0, .int .i64 0] 35 :: Fr) := Ctx.mpVB hc.swap; replace hc := hc.m [2]; replace hc := S_ledger_Ledger.fd (x := x0) hc; replace hc := hc.m [3]; obtain rfl := sj hp; refine f3c (cs := [.int .i64 0, .int .i64 0, .int .i64 0]) (u := .bool false) (z := .int .i64 2) R10 M10 rfl G35 Z35 rfl hres rfl rfl ?_; exact ⟨_, rfl, k _ hc⟩
   · replace hp := gpos hp hb16; subst hb16; (iterate 6 refine r0 rfl ?_); refine au 2 rfl <| rn (qn (Wct rfl (Wseq (Wreg ?_)))); refine sz (v := .agg #[.int .i64 0, .int .i64 0, .int .i64 0]) (bd_35_ ) <| pa hc 4 Z35 ?_; clear hc; rintro w37 hc; refine au 2 rfl <| rn (qn (Wret (br (qr ?_)))); have hres := Ctx.cells hc (k := 4) rfl rfl 0 (vs := [.int .i64 0, .int .i64 0, .int .i64 0]) rfl; replace hc : Ctx w37 ((vPt S_ledger_entry.hp).r [pt b13 0] y6 :: Big (VK (vPt S_ledger_entry.hp)) (mdel lh8 x1) (mdel x0.m x1) :: Mp (ekI .i64) (HV vf1 (pAny 1)) v4 lh8 :: B b0 [.map (some v4)] 83 :: B b1 [.int .i64 0, .int .i64 0, .int .i64 0] 35 :: Fr) := Ctx.exB _ _ (Ctx.sepB (Ctx.puB rfl hc)); replace hc := hc.m [4, 4, 4]; replace hc := Ctx.bigBack0 hc hK9 hg10 hb5; replace hc : Ctx w37 (MpV (ekI .i64) vf1 (vPt S_ledger_entry.hp) v4 x0.m :: B b0 [.map (some v4)] 83 :: B b1 [.int .i64 0, .int .i64 0, .int .i64 0] 35 :: Fr) := Ctx.mpVB hc.swap; replace hc := hc.m [2]; replace hc := S_ledger_Ledger.fd (x := x0) hc; replace hc := hc.m [3]; obtain rfl := sj hp; refine f3c (cs := [.int .i64 0, .int .i64 0, .int .i64 0]) (u := .bool false) (z := .int .i64 2) R10 M10 rfl G35 Z35 rfl hres rfl rfl ?_; exact ⟨_, rfl, k _ hc⟩

def ledger_Ledger_Rewind.J2 (j7 : (List (Int × S_ledger_entry))) (j8 : (List Int)) (kk11 : Int) (y19 : S_ledger_entry) (k1 : (List (Int × S_ledger_entry)) → (List Int) → Option (S_ledger_Ledger)) (j22 : Bool) : Option (S_ledger_Ledger) :=
  if j22 = true then
    k1 (mset j7 kk11 (⟨y19.Request, y19.log, 0⟩ : S_ledger_entry)) (kk11 :: j8)
  else
    k1 j7 (kk11 :: j8)

def ledger_Ledger_Rewind.L1 (N : Nat) (x1 : (List Int)) : Nat → (List (Int × S_ledger_entry)) → (List Int) → Option (S_ledger_Ledger)
  | 0, _, _ => none
  | m1 + 1, j7, j8 =>
    anyK (remK j7 j8) (
      some (⟨j7⟩ : S_ledger_Ledger)) fun kk11 =>
      (mget j7 kk11).bind fun y19 =>
      if ((x1.length : Nat) : Int) = 0 then
        ledger_Ledger_Rewind.J2 j7 j8 kk11 y19 (ledger_Ledger_Rewind.L1 N x1 m1) true
      else
        (slices_Contains_s_int_int N x1 kk11).bind fun r24 =>
        ledger_Ledger_Rewind.J2 j7 j8 kk11 y19 (ledger_Ledger_Rewind.L1 N x1 m1) r24

def ledger_Ledger_Rewind (N : Nat) (x0 : S_ledger_Ledger) (x1 : (List Int)) : Option (S_ledger_Ledger) :=
  chk ((x0.m.map Prod.fst).Nodup) <|
  ledger_Ledger_Rewind.L1 N x1 N x0.m ([])

theorem ledger_Ledger_Rewind_any {N b0 nx1 qx1 : Nat} {x0 r : S_ledger_Ledger} {x1 : (List Int)} {ax1 : Option Addr} {P1 : HP} {Fr : List HP} {w : World} {K : Value → World → Prop} (hrd1 : Reads P1 (pInt .i64) (.slice ax1 nx1 qx1) x1) (hc : Ctx w (S_ledger_Ledger.hp b0 x0 :: P1 :: Fr)) (hp : ledger_Ledger_Rewind N x0 x1 = some r)
    (k : ∀ w', Ctx w' (S_ledger_Ledger.hp b0 r :: P1 :: Fr) → K (.tuple #[]) w') : Calls Try.prog 13 #[pt b0 0, .slice ax1 nx1 qx1] w (Ret K) := by
 unfold ledger_Ledger_Rewind at hp; refine Center2 F13 M13 rfl rfl ?_; obtain ⟨hn1, _⟩ := Ctx.rdLen hc (k := 1) rfl rfl hrd1; subst hn1; refine Wseq (Wreg ?_); refine au 2 rfl <| sz (v := pt b0 0) (fax 0 rfl U83 rfl Z81 rfl rfl rfl) ?_; replace hc := S_ledger_Ledger.uf hc; obtain ⟨v1, hc⟩ := hc; refine sz (ld rfl G81 (Ctx.cell hc (k := 0) rfl rfl rfl)) ?_; replace hp := chk_some hp; obtain ⟨hg2, hp⟩ := hp; replace hc := hc.m [2]; refine rsE (Ctx.itvMake hc U81 rfl hg2) rfl ?_; clear hc; rintro _ w6 ⟨b3, lh4, rfl, hK5, hc⟩; refine rn (qn (Wblk ?_)); refine Wloop (rg [4, 2, 11, 16]) [] (fun m vs w' => ∃ j7 : (List (Int × S_ledger_entry)), ∃ j8 : (List Int), ∃ c9 : Option (Int × Value), vs = [] ∧ ledger_Ledger_Rewind.L1 N x1 m j7 j8 = some r ∧ Ctx w' (MpI (ekI .i64) (HV vf1 (pAny 1)) v1 b3 lh4 j8 c9 :: Big (VK (vPt S_ledger_entry.hp)) lh4 j7 :: B b0 [.map (some v1)] 83 :: P1 :: Fr)) N ?_ ?_
 · exact ⟨x0.m, [], none, rfl, hp, hc⟩
 · clear hp hc; intro m vs u w10 hJ; obtain ⟨j7, j8, c9, rfl, hp, hc⟩ := hJ; rcases m with _ | m1
   · cases (show none = some r from hp)
   rw [ledger_Ledger_Rewind.L1] at hp; refine Wseq (Wreg ?_); replace hc := hc.m [2, 2]; have hK16 := Ctx.bigKeys hc.drop; refine rsE (Ctx.itvNext hc rfl hK16) rfl ?_; clear hc; rintro _ w15 (⟨hr12, rfl, hc⟩ | ⟨kk11, y19, c18, hk13, hg14, hlh17, rfl, hc⟩)
   · replace hp := anyK_nil hp hr12; replace hc : Ctx w15 (MpV (ekI .i64) vf1 (vPt S_ledger_entry.hp) v1 j7 :: B b0 [.map (some v1)] 83 :: P1 :: Fr) := hc; refine au 1 rfl <| rn (qn (Wseq (Wcf rfl (Wexit (qx (qx (be ?_))))))); refine f0n R13 ?_; replace hc := hc.m [2]; replace hc := S_ledger_Ledger.fd (x := (⟨j7⟩ : S_ledger_Ledger)) hc; obtain rfl := sj hp; exact ⟨_, rfl, k _ hc⟩
   · replace hp := anyK_mem hp hk13; replace hp := bind_of hp hg14; replace hc := Ctx.exF hc; obtain ⟨b21, hc⟩ := hc; replace hc := Ctx.sepF hc; replace hc := Ctx.puF hc; obtain ⟨u20, hc⟩ := hc; subst u20; replace hc : Ctx w15 (S_ledger_entry.hp b21 y19 :: Big (VK (vPt S_ledger_entry.hp)) (mdel lh4 kk11) (mdel j7 kk11) :: MpI (ekI .i64) (HV vf1 (pAny 1)) v1 b3 lh4 (kk11 :: j8) (some (kk11, vf1 [pt b21 0])) :: B b0 [.map (some v1)] 83 :: P1 :: Fr) := hc; refine au 1 rfl <| rn (qn (Wseq (Wct rfl (Wskip (qn (Wblk (Wseq (Wreg ?_)))))))); refine sz (v := .tuple #[.int .i64 kk11, pt b21 0]) (Ctx.itEntry (k := kk11) hc (i := 2) rfl rfl rfl) <| au 4 rfl <| rn (qn ?_); refine Wseqm (rg [16, 8]) [23] (fun vs w' => ∃ j22 : Bool, vs = [.bool j22] ∧ ledger_Ledger_Rewind.J2 j7 j8 kk11 y19 (ledger_Ledger_Rewind.L1 N x1 m1) j22 = some r ∧ Ctx w' (S_ledger_entry.hp b21 y19 :: Big (VK (vPt S_ledger_entry.hp)) (mdel lh4 kk11) (mdel j7 kk11) :: MpI (ekI .i64) (HV vf1 (pAny 1)) v1 b3 lh4 (kk11 :: j8) (some (kk11, vf1 [pt b21 0])) :: B b0 [.map (some v1)] 83 :: P1 :: Fr)) ?_ ?_
     · refine Wreg <| au 1 rfl <| sz (ln rfl U23) <| au 2 rfl ?_; cases hb23 : (decide (((x1.length : Nat) : Int) = 0))
       · replace hp := gneg hp (of_decide_eq_false hb23); refine au 2 rfl ?_; replace hp := bind_some hp; obtain ⟨r24, hr24, hp⟩ := hp; replace hc := hc.m [8]; refine kz C31 ?_; refine slices_Contains_s_int_int_any hrd1 hc hr24 ?_; clear hc; intro w25 hc; refine au 1 rfl <| rn (qn ?_); replace hc := hc.m [8, 8, 8, 8]; exact ⟨⟨r24, rfl, hp, hc⟩, (kl rfl kb)⟩
       · replace hp := gpos hp (of_decide_eq_true hb23); (iterate 3 refine r0 rfl ?_); refine au 1 rfl <| rn (qn ?_); exact ⟨⟨true, rfl, hp, hc⟩, (kl rfl kb)⟩
     · clear hp hc; intro vs u w26 hJ; obtain ⟨j22, rfl, hp, hc⟩ := hJ; unfold ledger_Ledger_Rewind.J2 at hp; cases hb27 : j22
       · replace hp := gneg hp (by rw [hb27]; exact Bool.false_ne_true); subst hb27; refine Wcf rfl (Wskip (bn (qn ?_))); replace hc : Ctx w26 ((vPt S_ledger_entry.hp).r [pt b21 0] y19 :: Big (VK (vPt S_ledger_entry.hp)) (mdel lh4 kk11) (mdel j7 kk11) :: MpI (ekI .i64) (HV vf1 (pAny 1)) v1 b3 lh4 (kk11 :: j8) (some (kk11, vf1 [pt b21 0])) :: B b0 [.map (some v1)] 83 :: P1 :: Fr) := Ctx.exB _ _ (Ctx.sepB (Ctx.puB rfl hc)); replace hc := hc.m [2, 2]; replace hc := Ctx.bigBack0 hc hK16 hlh17 hg14; replace hc : Ctx w26 (Big (VK (vPt S_ledger_entry.hp)) lh4 j7 :: MpI (ekI .i64) (HV vf1 (pAny 1)) v1 b3 lh4 (kk11 :: j8) (some (kk11, vf1 [pt b21 0])) :: B b0 [.map (some v1)] 83 :: P1 :: Fr) := hc; replace hc := hc.m [6, 6, 4, 6]; exact ⟨m1, Nat.lt_succ_self _, ⟨j7, (kk11 :: j8), (some (kk11, vf1 [pt b21 0])), rfl, hp, hc⟩, (kl rfl (km rfl (kl rfl k0)))⟩
       · replace hp := gpos hp hb27; subst hb27; refine Wct rfl (Wreg ?_); refine au 2 rfl <| sz (v := pt b21 4) (fax 4 rfl U87 rfl Z3 rfl rfl rfl) ?_; replace hc := S_ledger_entry.uf hc; obtain ⟨a28, q29, a30, q31, hc⟩ := hc; refine po hc 0 Z3 ?_; clear hc; rintro w32 hc; refine rn (bn (qn ?_)); replace hc := hc.m [4, 4, 4]; replace hc := S_ledger_entry.fd (x := (⟨y19.Request, y19.log, 0⟩ : S_ledger_entry)) hc; replace hc : Ctx w32 ((vPt S_ledger_entry.hp).r [pt b21 0] (⟨y19.Request, y19.log, 0⟩ : S_ledger_entry) :: Big (VK (vPt S_ledger_entry.hp)) (mdel lh4 kk11) (mdel j7 kk11) :: MpI (ekI .i64) (HV vf1 (pAny 1)) v1 b3 lh4 (kk11 :: j8) (some (kk11, vf1 [pt b21 0])) :: B b0 [.map (some v1)] 83 :: P1 :: Fr) := Ctx.exB _ _ (Ctx.sepB (Ctx.puB rfl hc)); replace hc := hc.m [2, 2]; replace hc := Ctx.bigBack1 hc hK16 hlh17 hg14; replace hc : Ctx w32 (Big (VK (vPt S_ledger_entry.hp)) lh4 (mset j7 kk11 (⟨y19.Request, y19.log, 0⟩ : S_ledger_entry)) :: MpI (ekI .i64) (HV vf1 (pAny 1)) v1 b3 lh4 (kk11 :: j8) (some (kk11, vf1 [pt b21 0])) :: B b0 [.map (some v1)] 83 :: P1 :: Fr) := hc; replace hc := hc.m [6, 6, 4, 6]; exact ⟨m1, Nat.lt_succ_self _, ⟨(mset j7 kk11 (⟨y19.Request, y19.log, 0⟩ : S_ledger_entry)), (kk11 :: j8), (some (kk11, vf1 [pt b21 0])), rfl, hp, hc⟩, (kl rfl (km rfl (kl rfl k0)))⟩

def ledger_Ledger_Close.L1 (x0 : S_ledger_Ledger) (x1 : (List Int)) : Nat → S_ledger_Ledger → Int → Option (Int × S_ledger_Ledger)
  | 0, _, _ => none
  | m1 + 1, j2, j3 =>
    if j3 < ((x1.length : Nat) : Int) then
      (idx x1 j3).bind fun y8 =>
      (ledger_Ledger_Close.L1 x0 x1 m1) (⟨(mdel j2.m y8)⟩ : S_ledger_Ledger) (IntKind.i64.wrap (j3 + 1))
    else
      (some (IntKind.i64.wrap (((x0.m.length : Nat) : Int) - ((j2.m.length : Nat) : Int)))).bind fun e7 =>
      some (e7, j2)

def ledger_Ledger_Close (N : Nat) (x0 : S_ledger_Ledger) (x1 : (List Int)) : Option (Int × S_ledger_Ledger) :=
  ledger_Ledger_Close.L1 x0 x1 N x0 0

theorem ledger_Ledger_Close_any {N b0 nx1 qx1 : Nat} {x0 : S_ledger_Ledger} {x1 : (List Int)} {ax1 : Option Addr} {P1 : HP} {Fr : List HP} {w : World} {r : Int × S_ledger_Ledger} {K : Value → World → Prop} (hrd1 : Reads P1 (pInt .i64) (.slice ax1 nx1 qx1) x1) (hc : Ctx w (S_ledger_Ledger.hp b0 x0 :: P1 :: Fr)) (hp : ledger_Ledger_Close N x0 x1 = some r)
    (k : ∀ w', Ctx w' (S_ledger_Ledger.hp b0 r.2 :: P1 :: Fr) → K (.int .i64 r.1) w') : Calls Try.prog 26 #[pt b0 0, .slice ax1 nx1 qx1] w (Ret K) := by
 unfold ledger_Ledger_Close at hp; refine Center2 F26 M26 rfl rfl ?_; obtain ⟨hn1, _⟩ := Ctx.rdLen hc (k := 1) rfl rfl hrd1; subst hn1; refine Wseq (Wreg ?_); refine au 1 rfl <| rn (qn (Wseq (Wreg ?_))); refine au 2 rfl <| sz (v := pt b0 0) (fax 0 rfl U83 rfl Z81 rfl rfl rfl) ?_; replace hc := S_ledger_Ledger.uf hc; obtain ⟨v1, hc⟩ := hc; refine sz (ld rfl G81 (Ctx.cell hc (k := 0) rfl rfl rfl)) <| sz (v := .int .i64 ((x0.m.length : Nat) : Int)) (Ctx.mpvLen hc (i := 1) rfl rfl U81 rfl) <| au 1 rfl <| rn (qn (Wseq (Wseq (Wreg ?_)))); refine au 1 rfl <| sz (ln rfl U23) <| au 1 rfl <| rn (qn (Wblk ?_)); replace hc := hc.m [2, 2]; replace hc := S_ledger_Ledger.fd (x := x0) hc; refine Wloop (rg [7, 1, 15, 10]) [15] (fun m vs w' => ∃ j2 : S_ledger_Ledger, ∃ j3 : Int, vs = [.int .i64 j3] ∧ ledger_Ledger_Close.L1 x0 x1 m j2 j3 = some r ∧ Ctx w' (S_ledger_Ledger.hp b0 j2 :: P1 :: Fr)) N ?_ ?_
 · exact ⟨x0, 0, rfl, hp, hc⟩
 · clear hp hc; intro m vs u w4 hJ; obtain ⟨j2, j3, rfl, hp, hc⟩ := hJ; rcases m with _ | m1
   · cases (show none = some r from hp)
   rw [ledger_Ledger_Close.L1] at hp; refine Wseq (Wreg ?_); refine au 1 rfl <| rn (qn (Wseq ?_)); refine Wif hp (fun _ hp => ?_) fun _ hp => ?_
   · refine Wexit (qx (qx (be (qn (Wseq (Wreg ?_)))))); refine au 3 rfl <| sz (v := pt b0 0) (fax 0 rfl U83 rfl Z81 rfl rfl rfl) ?_; replace hc := S_ledger_Ledger.uf hc; obtain ⟨v6, hc⟩ := hc; refine sz (ld rfl G81 (Ctx.cell hc (k := 0) rfl rfl rfl)) <| sz (v := .int .i64 ((j2.m.length : Nat) : Int)) (Ctx.mpvLen hc (i := 1) rfl rfl U81 rfl) <| au 1 rfl ?_; obtain ⟨e7, he7, hp⟩ := bind_some hp; injection he7 with he7; refine sz (v := .int .i64 e7) (av (v := .int .i64 e7) (by rw [← he7]; rfl)) <| rn (qn (Wret ?_)); replace hc := hc.m [2, 2]; replace hc := S_ledger_Ledger.fd (x := j2) hc; obtain rfl := sj hp; exact fz R26 M26 (k _ hc)
   · refine Wskip (qn (Wseq (Wblk (Wseq (Wreg ?_))))); obtain ⟨y8, hy8, hp⟩ := bind_some hp; obtain ⟨b11, o12, rfl, hi9, hi10⟩ := hc.ra 1 hrd1 hy8; refine sz (ixx rfl rfl U23 Z3 hi9 hi10 rfl) ?_; have hcell15 := hc.rv 1 hrd1 hy8; refine sz (ld rfl G3 (hcell15 0 _ rfl)) <| au 1 rfl <| rn (qn (Wreg ?_)); refine au 2 rfl <| sz (v := pt b0 0) (fax 0 rfl U83 rfl Z81 rfl rfl rfl) ?_; replace hc := S_ledger_Ledger.uf hc; obtain ⟨v17, hc⟩ := hc; refine sz (ld rfl G81 (Ctx.cell hc (k := 0) rfl rfl rfl)) <| au 1 rfl ?_; replace hc := hc.m [2]; refine rvE (Ctx.mpvDel (k := y8) (keyL_int U3) hc U81 rfl rfl) rfl ?_; clear hc; intro w18 hc; refine rn (bn (qn (Wreg ?_))); refine au 2 rfl <| rn (qn ?_); replace hc := hc.m [2]; replace hc := S_ledger_Ledger.fd (x := (⟨(mdel j2.m y8)⟩ : S_ledger_Ledger)) hc; exact ⟨m1, Nat.lt_succ_self _, ⟨(⟨(mdel j2.m y8)⟩ : S_ledger_Ledger), (IntKind.i64.wrap (j3 + 1)), rfl, hp, hc⟩, (kl rfl k0)⟩

def ledger_Ledger_Log (x0 : S_ledger_Ledger) (x1 : Int) : Option ((List Int)) :=
  optc (mget x0.m x1) (
    some ([])) fun y3 =>
    (slices_Clone_s_int_int y3.log).bind fun r14 =>
    some r14

theorem ledger_Ledger_Log_any {b0 : Nat} {x0 : S_ledger_Ledger} {x1 : Int} {Fr : List HP} {w : World} {r : (List Int)} {K : Value → World → Prop}  (hc : Ctx w (S_ledger_Ledger.hp b0 x0 :: Fr)) (hp : ledger_Ledger_Log x0 x1 = some r)
    (k : ∀ a20 n21 q22 w', Ctx w' (Own (pInt .i64) 3 (.slice a20 n21 q22) r :: S_ledger_Ledger.hp b0 x0 :: Fr) → K (.slice a20 n21 q22) w') : Calls Try.prog 12 #[pt b0 0, .int .i64 x1] w (Ret K) := by
 unfold ledger_Ledger_Log at hp; refine Center2 F12 M12 rfl rfl ?_; refine Wseq (Wreg ?_); refine au 1 rfl <| rn (qn (Wseq (Wseq (Wreg ?_)))); refine au 2 rfl <| sz (v := pt b0 0) (fax 0 rfl U83 rfl Z81 rfl rfl rfl) ?_; replace hc := S_ledger_Ledger.uf hc; obtain ⟨v1, hc⟩ := hc; refine sz (ld rfl G81 (Ctx.cell hc (k := 0) rfl rfl rfl)) <| au 1 rfl ?_; cases hb2 : mget x0.m x1
 · replace hp := optN hp hb2; refine sz (v := .pointer none) (Ctx.mpvGetN (k := x1) false (keyL_int U3) hc (i := 1) rfl rfl U81 rfl rfl V84 hb2) <| au 1 rfl <| rn (qn (Wseq (Wreg ?_))); refine au 1 rfl <| sz (v := .bool false) (npt U84 rfl rfl) <| rn (qn (Wcf rfl (Wskip (qn (Wseq (Wreg ?_)))))); refine au 1 rfl <| rn (qn (Wret ?_)); replace hc := hc.nilOwn (pInt .i64) 3; replace hc := hc.m [4, 4]; replace hc := S_ledger_Ledger.fd (x := x0) hc; replace hc := hc.m [2]; obtain rfl := sj hp; exact fz R12 M12 (k _ _ _ _ hc)
 · rename_i y3; replace hp := optS hp hb2; replace hc := hc.m [2]; replace hc := Ctx.mpVF hc; obtain ⟨lh4, hK5, hc⟩ := hc; replace hc := Ctx.bigGetS hc.swap hb2; obtain ⟨c7, hg6, hc⟩ := hc; replace hc := Ctx.exF hc; obtain ⟨b9, hc⟩ := hc; replace hc := Ctx.sepF hc; replace hc := Ctx.puF hc; obtain ⟨u8, hc⟩ := hc; subst u8; replace hc : Ctx w (S_ledger_entry.hp b9 y3 :: Big (VK (vPt S_ledger_entry.hp)) (mdel lh4 x1) (mdel x0.m x1) :: Mp (ekI .i64) (HV vf1 (pAny 1)) v1 lh4 :: B b0 [.map (some v1)] 83 :: Fr) := hc; refine sz (v := pt b9 0) (Ctx.mpGetH (k := x1) false (keyL_int U3) hc (i := 2) rfl rfl U81 rfl rfl hg6) <| au 1 rfl <| rn (qn (Wseq (Wreg ?_))); refine au 1 rfl <| sz (v := .bool true) (npf U84 rfl rfl) <| rn (qn (Wct rfl (Wseq (Wreg ?_)))); refine au 2 rfl <| sz (v := pt b9 3) (fax 3 rfl U87 rfl Z23 rfl rfl rfl) ?_; replace hc := S_ledger_entry.uf hc; obtain ⟨a10, q11, a12, q13, hc⟩ := hc; refine sz (ld rfl G23 (Ctx.cell hc (k := 0) rfl rfl rfl)) ?_; obtain ⟨r14, hr14, hp⟩ := bind_some hp; replace hc := hc.m [4]; refine kz C28 ?_; refine slices_Clone_s_int_int_any reads_own hc hr14 ?_; clear hc; intro a15 n16 q17 w18 hc; obtain rfl := hc.rz 0 reads_own; refine au 1 rfl <| rn (qn (Wret (qr ?_))); replace hc := hc.m [2, 6, 6]; replace hc := S_ledger_entry.fd (x := y3) hc; replace hc : Ctx w18 ((vPt S_ledger_entry.hp).r [pt b9 0] y3 :: oR .i64 3 a15 q17 r14 :: Big (VK (vPt S_ledger_entry.hp)) (mdel lh4 x1) (mdel x0.m x1) :: Mp (ekI .i64) (HV vf1 (pAny 1)) v1 lh4 :: B b0 [.map (some v1)] 83 :: Fr) := Ctx.exB _ _ (Ctx.sepB (Ctx.puB rfl hc)); replace hc := hc.m [6, 6, 4]; replace hc := Ctx.bigBack0 hc hK5 hg6 hb2; replace hc : Ctx w18 (MpV (ekI .i64) vf1 (vPt S_ledger_entry.hp) v1 x0.m :: oR .i64 3 a15 q17 r14 :: B b0 [.map (some v1)] 83 :: Fr) := Ctx.mpVB hc.swap; replace hc := hc.m [4]; replace hc := S_ledger_Ledger.fd (x := x0) hc; replace hc := hc.m [2]; obtain rfl := sj hp; exact fz R12 M12 (k _ _ _ _ hc)

def ledger_Ledger_Done (x0 : S_ledger_Ledger) (x1 : Int) : Option (Bool) :=
  optc (mget x0.m x1) (
    some false) fun y3 =>
    (ledger_entry_done y3).bind fun r10 =>
    some r10

theorem ledger_Ledger_Done_any {b0 : Nat} {x0 : S_ledger_Ledger} {x1 : Int} {Fr : List HP} {w : World} {r : Bool} {K : Value → World → Prop}  (hc : Ctx w (S_ledger_Ledger.hp b0 x0 :: Fr)) (hp : ledger_Ledger_Done x0 x1 = some r)
    (k : ∀ w', Ctx w' (S_ledger_Ledger.hp b0 x0 :: Fr) → K (.bool r) w') : Calls Try.prog 17 #[pt b0 0, .int .i64 x1] w (Ret K) := by
 unfold ledger_Ledger_Done at hp; refine Center2 F17 M17 rfl rfl ?_; refine Wseq (Wreg ?_); refine au 1 rfl <| rn (qn (Wseq (Wreg ?_))); refine au 2 rfl <| sz (v := pt b0 0) (fax 0 rfl U83 rfl Z81 rfl rfl rfl) ?_; replace hc := S_ledger_Ledger.uf hc; obtain ⟨v1, hc⟩ := hc; refine sz (ld rfl G81 (Ctx.cell hc (k := 0) rfl rfl rfl)) <| au 1 rfl ?_; cases hb2 : mget x0.m x1
 · replace hp := optN hp hb2; refine sz (v := .pointer none) (Ctx.mpvGetN (k := x1) false (keyL_int U3) hc (i := 1) rfl rfl U81 rfl rfl V84 hb2) <| sz (v := .bool false) (npt U84 rfl rfl) <| au 1 rfl ?_; (iterate 7 refine r0 rfl ?_); refine au 2 rfl <| rn (qn (Wret ?_)); replace hc := hc.m [2, 2]; replace hc := S_ledger_Ledger.fd (x := x0) hc; obtain rfl := sj hp; exact fz R17 M17 (k _ hc)
 · rename_i y3; replace hp := optS hp hb2; replace hc := hc.m [2]; replace hc := Ctx.mpVF hc; obtain ⟨lh4, hK5, hc⟩ := hc; replace hc := Ctx.bigGetS hc.swap hb2; obtain ⟨c7, hg6, hc⟩ := hc; replace hc := Ctx.exF hc; obtain ⟨b9, hc⟩ := hc; replace hc := Ctx.sepF hc; replace hc := Ctx.puF hc; obtain ⟨u8, hc⟩ := hc; subst u8; replace hc : Ctx w (S_ledger_entry.hp b9 y3 :: Big (VK (vPt S_ledger_entry.hp)) (mdel lh4 x1) (mdel x0.m x1) :: Mp (ekI .i64) (HV vf1 (pAny 1)) v1 lh4 :: B b0 [.map (some v1)] 83 :: Fr) := hc; refine sz (v := pt b9 0) (Ctx.mpGetH (k := x1) false (keyL_int U3) hc (i := 2) rfl rfl U81 rfl rfl hg6) <| sz (v := .bool true) (npf U84 rfl rfl) <| au 3 rfl ?_; refine fq 0 U83 Z81 G81 hc 3 ?_; refine au 1 rfl <| sz (v := pt b9 0) (Ctx.mpGetH (k := x1) false (keyL_int U3) hc (i := 2) rfl rfl U81 rfl rfl hg6) ?_; obtain ⟨r10, hr10, hp⟩ := bind_some hp; refine kz C29 ?_; refine ledger_entry_done_any hc hr10 ?_; clear hc; intro w11 hc; refine au 2 rfl <| rn (qn (Wret ?_)); replace hc : Ctx w11 ((vPt S_ledger_entry.hp).r [pt b9 0] y3 :: Big (VK (vPt S_ledger_entry.hp)) (mdel lh4 x1) (mdel x0.m x1) :: Mp (ekI .i64) (HV vf1 (pAny 1)) v1 lh4 :: B b0 [.map (some v1)] 83 :: Fr) := Ctx.exB _ _ (Ctx.sepB (Ctx.puB rfl hc)); replace hc := hc.m [4, 4, 4]; replace hc := Ctx.bigBack0 hc hK5 hg6 hb2; replace hc : Ctx w11 (MpV (ekI .i64) vf1 (vPt S_ledger_entry.hp) v1 x0.m :: B b0 [.map (some v1)] 83 :: Fr) := Ctx.mpVB hc.swap; replace hc := hc.m [2]; replace hc := S_ledger_Ledger.fd (x := x0) hc; obtain rfl := sj hp; exact fz R17 M17 (k _ hc)

def ledger_Ledger_Entries (x0 : S_ledger_Ledger) : Option ((List Int)) :=
  (it_sorted x0.m).bind fun r4 =>
  some r4

theorem ledger_Ledger_Entries_any {b0 : Nat} {x0 : S_ledger_Ledger} {Fr : List HP} {w : World} {r : (List Int)} {K : Value → World → Prop}  (hc : Ctx w (S_ledger_Ledger.hp b0 x0 :: Fr)) (hp : ledger_Ledger_Entries x0 = some r)
    (k : ∀ a10 n11 q12 w', Ctx w' (Own (pInt .i64) 3 (.slice a10 n11 q12) r :: S_ledger_Ledger.hp b0 x0 :: Fr) → K (.slice a10 n11 q12) w') : Calls Try.prog 46 #[pt b0 0] w (Ret K) := by
 unfold ledger_Ledger_Entries at hp; refine Center1 F46 M46 rfl rfl ?_; refine Wseq (Wreg ?_); refine au 1 rfl <| rn (qn (Wseq (Wreg ?_))); refine au 2 rfl <| sz (v := pt b0 0) (fax 0 rfl U83 rfl Z81 rfl rfl rfl) ?_; replace hc := S_ledger_Ledger.uf hc; obtain ⟨v1, hc⟩ := hc; refine sz (ld rfl G81 (Ctx.cell hc (k := 0) rfl rfl rfl)) <| rc (cl C62 rfl rfl) rfl ?_; refine it_keys_any hc ?_; clear hc; intro b2 w3 hc; obtain ⟨r4, hr4, hp⟩ := bind_some hp; replace hc := hc.m [4, 2]; refine kz C61 ?_; refine it_sortedV_any hc hr4 ?_; clear hc; intro a5 n6 q7 w8 hc; obtain rfl := hc.rz 0 reads_own; refine au 1 rfl <| rn (qn (Wret ?_)); replace hc := hc.m [4, 6]; replace hc := S_ledger_Ledger.fd (x := x0) hc; replace hc := hc.m [5, 2]; obtain rfl := sj hp; exact fz R46 M46 (k _ _ _ _ hc)

def ref09_Ints.L1 (x0 : (List Int)) (x1 : (List Int)) : Nat → Int → Option (Bool)
  | 0, _ => none
  | m1 + 1, j2 =>
    if j2 < ((x0.length : Nat) : Int) then
      (idx x0 j2).bind fun y6 =>
      (idx x1 j2).bind fun y15 =>
      if y6 ≠ y15 then
        some false
      else
        (ref09_Ints.L1 x0 x1 m1) (IntKind.i64.wrap (j2 + 1))
    else
      some true

def ref09_Ints (N : Nat) (x0 : (List Int)) (x1 : (List Int)) : Option (Bool) :=
  if ((x0.length : Nat) : Int) ≠ ((x1.length : Nat) : Int) then
    some false
  else
    ref09_Ints.L1 x0 x1 N 0

theorem ref09_Ints_any {N nx0 qx0 nx1 qx1 : Nat} {x0 x1 : (List Int)} {ax0 ax1 : Option Addr} {P0 P1 : HP} {Fr : List HP} {w : World} {r : Bool} {K : Value → World → Prop} (hrd0 : Reads P0 (pInt .i64) (.slice ax0 nx0 qx0) x0) (hrd1 : Reads P1 (pInt .i64) (.slice ax1 nx1 qx1) x1) (hc : Ctx w (P0 :: P1 :: Fr)) (hp : ref09_Ints N x0 x1 = some r)
    (k : ∀ w', Ctx w' (P0 :: P1 :: Fr) → K (.bool r) w') : Calls Try.prog 11 #[.slice ax0 nx0 qx0, .slice ax1 nx1 qx1] w (Ret K) := by
 unfold ref09_Ints at hp; refine Center2 F11 M11 rfl rfl ?_; obtain ⟨hn0, _⟩ := Ctx.rdLen hc (k := 0) rfl rfl hrd0; subst hn0; obtain ⟨hn1, _⟩ := Ctx.rdLen hc (k := 1) rfl rfl hrd1; subst hn1; refine Wseq (Wreg ?_); refine au 1 rfl <| rn (qn (Wseq (Wseq (Wreg ?_)))); refine au 1 rfl <| sz (ln rfl U23) <| au 1 rfl <| sz (ln rfl U23) <| au 1 rfl <| rn (qn ?_); refine Wif hp (fun _ hp => ?_) fun _ hp => ?_
 · refine Wskip (qn (Wseq (Wseq (Wreg ?_)))); refine au 1 rfl <| rn (qn (Wblk ?_)); refine Wloop (rg [4, 2, 11, 15]) [5] (fun m vs w' => ∃ j2 : Int, vs = [.int .i64 j2] ∧ ref09_Ints.L1 x0 x1 m j2 = some r ∧ Ctx w' (P0 :: P1 :: Fr)) N ?_ ?_
   · exact ⟨0, rfl, hp, hc⟩
   · clear hp hc; intro m vs u w3 hJ; obtain ⟨j2, rfl, hp, hc⟩ := hJ; rcases m with _ | m1
     · cases (show none = some r from hp)
     rw [ref09_Ints.L1] at hp; refine Wseq (Wseq (Wreg ?_)); refine au 2 rfl <| sz (ln rfl U23) <| au 1 rfl <| rn (qn ?_); refine Wif hp (fun _ hp => ?_) fun _ hp => ?_
     · refine Wexit (qx (qx (be (qn (Wseq (Wreg ?_)))))); refine au 1 rfl <| rn (qn (Wret ?_)); obtain rfl := sj hp; exact fz R11 M11 (k _ hc)
     · refine Wskip (qn (Wseq (Wblk (Wseq ?_)))); replace hc := hc.drew; refine Wdrw (fun _ w' => w' = World.drew w3) [0, 0, 3, 7, 0, 0, 48, 112, 255] 0 0 rfl (by kernel_rfl) (fun _ _ => rfl) ?_; generalize hw : World.drew w3 = w5 at *; clear hw; refine ad_ 2 rfl ?_; obtain ⟨y6, hy6, hp⟩ := bind_some hp; obtain ⟨b9, o10, rfl, hi7, hi8⟩ := hc.ra 0 hrd0 hy6; refine dE (ixx rfl rfl U23 Z3 hi7 hi8 rfl) rfl rfl ?_; have hcell13 := hc.rv 0 hrd0 hy6; refine dE (ld rfl G3 (hcell13 0 _ rfl)) rfl rfl <| ad_ 2 rfl ?_; obtain ⟨y15, hy15, hp⟩ := bind_some hp; obtain ⟨b18, o19, rfl, hi16, hi17⟩ := hc.ra 1 hrd1 hy15; refine dE (ixx rfl rfl U23 Z3 hi16 hi17 rfl) rfl rfl ?_; have hcell22 := hc.rv 1 hrd1 hy15; refine dE (ld rfl G3 (hcell22 0 _ rfl)) rfl rfl <| ad_ 1 rfl <| dn (qn ?_); refine Wif hp (fun _ hp => ?_) fun _ hp => ?_
       · refine Wskip (bn (qn (Wreg ?_))); refine au 3 rfl <| rn (qn ?_); exact ⟨m1, Nat.lt_succ_self _, ⟨(IntKind.i64.wrap (j2 + 1)), rfl, hp, hc⟩, (kl rfl k0)⟩
       · refine Wseq (Wreg ?_); refine au 1 rfl <| rn (qn (Wret (br (qr (qr (br (qr ?_))))))); obtain rfl := sj hp; exact fz R11 M11 (k _ hc)
 · refine Wseq (Wreg ?_); refine au 1 rfl <| rn (qn (Wret (qr ?_))); obtain rfl := sj hp; exact fz R11 M11 (k _ hc)

theorem bd_29_0_1_2 {ρ : Operand → Value} {w : World} {dst : Option Nat} {ty : TypeId} {pos : String} {after : Array Edge} {g : Option (Nat × Bool)} {x0 x1 x2 : Operand} {k0 : IntKind} {a0 : Int} {k1 : IntKind} {a1 : Int} {a2 : Option Addr} {l2 c2 : Nat} (h0 : ρ x0 = (.int k0 a0)) (h1 : ρ x1 = (.int k1 a1)) (h2 : ρ x2 = (.slice a2 l2 c2)) :
    (execOp ρ ⟨dst, .build 29 #[(0, x0), (1, x1), (2, x2)], ty, pos, after, g⟩).run Try.prog w = .ok (.value (.agg #[(.int k0 a0), (.int k1 a1), (.slice a2 l2 c2)])) w := by
  simp [execOp, Instr.build, Instr.fill, Try.zeroValue29, Try.runUnderlying29, Try.sizeOf23, Try.sizeOf3, h0, h1, h2, Value.cells]

theorem bd_35_0_2 {ρ : Operand → Value} {w : World} {dst : Option Nat} {ty : TypeId} {pos : String} {after : Array Edge} {g : Option (Nat × Bool)} {x0 x2 : Operand} {k0 : IntKind} {a0 : Int} {k2 : IntKind} {a2 : Int} (h0 : ρ x0 = (.int k0 a0)) (h2 : ρ x2 = (.int k2 a2)) :
    (execOp ρ ⟨dst, .build 35 #[(0, x0), (2, x2)], ty, pos, after, g⟩).run Try.prog w = .ok (.value (.agg #[(.int k0 a0), (.int .i64 0), (.int k2 a2)])) w := by
  simp [execOp, Instr.build, Instr.fill, Try.zeroValue35, Try.runUnderlying35, Try.sizeOf3, h0, h2, Value.cells]

def law23_awake (N : Nat) : Option (Bool) :=
  (ledger_New).bind fun r1 =>
  (ledger_Ledger_Open r1 (⟨5, 2, [3, 4]⟩ : S_api_Request)).bind fun r6 =>
  if r6.1 ≠ 0 then
    some false
  else
    (ledger_Ledger_Next r6.2 5).bind fun r9 =>
    (ledger_Ledger_Answer r6.2 5 0 9).bind fun r11 =>
    (ledger_Ledger_Next r11.2.2.2 5).bind fun r17 =>
    (ledger_Ledger_Answer r11.2.2.2 5 1 7).bind fun r19 =>
    (ledger_Ledger_Next r19.2.2.2 5).bind fun r25 =>
    (ledger_Ledger_Rewind N r19.2.2.2 ([])).bind fun r27 =>
    (ledger_Ledger_Next r27 5).bind fun r29 =>
    if r9.1 = 0 then
      if r9.2.1 = 3 then
        if r11.2.1 = true then
          some false
        else
          if r17.1 = 1 then
            if r17.2.1 = 4 then
              if r19.2.1 = true then
                if r19.1 = (⟨5, 0, 7⟩ : S_api_Say) then
                  if r25.1 = 2 then
                    if r25.2.1 = 7 then
                      if r29.1 = 0 then
                        some (decide (r29.2.1 = 3))
                      else
                        some false
                    else
                      some false
                  else
                    some false
                else
                  some false
              else
                some false
            else
              some false
          else
            some false
      else
        some false
    else
      some false

theorem law23_awake_any {N : Nat} {Fr : List HP} {w : World} {r : Bool} {K : Value → World → Prop}  (hc : Ctx w (Fr)) (hp : law23_awake N = some r)
    (k : ∀ w', Ctx w' (Fr) → K (.bool r) w') : Calls Try.prog 6 #[] w (Ret K) := by
 unfold law23_awake at hp; refine Center (args := []) (l := []) F6 M6 rfl rfl rfl ?_; refine Wseq (Wreg ?_); refine au 1 rfl <| rn (qn (Wseq (Wreg ?_))); obtain ⟨r1, hr1, hp⟩ := bind_some hp; refine kz C7 ?_; refine ledger_New_any hc hr1 ?_; clear hc; intro b2 w3 hc; refine au 1 rfl <| rn (qn (Wseq (Wseq (Wreg ?_)))); refine au 1 rfl <| sz (v := .bool false) (epf U25 rfl rfl) <| au 2 rfl ?_; refine rsE (Ctx.builtOp (css := [[.int .i64 3], [.int .i64 4]]) (xs := ([3, 4] : List Int)) (E := (pInt .i64)) (Ctx.holdsC (f := fun x : Int => [.int .i64 x]) (fun _ _ _ => rfl) hc ([3, 4] : List Int)) U23 Z3 V3 rfl rfl rfl rfl rfl rfl rfl rfl) rfl ?_; clear hc; rintro _ w5 ⟨a4, rfl, hc⟩; refine sz (v := .agg #[.int .i64 5, .int .i64 2, .slice a4 2 2]) (bd_29_0_1_2 rfl rfl rfl) ?_; replace hc := hc.freeze (k := 0) rfl rfl rfl; replace hc := Ctx.n0 hc; replace hc := hc.dz 0; obtain ⟨r6, hr6, hp⟩ := bind_some hp; replace hc := hc.m [4]; refine kz C8 ?_; refine ledger_Ledger_Open_any (x1 := (⟨5, 2, [3, 4]⟩ : S_api_Request)) hc hr6 ?_; clear hc; intro w7 hc; refine au 2 rfl <| rn (qn ?_); refine Wif hp (fun _ hp => ?_) fun _ hp => ?_
 · refine Wskip (qn (Wseq (Wreg ?_))); refine au 1 rfl ?_; obtain ⟨r9, hr9, hp⟩ := bind_some hp; refine kz C9 ?_; refine ledger_Ledger_Next_any hc hr9 ?_; clear hc; intro w10 hc; refine au 7 rfl <| rn (qn (Wseq (Wreg ?_))); refine au 1 rfl ?_; obtain ⟨r11, hr11, hp⟩ := bind_some hp; refine kz C10 ?_; refine ledger_Ledger_Answer_any hc hr11 ?_; clear hc; intro w12 hc; refine au 4 rfl ?_; refine rsE (Ctx.allocOp (cs := [.int .i64 0, .int .i64 0, .int .i64 0]) hc V35 rfl) rfl ?_; clear hc; rintro _ w15 ⟨b13, rfl, hc⟩; refine pa hc 0 Z35 ?_; clear hc; rintro w16 hc; refine au 2 rfl <| rn (qn (Wseq (Wreg ?_))); refine au 1 rfl ?_; obtain ⟨r17, hr17, hp⟩ := bind_some hp; replace hc := hc.m [2]; refine kz C9 ?_; refine ledger_Ledger_Next_any hc hr17 ?_; clear hc; intro w18 hc; refine au 7 rfl <| rn (qn (Wseq (Wreg ?_))); refine au 1 rfl ?_; obtain ⟨r19, hr19, hp⟩ := bind_some hp; refine kz C10 ?_; refine ledger_Ledger_Answer_any hc hr19 ?_; clear hc; intro w20 hc; refine au 4 rfl ?_; refine rsE (Ctx.allocOp (cs := [.int .i64 0, .int .i64 0, .int .i64 0]) hc V35 rfl) rfl ?_; clear hc; rintro _ w23 ⟨b21, rfl, hc⟩; refine pa hc 0 Z35 ?_; clear hc; rintro w24 hc; refine au 2 rfl <| rn (qn (Wseq (Wreg ?_))); refine au 1 rfl ?_; obtain ⟨r25, hr25, hp⟩ := bind_some hp; replace hc := hc.m [2]; refine kz C9 ?_; refine ledger_Ledger_Next_any hc hr25 ?_; clear hc; intro w26 hc; refine au 7 rfl <| rn (qn (Wseq (Wreg ?_))); refine au 1 rfl ?_; replace hc := hc.nilRo (pInt .i64); replace hc := hc.dz 0; obtain ⟨r27, hr27, hp⟩ := bind_some hp; replace hc := hc.m [4]; refine kz C13 ?_; refine ledger_Ledger_Rewind_any reads_ro hc hr27 ?_; clear hc; intro w28 hc; refine rn (qn (Wseq (Wreg ?_))); refine au 1 rfl ?_; obtain ⟨r29, hr29, hp⟩ := bind_some hp; refine kz C9 ?_; refine ledger_Ledger_Next_any hc hr29 ?_; clear hc; intro w30 hc; refine au 7 rfl <| rn (qn (Wseq (Wreg ?_))); refine au 3 rfl ?_; cases hb31 : (decide (r9.1 = 0))
   · replace hp := gneg hp (of_decide_eq_false hb31); (iterate 2 refine r0 rfl ?_); refine au 2 rfl ?_; (iterate 2 refine r0 rfl ?_); refine au 2 rfl ?_; (iterate 2 refine r0 rfl ?_); refine au 2 rfl ?_; (iterate 2 refine r0 rfl ?_); refine au 2 rfl ?_; refine r0 rfl <| au 2 rfl ?_; (iterate 3 refine r0 rfl ?_); refine au 2 rfl ?_; (iterate 2 refine r0 rfl ?_); refine au 2 rfl ?_; (iterate 2 refine r0 rfl ?_); refine au 2 rfl ?_; (iterate 2 refine r0 rfl ?_); refine au 2 rfl ?_; (iterate 2 refine r0 rfl ?_); refine au 2 rfl <| rn (qn (Wret ?_)); replace hc := hc.m [11, 9, 7, 5, 3, 1]; obtain rfl := sj hp; exact fz R6 M6 (k _ hc)
   · replace hp := gpos hp (of_decide_eq_true hb31); refine au 4 rfl ?_; cases hb32 : (decide (r9.2.1 = 3))
     · replace hp := gneg hp (of_decide_eq_false hb32); (iterate 2 refine r0 rfl ?_); refine au 2 rfl ?_; (iterate 2 refine r0 rfl ?_); refine au 2 rfl ?_; (iterate 2 refine r0 rfl ?_); refine au 2 rfl ?_; refine r0 rfl <| au 2 rfl ?_; (iterate 3 refine r0 rfl ?_); refine au 2 rfl ?_; (iterate 2 refine r0 rfl ?_); refine au 2 rfl ?_; (iterate 2 refine r0 rfl ?_); refine au 2 rfl ?_; (iterate 2 refine r0 rfl ?_); refine au 2 rfl ?_; (iterate 2 refine r0 rfl ?_); refine au 2 rfl <| rn (qn (Wret ?_)); replace hc := hc.m [11, 9, 7, 5, 3, 1]; obtain rfl := sj hp; exact fz R6 M6 (k _ hc)
     · replace hp := gpos hp (of_decide_eq_true hb32); refine au 1 rfl ?_; cases hb33 : r11.2.1
       · replace hp := gneg hp (by rw [hb33]; exact Bool.false_ne_true); refine au 7 rfl ?_; cases hb34 : (decide (r17.1 = 1))
         · replace hp := gneg hp (of_decide_eq_false hb34); (iterate 2 refine r0 rfl ?_); refine au 2 rfl ?_; refine r0 rfl <| au 2 rfl ?_; (iterate 3 refine r0 rfl ?_); refine au 2 rfl ?_; (iterate 2 refine r0 rfl ?_); refine au 2 rfl ?_; (iterate 2 refine r0 rfl ?_); refine au 2 rfl ?_; (iterate 2 refine r0 rfl ?_); refine au 2 rfl ?_; (iterate 2 refine r0 rfl ?_); refine au 2 rfl <| rn (qn (Wret ?_)); replace hc := hc.m [11, 9, 7, 5, 3, 1]; obtain rfl := sj hp; exact fz R6 M6 (k _ hc)
         · replace hp := gpos hp (of_decide_eq_true hb34); refine au 4 rfl ?_; cases hb35 : (decide (r17.2.1 = 4))
           · replace hp := gneg hp (of_decide_eq_false hb35); refine r0 rfl <| au 2 rfl ?_; (iterate 3 refine r0 rfl ?_); refine au 2 rfl ?_; (iterate 2 refine r0 rfl ?_); refine au 2 rfl ?_; (iterate 2 refine r0 rfl ?_); refine au 2 rfl ?_; (iterate 2 refine r0 rfl ?_); refine au 2 rfl ?_; (iterate 2 refine r0 rfl ?_); refine au 2 rfl <| rn (qn (Wret ?_)); replace hc := hc.m [11, 9, 7, 5, 3, 1]; obtain rfl := sj hp; exact fz R6 M6 (k _ hc)
           · replace hp := gpos hp (of_decide_eq_true hb35); refine au 3 rfl ?_; cases hb36 : r19.2.1
             · replace hp := gneg hp (by rw [hb36]; exact Bool.false_ne_true); (iterate 3 refine r0 rfl ?_); refine au 2 rfl ?_; (iterate 2 refine r0 rfl ?_); refine au 2 rfl ?_; (iterate 2 refine r0 rfl ?_); refine au 2 rfl ?_; (iterate 2 refine r0 rfl ?_); refine au 2 rfl ?_; (iterate 2 refine r0 rfl ?_); refine au 2 rfl <| rn (qn (Wret ?_)); replace hc := hc.m [11, 9, 7, 5, 3, 1]; obtain rfl := sj hp; exact fz R6 M6 (k _ hc)
             · replace hp := gpos hp hb36; refine lg G35 Z35 hc 3 ?_; refine sz (v := .agg #[.int .i64 5, .int .i64 0, .int .i64 7]) (bd_35_0_2 rfl rfl) <| sz (v := .bool (decide (r19.1 = (⟨5, 0, 7⟩ : S_api_Say)))) (eqs rfl rfl (by kernel_rfl) (fun w => S_api_Say.eql w r19.1 (⟨5, 0, 7⟩ : S_api_Say))) <| au 2 rfl ?_; cases hb37 : (decide (r19.1 = (⟨5, 0, 7⟩ : S_api_Say)))
               · replace hp := gneg hp (of_decide_eq_false hb37); (iterate 2 refine r0 rfl ?_); refine au 2 rfl ?_; (iterate 2 refine r0 rfl ?_); refine au 2 rfl ?_; (iterate 2 refine r0 rfl ?_); refine au 2 rfl ?_; (iterate 2 refine r0 rfl ?_); refine au 2 rfl <| rn (qn (Wret ?_)); replace hc := hc.m [11, 9, 7, 5, 3, 1]; obtain rfl := sj hp; exact fz R6 M6 (k _ hc)
               · replace hp := gpos hp (of_decide_eq_true hb37); refine au 4 rfl ?_; cases hb38 : (decide (r25.1 = 2))
                 · replace hp := gneg hp (of_decide_eq_false hb38); (iterate 2 refine r0 rfl ?_); refine au 2 rfl ?_; (iterate 2 refine r0 rfl ?_); refine au 2 rfl ?_; (iterate 2 refine r0 rfl ?_); refine au 2 rfl <| rn (qn (Wret ?_)); replace hc := hc.m [11, 9, 7, 5, 3, 1]; obtain rfl := sj hp; exact fz R6 M6 (k _ hc)
                 · replace hp := gpos hp (of_decide_eq_true hb38); refine au 4 rfl ?_; cases hb39 : (decide (r25.2.1 = 7))
                   · replace hp := gneg hp (of_decide_eq_false hb39); (iterate 2 refine r0 rfl ?_); refine au 2 rfl ?_; (iterate 2 refine r0 rfl ?_); refine au 2 rfl <| rn (qn (Wret ?_)); replace hc := hc.m [11, 9, 7, 5, 3, 1]; obtain rfl := sj hp; exact fz R6 M6 (k _ hc)
                   · replace hp := gpos hp (of_decide_eq_true hb39); refine au 4 rfl ?_; cases hb40 : (decide (r29.1 = 0))
                     · replace hp := gneg hp (of_decide_eq_false hb40); (iterate 2 refine r0 rfl ?_); refine au 2 rfl <| rn (qn (Wret ?_)); replace hc := hc.m [11, 9, 7, 5, 3, 1]; obtain rfl := sj hp; exact fz R6 M6 (k _ hc)
                     · replace hp := gpos hp (of_decide_eq_true hb40); refine au 4 rfl <| rn (qn (Wret ?_)); replace hc := hc.m [11, 9, 7, 5, 3, 1]; obtain rfl := sj hp; exact fz R6 M6 (k _ hc)
       · replace hp := gpos hp hb33; refine au 3 rfl ?_; (iterate 2 refine r0 rfl ?_); refine au 2 rfl ?_; (iterate 2 refine r0 rfl ?_); refine au 2 rfl ?_; refine r0 rfl <| au 2 rfl ?_; (iterate 3 refine r0 rfl ?_); refine au 2 rfl ?_; (iterate 2 refine r0 rfl ?_); refine au 2 rfl ?_; (iterate 2 refine r0 rfl ?_); refine au 2 rfl ?_; (iterate 2 refine r0 rfl ?_); refine au 2 rfl ?_; (iterate 2 refine r0 rfl ?_); refine au 2 rfl <| rn (qn (Wret ?_)); replace hc := hc.m [11, 9, 7, 5, 3, 1]; obtain rfl := sj hp; exact fz R6 M6 (k _ hc)
 · refine Wseq (Wreg ?_); refine au 1 rfl <| rn (qn (Wret (qr ?_))); replace hc := hc.m [3, 1]; obtain rfl := sj hp; exact fz R6 M6 (k _ hc)

def ref23_Ledger_Find.L1 (x0 : S_ref23_Ledger) (x1 : Int) : Nat → Int → Option (Int)
  | 0, _ => none
  | m1 + 1, j1 =>
    if j1 < ((x0.L.length : Nat) : Int) then
      (idx x0.L j1).bind fun y6 =>
      if y6.R.ID = x1 then
        some j1
      else
        (ref23_Ledger_Find.L1 x0 x1 m1) (IntKind.i64.wrap (j1 + 1))
    else
      some (-1)

def ref23_Ledger_Find (N : Nat) (x0 : S_ref23_Ledger) (x1 : Int) : Option (Int) :=
  ref23_Ledger_Find.L1 x0 x1 N 0

theorem ref23_Ledger_Find_any {N b0 : Nat} {x0 : S_ref23_Ledger} {x1 r : Int} {Fr : List HP} {w : World} {K : Value → World → Prop}  (hc : Ctx w (S_ref23_Ledger.hp b0 x0 :: Fr)) (hp : ref23_Ledger_Find N x0 x1 = some r)
    (k : ∀ w', Ctx w' (S_ref23_Ledger.hp b0 x0 :: Fr) → K (.int .i64 r) w') : Calls Try.prog 44 #[pt b0 0, .int .i64 x1] w (Ret K) := by
 unfold ref23_Ledger_Find at hp; refine Center2 F44 M44 rfl rfl ?_; refine Wseq (Wreg ?_); refine au 1 rfl <| rn (qn (Wseq (Wseq (Wreg ?_)))); refine au 1 rfl <| rn (qn (Wblk ?_)); refine Wloop (rg [4, 23]) [5] (fun m vs w' => ∃ j1 : Int, vs = [.int .i64 j1] ∧ ref23_Ledger_Find.L1 x0 x1 m j1 = some r ∧ Ctx w' (S_ref23_Ledger.hp b0 x0 :: Fr)) N ?_ ?_
 · exact ⟨0, rfl, hp, hc⟩
 · clear hp hc; intro m vs u w2 hJ; obtain ⟨j1, rfl, hp, hc⟩ := hJ; rcases m with _ | m1
   · cases (show none = some r from hp)
   rw [ref23_Ledger_Find.L1] at hp; refine Wseq (Wseq (Wreg ?_)); refine au 3 rfl <| sz (v := pt b0 0) (fax 0 rfl U70 rfl Z68 rfl rfl rfl) ?_; replace hc := S_ref23_Ledger.uf hc; obtain ⟨a3, q4, hc⟩ := hc; refine sz (ld rfl G68 (Ctx.cell hc (k := 0) rfl rfl rfl)) <| sz (ln rfl U68) <| au 1 rfl <| rn (qn ?_); refine Wif hp (fun _ hp => ?_) fun _ hp => ?_
   · refine Wexit (qx (qx (be (qn (Wseq (Wreg ?_)))))); refine au 1 rfl <| rn (qn (Wret ?_)); replace hc := hc.m [2, 2]; replace hc := S_ref23_Ledger.fd (x := x0) hc; obtain rfl := sj hp; exact fz R44 M44 (k _ hc)
   · refine Wskip (qn (Wseq (Wblk (Wseq (Wreg ?_))))); refine au 2 rfl ?_; refine fq 0 U70 Z68 G68 hc 0 ?_; refine au 1 rfl ?_; obtain ⟨y6, hy6, hp⟩ := bind_some hp; obtain ⟨b9, o10, rfl, hi7, hi8⟩ := hc.ra 1 reads_own hy6; refine sz (ixx rfl rfl U68 Z111 hi7 hi8 rfl) <| sz (v := .pointer (some ⟨b9, o10 + (j1).toNat * 5 + 0, none⟩)) (fax 0 rfl U111 rfl Z29 rfl rfl rfl) <| sz (v := .pointer (some ⟨b9, o10 + (j1).toNat * 5 + 0, none⟩)) (fax 0 rfl U29 rfl Z3 rfl rfl rfl) ?_; replace hc := Ctx.rdCell hc (k := 1) rfl rfl reads_own hy6; obtain ⟨cs12, hc, hcell13⟩ := hc; replace hc := S_ref23_Entry.op hc; obtain ⟨a15, q16, a17, q18, u14, hc⟩ := hc; subst u14; refine sz (ld rfl G3 (hcell13 0 _ rfl)) <| au 2 rfl <| rn (qn ?_); refine Wif hp (fun _ hp => ?_) fun _ hp => ?_
     · refine Wskip (bn (qn (Wreg ?_))); refine au 3 rfl <| rn (qn ?_); replace hc := hc.m [6, 6]; replace hc := S_ref23_Ledger.fd (x := x0) hc; replace hc := hc.m [5, 3]; exact ⟨m1, Nat.lt_succ_self _, ⟨(IntKind.i64.wrap (j1 + 1)), rfl, hp, hc⟩, (kl rfl k0)⟩
     · refine Wseq (Wreg ?_); refine au 2 rfl <| rn (qn (Wret (br (qr (qr (br (qr ?_))))))); replace hc := hc.m [6, 6]; replace hc := S_ref23_Ledger.fd (x := x0) hc; replace hc := hc.m [5, 3]; obtain rfl := sj hp; exact fz R44 M44 (k _ hc)

theorem bd_111_0 {ρ : Operand → Value} {w : World} {dst : Option Nat} {ty : TypeId} {pos : String} {after : Array Edge} {g : Option (Nat × Bool)} {x0 : Operand} {c0_0 c0_1 c0_2 : Value} (h0 : ρ x0 = .agg #[c0_0, c0_1, c0_2]) :
    (execOp ρ ⟨dst, .build 111 #[(0, x0)], ty, pos, after, g⟩).run Try.prog w = .ok (.value (.agg #[c0_0, c0_1, c0_2, (.slice none 0 0), (.int .i64 0)])) w := by
  simp [execOp, Instr.build, Instr.fill, Try.zeroValue111, Try.runUnderlying111, Try.sizeOf23, Try.sizeOf29, Try.sizeOf3, h0, Value.cells]

def ref23_Ledger_Open.J1 (x0 : S_ref23_Ledger) (x1 : S_api_Request) (j13 : Int) : Option (Int × S_ref23_Ledger) :=
  (app ([]) x1.Prompt).bind fun z39 =>
  chk (0 ≤ j13 ∧ j13 ≤ ((x0.L.length : Nat) : Int)) <|
  (app ([]) (x0.L.take (j13).toNat)).bind fun z50 =>
  (app z50 ([(⟨(⟨x1.ID, x1.Most, z39⟩ : S_api_Request), [], 0⟩ : S_ref23_Entry)])).bind fun z58 =>
  chk (0 ≤ j13 ∧ j13 ≤ ((x0.L.length : Nat) : Int) ∧ ((x0.L.length : Nat) : Int) ≤ ((x0.L.length : Nat) : Int)) <|
  (app z58 ((x0.L.take (((x0.L.length : Nat) : Int)).toNat).drop (j13).toNat)).bind fun z70 =>
  some (0, (⟨z70⟩ : S_ref23_Ledger))

def ref23_Ledger_Open.J3 (x0 : S_ref23_Ledger) (x1 : S_api_Request) (j14 : Int) (k2 : Int → Option (Int × S_ref23_Ledger)) (j16 : Bool) : Option (Int × S_ref23_Ledger) :=
  if j16 = true then
    k2 (IntKind.i64.wrap (j14 + 1))
  else
    ref23_Ledger_Open.J1 x0 x1 j14

def ref23_Ledger_Open.L2 (x0 : S_ref23_Ledger) (x1 : S_api_Request) : Nat → Int → Option (Int × S_ref23_Ledger)
  | 0, _ => none
  | m2 + 1, j14 =>
    if j14 < ((x0.L.length : Nat) : Int) then
      (idx x0.L j14).bind fun y21 =>
      ref23_Ledger_Open.J3 x0 x1 j14 (ref23_Ledger_Open.L2 x0 x1 m2) (decide (y21.R.ID < x1.ID))
    else
      ref23_Ledger_Open.J3 x0 x1 j14 (ref23_Ledger_Open.L2 x0 x1 m2) false

def ref23_Ledger_Open (N : Nat) (x0 : S_ref23_Ledger) (x1 : S_api_Request) : Option (Int × S_ref23_Ledger) :=
  (ref23_Ledger_Find N x0 x1.ID).bind fun r8 =>
  if r8 ≥ 0 then
    some (210, x0)
  else
    if ((x1.Prompt.length : Nat) : Int) = 0 then
      some (90, x0)
    else
      if x1.Most < 1 then
        some (2, x0)
      else
        ref23_Ledger_Open.L2 x0 x1 N 0

theorem ref23_Ledger_Open_any {N b0 n2 q3 : Nat} {x0 : S_ref23_Ledger} {x1 : S_api_Request} {a1 : Option Addr} {Fr : List HP} {w : World} {r : Int × S_ref23_Ledger} {K : Value → World → Prop}  (hc : Ctx w (S_ref23_Ledger.hp b0 x0 :: Hold (pRo (pInt .i64)) [.slice a1 n2 q3] x1.Prompt :: Fr)) (hp : ref23_Ledger_Open N x0 x1 = some r)
    (k : ∀ w', Ctx w' (S_ref23_Ledger.hp b0 r.2 :: Fr) → K (.int .i64 r.1) w') : Calls Try.prog 21 #[pt b0 0, .agg #[.int .i64 x1.ID, .int .i64 x1.Most, .slice a1 n2 q3]] w (Ret K) := by
 unfold ref23_Ledger_Open at hp; refine Center2 F21 M21 rfl rfl ?_; obtain rfl := hc.rz 1 reads_ro; refine Wseq (Wreg ?_); refine rsE (Ctx.boxOp (cs := (S_api_Request.cz x1 a1 q3)) (v := .agg (S_api_Request.cz x1 a1 q3).toArray) hc rfl rfl) rfl ?_; clear hc; rintro _ w7 ⟨b5, rfl, hc⟩; refine au 1 rfl <| rn (qn (Wseq (Wseq (Wreg ?_)))); refine au 1 rfl ?_; refine fq 0 U29 Z3 G3 hc 0 ?_; replace hp := bind_some hp; obtain ⟨r8, hr8, hp⟩ := hp; replace hc := hc.m [2]; refine kz C44 ?_; refine ref23_Ledger_Find_any hc hr8 ?_; clear hc; intro w9 hc; refine au 1 rfl <| rn (qn ?_); refine Wif hp (fun _ h => ?_) fun _ h => ?_
 · replace hp := h; clear h; refine Wskip (qn (Wseq (Wseq (Wreg ?_)))); refine fq 2 U29 Z23 G23 hc 1 ?_; refine sz (ln rfl U23) <| au 1 rfl <| rn (qn ?_); refine Wif hp (fun _ h => ?_) fun _ h => ?_
   · replace hp := h; clear h; refine Wskip (qn (Wseq (Wseq (Wreg ?_)))); refine fq 1 U29 Z3 G3 hc 1 ?_; refine au 1 rfl <| rn (qn ?_); refine Wif hp (fun _ h => ?_) fun _ h => ?_
     · replace hp := h; clear h; refine Wskip (qn (Wseq (Wreg ?_))); refine au 1 rfl <| rn (qn ?_); refine Wseqm (rg [5, 1, 19, 23]) [5] (fun vs w' => ∃ j13 : Int, vs = [.int .i64 j13] ∧ ref23_Ledger_Open.J1 x0 x1 j13 = some r ∧ Ctx w' (S_ref23_Ledger.hp b0 x0 :: B b5 (S_api_Request.cz x1 a1 q3) 29 :: hR .i64 a1 q3 x1.Prompt :: Fr)) ?_ ?_
       · refine Wblk ?_; refine Wloop (rg [5, 1, 19, 23]) [5] (fun m vs w' => ∃ j14 : Int, vs = [.int .i64 j14] ∧ ref23_Ledger_Open.L2 x0 x1 m j14 = some r ∧ Ctx w' (S_ref23_Ledger.hp b0 x0 :: B b5 (S_api_Request.cz x1 a1 q3) 29 :: hR .i64 a1 q3 x1.Prompt :: Fr)) N ?_ ?_
         · exact ⟨0, rfl, hp, hc⟩
         · clear hp hc; intro m vs u w15 hJ; obtain ⟨j14, rfl, hp, hc⟩ := hJ; rcases m with _ | m2
           · cases (show none = some r from hp)
           rw [ref23_Ledger_Open.L2] at hp; refine Wseq ?_; refine Wseqm (rg [19, 21]) [39] (fun vs w' => ∃ j16 : Bool, vs = [.bool j16] ∧ ref23_Ledger_Open.J3 x0 x1 j14 (ref23_Ledger_Open.L2 x0 x1 m2) j16 = some r ∧ Ctx w' (S_ref23_Ledger.hp b0 x0 :: B b5 (S_api_Request.cz x1 a1 q3) 29 :: hR .i64 a1 q3 x1.Prompt :: Fr)) ?_ ?_
           · replace hc := S_ref23_Ledger.uf hc; obtain ⟨a17, q18, hc⟩ := hc; replace hc := hc.drew; refine Wdrw (fun _ w' => w' = World.drew w15) [0, 0, 2, 6, 14, 30, 63, 127, 255, 511, 1023, 2047, 255, 8191, 16383, 32767, 65535, 255, 131327, 524287, 1048575] 0 0 rfl (by kernel_rfl) (fun _ _ => rfl) ?_; generalize hw : World.drew w15 = w19 at *; clear hw; refine ad_ 3 rfl <| dE (v := pt b0 0) (fax 0 rfl U70 rfl Z68 rfl rfl rfl) rfl rfl <| dE (ld rfl G68 (Ctx.cell hc (k := 0) rfl rfl rfl)) rfl rfl <| dE (ln rfl U68) rfl rfl <| ad_ 2 rfl ?_; cases hb20 : (decide (j14 < ((x0.L.length : Nat) : Int)))
             · replace hp := gneg hp (of_decide_eq_false hb20); (iterate 12 refine d0 rfl rfl ?_); refine ad_ 1 rfl <| dn (qn ?_); replace hc := hc.m [2, 2]; replace hc := S_ref23_Ledger.fd (x := x0) hc; exact ⟨⟨false, rfl, hp, hc⟩, (kl rfl kb)⟩
             · replace hp := gpos hp (of_decide_eq_true hb20); refine ad_ 2 rfl <| dE (v := pt b0 0) (fax 0 rfl U70 rfl Z68 rfl rfl rfl) rfl rfl <| dE (ld rfl G68 (Ctx.cell hc (k := 0) rfl rfl rfl)) rfl rfl <| ad_ 1 rfl ?_; replace hp := bind_some hp; obtain ⟨y21, hy21, hp⟩ := hp; obtain ⟨b24, o25, rfl, hi22, hi23⟩ := hc.ra 1 reads_own hy21; refine dE (ixx rfl rfl U68 Z111 hi22 hi23 rfl) rfl rfl <| dE (v := .pointer (some ⟨b24, o25 + (j14).toNat * 5 + 0, none⟩)) (fax 0 rfl U111 rfl Z29 rfl rfl rfl) rfl rfl <| dE (v := .pointer (some ⟨b24, o25 + (j14).toNat * 5 + 0, none⟩)) (fax 0 rfl U29 rfl Z3 rfl rfl rfl) rfl rfl ?_; replace hc := Ctx.rdCell hc (k := 1) rfl rfl reads_own hy21; obtain ⟨cs27, hc, hcell28⟩ := hc; replace hc := S_ref23_Entry.op hc; obtain ⟨a30, q31, a32, q33, u29, hc⟩ := hc; subst u29; refine dE (ld rfl G3 (hcell28 0 _ rfl)) rfl rfl <| dE (v := pt b5 0) (fax 0 rfl U29 rfl Z3 rfl rfl rfl) rfl rfl <| dE (ld rfl G3 (Ctx.cell hc (k := 4) rfl rfl rfl)) rfl rfl <| ad_ 2 rfl <| dn (qn ?_); replace hc := hc.m [6, 6]; replace hc := S_ref23_Ledger.fd (x := x0) hc; replace hc := hc.m [5, 3]; exact ⟨⟨decide (y21.R.ID < x1.ID), rfl, hp, hc⟩, (kl rfl kb)⟩
           · clear hp hc; intro vs u w34 hJ; obtain ⟨j16, rfl, hp, hc⟩ := hJ; unfold ref23_Ledger_Open.J3 at hp; cases hb35 : j16
             · replace hp := gneg hp (by rw [hb35]; exact Bool.false_ne_true); subst hb35; refine Wcf rfl (Wexit (qx (qx (be (qn ?_))))); exact ⟨⟨j14, rfl, hp, hc⟩, (kl rfl (km rfl (kl rfl (km rfl (kl rfl kb)))))⟩
             · replace hp := gpos hp hb35; subst hb35; refine Wct rfl (Wskip (qn (Wblk (Wreg ?_)))); refine au 3 rfl <| rn (bn (qn ?_)); exact ⟨m2, Nat.lt_succ_self _, ⟨(IntKind.i64.wrap (j14 + 1)), rfl, hp, hc⟩, (kl rfl (km rfl (kl rfl k0)))⟩
       · clear hp hc; intro vs u w36 hJ; obtain ⟨j13, rfl, hp, hc⟩ := hJ; unfold ref23_Ledger_Open.J1 at hp; refine Wseq (Wreg ?_); refine rsE (Ctx.builtOp (css := []) (xs := ([] : List Int)) (E := (pInt .i64)) hc U23 Z3 V3 rfl rfl rfl rfl rfl rfl rfl rfl) rfl ?_; clear hc; rintro _ w38 ⟨a37, rfl, hc⟩; refine fq 2 U29 Z23 G23 hc 2 ?_; replace hp := bind_some hp; obtain ⟨z39, hz39, hp⟩ := hp; obtain ⟨hg40, e41⟩ := app_some hz39; refine rsE (hc.ap 0 3 reads_ro U23 Try.t3 hg40) rfl ?_; clear hc; rintro _ w44 ⟨a42, q43, rfl, hc⟩; rw [← e41] at hc ⊢; replace hc := Ctx.n0 hc; refine sz (v := pt b5 2) (fax 2 rfl U29 rfl Z23 rfl rfl rfl) <| po hc 2 Z23 ?_; clear hc; rintro w45 hc; refine rn (qn (Wseq (Wreg ?_))); refine au 1 rfl <| rn (qn (Wseq (Wreg ?_))); refine au 3 rfl <| sz (v := pt b0 0) (fax 0 rfl U70 rfl Z68 rfl rfl rfl) ?_; replace hc := hc.m [2]; replace hc := S_ref23_Ledger.uf hc; obtain ⟨a46, q47, hc⟩ := hc; refine sz (ld rfl G68 (Ctx.cell hc (k := 0) rfl rfl rfl)) <| au 1 rfl ?_; replace hp := chk_some hp; obtain ⟨hg48, hp⟩ := hp; refine rsE (Ctx.subOp0 (hv := j13) hc (k := 1) rfl rfl reads_own rfl ⟨_, rfl⟩ U68 Z111 hg48) rfl ?_; rintro _ _ ⟨rfl, rfl, rd49⟩; replace hc := hc.nilOwn S_ref23_Entry.pr 111; replace hp := bind_some hp; obtain ⟨z50, hz50, hp⟩ := hp; obtain ⟨hg51, e52⟩ := app_some hz50; refine rsE (hc.ap 0 2 rd49 U68 Try.t111 hg51) rfl ?_; clear hc; rintro _ w55 ⟨a53, q54, rfl, hc⟩; rw [← e52] at hc ⊢; replace hc := Ctx.n0 hc; refine au 1 rfl <| rn (qn (Wseq (Wreg ?_))); refine au 1 rfl <| lg G29 Z29 hc 4 ?_; refine sz (v := .agg #[.int .i64 x1.ID, .int .i64 x1.Most, .slice a42 z39.length q43, .slice none 0 0, .int .i64 0]) (bd_111_0 rfl) ?_; replace hc := hc.nilRo (pInt .i64); replace hc := hc.dz 0; replace hc := hc.freeze (k := 5) rfl rfl rfl; replace hc := Ctx.n5 hc; replace hc := hc.dz 5; replace hc : Ctx w55 (Hold S_ref23_Entry.pr [.int .i64 x1.ID, .int .i64 x1.Most, .slice a42 z39.length q43, .slice none 0 0, .int .i64 0] (⟨(⟨x1.ID, x1.Most, z39⟩ : S_api_Request), [], 0⟩ : S_ref23_Entry) :: Hold (pRo (pInt .i64)) [.slice none 0 0] ([]) :: Own S_ref23_Entry.pr 111 (.slice a53 z50.length q54) z50 :: B b0 [.slice a46 x0.L.length q47] 70 :: Own S_ref23_Entry.pr 111 (.slice a46 x0.L.length q47) x0.L :: hR .i64 a42 q43 z39 :: B b5 [.int .i64 x1.ID, .int .i64 x1.Most, .slice a42 z39.length q43] 29 :: hR .i64 a1 q3 x1.Prompt :: Fr) := S_ref23_Entry.cl hc; refine rsE (Ctx.builtOp (css := [[.int .i64 x1.ID, .int .i64 x1.Most, .slice a42 z39.length q43, .slice none 0 0, .int .i64 0]]) (xs := ([(⟨(⟨x1.ID, x1.Most, z39⟩ : S_api_Request), [], 0⟩ : S_ref23_Entry)] : List S_ref23_Entry)) (E := S_ref23_Entry.pr) hc U68 Z111 V111 rfl rfl rfl rfl rfl rfl rfl rfl) rfl ?_; clear hc; rintro _ w57 ⟨a56, rfl, hc⟩; replace hp := bind_some hp; obtain ⟨z58, hz58, hp⟩ := hp; obtain ⟨hg59, e60⟩ := app_some hz58; refine rsE (hc.ap 2 0 reads_own U68 Try.t111 hg59) rfl ?_; clear hc; rintro _ w63 ⟨a61, q62, rfl, hc⟩; rw [← e60] at hc ⊢; replace hc := Ctx.n2 hc; refine au 1 rfl <| rn (qn (Wseq (Wreg ?_))); refine au 4 rfl ?_; refine fq 0 U70 Z68 G68 hc 3 ?_; refine au 1 rfl ?_; replace hp := chk_some hp; obtain ⟨hg64, hp⟩ := hp; refine rsE (Ctx.subOp (li := some j13) (hi' := none) hc (k := 4) rfl rfl reads_own rfl ⟨_, rfl⟩ trivial U68 Z111 hg64) rfl ?_; rintro _ _ ⟨rfl, a65, q66, rfl, rd67, ea68, eq69⟩; replace rd67 : Reads (Own S_ref23_Entry.pr 111 (.slice a46 x0.L.length q47) x0.L) S_ref23_Entry.pr (.slice a65 ((((x0.L.length : Nat) : Int)).toNat - (j13).toNat) q66) ((x0.L.take (((x0.L.length : Nat) : Int)).toNat).drop (j13).toNat) := rd67; replace hp := bind_some hp; obtain ⟨z70, hz70, hp⟩ := hp; obtain ⟨hg71, e72⟩ := app_some hz70; refine rsE (hc.ap 2 4 rd67 U68 Try.t111 hg71) rfl ?_; clear hc; rintro _ w75 ⟨a73, q74, rfl, hc⟩; rw [← e72] at hc ⊢; replace hc := Ctx.n2 hc; refine au 1 rfl <| sz (v := pt b0 0) (fax 0 rfl U70 rfl Z68 rfl rfl rfl) <| po hc 3 Z68 ?_; clear hc; rintro w76 hc; refine rn (qn (Wseq (Wreg ?_))); refine au 1 rfl <| rn (qn (Wret ?_)); replace hc := hc.m [4, 6]; replace hc := S_ref23_Ledger.fd (x := (⟨z70⟩ : S_ref23_Ledger)) hc; replace hc := hc.m [13, 11, 9, 7, 5, 3]; obtain rfl := sj hp; exact fz R21 M21 (k _ hc)
     · replace hp := h; clear h; refine Wseq (Wreg ?_); refine au 1 rfl <| rn (qn (Wret (qr ?_))); replace hc := hc.m [5, 3]; obtain rfl := sj hp; exact fz R21 M21 (k _ hc)
   · replace hp := h; clear h; refine Wseq (Wreg ?_); refine au 1 rfl <| rn (qn (Wret (qr ?_))); replace hc := hc.m [5, 3]; obtain rfl := sj hp; exact fz R21 M21 (k _ hc)
 · replace hp := h; clear h; refine Wseq (Wreg ?_); refine au 1 rfl <| rn (qn (Wret (qr ?_))); replace hc := hc.m [5, 3]; obtain rfl := sj hp; exact fz R21 M21 (k _ hc)

def ref23_Entry_Done (x0 : S_ref23_Entry) : Option (Bool) :=
  some (decide (((x0.Log.length : Nat) : Int) ≥ x0.R.Most))

theorem ref23_Entry_Done_any {x0 : S_ref23_Entry} {a1 a4 : Option Addr} {n2 q3 n5 q6 : Nat} {Fr : List HP} {w : World} {r : Bool} {K : Value → World → Prop}  (hc : Ctx w (Hold (pRo (pInt .i64)) [.slice a1 n2 q3] x0.R.Prompt :: Hold (pRo (pInt .i64)) [.slice a4 n5 q6] x0.Log :: Fr)) (hp : ref23_Entry_Done x0 = some r)
    (k : ∀ w', Ctx w' (Fr) → K (.bool r) w') : Calls Try.prog 45 #[.agg #[.int .i64 x0.R.ID, .int .i64 x0.R.Most, .slice a1 n2 q3, .slice a4 n5 q6, .int .i64 x0.Fed]] w (Ret K) := by
 unfold ref23_Entry_Done at hp; refine Center1 F45 M45 rfl rfl ?_; obtain rfl := hc.rz 0 reads_ro; obtain rfl := hc.rz 1 reads_ro; refine Wseq (Wreg ?_); refine rsE (Ctx.boxOp (cs := (S_ref23_Entry.cz x0 a1 q3 a4 q6)) (v := .agg (S_ref23_Entry.cz x0 a1 q3 a4 q6).toArray) hc rfl rfl) rfl ?_; clear hc; rintro _ w11 ⟨b9, rfl, hc⟩; refine au 1 rfl <| rn (qn (Wseq (Wreg ?_))); refine fq 3 U111 Z23 G23 hc 0 ?_; refine sz (ln rfl U23) <| sz (v := pt b9 0) (fax 0 rfl U111 rfl Z29 rfl rfl rfl) ?_; refine fq 1 U29 Z3 G3 hc 0 ?_; refine au 2 rfl <| rn (qn (Wret ?_)); replace hc := hc.m [5, 3, 1]; obtain rfl := sj hp; exact fz R45 M45 (k _ hc)

def ref23_Ledger_Next (N : Nat) (x0 : S_ref23_Ledger) (x1 : Int) : Option (Int × Int × Bool) :=
  (ref23_Ledger_Find N x0 x1).bind fun r1 =>
  if r1 < 0 then
    some (0, 0, false)
  else
    (idx x0.L r1).bind fun y6 =>
    (ref23_Entry_Done y6).bind fun r19 =>
    if r19 = true then
      some (0, 0, false)
    else
      (idx x0.L r1).bind fun y22 =>
      (app ([]) y22.R.Prompt).bind fun z42 =>
      (app z42 y22.Log).bind fun z48 =>
      (idx z48 y22.Fed).bind fun y55 =>
      some (y22.Fed, y55, true)

theorem ref23_Ledger_Next_any {N b0 : Nat} {x0 : S_ref23_Ledger} {x1 : Int} {Fr : List HP} {w : World} {r : Int × Int × Bool} {K : Value → World → Prop}  (hc : Ctx w (S_ref23_Ledger.hp b0 x0 :: Fr)) (hp : ref23_Ledger_Next N x0 x1 = some r)
    (k : ∀ w', Ctx w' (S_ref23_Ledger.hp b0 x0 :: Fr) → K (.tuple #[.int .i64 r.1, .int .i64 r.2.1, .bool r.2.2]) w') : Calls Try.prog 22 #[pt b0 0, .int .i64 x1] w (Ret K) := by
 unfold ref23_Ledger_Next at hp; refine Center2 F22 M22 rfl rfl ?_; refine Wseq (Wreg ?_); refine au 3 rfl <| rn (qn (Wseq (Wreg ?_))); refine au 2 rfl ?_; replace hp := bind_some hp; obtain ⟨r1, hr1, hp⟩ := hp; refine kz C44 ?_; refine ref23_Ledger_Find_any hc hr1 ?_; clear hc; intro w2 hc; refine au 1 rfl <| rn (qn (Wseq (Wseq (Wreg ?_)))); refine au 3 rfl ?_; cases hb3 : (decide (r1 < 0))
 · replace hp := gneg hp (of_decide_eq_false hb3); refine au 2 rfl <| sz (v := pt b0 0) (fax 0 rfl U70 rfl Z68 rfl rfl rfl) ?_; replace hc := S_ref23_Ledger.uf hc; obtain ⟨a4, q5, hc⟩ := hc; refine sz (ld rfl G68 (Ctx.cell hc (k := 0) rfl rfl rfl)) <| au 1 rfl ?_; replace hp := bind_some hp; obtain ⟨y6, hy6, hp⟩ := hp; obtain ⟨b9, o10, rfl, hi7, hi8⟩ := hc.ra 1 reads_own hy6; refine sz (ixx rfl rfl U68 Z111 hi7 hi8 rfl) ?_; replace hc := Ctx.rdCell hc (k := 1) rfl rfl reads_own hy6; obtain ⟨cs12, hc, hcell13⟩ := hc; replace hc := S_ref23_Entry.op hc; obtain ⟨a15, q16, a17, q18, u14, hc⟩ := hc; subst u14; refine sz (v := .agg (S_ref23_Entry.cz y6 a15 q16 a17 q18).toArray) (ldg rfl G111 Z111 rfl (elCells hcell13 0 (vs := (S_ref23_Entry.cz y6 a15 q16 a17 q18)) rfl)) ?_; replace hc := hc.dz 0; replace hc := hc.dz 2; replace hp := bind_some hp; obtain ⟨r19, hr19, hp⟩ := hp; replace hc := hc.m [2]; refine kz C45 ?_; refine ref23_Entry_Done_any hc hr19 ?_; clear hc; intro w20 hc; refine au 1 rfl <| rn (qn ?_); cases hb21 : r19
   · replace hp := gneg hp (by rw [hb21]; exact Bool.false_ne_true); subst hb21; refine Wcf rfl (Wskip (qn (Wseq (Wreg ?_)))); refine au 2 rfl ?_; refine fq 0 U70 Z68 G68 hc 2 ?_; refine au 1 rfl ?_; replace hp := bind_some hp; obtain ⟨y22, hy22, hp⟩ := hp; obtain ⟨b25, o26, -, hi23, hi24⟩ := hc.ra 3 reads_own hy22; refine sz (ixx rfl rfl U68 Z111 hi23 hi24 rfl) ?_; replace hc := Ctx.rdCell hc (k := 3) rfl rfl reads_own hy22; obtain ⟨cs28, hc, hcell29⟩ := hc; replace hc := S_ref23_Entry.op hc; obtain ⟨a31, q32, a33, q34, u30, hc⟩ := hc; subst u30; refine sz (v := .agg (S_ref23_Entry.cz y22 a31 q32 a33 q34).toArray) (ldg rfl G111 Z111 rfl (elCells hcell29 0 (vs := (S_ref23_Entry.cz y22 a31 q32 a33 q34)) rfl)) ?_; refine rsE (Ctx.allocOp (cs := [.int .i64 0, .int .i64 0, .slice none 0 0, .slice none 0 0, .int .i64 0]) hc V111 rfl) rfl ?_; clear hc; rintro _ w37 ⟨b35, rfl, hc⟩; refine pa hc 0 Z111 ?_; clear hc; rintro w38 hc; refine rn (qn (Wseq ?_)); replace hc := hc.drew; refine Wdrw (fun j w' => (j = 3 → w'.cell? ⟨b35, 2, none⟩ = some (.slice a31 y22.R.Prompt.length q32)) ∧ (j = 6 → w'.cell? ⟨b35, 3, none⟩ = some (.slice a33 y22.Log.length q34)) ∧ True) [0, 0, 2, 6, 15, 0, 32, 127, 255] 0 0 rfl (by kernel_rfl) (fun j hj => ⟨fun _ => hc.cell (k := 0) rfl rfl rfl, fun _ => hc.cell (k := 0) rfl rfl rfl, trivial⟩) ?_; generalize hw : World.drew w38 = w39 at *; clear hw; refine deE (Ctx.builtOp (css := []) (xs := ([] : List Int)) (E := (pInt .i64)) hc U23 Z3 V3 rfl rfl rfl rfl rfl rfl rfl rfl) rfl rfl ?_; clear hc; rintro _ w41 ⟨a40, rfl, hc⟩; refine ⟨fun j hj hb => ⟨fun _ => hc.cell (k := 1) rfl rfl rfl, fun _ => hc.cell (k := 1) rfl rfl rfl, trivial⟩, ?_⟩; refine ds (v := pt b35 0) rfl (fun w' hF => fax 0 rfl U111 rfl Z29 rfl rfl rfl) rfl <| ds (v := pt b35 2) rfl (fun w' hF => fax 2 rfl U29 rfl Z23 rfl rfl rfl) rfl <| ds rfl (fun w' hF => ld rfl G23 ((hF.1 rfl))) rfl ?_; replace hp := bind_some hp; obtain ⟨z42, hz42, hp⟩ := hp; obtain ⟨hg43, e44⟩ := app_some hz42; refine deE (hc.ap 0 2 reads_ro U23 Try.t3 hg43) rfl rfl ?_; clear hc; rintro _ w47 ⟨a45, q46, rfl, hc⟩; rw [← e44] at hc ⊢; replace hc := Ctx.n0 hc; refine ⟨fun j hj hb => ⟨fun e => nja hj e, fun _ => hc.cell (k := 1) rfl rfl rfl, trivial⟩, ?_⟩; refine ds (v := pt b35 3) rfl (fun w' hF => fax 3 rfl U111 rfl Z23 rfl rfl rfl) rfl <| ds rfl (fun w' hF => ld rfl G23 ((hF.2.1 rfl))) rfl ?_; replace hp := bind_some hp; obtain ⟨z48, hz48, hp⟩ := hp; obtain ⟨hg49, e50⟩ := app_some hz48; refine deE (hc.ap 0 3 reads_ro U23 Try.t3 hg49) rfl rfl ?_; clear hc; rintro _ w53 ⟨a51, q52, rfl, hc⟩; rw [← e50] at hc ⊢; replace hc := Ctx.n0 hc; refine ⟨fun j hj hb => ⟨fun e => nja hj e, fun e => nja hj e, trivial⟩, ?_⟩; refine ad_ 1 rfl <| dn (qn (Wseq ?_)); replace hc := hc.drew; refine Wdrw (fun _ w' => w' = World.drew w53) [0, 1, 0, 0, 8, 28, 60, 3, 255, 511] 0 0 rfl (by kernel_rfl) (fun _ _ => rfl) ?_; generalize hw : World.drew w53 = w54 at *; clear hw; refine dE (v := pt b35 4) (fax 4 rfl U111 rfl Z3 rfl rfl rfl) rfl rfl <| dE (ld rfl G3 (Ctx.cell hc (k := 1) rfl rfl rfl)) rfl rfl <| ad_ 1 rfl <| dE (v := pt b35 4) (fax 4 rfl U111 rfl Z3 rfl rfl rfl) rfl rfl <| dE (ld rfl G3 (Ctx.cell hc (k := 1) rfl rfl rfl)) rfl rfl ?_; replace hp := bind_some hp; obtain ⟨y55, hy55, hp⟩ := hp; obtain ⟨b58, o59, rfl, hi56, hi57⟩ := hc.ra 0 reads_own hy55; refine dE (ixx rfl rfl U23 Z3 hi56 hi57 rfl) rfl rfl ?_; have hcell62 := hc.rv 0 reads_own hy55; refine dE (ld rfl G3 (hcell62 0 _ rfl)) rfl rfl <| ad_ 3 rfl <| dn (qn (Wret ?_)); replace hc := hc.m [14, 14]; replace hc := S_ref23_Ledger.fd (x := x0) hc; replace hc := hc.m [13, 11, 9, 7, 5, 3]; obtain rfl := sj hp; refine f3 (v := .int .i64 y22.Fed) (u := .int .i64 y55) (z := .bool true) R22 M22 rfl rfl rfl ?_; exact ⟨_, rfl, k _ hc⟩
   · replace hp := gpos hp hb21; subst hb21; refine Wct rfl (Wseq (Wreg ?_)); refine au 3 rfl <| rn (qn (Wret (qr ?_))); replace hc := hc.m [6, 6]; replace hc := S_ref23_Ledger.fd (x := x0) hc; replace hc := hc.m [5, 3]; obtain rfl := sj hp; refine f3 (v := .int .i64 0) (u := .int .i64 0) (z := .bool false) R22 M22 rfl rfl rfl ?_; exact ⟨_, rfl, k _ hc⟩
 · replace hp := gpos hp (of_decide_eq_true hb3); (iterate 8 refine r0 rfl ?_); refine au 1 rfl <| rn (qn (Wct rfl (Wseq (Wreg ?_)))); refine au 3 rfl <| rn (qn (Wret (qr ?_))); obtain rfl := sj hp; refine f3 (v := .int .i64 0) (u := .int .i64 0) (z := .bool false) R22 M22 rfl rfl rfl ?_; exact ⟨_, rfl, k _ hc⟩

def ref23_Ledger_Answer.J1 (x1 : Int) (x3 : Int) (y9 : S_ref23_Entry) (j41 : S_ref23_Ledger) : Option (S_api_Say × Bool × Int × S_ref23_Ledger) :=
  some ((⟨x1, ((y9.Log.length : Nat) : Int), x3⟩ : S_api_Say), true, 0, j41)

def ref23_Ledger_Answer (N : Nat) (x0 : S_ref23_Ledger) (x1 : Int) (x2 : Int) (x3 : Int) : Option (S_api_Say × Bool × Int × S_ref23_Ledger) :=
  (ref23_Ledger_Find N x0 x1).bind fun r4 =>
  if r4 < 0 then
    some ((⟨0, 0, 0⟩ : S_api_Say), false, 121, x0)
  else
    (idx x0.L r4).bind fun y9 =>
    (ref23_Entry_Done y9).bind fun r26 =>
    if r26 = true then
      some ((⟨0, 0, 0⟩ : S_api_Say), false, 2, x0)
    else
      if x2 ≠ y9.Fed then
        some ((⟨0, 0, 0⟩ : S_api_Say), false, 2, x0)
      else
        (idx x0.L r4).bind fun y31 =>
        if (IntKind.i64.wrap (x2 + 1)) < (IntKind.i64.wrap (((y9.R.Prompt.length : Nat) : Int) + ((y9.Log.length : Nat) : Int))) then
          some ((⟨0, 0, 0⟩ : S_api_Say), false, 0, (⟨(x0.L.set (r4).toNat ({ y31 with Fed := (IntKind.i64.wrap (y9.Fed + 1)) }))⟩ : S_ref23_Ledger))
        else
          (app ([]) y9.Log).bind fun z100013 =>
          (app z100013 ([x3])).bind fun z100014 =>
          (idx (x0.L.set (r4).toNat ({ y31 with Fed := (IntKind.i64.wrap (y9.Fed + 1)) })) r4).bind fun y100015 =>
          ref23_Ledger_Answer.J1 x1 x3 y9 (⟨((x0.L.set (r4).toNat ({ y31 with Fed := (IntKind.i64.wrap (y9.Fed + 1)) })).set (r4).toNat ({ y100015 with Log := z100014 }))⟩ : S_ref23_Ledger)

theorem ref23_Ledger_Answer_any {N b0 : Nat} {x0 : S_ref23_Ledger} {x1 x2 x3 : Int} {Fr : List HP} {w : World} {r : S_api_Say × Bool × Int × S_ref23_Ledger} {K : Value → World → Prop}  (hc : Ctx w (S_ref23_Ledger.hp b0 x0 :: Fr)) (hp : ref23_Ledger_Answer N x0 x1 x2 x3 = some r)
    (k : ∀ w', Ctx w' (S_ref23_Ledger.hp b0 r.2.2.2 :: Fr) → K (.tuple #[.agg (S_api_Say.cz r.1).toArray, .bool r.2.1, .int .i64 r.2.2.1]) w') : Calls Try.prog 23 #[pt b0 0, .int .i64 x1, .int .i64 x2, .int .i64 x3] w (Ret K) := by
 unfold ref23_Ledger_Answer at hp; refine Center4 F23 M23 rfl rfl ?_; refine Wseq (Wreg ?_); refine rsE (Ctx.allocOp (cs := [.int .i64 0, .int .i64 0, .int .i64 0]) hc V35 rfl) rfl ?_; clear hc; rintro _ w3 ⟨b1, rfl, hc⟩; refine au 2 rfl <| rn (qn (Wseq (Wreg ?_))); refine au 2 rfl ?_; replace hp := bind_some hp; obtain ⟨r4, hr4, hp⟩ := hp; replace hc := hc.m [2]; refine kz C44 ?_; refine ref23_Ledger_Find_any hc hr4 ?_; clear hc; intro w5 hc; refine au 1 rfl <| rn (qn (Wseq (Wseq (Wreg ?_)))); refine au 2 rfl <| rn (qn ?_); refine Wif hp (fun _ h => ?_) fun _ h => ?_
 · replace hp := h; clear h; refine Wskip (qn (Wseq (Wreg ?_))); refine au 2 rfl <| sz (v := pt b0 0) (fax 0 rfl U70 rfl Z68 rfl rfl rfl) ?_; replace hc := S_ref23_Ledger.uf hc; obtain ⟨a7, q8, hc⟩ := hc; refine sz (ld rfl G68 (Ctx.cell hc (k := 0) rfl rfl rfl)) <| au 1 rfl ?_; replace hp := bind_some hp; obtain ⟨y9, hy9, hp⟩ := hp; obtain ⟨b12, o13, rfl, hi10, hi11⟩ := hc.ra 1 reads_own hy9; refine sz (ixx rfl rfl U68 Z111 hi10 hi11 rfl) ?_; replace hc := Ctx.rdCell hc (k := 1) rfl rfl reads_own hy9; obtain ⟨cs15, hc, hcell16⟩ := hc; replace hc := S_ref23_Entry.op hc; obtain ⟨a18, q19, a20, q21, u17, hc⟩ := hc; subst u17; refine sz (v := .agg (S_ref23_Entry.cz y9 a18 q19 a20 q21).toArray) (ldg rfl G111 Z111 rfl (elCells hcell16 0 (vs := (S_ref23_Entry.cz y9 a18 q19 a20 q21)) rfl)) ?_; refine rsE (Ctx.allocOp (cs := [.int .i64 0, .int .i64 0, .slice none 0 0, .slice none 0 0, .int .i64 0]) hc V111 rfl) rfl ?_; clear hc; rintro _ w24 ⟨b22, rfl, hc⟩; refine pa hc 0 Z111 ?_; clear hc; rintro w25 hc; refine rn (qn (Wseq (Wseq (Wreg ?_)))); refine lg G111 Z111 hc 0 ?_; replace hc := hc.dz 1; replace hc := hc.dz 3; replace hp := bind_some hp; obtain ⟨r26, hr26, hp⟩ := hp; replace hc := hc.m [2]; refine kz C45 ?_; refine ref23_Entry_Done_any (x0 := y9) hc hr26 ?_; clear hc; intro w27 hc; refine au 1 rfl ?_; cases hb28 : r26
   · replace hp := gneg hp (by rw [hb28]; exact Bool.false_ne_true); subst hb28; refine au 1 rfl ?_; refine fq 4 U111 Z3 G3 hc 0 ?_; refine au 2 rfl <| rn (qn ?_); refine Wif hp (fun _ h => ?_) fun _ h => ?_
     · replace hp := h; clear h; refine Wskip (qn (Wseq ?_)); replace hc := hc.drew; refine Wdrw (fun j w' => True) [0, 1, 3, 7, 0, 0, 32, 96, 255, 511, 1023] 0 72 rfl (by kernel_rfl) (fun _ _ => trivial) ?_; generalize hw : World.drew w27 = w30 at *; clear hw; refine ad_ 2 rfl <| ds (v := pt b0 0) rfl (fun w' hF => fax 0 rfl U70 rfl Z68 rfl rfl rfl) rfl <| dx rfl (ld rfl G68 (Ctx.cell hc (k := 3) rfl rfl rfl)) rfl rfl <| ad_ 1 rfl <| ds (v := pt b22 4) rfl (fun w' hF => fax 4 rfl U111 rfl Z3 rfl rfl rfl) rfl <| dx rfl (ld rfl G3 (Ctx.cell hc (k := 0) rfl rfl rfl)) rfl rfl <| ad_ 1 rfl ?_; replace hp := bind_some hp; obtain ⟨y31, hy31, hp⟩ := hp; obtain ⟨b34, o35, -, hi32, hi33⟩ := hc.ra 4 reads_own hy31; refine ds rfl (fun w' hF => ixx rfl rfl U68 Z111 hi32 hi33 rfl) rfl <| ds (v := .pointer (some ⟨b12, o13 + (r4).toNat * 5 + 4, none⟩)) rfl (fun w' hF => fax 4 rfl U111 rfl Z3 rfl rfl rfl) rfl ?_; refine duE (Ctx.ownPutOp hc (k := 4) rfl rfl (z := y31) (z' := { y31 with Fed := (IntKind.i64.wrap (y9.Fed + 1)) }) hy31 4 rfl (u := .int .i64 (IntKind.i64.wrap (y9.Fed + 1))) rfl rfl rfl Z3 (fun _ _ _ h => by obtain ⟨_, _, rfl, ⟨_, _, rfl, rfl, ⟨_, _, rfl, rfl, ⟨_, rfl, hs37⟩⟩⟩, ⟨_, _, rfl, ⟨_, rfl, hs38⟩, rfl⟩⟩ := h; exact ⟨_, _, rfl, ⟨_, _, rfl, rfl, ⟨_, _, rfl, rfl, ⟨_, rfl, hs37⟩⟩⟩, ⟨_, _, rfl, ⟨_, rfl, hs38⟩, rfl⟩⟩) rfl) rfl rfl ?_; clear hc; rintro w39 hc; replace hc := Ctx.n4 hc; refine ⟨fun j hj hb => trivial, ?_⟩; refine dn (qn (Wseq (Wseq (Wreg ?_)))); refine au 2 rfl <| sz (v := pt b22 0) (fax 0 rfl U111 rfl Z29 rfl rfl rfl) ?_; refine fq 2 U29 Z23 G23 hc 0 ?_; refine sz (ln rfl U23) ?_; refine fq 3 U111 Z23 G23 hc 0 ?_; refine sz (ln rfl U23) <| au 2 rfl <| rn (qn ?_); refine Wif hp (fun _ h => ?_) fun _ h => ?_
       · replace hp := h; clear h; refine Wskip (qn ?_); refine Wseqm (rg [57, 14]) [] (fun vs w' => ∃ j41 : S_ref23_Ledger, vs = [] ∧ ref23_Ledger_Answer.J1 x1 x3 y9 j41 = some r ∧ Ctx w' (B b22 (S_ref23_Entry.cz y9 a18 q19 a20 q21) 111 :: hR .i64 a18 q19 y9.R.Prompt :: hR .i64 a20 q21 y9.Log :: S_ref23_Ledger.hp b0 j41 :: B b1 [.int .i64 0, .int .i64 0, .int .i64 0] 35 :: Fr)) ?_ ?_
         · replace hp := bind_some hp; obtain ⟨z100013, hz100013, hp⟩ := hp; replace hp := bind_some hp; obtain ⟨z100014, hz100014, hp⟩ := hp; replace hp := bind_some hp; obtain ⟨y100015, hy100015, hp⟩ := hp; refine Wrg rfl ?_; refine RGsplit 5 10 rfl ?_ ?_
           · refine RGsplit 8 10 rfl ?_ ?_
             · replace hc := hc.drew; refine RGleaf [0, 1, 2, 3, 4, 5, 6, 7, 8, 9, 10, 11, 12, 13, 14] (fun j w' => (j = 3 → w'.cell? ⟨b0, 0, none⟩ = some (.slice (some ⟨b12, o13, none⟩) x0.L.length q8)) ∧ (j = 7 → w'.cell? ⟨b22, 3, none⟩ = some (.slice a20 y9.Log.length q21)) ∧ True) [0, 1, 3, 7, 0, 0, 0, 64, 224, 0, 992, 2016, 4095, 8191, 16383] 0 0 (by kernel_rfl) (by kernel_rfl) (fun j hj => ⟨fun _ => hc.cell (k := 3) rfl rfl rfl, fun _ => hc.cell (k := 0) rfl rfl rfl, trivial⟩) ?_; generalize hw : World.drew w39 = w42 at *; clear hw; refine ad_ 2 rfl <| ds (v := pt b0 0) rfl (fun w' hF => fax 0 rfl U70 rfl Z68 rfl rfl rfl) rfl <| ds rfl (fun w' hF => ld rfl G68 ((hF.1 rfl))) rfl <| ad_ 1 rfl ?_; refine deE (Ctx.builtOp (css := []) (xs := ([] : List Int)) (E := (pInt .i64)) hc U23 Z3 V3 rfl rfl rfl rfl rfl rfl rfl rfl) rfl rfl ?_; clear hc; rintro _ w44 ⟨a43, rfl, hc⟩; refine ⟨fun j hj hb => ⟨fun _ => hc.cell (k := 4) rfl rfl rfl, fun _ => hc.cell (k := 1) rfl rfl rfl, trivial⟩, ?_⟩; refine ds (v := pt b22 3) rfl (fun w' hF => fax 3 rfl U111 rfl Z23 rfl rfl rfl) rfl <| ds rfl (fun w' hF => ld rfl G23 ((hF.2.1 rfl))) rfl ?_; obtain ⟨hg45, e46⟩ := app_some hz100013; refine deE (hc.ap 0 3 reads_ro U23 Try.t3 hg45) rfl rfl ?_; clear hc; rintro _ w49 ⟨a47, q48, rfl, hc⟩; rw [← e46] at hc ⊢; replace hc := Ctx.n0 hc; refine ⟨fun j hj hb => ⟨fun _ => hc.cell (k := 4) rfl rfl rfl, fun e => nja hj e, trivial⟩, ?_⟩; refine ad_ 1 rfl ?_; refine deE (oneI hc U23 Z3 V3) rfl rfl ?_; clear hc; rintro _ w51 ⟨a50, rfl, hc⟩; refine ⟨fun j hj hb => ⟨fun _ => hc.cell (k := 5) rfl rfl rfl, fun e => nja hj e, trivial⟩, ?_⟩; obtain ⟨hg52, e53⟩ := app_some hz100014; refine deE (hc.ap 1 0 reads_own U23 Try.t3 hg52) rfl rfl ?_; clear hc; rintro _ w56 ⟨a54, q55, rfl, hc⟩; rw [← e53] at hc ⊢; replace hc := Ctx.n1 hc; refine ⟨fun j hj hb => ⟨fun _ => hc.cell (k := 5) rfl rfl rfl, fun e => nja hj e, trivial⟩, ?_⟩; obtain ⟨b59, o60, -, hi57, hi58⟩ := hc.ra 6 reads_own hy100015; refine ds rfl (fun w' hF => ixx rfl rfl U68 Z111 hi57 hi58 rfl) rfl <| ds (v := .pointer (some ⟨b12, o13 + (r4).toNat * 5 + 3, none⟩)) rfl (fun w' hF => fax 3 rfl U111 rfl Z23 rfl rfl rfl) rfl ?_; replace hc := hc.freeze (k := 1) rfl rfl rfl; replace hc := Ctx.n1 hc; replace hc := hc.dz 1; refine duE (Ctx.ownPutH hc (k := 6) rfl rfl (z := y100015) (z' := { y100015 with Log := z100014 }) hy100015 3 rfl (u := .slice a54 z100014.length q55) rfl rfl rfl Z23 (fun _ _ _ hF h => by obtain ⟨_, hFe, hF⟩ := hF; cases hFe; obtain ⟨_, _, rfl, ⟨_, _, rfl, rfl, ⟨_, _, rfl, rfl, ⟨_, rfl, hs62⟩⟩⟩, ⟨_, _, rfl, ⟨_, rfl, hs63⟩, rfl⟩⟩ := h; exact ⟨_, _, rfl, ⟨_, _, rfl, rfl, ⟨_, _, rfl, rfl, ⟨_, rfl, hs62⟩⟩⟩, ⟨_, _, rfl, ⟨_, rfl, hF⟩, rfl⟩⟩) rfl) rfl rfl ?_; clear hc; rintro w64 hc; replace hc := Ctx.n6 hc; refine ⟨fun j hj hb => ⟨fun e => nja hj e, fun e => nja hj e, trivial⟩, ?_⟩; refine dn (qn ?_); replace hc := hc.m [12, 12]; replace hc := S_ref23_Ledger.fd (x := (⟨((x0.L.set (r4).toNat ({ y31 with Fed := (IntKind.i64.wrap (y9.Fed + 1)) })).set (r4).toNat ({ y100015 with Log := z100014 }))⟩ : S_ref23_Ledger)) hc; replace hc := hc.m [5, 3, 8, 2, 8, 8, 8]; exact ⟨⟨(⟨((x0.L.set (r4).toNat ({ y31 with Fed := (IntKind.i64.wrap (y9.Fed + 1)) })).set (r4).toNat ({ y100015 with Log := z100014 }))⟩ : S_ref23_Ledger), rfl, hp, hc⟩, (kl rfl kb)⟩
             · replace hc := hc.drew; refine RGleaf [0, 1, 2, 3, 4, 5, 6, 7, 9, 10, 8, 11, 12, 13, 14] (fun j w' => (j = 3 → w'.cell? ⟨b0, 0, none⟩ = some (.slice (some ⟨b12, o13, none⟩) x0.L.length q8)) ∧ (j = 7 → w'.cell? ⟨b22, 3, none⟩ = some (.slice a20 y9.Log.length q21)) ∧ True) [0, 1, 3, 7, 0, 0, 0, 64, 0, 288, 992, 2016, 4095, 8191, 16383] 0 0 (by kernel_rfl) (by kernel_rfl) (fun j hj => ⟨fun _ => hc.cell (k := 3) rfl rfl rfl, fun _ => hc.cell (k := 0) rfl rfl rfl, trivial⟩) ?_; generalize hw : World.drew w39 = w65 at *; clear hw; refine ad_ 2 rfl <| ds (v := pt b0 0) rfl (fun w' hF => fax 0 rfl U70 rfl Z68 rfl rfl rfl) rfl <| ds rfl (fun w' hF => ld rfl G68 ((hF.1 rfl))) rfl <| ad_ 1 rfl ?_; refine deE (Ctx.builtOp (css := []) (xs := ([] : List Int)) (E := (pInt .i64)) hc U23 Z3 V3 rfl rfl rfl rfl rfl rfl rfl rfl) rfl rfl ?_; clear hc; rintro _ w67 ⟨a66, rfl, hc⟩; refine ⟨fun j hj hb => ⟨fun _ => hc.cell (k := 4) rfl rfl rfl, fun _ => hc.cell (k := 1) rfl rfl rfl, trivial⟩, ?_⟩; refine ds (v := pt b22 3) rfl (fun w' hF => fax 3 rfl U111 rfl Z23 rfl rfl rfl) rfl <| ds rfl (fun w' hF => ld rfl G23 ((hF.2.1 rfl))) rfl <| ad_ 1 rfl ?_; refine deE (oneI hc U23 Z3 V3) rfl rfl ?_; clear hc; rintro _ w69 ⟨a68, rfl, hc⟩; refine ⟨fun j hj hb => ⟨fun _ => hc.cell (k := 5) rfl rfl rfl, fun _ => hc.cell (k := 2) rfl rfl rfl, trivial⟩, ?_⟩; obtain ⟨hg70, e71⟩ := app_some hz100013; refine deE (hc.ap 1 4 reads_ro U23 Try.t3 hg70) rfl rfl ?_; clear hc; rintro _ w74 ⟨a72, q73, rfl, hc⟩; rw [← e71] at hc ⊢; replace hc := Ctx.n1 hc; refine ⟨fun j hj hb => ⟨fun _ => hc.cell (k := 5) rfl rfl rfl, fun e => nja hj e, trivial⟩, ?_⟩; obtain ⟨hg75, e76⟩ := app_some hz100014; refine deE (hc.ap 1 0 reads_own U23 Try.t3 hg75) rfl rfl ?_; clear hc; rintro _ w79 ⟨a77, q78, rfl, hc⟩; rw [← e76] at hc ⊢; replace hc := Ctx.n1 hc; refine ⟨fun j hj hb => ⟨fun _ => hc.cell (k := 5) rfl rfl rfl, fun e => nja hj e, trivial⟩, ?_⟩; obtain ⟨b82, o83, -, hi80, hi81⟩ := hc.ra 6 reads_own hy100015; refine ds rfl (fun w' hF => ixx rfl rfl U68 Z111 hi80 hi81 rfl) rfl <| ds (v := .pointer (some ⟨b12, o13 + (r4).toNat * 5 + 3, none⟩)) rfl (fun w' hF => fax 3 rfl U111 rfl Z23 rfl rfl rfl) rfl ?_; replace hc := hc.freeze (k := 1) rfl rfl rfl; replace hc := Ctx.n1 hc; replace hc := hc.dz 1; refine duE (Ctx.ownPutH hc (k := 6) rfl rfl (z := y100015) (z' := { y100015 with Log := z100014 }) hy100015 3 rfl (u := .slice a77 z100014.length q78) rfl rfl rfl Z23 (fun _ _ _ hF h => by obtain ⟨_, hFe, hF⟩ := hF; cases hFe; obtain ⟨_, _, rfl, ⟨_, _, rfl, rfl, ⟨_, _, rfl, rfl, ⟨_, rfl, hs85⟩⟩⟩, ⟨_, _, rfl, ⟨_, rfl, hs86⟩, rfl⟩⟩ := h; exact ⟨_, _, rfl, ⟨_, _, rfl, rfl, ⟨_, _, rfl, rfl, ⟨_, rfl, hs85⟩⟩⟩, ⟨_, _, rfl, ⟨_, rfl, hF⟩, rfl⟩⟩) rfl) rfl rfl ?_; clear hc; rintro w87 hc; replace hc := Ctx.n6 hc; refine ⟨fun j hj hb => ⟨fun e => nja hj e, fun e => nja hj e, trivial⟩, ?_⟩; refine dn (qn ?_); replace hc := hc.m [12, 12]; replace hc := S_ref23_Ledger.fd (x := (⟨((x0.L.set (r4).toNat ({ y31 with Fed := (IntKind.i64.wrap (y9.Fed + 1)) })).set (r4).toNat ({ y100015 with Log := z100014 }))⟩ : S_ref23_Ledger)) hc; replace hc := hc.m [5, 3, 8, 2, 8, 8, 8]; exact ⟨⟨(⟨((x0.L.set (r4).toNat ({ y31 with Fed := (IntKind.i64.wrap (y9.Fed + 1)) })).set (r4).toNat ({ y100015 with Log := z100014 }))⟩ : S_ref23_Ledger), rfl, hp, hc⟩, (kl rfl kb)⟩
           · replace hc := hc.drew; refine RGleaf [0, 1, 2, 3, 4, 6, 7, 9, 10, 5, 8, 11, 12, 13, 14] (fun j w' => (j = 3 → w'.cell? ⟨b0, 0, none⟩ = some (.slice (some ⟨b12, o13, none⟩) x0.L.length q8)) ∧ (j = 6 → w'.cell? ⟨b22, 3, none⟩ = some (.slice a20 y9.Log.length q21)) ∧ True) [0, 1, 3, 7, 0, 0, 32, 0, 128, 384, 992, 2016, 4095, 8191, 16383] 0 0 (by kernel_rfl) (by kernel_rfl) (fun j hj => ⟨fun _ => hc.cell (k := 3) rfl rfl rfl, fun _ => hc.cell (k := 0) rfl rfl rfl, trivial⟩) ?_; generalize hw : World.drew w39 = w88 at *; clear hw; refine ad_ 2 rfl <| ds (v := pt b0 0) rfl (fun w' hF => fax 0 rfl U70 rfl Z68 rfl rfl rfl) rfl <| ds rfl (fun w' hF => ld rfl G68 ((hF.1 rfl))) rfl <| ad_ 1 rfl <| ds (v := pt b22 3) rfl (fun w' hF => fax 3 rfl U111 rfl Z23 rfl rfl rfl) rfl <| ds rfl (fun w' hF => ld rfl G23 ((hF.2.1 rfl))) rfl <| ad_ 1 rfl ?_; refine deE (oneI hc U23 Z3 V3) rfl rfl ?_; clear hc; rintro _ w90 ⟨a89, rfl, hc⟩; refine ⟨fun j hj hb => ⟨fun _ => hc.cell (k := 4) rfl rfl rfl, fun _ => hc.cell (k := 1) rfl rfl rfl, trivial⟩, ?_⟩; refine deE (Ctx.builtOp (css := []) (xs := ([] : List Int)) (E := (pInt .i64)) hc U23 Z3 V3 rfl rfl rfl rfl rfl rfl rfl rfl) rfl rfl ?_; clear hc; rintro _ w92 ⟨a91, rfl, hc⟩; refine ⟨fun j hj hb => ⟨fun _ => hc.cell (k := 5) rfl rfl rfl, fun _ => hc.cell (k := 2) rfl rfl rfl, trivial⟩, ?_⟩; obtain ⟨hg93, e94⟩ := app_some hz100013; refine deE (hc.ap 0 4 reads_ro U23 Try.t3 hg93) rfl rfl ?_; clear hc; rintro _ w97 ⟨a95, q96, rfl, hc⟩; rw [← e94] at hc ⊢; replace hc := Ctx.n0 hc; refine ⟨fun j hj hb => ⟨fun _ => hc.cell (k := 5) rfl rfl rfl, fun e => nja hj e, trivial⟩, ?_⟩; obtain ⟨hg98, e99⟩ := app_some hz100014; refine deE (hc.ap 0 1 reads_own U23 Try.t3 hg98) rfl rfl ?_; clear hc; rintro _ w102 ⟨a100, q101, rfl, hc⟩; rw [← e99] at hc ⊢; replace hc := Ctx.n0 hc; refine ⟨fun j hj hb => ⟨fun _ => hc.cell (k := 5) rfl rfl rfl, fun e => nja hj e, trivial⟩, ?_⟩; obtain ⟨b105, o106, -, hi103, hi104⟩ := hc.ra 6 reads_own hy100015; refine ds rfl (fun w' hF => ixx rfl rfl U68 Z111 hi103 hi104 rfl) rfl <| ds (v := .pointer (some ⟨b12, o13 + (r4).toNat * 5 + 3, none⟩)) rfl (fun w' hF => fax 3 rfl U111 rfl Z23 rfl rfl rfl) rfl ?_; replace hc := hc.freeze (k := 0) rfl rfl rfl; replace hc := Ctx.n0 hc; replace hc := hc.dz 0; refine duE (Ctx.ownPutH hc (k := 6) rfl rfl (z := y100015) (z' := { y100015 with Log := z100014 }) hy100015 3 rfl (u := .slice a100 z100014.length q101) rfl rfl rfl Z23 (fun _ _ _ hF h => by obtain ⟨_, hFe, hF⟩ := hF; cases hFe; obtain ⟨_, _, rfl, ⟨_, _, rfl, rfl, ⟨_, _, rfl, rfl, ⟨_, rfl, hs108⟩⟩⟩, ⟨_, _, rfl, ⟨_, rfl, hs109⟩, rfl⟩⟩ := h; exact ⟨_, _, rfl, ⟨_, _, rfl, rfl, ⟨_, _, rfl, rfl, ⟨_, rfl, hs108⟩⟩⟩, ⟨_, _, rfl, ⟨_, rfl, hF⟩, rfl⟩⟩) rfl) rfl rfl ?_; clear hc; rintro w110 hc; replace hc := Ctx.n6 hc; refine ⟨fun j hj hb => ⟨fun e => nja hj e, fun e => nja hj e, trivial⟩, ?_⟩; refine dn (qn ?_); replace hc := hc.m [12, 12]; replace hc := S_ref23_Ledger.fd (x := (⟨((x0.L.set (r4).toNat ({ y31 with Fed := (IntKind.i64.wrap (y9.Fed + 1)) })).set (r4).toNat ({ y100015 with Log := z100014 }))⟩ : S_ref23_Ledger)) hc; replace hc := hc.m [5, 3, 8, 2, 8, 8, 8]; exact ⟨⟨(⟨((x0.L.set (r4).toNat ({ y31 with Fed := (IntKind.i64.wrap (y9.Fed + 1)) })).set (r4).toNat ({ y100015 with Log := z100014 }))⟩ : S_ref23_Ledger), rfl, hp, hc⟩, (kl rfl kb)⟩
         · clear hp hc; intro vs u w111 hJ; obtain ⟨j41, rfl, hp, hc⟩ := hJ; unfold ref23_Ledger_Answer.J1 at hp; refine Wseq (Wreg ?_); refine au 1 rfl ?_; refine fq 3 U111 Z23 G23 hc 0 ?_; refine sz (ln rfl U23) <| au 1 rfl <| sz (v := .agg #[.int .i64 x1, .int .i64 ((y9.Log.length : Nat) : Int), .int .i64 x3]) (bd_35_0_1_2 rfl rfl rfl) <| pa hc 4 Z35 ?_; clear hc; rintro w112 hc; refine au 2 rfl <| rn (qn (Wret ?_)); have hres := Ctx.cells hc (k := 4) rfl rfl 0 (vs := [.int .i64 x1, .int .i64 ((y9.Log.length : Nat) : Int), .int .i64 x3]) rfl; replace hc := hc.m [9, 5, 3, 1]; obtain rfl := sj hp; refine f3c (cs := [.int .i64 x1, .int .i64 ((y9.Log.length : Nat) : Int), .int .i64 x3]) (u := .bool true) (z := .int .i64 0) R23 M23 rfl G35 Z35 rfl hres rfl rfl ?_; exact ⟨_, rfl, k _ hc⟩
       · replace hp := h; clear h; refine Wseq (Wreg ?_); refine sz (v := .agg #[.int .i64 0, .int .i64 0, .int .i64 0]) (bd_35_ ) <| pa hc 5 Z35 ?_; clear hc; rintro w113 hc; refine au 2 rfl <| rn (qn (Wret (qr ?_))); have hres := Ctx.cells hc (k := 5) rfl rfl 0 (vs := [.int .i64 0, .int .i64 0, .int .i64 0]) rfl; replace hc := hc.m [8, 8]; replace hc := S_ref23_Ledger.fd (x := (⟨(x0.L.set (r4).toNat ({ y31 with Fed := (IntKind.i64.wrap (y9.Fed + 1)) }))⟩ : S_ref23_Ledger)) hc; replace hc := hc.m [9, 7, 5, 3]; obtain rfl := sj hp; refine f3c (cs := [.int .i64 0, .int .i64 0, .int .i64 0]) (u := .bool false) (z := .int .i64 0) R23 M23 rfl G35 Z35 rfl hres rfl rfl ?_; exact ⟨_, rfl, k _ hc⟩
     · replace hp := h; clear h; refine Wseq (Wreg ?_); refine sz (v := .agg #[.int .i64 0, .int .i64 0, .int .i64 0]) (bd_35_ ) <| pa hc 5 Z35 ?_; clear hc; rintro w114 hc; refine au 2 rfl <| rn (qn (Wret (qr ?_))); have hres := Ctx.cells hc (k := 5) rfl rfl 0 (vs := [.int .i64 0, .int .i64 0, .int .i64 0]) rfl; replace hc := hc.m [8, 8]; replace hc := S_ref23_Ledger.fd (x := x0) hc; replace hc := hc.m [9, 7, 5, 3]; obtain rfl := sj hp; refine f3c (cs := [.int .i64 0, .int .i64 0, .int .i64 0]) (u := .bool false) (z := .int .i64 2) R23 M23 rfl G35 Z35 rfl hres rfl rfl ?_; exact ⟨_, rfl, k _ hc⟩
   · replace hp := gpos hp hb28; subst hb28; (iterate 4 refine r0 rfl ?_); refine au 1 rfl <| rn (qn (Wct rfl (Wseq (Wreg ?_)))); refine sz (v := .agg #[.int .i64 0, .int .i64 0, .int .i64 0]) (bd_35_ ) <| pa hc 5 Z35 ?_; clear hc; rintro w115 hc; refine au 2 rfl <| rn (qn (Wret (qr ?_))); have hres := Ctx.cells hc (k := 5) rfl rfl 0 (vs := [.int .i64 0, .int .i64 0, .int .i64 0]) rfl; replace hc := hc.m [8, 8]; replace hc := S_ref23_Ledger.fd (x := x0) hc; replace hc := hc.m [9, 7, 5, 3]; obtain rfl := sj hp; refine f3c (cs := [.int .i64 0, .int .i64 0, .int .i64 0]) (u := .bool false) (z := .int .i64 2) R23 M23 rfl G35 Z35 rfl hres rfl rfl ?_; exact ⟨_, rfl, k _ hc⟩
 · replace hp := h; clear h; refine Wseq (Wreg ?_); refine sz (v := .agg #[.int .i64 0, .int .i64 0, .int .i64 0]) (bd_35_ ) <| pa hc 1 Z35 ?_; clear hc; rintro w116 hc; refine au 2 rfl <| rn (qn (Wret (qr ?_))); have hres := Ctx.cells hc (k := 1) rfl rfl 0 (vs := [.int .i64 0, .int .i64 0, .int .i64 0]) rfl; replace hc := hc.m [3]; obtain rfl := sj hp; refine f3c (cs := [.int .i64 0, .int .i64 0, .int .i64 0]) (u := .bool false) (z := .int .i64 121) R23 M23 rfl G35 Z35 rfl hres rfl rfl ?_; exact ⟨_, rfl, k _ hc⟩

def ref23_Ledger_Rewind.J2 (j2 : Int) (k1 : S_ref23_Ledger → Int → Option (S_ref23_Ledger)) (j7 : S_ref23_Ledger) : Option (S_ref23_Ledger) :=
  k1 j7 (IntKind.i64.wrap (j2 + 1))

def ref23_Ledger_Rewind.J4 (j9 : Int) (k3 : Bool → Int → Option (S_ref23_Ledger)) (j24 : Bool) : Option (S_ref23_Ledger) :=
  k3 j24 (IntKind.i64.wrap (j9 + 1))

def ref23_Ledger_Rewind.L3 (x1 : (List Int)) (j1 : S_ref23_Ledger) (j2 : Int) (k1 : S_ref23_Ledger → Int → Option (S_ref23_Ledger)) : Nat → Bool → Int → Option (S_ref23_Ledger)
  | 0, _, _ => none
  | m3 + 1, j8, j9 =>
    if j9 < ((x1.length : Nat) : Int) then
      if j8 = true then
        ref23_Ledger_Rewind.J4 j9 (ref23_Ledger_Rewind.L3 x1 j1 j2 k1 m3) true
      else
        (idx x1 j9).bind fun y29 =>
        (idx j1.L j2).bind fun y38 =>
        ref23_Ledger_Rewind.J4 j9 (ref23_Ledger_Rewind.L3 x1 j1 j2 k1 m3) (decide (y29 = y38.R.ID))
    else
      if j8 = true then
        (idx j1.L j2).bind fun y15 =>
        ref23_Ledger_Rewind.J2 j2 k1 (⟨(j1.L.set (j2).toNat ({ y15 with Fed := 0 }))⟩ : S_ref23_Ledger)
      else
        ref23_Ledger_Rewind.J2 j2 k1 j1

def ref23_Ledger_Rewind.L1 (N : Nat) (x1 : (List Int)) : Nat → S_ref23_Ledger → Int → Option (S_ref23_Ledger)
  | 0, _, _ => none
  | m1 + 1, j1, j2 =>
    if j2 < ((j1.L.length : Nat) : Int) then
      ref23_Ledger_Rewind.L3 x1 j1 j2 (ref23_Ledger_Rewind.L1 N x1 m1) N (decide (((x1.length : Nat) : Int) = 0)) 0
    else
      some j1

def ref23_Ledger_Rewind (N : Nat) (x0 : S_ref23_Ledger) (x1 : (List Int)) : Option (S_ref23_Ledger) :=
  ref23_Ledger_Rewind.L1 N x1 N x0 0

theorem ref23_Ledger_Rewind_any {N b0 nx1 qx1 : Nat} {x0 r : S_ref23_Ledger} {x1 : (List Int)} {ax1 : Option Addr} {P1 : HP} {Fr : List HP} {w : World} {K : Value → World → Prop} (hrd1 : Reads P1 (pInt .i64) (.slice ax1 nx1 qx1) x1) (hc : Ctx w (S_ref23_Ledger.hp b0 x0 :: P1 :: Fr)) (hp : ref23_Ledger_Rewind N x0 x1 = some r)
    (k : ∀ w', Ctx w' (S_ref23_Ledger.hp b0 r :: P1 :: Fr) → K (.tuple #[]) w') : Calls Try.prog 24 #[pt b0 0, .slice ax1 nx1 qx1] w (Ret K) := by
 unfold ref23_Ledger_Rewind at hp; refine Center2 F24 M24 rfl rfl ?_; obtain ⟨hn1, _⟩ := Ctx.rdLen hc (k := 1) rfl rfl hrd1; subst hn1; refine Wseq (Wreg ?_); refine au 1 rfl <| rn (qn (Wblk ?_)); refine Wloop (rg [4, 46]) [4] (fun m vs w' => ∃ j1 : S_ref23_Ledger, ∃ j2 : Int, vs = [.int .i64 j2] ∧ ref23_Ledger_Rewind.L1 N x1 m j1 j2 = some r ∧ Ctx w' (S_ref23_Ledger.hp b0 j1 :: P1 :: Fr)) N ?_ ?_
 · exact ⟨x0, 0, rfl, hp, hc⟩
 · clear hp hc; intro m vs u w3 hJ; obtain ⟨j1, j2, rfl, hp, hc⟩ := hJ; rcases m with _ | m1
   · cases (show none = some r from hp)
   rw [ref23_Ledger_Rewind.L1] at hp; refine Wseq (Wseq (Wreg ?_)); refine au 3 rfl <| sz (v := pt b0 0) (fax 0 rfl U70 rfl Z68 rfl rfl rfl) ?_; replace hc := S_ref23_Ledger.uf hc; obtain ⟨a4, q5, hc⟩ := hc; refine sz (ld rfl G68 (Ctx.cell hc (k := 0) rfl rfl rfl)) <| sz (ln rfl U68) <| au 1 rfl <| rn (qn ?_); refine Wif hp (fun _ h => ?_) fun _ h => ?_
   · replace hp := h; clear h; refine Wexit (qx (qx (be ?_))); refine f0n R24 ?_; replace hc := hc.m [2, 2]; replace hc := S_ref23_Ledger.fd (x := j1) hc; obtain rfl := sj hp; exact ⟨_, rfl, k _ hc⟩
   · replace hp := h; clear h; refine Wskip (qn ?_); refine Wseqm (rg [5, 2, 16, 34]) [] (fun vs w' => ∃ j7 : S_ref23_Ledger, vs = [] ∧ ref23_Ledger_Rewind.J2 j2 (ref23_Ledger_Rewind.L1 N x1 m1) j7 = some r ∧ Ctx w' (S_ref23_Ledger.hp b0 j7 :: P1 :: Fr)) ?_ ?_
     · refine Wblk (Wseq (Wreg ?_)); refine au 1 rfl <| sz (ln rfl U23) <| au 2 rfl <| rn (qn (Wseq (Wseq (Wreg ?_)))); refine au 1 rfl <| rn (qn (Wblk ?_)); replace hc := hc.m [2, 2]; replace hc := S_ref23_Ledger.fd (x := j1) hc; refine Wloop (rg [5, 2, 19, 23]) [5, 6] (fun m vs w' => ∃ j8 : Bool, ∃ j9 : Int, vs = [.bool j8, .int .i64 j9] ∧ ref23_Ledger_Rewind.L3 x1 j1 j2 (ref23_Ledger_Rewind.L1 N x1 m1) m j8 j9 = some r ∧ Ctx w' (S_ref23_Ledger.hp b0 j1 :: P1 :: Fr)) N ?_ ?_
       · exact ⟨decide (((x1.length : Nat) : Int) = 0), 0, rfl, hp, hc⟩
       · clear hp hc; intro m vs u w10 hJ; obtain ⟨j8, j9, rfl, hp, hc⟩ := hJ; rcases m with _ | m3
         · cases (show none = some r from hp)
         rw [ref23_Ledger_Rewind.L3] at hp; refine Wseq (Wseq (Wreg ?_)); refine au 2 rfl <| sz (ln rfl U23) <| au 1 rfl <| rn (qn ?_); refine Wif hp (fun _ h => ?_) fun _ h => ?_
         · replace hp := h; clear h; refine Wexit (qx (qx (be (qn (Wseq (Wreg ?_)))))); refine au 1 rfl <| rn (qn ?_); cases hb12 : j8
           · replace hp := gneg hp (by rw [hb12]; exact Bool.false_ne_true); subst hb12; refine Wcf rfl (Wskip (bn (qn ?_))); exact ⟨⟨j1, rfl, hp, hc⟩, (kl rfl (km rfl (kl rfl kb)))⟩
           · replace hp := gpos hp hb12; subst hb12; refine Wct rfl (Wreg ?_); refine au 2 rfl <| sz (v := pt b0 0) (fax 0 rfl U70 rfl Z68 rfl rfl rfl) ?_; replace hc := S_ref23_Ledger.uf hc; obtain ⟨a13, q14, hc⟩ := hc; refine sz (ld rfl G68 (Ctx.cell hc (k := 0) rfl rfl rfl)) <| au 1 rfl ?_; replace hp := bind_some hp; obtain ⟨y15, hy15, hp⟩ := hp; obtain ⟨b18, o19, rfl, hi16, hi17⟩ := hc.ra 1 reads_own hy15; refine sz (ixx rfl rfl U68 Z111 hi16 hi17 rfl) <| sz (v := .pointer (some ⟨b18, o19 + (j2).toNat * 5 + 4, none⟩)) (fax 4 rfl U111 rfl Z3 rfl rfl rfl) ?_; refine ruE (Ctx.ownPutOp hc (k := 1) rfl rfl (z := y15) (z' := { y15 with Fed := 0 }) hy15 4 rfl (u := .int .i64 0) rfl rfl rfl Z3 (fun _ _ _ h => by obtain ⟨_, _, rfl, ⟨_, _, rfl, rfl, ⟨_, _, rfl, rfl, ⟨_, rfl, hs21⟩⟩⟩, ⟨_, _, rfl, ⟨_, rfl, hs22⟩, rfl⟩⟩ := h; exact ⟨_, _, rfl, ⟨_, _, rfl, rfl, ⟨_, _, rfl, rfl, ⟨_, rfl, hs21⟩⟩⟩, ⟨_, _, rfl, ⟨_, rfl, hs22⟩, rfl⟩⟩) rfl) rfl ?_; clear hc; rintro w23 hc; replace hc := Ctx.n1 hc; refine rn (bn (qn ?_)); replace hc := hc.m [2, 2]; replace hc := S_ref23_Ledger.fd (x := (⟨(j1.L.set (j2).toNat ({ y15 with Fed := 0 }))⟩ : S_ref23_Ledger)) hc; exact ⟨⟨(⟨(j1.L.set (j2).toNat ({ y15 with Fed := 0 }))⟩ : S_ref23_Ledger), rfl, hp, hc⟩, (kl rfl (km rfl (kl rfl kb)))⟩
         · replace hp := h; clear h; refine Wskip (qn ?_); refine Wseqm (rg [5, 1, 25, 17]) [5] (fun vs w' => ∃ j24 : Bool, vs = [.bool j24] ∧ ref23_Ledger_Rewind.J4 j9 (ref23_Ledger_Rewind.L3 x1 j1 j2 (ref23_Ledger_Rewind.L1 N x1 m1) m3) j24 = some r ∧ Ctx w' (S_ref23_Ledger.hp b0 j1 :: P1 :: Fr)) ?_ ?_
           · refine Wblk ?_; replace hc := S_ref23_Ledger.uf hc; obtain ⟨a25, q26, hc⟩ := hc; replace hc := hc.drew; refine Wdrw (fun _ w' => w' = World.drew w10) [0, 1, 3, 3, 15, 31, 3, 67, 195, 451, 3, 1987, 4035, 8131, 16323, 32767, 65535, 131071] 0 0 rfl (by kernel_rfl) (fun _ _ => rfl) ?_; generalize hw : World.drew w10 = w27 at *; clear hw; refine ad_ 2 rfl ?_; cases hb28 : j8
             · replace hp := gneg hp (by rw [hb28]; exact Bool.false_ne_true); subst hb28; refine ad_ 2 rfl ?_; replace hp := bind_some hp; obtain ⟨y29, hy29, hp⟩ := hp; obtain ⟨b32, o33, rfl, hi30, hi31⟩ := hc.ra 2 hrd1 hy29; refine dE (ixx rfl rfl U23 Z3 hi30 hi31 rfl) rfl rfl ?_; have hcell36 := hc.rv 2 hrd1 hy29; refine dE (ld rfl G3 (hcell36 0 _ rfl)) rfl rfl <| ad_ 2 rfl <| dE (v := pt b0 0) (fax 0 rfl U70 rfl Z68 rfl rfl rfl) rfl rfl <| dE (ld rfl G68 (Ctx.cell hc (k := 0) rfl rfl rfl)) rfl rfl <| ad_ 1 rfl ?_; replace hp := bind_some hp; obtain ⟨y38, hy38, hp⟩ := hp; obtain ⟨b41, o42, rfl, hi39, hi40⟩ := hc.ra 1 reads_own hy38; refine dE (ixx rfl rfl U68 Z111 hi39 hi40 rfl) rfl rfl <| dE (v := .pointer (some ⟨b41, o42 + (j2).toNat * 5 + 0, none⟩)) (fax 0 rfl U111 rfl Z29 rfl rfl rfl) rfl rfl <| dE (v := .pointer (some ⟨b41, o42 + (j2).toNat * 5 + 0, none⟩)) (fax 0 rfl U29 rfl Z3 rfl rfl rfl) rfl rfl ?_; replace hc := Ctx.rdCell hc (k := 1) rfl rfl reads_own hy38; obtain ⟨cs44, hc, hcell45⟩ := hc; replace hc := S_ref23_Entry.op hc; obtain ⟨a47, q48, a49, q50, u46, hc⟩ := hc; subst u46; refine dE (ld rfl G3 (hcell45 0 _ rfl)) rfl rfl <| ad_ 3 rfl <| dn (bn (qn ?_)); replace hc := hc.m [6, 6]; replace hc := S_ref23_Ledger.fd (x := j1) hc; replace hc := hc.m [5, 3]; exact ⟨⟨decide (y29 = y38.R.ID), rfl, hp, hc⟩, (kl rfl kb)⟩
             · replace hp := gpos hp hb28; subst hb28; (iterate 14 refine d0 rfl rfl ?_); refine ad_ 2 rfl <| dn (bn (qn ?_)); replace hc := hc.m [2, 2]; replace hc := S_ref23_Ledger.fd (x := j1) hc; exact ⟨⟨true, rfl, hp, hc⟩, (kl rfl kb)⟩
           · clear hp hc; intro vs u w51 hJ; obtain ⟨j24, rfl, hp, hc⟩ := hJ; unfold ref23_Ledger_Rewind.J4 at hp; refine Wreg <| au 3 rfl <| rn (qn ?_); exact ⟨m3, Nat.lt_succ_self _, ⟨j24, (IntKind.i64.wrap (j9 + 1)), rfl, hp, hc⟩, (kl rfl (km rfl (kl rfl k0)))⟩
     · clear hp hc; intro vs u w52 hJ; obtain ⟨j7, rfl, hp, hc⟩ := hJ; unfold ref23_Ledger_Rewind.J2 at hp; refine Wreg <| au 3 rfl <| rn (qn ?_); exact ⟨m1, Nat.lt_succ_self _, ⟨j7, (IntKind.i64.wrap (j2 + 1)), rfl, hp, hc⟩, (kl rfl (km rfl (kl rfl k0)))⟩

def ref23_Ledger_Close (N : Nat) (x0 : S_ref23_Ledger) (x1 : Int) : Option (Int × S_ref23_Ledger) :=
  (ref23_Ledger_Find N x0 x1).bind fun r1 =>
  if r1 < 0 then
    some (0, x0)
  else
    chk (0 ≤ r1 ∧ r1 ≤ ((x0.L.length : Nat) : Int)) <|
    (app ([]) (x0.L.take (r1).toNat)).bind fun z8 =>
    chk (0 ≤ (IntKind.i64.wrap (r1 + 1)) ∧ (IntKind.i64.wrap (r1 + 1)) ≤ ((x0.L.length : Nat) : Int) ∧ ((x0.L.length : Nat) : Int) ≤ ((x0.L.length : Nat) : Int)) <|
    (app z8 ((x0.L.take (((x0.L.length : Nat) : Int)).toNat).drop ((IntKind.i64.wrap (r1 + 1))).toNat)).bind fun z20 =>
    some (1, (⟨z20⟩ : S_ref23_Ledger))

theorem ref23_Ledger_Close_any {N b0 : Nat} {x0 : S_ref23_Ledger} {x1 : Int} {Fr : List HP} {w : World} {r : Int × S_ref23_Ledger} {K : Value → World → Prop}  (hc : Ctx w (S_ref23_Ledger.hp b0 x0 :: Fr)) (hp : ref23_Ledger_Close N x0 x1 = some r)
    (k : ∀ w', Ctx w' (S_ref23_Ledger.hp b0 r.2 :: Fr) → K (.int .i64 r.1) w') : Calls Try.prog 25 #[pt b0 0, .int .i64 x1] w (Ret K) := by
 unfold ref23_Ledger_Close at hp; refine Center2 F25 M25 rfl rfl ?_; refine Wseq (Wreg ?_); refine au 1 rfl <| rn (qn (Wseq (Wreg ?_))); refine au 2 rfl ?_; obtain ⟨r1, hr1, hp⟩ := bind_some hp; refine kz C44 ?_; refine ref23_Ledger_Find_any hc hr1 ?_; clear hc; intro w2 hc; refine au 1 rfl <| rn (qn (Wseq (Wseq (Wreg ?_)))); refine au 2 rfl <| rn (qn ?_); refine Wif hp (fun _ hp => ?_) fun _ hp => ?_
 · refine Wskip (qn (Wseq (Wreg ?_))); refine au 1 rfl <| rn (qn (Wseq (Wreg ?_))); refine au 3 rfl <| sz (v := pt b0 0) (fax 0 rfl U70 rfl Z68 rfl rfl rfl) ?_; replace hc := S_ref23_Ledger.uf hc; obtain ⟨a4, q5, hc⟩ := hc; refine sz (ld rfl G68 (Ctx.cell hc (k := 0) rfl rfl rfl)) <| au 1 rfl ?_; obtain ⟨hg6, hp⟩ := chk_some hp; refine rsE (Ctx.subOp0 (hv := r1) hc (k := 1) rfl rfl reads_own rfl ⟨_, rfl⟩ U68 Z111 hg6) rfl ?_; rintro _ _ ⟨rfl, rfl, rd7⟩; replace hc := hc.nilOwn S_ref23_Entry.pr 111; obtain ⟨z8, hz8, hp⟩ := bind_some hp; obtain ⟨hg9, e10⟩ := app_some hz8; refine rsE (hc.ap 0 2 rd7 U68 Try.t111 hg9) rfl ?_; clear hc; rintro _ w13 ⟨a11, q12, rfl, hc⟩; rw [← e10] at hc ⊢; replace hc := Ctx.n0 hc; refine au 1 rfl <| rn (qn (Wseq (Wreg ?_))); refine au 4 rfl ?_; refine fq 0 U70 Z68 G68 hc 1 ?_; refine au 2 rfl ?_; obtain ⟨hg14, hp⟩ := chk_some hp; refine rsE (Ctx.subOp (li := some (IntKind.i64.wrap (r1 + 1))) (hi' := none) hc (k := 2) rfl rfl reads_own rfl ⟨_, rfl⟩ trivial U68 Z111 hg14) rfl ?_; rintro _ _ ⟨rfl, a15, q16, rfl, rd17, ea18, eq19⟩; replace rd17 : Reads (Own S_ref23_Entry.pr 111 (.slice a4 x0.L.length q5) x0.L) S_ref23_Entry.pr (.slice a15 ((((x0.L.length : Nat) : Int)).toNat - ((IntKind.i64.wrap (r1 + 1))).toNat) q16) ((x0.L.take (((x0.L.length : Nat) : Int)).toNat).drop ((IntKind.i64.wrap (r1 + 1))).toNat) := rd17; obtain ⟨z20, hz20, hp⟩ := bind_some hp; obtain ⟨hg21, e22⟩ := app_some hz20; refine rsE (hc.ap 0 2 rd17 U68 Try.t111 hg21) rfl ?_; clear hc; rintro _ w25 ⟨a23, q24, rfl, hc⟩; rw [← e22] at hc ⊢; replace hc := Ctx.n0 hc; refine au 1 rfl <| sz (v := pt b0 0) (fax 0 rfl U70 rfl Z68 rfl rfl rfl) <| po hc 1 Z68 ?_; clear hc; rintro w26 hc; refine rn (qn (Wseq (Wreg ?_))); refine au 1 rfl <| rn (qn (Wret ?_)); replace hc := hc.m [2]; replace hc := S_ref23_Ledger.fd (x := (⟨z20⟩ : S_ref23_Ledger)) hc; replace hc := hc.m [3]; obtain rfl := sj hp; exact fz R25 M25 (k _ hc)
 · refine Wseq (Wreg ?_); refine au 1 rfl <| rn (qn (Wret (qr ?_))); obtain rfl := sj hp; exact fz R25 M25 (k _ hc)

end Go.Proofs.Ytfhpmaphgkiegaa
end
section
namespace Go.Proofs.Ytfhpmaphgkiegaa
open Go Go.RowKit Go.Hp
set_option linter.unusedVariables false
set_option linter.unusedSimpArgs false
set_option maxRecDepth 100000
set_option maxHeartbeats 8000000

def law23_told.L1 (N : Nat) (x0 : S_ledger_Ledger) (x1 : S_ref23_Ledger) (x2 : Int) (r4 : ((List Int))) : Nat → Int → Option (Bool)
  | 0, _ => none
  | m1 + 1, j13 =>
    if j13 < ((r4.length : Nat) : Int) then
      (idx x1.L j13).bind fun y36 =>
      (ledger_Ledger_Next x0 y36.R.ID).bind fun r53 =>
      (ref23_Ledger_Next N x1 y36.R.ID).bind fun r55 =>
      (idx r4 j13).bind fun y58 =>
      if y58 ≠ y36.R.ID then
        some false
      else
        (ledger_Ledger_Log x0 y36.R.ID).bind fun r68 =>
        (ref09_Ints N r68 y36.Log).bind fun r74 =>
        if r74 = true then
          (ledger_Ledger_Done x0 y36.R.ID).bind fun r77 =>
          (ref23_Entry_Done (⟨(⟨y36.R.ID, y36.R.Most, y36.R.Prompt⟩ : S_api_Request), y36.Log, y36.Fed⟩ : S_ref23_Entry)).bind fun r79 =>
          if (!(r77 == r79)) = true then
            some false
          else
            if r53.1 ≠ r55.1 then
              some false
            else
              if r53.2.1 ≠ r55.2.1 then
                some false
              else
                if (!(r53.2.2 == r55.2.2)) = true then
                  some false
                else
                  (law23_told.L1 N x0 x1 x2 r4 m1) (IntKind.i64.wrap (j13 + 1))
        else
          some false
    else
      (ref23_Ledger_Find N x1 x2).bind fun r16 =>
      if r16 ≥ 0 then
        some true
      else
        (ledger_Ledger_Next x0 x2).bind fun r19 =>
        if r19.1 = 0 then
          if r19.2.1 = 0 then
            if r19.2.2 = true then
              some false
            else
              (ledger_Ledger_Log x0 x2).bind fun r24 =>
              if ((r24.length : Nat) : Int) = 0 then
                (ledger_Ledger_Done x0 x2).bind fun r31 =>
                if r31 = true then
                  some false
                else
                  some true
              else
                some false
          else
            some false
        else
          some false

def law23_told (N : Nat) (x0 : S_ledger_Ledger) (x1 : S_ref23_Ledger) (x2 : Int) : Option (Bool) :=
  (ledger_Ledger_Entries x0).bind fun r4 =>
  if ((r4.length : Nat) : Int) ≠ ((x1.L.length : Nat) : Int) then
    some false
  else
    law23_told.L1 N x0 x1 x2 r4 N 0

theorem law23_told_any {N b0 b1 : Nat} {x0 : S_ledger_Ledger} {x1 : S_ref23_Ledger} {x2 : Int} {Fr : List HP} {w : World} {r : Bool} {K : Value → World → Prop}  (hc : Ctx w (S_ledger_Ledger.hp b0 x0 :: S_ref23_Ledger.hp b1 x1 :: Fr)) (hp : law23_told N x0 x1 x2 = some r)
    (k : ∀ w', Ctx w' (S_ledger_Ledger.hp b0 x0 :: S_ref23_Ledger.hp b1 x1 :: Fr) → K (.bool r) w') : Calls Try.prog 27 #[pt b0 0, pt b1 0, .int .i64 x2] w (Ret K) := by
 unfold law23_told at hp; refine Center3 F27 M27 rfl rfl ?_; refine Wseq (Wreg ?_); refine au 1 rfl <| rn (qn (Wseq (Wreg ?_))); refine au 1 rfl ?_; replace hp := bind_some hp; obtain ⟨r4, hr4, hp⟩ := hp; refine kz C46 ?_; refine ledger_Ledger_Entries_any hc hr4 ?_; clear hc; intro a5 n6 q7 w8 hc; obtain rfl := hc.rz 0 reads_own; refine au 1 rfl <| rn (qn (Wseq (Wseq (Wreg ?_)))); refine au 1 rfl <| sz (ln rfl U23) <| au 2 rfl <| sz (v := pt b1 0) (fax 0 rfl U70 rfl Z68 rfl rfl rfl) ?_; replace hc := hc.m [4]; replace hc := S_ref23_Ledger.uf hc; obtain ⟨a10, q11, hc⟩ := hc; refine sz (ld rfl G68 (Ctx.cell hc (k := 0) rfl rfl rfl)) <| sz (ln rfl U68) <| au 1 rfl <| rn (qn ?_); refine Wif hp (fun _ h => ?_) fun _ h => ?_
 · replace hp := h; clear h; refine Wskip (qn (Wseq (Wseq (Wreg ?_)))); refine au 1 rfl <| rn (qn (Wblk ?_)); replace hc := hc.m [2, 2]; replace hc := S_ref23_Ledger.fd (x := x1) hc; refine Wloop (rg [6, 1, 8, 8, 29, 75]) [8] (fun m vs w' => ∃ j13 : Int, vs = [.int .i64 j13] ∧ law23_told.L1 N x0 x1 x2 r4 m j13 = some r ∧ Ctx w' (S_ref23_Ledger.hp b1 x1 :: oR .i64 3 a5 q7 r4 :: S_ledger_Ledger.hp b0 x0 :: Fr)) N ?_ ?_
   · exact ⟨0, rfl, hp, hc⟩
   · clear hp hc; intro m vs u w14 hJ; obtain ⟨j13, rfl, hp, hc⟩ := hJ; rcases m with _ | m1
     · cases (show none = some r from hp)
     rw [law23_told.L1] at hp; refine Wseq (Wseq (Wreg ?_)); refine au 2 rfl <| sz (ln rfl U23) <| au 1 rfl <| rn (qn ?_); refine Wif hp (fun _ h => ?_) fun _ h => ?_
     · replace hp := h; clear h; refine Wexit (qx (qx (be (qn (Wseq (Wseq (Wreg ?_))))))); refine au 2 rfl ?_; replace hp := bind_some hp; obtain ⟨r16, hr16, hp⟩ := hp; refine kz C44 ?_; refine ref23_Ledger_Find_any hc hr16 ?_; clear hc; intro w17 hc; refine au 1 rfl <| rn (qn ?_); refine Wif hp (fun _ h => ?_) fun _ h => ?_
       · replace hp := h; clear h; refine Wskip (qn (Wseq (Wreg ?_))); refine au 2 rfl ?_; replace hp := bind_some hp; obtain ⟨r19, hr19, hp⟩ := hp; replace hc := hc.m [4]; refine kz C9 ?_; refine ledger_Ledger_Next_any hc hr19 ?_; clear hc; intro w20 hc; refine au 7 rfl <| rn (qn (Wseq (Wreg ?_))); refine au 3 rfl ?_; cases hb21 : (decide (r19.1 = 0))
         · replace hp := gneg hp (of_decide_eq_false hb21); (iterate 2 refine r0 rfl ?_); refine au 2 rfl ?_; (iterate 2 refine r0 rfl ?_); refine au 2 rfl ?_; (iterate 5 refine r0 rfl ?_); refine au 2 rfl ?_; (iterate 4 refine r0 rfl ?_); refine au 2 rfl <| rn (qn (Wret ?_)); replace hc := hc.m [5]; obtain rfl := sj hp; exact fz R27 M27 (k _ hc)
         · replace hp := gpos hp (of_decide_eq_true hb21); refine au 4 rfl ?_; cases hb22 : (decide (r19.2.1 = 0))
           · replace hp := gneg hp (of_decide_eq_false hb22); (iterate 2 refine r0 rfl ?_); refine au 2 rfl ?_; (iterate 5 refine r0 rfl ?_); refine au 2 rfl ?_; (iterate 4 refine r0 rfl ?_); refine au 2 rfl <| rn (qn (Wret ?_)); replace hc := hc.m [5]; obtain rfl := sj hp; exact fz R27 M27 (k _ hc)
           · replace hp := gpos hp (of_decide_eq_true hb22); refine au 1 rfl ?_; cases hb23 : r19.2.2
             · replace hp := gneg hp (by rw [hb23]; exact Bool.false_ne_true); refine au 5 rfl ?_; replace hp := bind_some hp; obtain ⟨r24, hr24, hp⟩ := hp; refine kz C12 ?_; refine ledger_Ledger_Log_any hc hr24 ?_; clear hc; intro a25 n26 q27 w28 hc; obtain rfl := hc.rz 0 reads_own; refine sz (ln rfl U23) <| au 3 rfl ?_; cases hb30 : (decide (((r24.length : Nat) : Int) = 0))
               · replace hp := gneg hp (of_decide_eq_false hb30); (iterate 4 refine r0 rfl ?_); refine au 2 rfl <| rn (qn (Wret ?_)); replace hc := hc.m [7, 1]; obtain rfl := sj hp; exact fz R27 M27 (k _ hc)
               · replace hp := gpos hp (of_decide_eq_true hb30); refine au 2 rfl ?_; replace hp := bind_some hp; obtain ⟨r31, hr31, hp⟩ := hp; replace hc := hc.m [2]; refine kz C17 ?_; refine ledger_Ledger_Done_any hc hr31 ?_; clear hc; intro w32 hc; cases hb33 : r31
                 · replace hp := gneg hp (by rw [hb33]; exact Bool.false_ne_true); subst hb33; refine au 3 rfl <| rn (qn (Wret ?_)); replace hc := hc.m [7, 3]; obtain rfl := sj hp; exact fz R27 M27 (k _ hc)
                 · replace hp := gpos hp hb33; subst hb33; refine au 3 rfl <| rn (qn (Wret ?_)); replace hc := hc.m [7, 3]; obtain rfl := sj hp; exact fz R27 M27 (k _ hc)
             · replace hp := gpos hp hb23; refine au 3 rfl ?_; (iterate 5 refine r0 rfl ?_); refine au 2 rfl ?_; (iterate 4 refine r0 rfl ?_); refine au 2 rfl <| rn (qn (Wret ?_)); replace hc := hc.m [5]; obtain rfl := sj hp; exact fz R27 M27 (k _ hc)
       · replace hp := h; clear h; refine Wseq (Wreg ?_); refine au 1 rfl <| rn (qn (Wret (qr ?_))); replace hc := hc.m [3, 2]; obtain rfl := sj hp; exact fz R27 M27 (k _ hc)
     · replace hp := h; clear h; refine Wskip (qn (Wseq (Wblk (Wseq (Wreg ?_))))); refine au 2 rfl <| sz (v := pt b1 0) (fax 0 rfl U70 rfl Z68 rfl rfl rfl) ?_; replace hc := S_ref23_Ledger.uf hc; obtain ⟨a34, q35, hc⟩ := hc; refine sz (ld rfl G68 (Ctx.cell hc (k := 0) rfl rfl rfl)) <| au 1 rfl ?_; replace hp := bind_some hp; obtain ⟨y36, hy36, hp⟩ := hp; obtain ⟨b39, o40, rfl, hi37, hi38⟩ := hc.ra 1 reads_own hy36; refine sz (ixx rfl rfl U68 Z111 hi37 hi38 rfl) ?_; replace hc := Ctx.rdCell hc (k := 1) rfl rfl reads_own hy36; obtain ⟨cs42, hc, hcell43⟩ := hc; replace hc := S_ref23_Entry.op hc; obtain ⟨a45, q46, a47, q48, u44, hc⟩ := hc; subst u44; refine sz (v := .agg (S_ref23_Entry.cz y36 a45 q46 a47 q48).toArray) (ldg rfl G111 Z111 rfl (elCells hcell43 0 (vs := (S_ref23_Entry.cz y36 a45 q46 a47 q48)) rfl)) ?_; refine rsE (Ctx.allocOp (cs := [.int .i64 0, .int .i64 0, .slice none 0 0, .slice none 0 0, .int .i64 0]) hc V111 rfl) rfl ?_; clear hc; rintro _ w51 ⟨b49, rfl, hc⟩; refine pa hc 0 Z111 ?_; clear hc; rintro w52 hc; refine rn (qn (Wseq (Wreg ?_))); refine au 1 rfl <| sz (v := pt b49 0) (fax 0 rfl U111 rfl Z29 rfl rfl rfl) ?_; refine fq 0 U29 Z3 G3 hc 0 ?_; replace hp := bind_some hp; obtain ⟨r53, hr53, hp⟩ := hp; replace hc := hc.m [12]; refine kz C9 ?_; refine ledger_Ledger_Next_any hc hr53 ?_; clear hc; intro w54 hc; refine au 7 rfl <| rn (qn (Wseq (Wreg ?_))); refine au 1 rfl <| sz (v := pt b49 0) (fax 0 rfl U111 rfl Z29 rfl rfl rfl) ?_; refine fq 0 U29 Z3 G3 hc 1 ?_; replace hc := hc.m [10, 10]; replace hc := S_ref23_Ledger.fd (x := x1) hc; replace hp := bind_some hp; obtain ⟨r55, hr55, hp⟩ := hp; refine kz C22 ?_; refine ref23_Ledger_Next_any hc hr55 ?_; clear hc; intro w56 hc; refine au 7 rfl <| rn (qn (Wseq ?_)); replace hc := hc.drew; refine Wdrw (fun j w' => (j = 15 → w'.cell? ⟨b49, 3, none⟩ = some (.slice a47 y36.Log.length q48)) ∧ (j = 25 → ∀ j v, ((S_ref23_Entry.cz y36 a45 q46 a47 q48) : List Value)[j]? = some v → w'.cell? ((⟨b49, 0, none⟩ : Addr).add j) = some v) ∧ True) (0 :: 0 :: 3 :: 7 :: 0 :: 16 :: 48 :: 127 :: 255 :: 511 :: 511 :: 1535 :: 3583 :: 8191 :: 511 :: 16895 :: 65535 :: 131071 :: 262143 :: 524287 :: 1048575 :: 1048575 :: 3145727 :: 7340031 :: 16777215 :: 1048575 :: 67108863 :: 134217727 :: 268435455 :: 536870911 :: 1073741823 :: 1073741823 :: 4294967295 :: 8589934591 :: 17179869183 :: 34359738367 :: 34359738367 :: 137438953471 :: 274877906943 :: 549755813887 :: 1099511627775 :: 1099511627775 :: 4398046511103 :: 8796093022207 :: []) 73728 8392776 rfl (by kernel_rfl) (fun j hj => ⟨fun _ => hc.cell (k := 2) rfl rfl rfl, fun e => (by subst e; exact absurd hj (by decide)), trivial⟩) ?_; generalize hw : World.drew w56 = w57 at *; clear hw; refine ad_ 2 rfl ?_; replace hp := bind_some hp; obtain ⟨y58, hy58, hp⟩ := hp; obtain ⟨b61, o62, rfl, hi59, hi60⟩ := hc.ra 5 reads_own hy58; refine ds rfl (fun w' hF => ixx rfl rfl U23 Z3 hi59 hi60 rfl) rfl ?_; have hcell65 := hc.rv 5 reads_own hy58; refine dx rfl (ld rfl G3 (hcell65 0 _ rfl)) rfl rfl <| ds (v := pt b49 0) rfl (fun w' hF => fax 0 rfl U111 rfl Z29 rfl rfl rfl) rfl <| ds (v := pt b49 0) rfl (fun w' hF => fax 0 rfl U29 rfl Z3 rfl rfl rfl) rfl <| dx rfl (ld rfl G3 (Ctx.cell hc (k := 2) rfl rfl rfl)) rfl rfl <| ad_ 2 rfl ?_; cases hb67 : (decide (y58 ≠ y36.R.ID))
       · replace hp := gneg hp (of_decide_eq_false hb67); refine ad_ 1 rfl <| ds (v := pt b49 0) rfl (fun w' hF => fax 0 rfl U111 rfl Z29 rfl rfl rfl) rfl <| ds (v := pt b49 0) rfl (fun w' hF => fax 0 rfl U29 rfl Z3 rfl rfl rfl) rfl <| dx rfl (ld rfl G3 (Ctx.cell hc (k := 2) rfl rfl rfl)) rfl rfl ?_; replace hp := bind_some hp; obtain ⟨r68, hr68, hp⟩ := hp; replace hc := hc.m [2]; refine dc (cl C12 rfl rfl) rfl rfl ?_; refine ledger_Ledger_Log_any hc hr68 ?_; clear hc; intro a69 n70 q71 w72 hc; obtain rfl := hc.rz 0 reads_own; refine ⟨fun j hj hb => ⟨fun _ => hc.cell (k := 3) rfl rfl rfl, fun e => (by subst e; exact absurd hb (by decide)), trivial⟩, ?_⟩; refine ds (v := pt b49 3) rfl (fun w' hF => fax 3 rfl U111 rfl Z23 rfl rfl rfl) rfl <| ds rfl (fun w' hF => ld rfl G23 ((hF.1 rfl))) rfl ?_; replace hc := hc.dz 5; replace hp := bind_some hp; obtain ⟨r74, hr74, hp⟩ := hp; replace hc := hc.m [2]; refine dc (cl C11 rfl rfl) rfl rfl ?_; refine ref09_Ints_any reads_own reads_ro hc hr74 ?_; clear hc; intro w75 hc; refine ⟨fun j hj hb => ⟨fun e => nja hj e, fun _ => Ctx.cells hc (k := 4) rfl rfl 0 (vs := (S_ref23_Entry.cz y36 a45 q46 a47 q48)) rfl, trivial⟩, ?_⟩; cases hb76 : r74
         · replace hp := gneg hp (by rw [hb76]; exact Bool.false_ne_true); subst hb76; refine ad_ 3 rfl ?_; (iterate 8 refine d0 rfl rfl ?_); refine ad_ 2 rfl ?_; (iterate 3 refine d0 rfl rfl ?_); refine ad_ 2 rfl ?_; (iterate 3 refine d0 rfl rfl ?_); refine ad_ 2 rfl ?_; (iterate 3 refine d0 rfl rfl ?_); refine ad_ 1 rfl <| dn (qn (Wct rfl (Wseq (Wreg ?_)))); refine au 1 rfl <| rn (qn (Wret (br (qr (qr (br (qr ?_))))))); replace hc := hc.m [15, 13, 11, 9, 3, 1]; obtain rfl := sj hp; exact fz R27 M27 (k _ hc)
         · replace hp := gpos hp hb76; subst hb76; refine ad_ 4 rfl <| ds (v := pt b49 0) rfl (fun w' hF => fax 0 rfl U111 rfl Z29 rfl rfl rfl) rfl <| ds (v := pt b49 0) rfl (fun w' hF => fax 0 rfl U29 rfl Z3 rfl rfl rfl) rfl <| dx rfl (ld rfl G3 (Ctx.cell hc (k := 4) rfl rfl rfl)) rfl rfl ?_; replace hp := bind_some hp; obtain ⟨r77, hr77, hp⟩ := hp; replace hc := hc.m [4]; refine dc (cl C17 rfl rfl) rfl rfl ?_; refine ledger_Ledger_Done_any hc hr77 ?_; clear hc; intro w78 hc; refine ⟨fun j hj hb => ⟨fun e => nja hj e, fun _ => Ctx.cells hc (k := 4) rfl rfl 0 (vs := (S_ref23_Entry.cz y36 a45 q46 a47 q48)) rfl, trivial⟩, ?_⟩; refine ds (v := .agg (S_ref23_Entry.cz y36 a45 q46 a47 q48).toArray) rfl (fun w' hF => ldg rfl G111 Z111 rfl (hF.2.1 rfl)) rfl ?_; replace hc := hc.dz 5; replace hc := hc.dz 7; replace hp := bind_some hp; obtain ⟨r79, hr79, hp⟩ := hp; replace hc := hc.m [2]; refine dc (cl C45 rfl rfl) rfl rfl ?_; refine ref23_Entry_Done_any (x0 := y36) hc hr79 ?_; clear hc; intro w80 hc; refine ⟨fun j hj hb => ⟨fun e => nja hj e, fun e => nja hj e, trivial⟩, ?_⟩; refine ds (v := .bool (!(r77 == r79))) rfl (fun w' hF => neb U4 rfl rfl) rfl <| ad_ 2 rfl ?_; cases hb81 : (!(r77 == r79))
           · replace hp := gneg hp (by rw [hb81]; exact Bool.false_ne_true); refine ad_ 5 rfl ?_; cases hb82 : (decide (r53.1 ≠ r55.1))
             · replace hp := gneg hp (of_decide_eq_false hb82); refine ad_ 5 rfl ?_; cases hb83 : (decide (r53.2.1 ≠ r55.2.1))
               · replace hp := gneg hp (of_decide_eq_false hb83); refine ad_ 2 rfl <| ds (v := .bool (!(r53.2.2 == r55.2.2))) rfl (fun w' hF => neb U4 rfl rfl) rfl <| ad_ 1 rfl <| dn (qn ?_); cases hb84 : (!(r53.2.2 == r55.2.2))
                 · replace hp := gneg hp (by rw [hb84]; exact Bool.false_ne_true); refine Wcf rfl (Wskip (bn (qn (Wreg ?_)))); refine au 3 rfl <| rn (qn ?_); replace hc := hc.m [13, 11, 9, 5, 3, 4, 4]; exact ⟨m1, Nat.lt_succ_self _, ⟨(IntKind.i64.wrap (j13 + 1)), rfl, hp, hc⟩, (kl rfl k0)⟩
                 · replace hp := gpos hp hb84; refine Wct rfl (Wseq (Wreg ?_)); refine au 1 rfl <| rn (qn (Wret (br (qr (qr (br (qr ?_))))))); replace hc := hc.m [15, 13, 11, 9, 5, 3]; obtain rfl := sj hp; exact fz R27 M27 (k _ hc)
               · replace hp := gpos hp (of_decide_eq_true hb83); (iterate 3 refine d0 rfl rfl ?_); refine ad_ 1 rfl <| dn (qn (Wct rfl (Wseq (Wreg ?_)))); refine au 1 rfl <| rn (qn (Wret (br (qr (qr (br (qr ?_))))))); replace hc := hc.m [15, 13, 11, 9, 5, 3]; obtain rfl := sj hp; exact fz R27 M27 (k _ hc)
             · replace hp := gpos hp (of_decide_eq_true hb82); (iterate 3 refine d0 rfl rfl ?_); refine ad_ 2 rfl ?_; (iterate 3 refine d0 rfl rfl ?_); refine ad_ 1 rfl <| dn (qn (Wct rfl (Wseq (Wreg ?_)))); refine au 1 rfl <| rn (qn (Wret (br (qr (qr (br (qr ?_))))))); replace hc := hc.m [15, 13, 11, 9, 5, 3]; obtain rfl := sj hp; exact fz R27 M27 (k _ hc)
           · replace hp := gpos hp hb81; (iterate 3 refine d0 rfl rfl ?_); refine ad_ 2 rfl ?_; (iterate 3 refine d0 rfl rfl ?_); refine ad_ 2 rfl ?_; (iterate 3 refine d0 rfl rfl ?_); refine ad_ 1 rfl <| dn (qn (Wct rfl (Wseq (Wreg ?_)))); refine au 1 rfl <| rn (qn (Wret (br (qr (qr (br (qr ?_))))))); replace hc := hc.m [15, 13, 11, 9, 5, 3]; obtain rfl := sj hp; exact fz R27 M27 (k _ hc)
       · replace hp := gpos hp (of_decide_eq_true hb67); (iterate 4 refine d0 rfl rfl ?_); refine d0e rfl (fun j hj hb => ⟨fun _ => hc.cell (k := 2) rfl rfl rfl, fun e => (by subst e; exact absurd hb (by decide)), trivial⟩) rfl ?_; (iterate 2 refine d0 rfl rfl ?_); refine d0e rfl (fun j hj hb => ⟨fun e => nja hj e, fun _ => Ctx.cells hc (k := 2) rfl rfl 0 (vs := (S_ref23_Entry.cz y36 a45 q46 a47 q48)) rfl, trivial⟩) rfl ?_; refine d0 rfl rfl <| ad_ 2 rfl ?_; (iterate 8 refine d0 rfl rfl ?_); refine ad_ 2 rfl ?_; (iterate 3 refine d0 rfl rfl ?_); refine ad_ 2 rfl ?_; (iterate 3 refine d0 rfl rfl ?_); refine ad_ 2 rfl ?_; (iterate 3 refine d0 rfl rfl ?_); refine ad_ 1 rfl <| dn (qn (Wct rfl (Wseq (Wreg ?_)))); refine au 1 rfl <| rn (qn (Wret (br (qr (qr (br (qr ?_))))))); replace hc := hc.m [11, 9, 7, 5, 2]; obtain rfl := sj hp; exact fz R27 M27 (k _ hc)
 · replace hp := h; clear h; refine Wseq (Wreg ?_); refine au 1 rfl <| rn (qn (Wret (qr ?_))); replace hc := hc.m [2, 2]; replace hc := S_ref23_Ledger.fd (x := x1) hc; replace hc := hc.m [3, 2]; obtain rfl := sj hp; exact fz R27 M27 (k _ hc)

theorem bd_70_ {ρ : Operand → Value} {w : World} {dst : Option Nat} {ty : TypeId} {pos : String} {after : Array Edge} {g : Option (Nat × Bool)}    :
    (execOp ρ ⟨dst, .build 70 #[], ty, pos, after, g⟩).run Try.prog w = .ok (.value (.agg #[(.slice none 0 0)])) w := by
  simp [execOp, Instr.build, Instr.fill, Try.zeroValue70, Try.runUnderlying70, Try.sizeOf68, Value.cells]

def law23_LedgerActs.J2 (N : Nat) (j15 : Int) (y18 : S_law23_Act) (k1 : S_ref23_Ledger → S_ledger_Ledger → Int → Option (Bool)) (j37 : S_ref23_Ledger) (j38 : S_ledger_Ledger) : Option (Bool) :=
  (law23_told N j38 j37 y18.ID).bind fun r97 =>
  if r97 = true then
    k1 j37 j38 (IntKind.i64.wrap (j15 + 1))
  else
    some false

def law23_LedgerActs.L4 (N : Nat) (j14 : S_ledger_Ledger) (j15 : Int) (y18 : S_law23_Act) (k1 : S_ref23_Ledger → S_ledger_Ledger → Int → Option (Bool)) : Nat → S_ref23_Ledger → Int → Int → Option (Bool)
  | 0, _, _, _ => none
  | m4 + 1, j46, j47, j48 =>
    if j48 < ((y18.Ids.length : Nat) : Int) then
      (idx y18.Ids j48).bind fun y54 =>
      (ref23_Ledger_Close N j46 y54).bind fun r63 =>
      (some (IntKind.i64.wrap (j47 + r63.1))).bind fun e65 =>
      (law23_LedgerActs.L4 N j14 j15 y18 k1 m4) r63.2 e65 (IntKind.i64.wrap (j48 + 1))
    else
      (ledger_Ledger_Close N j14 y18.Ids).bind fun r51 =>
      if r51.1 ≠ j47 then
        some false
      else
        law23_LedgerActs.J2 N j15 y18 k1 j46 r51.2

def law23_LedgerActs.J5 (N : Nat) (j13 : S_ref23_Ledger) (j14 : S_ledger_Ledger) (j15 : Int) (y18 : S_law23_Act) (k1 : S_ref23_Ledger → S_ledger_Ledger → Int → Option (Bool)) (j70 : Int) : Option (Bool) :=
  (ledger_Ledger_Answer j14 y18.ID j70 y18.Token).bind fun r75 =>
  (ref23_Ledger_Answer N j13 y18.ID j70 y18.Token).bind fun r81 =>
  if r75.2.2.1 ≠ r81.2.2.1 then
    some false
  else
    if (!(r75.2.1 == r81.2.1)) = true then
      some false
    else
      if (!decide (r75.1 = r81.1)) = true then
        some false
      else
        law23_LedgerActs.J2 N j15 y18 k1 r81.2.2.2 r75.2.2.2

def law23_LedgerActs.J3 (N : Nat) (j13 : S_ref23_Ledger) (j14 : S_ledger_Ledger) (j15 : Int) (y18 : S_law23_Act) (k1 : S_ref23_Ledger → S_ledger_Ledger → Int → Option (Bool)) (j40 : Bool) : Option (Bool) :=
  if j40 = true then
    if y18.Kind = 2 then
      (ref23_Ledger_Next N j13 y18.ID).bind fun r72 =>
      law23_LedgerActs.J5 N j13 j14 j15 y18 k1 r72.1
    else
      law23_LedgerActs.J5 N j13 j14 j15 y18 k1 y18.Place
  else
    if y18.Kind = 3 then
      (ledger_Ledger_Rewind N j14 y18.Ids).bind fun r66 =>
      (ref23_Ledger_Rewind N j13 y18.Ids).bind fun r68 =>
      law23_LedgerActs.J2 N j15 y18 k1 r68 r66
    else
      if y18.Kind = 4 then
        law23_LedgerActs.L4 N j14 j15 y18 k1 N j13 0 0
      else
        law23_LedgerActs.J2 N j15 y18 k1 j13 j14

def law23_LedgerActs.L1 (N : Nat) (x0 : (List S_law23_Act)) : Nat → S_ref23_Ledger → S_ledger_Ledger → Int → Option (Bool)
  | 0, _, _, _ => none
  | m1 + 1, j13, j14, j15 =>
    if j15 < ((x0.length : Nat) : Int) then
      (idx x0 j15).bind fun y18 =>
      if ((y18.R.Prompt.length : Nat) : Int) > 100 then
        some true
      else
        if ((y18.Ids.length : Nat) : Int) > 30 then
          some true
        else
          if y18.Kind = 0 then
            (ledger_Ledger_Open j14 (⟨y18.R.ID, y18.R.Most, y18.R.Prompt⟩ : S_api_Request)).bind fun r91 =>
            (ref23_Ledger_Open N j13 (⟨y18.R.ID, y18.R.Most, y18.R.Prompt⟩ : S_api_Request)).bind fun r93 =>
            if r91.1 ≠ r93.1 then
              some false
            else
              law23_LedgerActs.J2 N j15 y18 (law23_LedgerActs.L1 N x0 m1) r93.2 r91.2
          else
            if y18.Kind = 1 then
              law23_LedgerActs.J3 N j13 j14 j15 y18 (law23_LedgerActs.L1 N x0 m1) true
            else
              law23_LedgerActs.J3 N j13 j14 j15 y18 (law23_LedgerActs.L1 N x0 m1) (decide (y18.Kind = 2))
    else
      some true

def law23_LedgerActs (N : Nat) (x0 : (List S_law23_Act)) : Option (Bool) :=
  (law23_awake N).bind fun r1 =>
  if r1 = true then
    if ((x0.length : Nat) : Int) > 80 then
      (law23_awake N).bind fun r100 =>
      some r100
    else
      (ledger_New).bind fun r7 =>
      law23_LedgerActs.L1 N x0 N (⟨[]⟩ : S_ref23_Ledger) r7 0
  else
    (law23_awake N).bind fun r4 =>
    some r4

theorem law23_LedgerActs_any {N nx0 qx0 : Nat} {x0 : (List S_law23_Act)} {ax0 : Option Addr} {P0 : HP} {Fr : List HP} {w : World} {r : Bool} {K : Value → World → Prop} (hrd0 : Reads P0 S_law23_Act.pr (.slice ax0 nx0 qx0) x0) (hc : Ctx w (P0 :: Fr)) (hp : law23_LedgerActs N x0 = some r)
    (k : ∀ w', Ctx w' (P0 :: Fr) → K (.bool r) w') : Calls Try.prog 5 #[.slice ax0 nx0 qx0] w (Ret K) := by
 unfold law23_LedgerActs at hp; refine Center1 F5 M5 rfl rfl ?_; obtain ⟨hn0, _⟩ := Ctx.rdLen hc (k := 0) rfl rfl hrd0; subst hn0; refine Wseq (Wreg ?_); refine au 1 rfl <| rn (qn (Wseq (Wseq (Wreg ?_)))); replace hp := bind_some hp; obtain ⟨r1, hr1, hp⟩ := hp; refine kz C6 ?_; refine law23_awake_any hc hr1 ?_; clear hc; intro w2 hc; cases hb3 : r1
 · replace hp := gneg hp (by rw [hb3]; exact Bool.false_ne_true); subst hb3; refine au 2 rfl ?_; (iterate 3 refine r0 rfl ?_); refine au 1 rfl <| rn (qn (Wct rfl (Wseq (Wreg ?_)))); replace hp := bind_some hp; obtain ⟨r4, hr4, hp⟩ := hp; refine kz C6 ?_; refine law23_awake_any hc hr4 ?_; clear hc; intro w5 hc; refine au 1 rfl <| rn (qn (Wret (qr ?_))); obtain rfl := sj hp; exact fz R5 M5 (k _ hc)
 · replace hp := gpos hp hb3; subst hb3; refine au 3 rfl <| sz (ln rfl U66) <| au 2 rfl <| rn (qn ?_); refine Wif hp (fun _ h => ?_) fun _ h => ?_
   · replace hp := h; clear h; refine Wskip (qn (Wseq (Wreg ?_))); replace hp := bind_some hp; obtain ⟨r7, hr7, hp⟩ := hp; refine kz C7 ?_; refine ledger_New_any hc hr7 ?_; clear hc; intro b8 w9 hc; refine sz (v := .agg #[.slice none 0 0]) (bd_70_ ) ?_; refine rsE (Ctx.boxOp (cs := [.slice none 0 0]) (v := .agg #[.slice none 0 0]) hc rfl rfl) rfl ?_; clear hc; rintro _ w12 ⟨b10, rfl, hc⟩; refine au 2 rfl <| rn (qn (Wseq (Wseq (Wreg ?_)))); refine au 1 rfl <| sz (v := .bool false) (epf U25 rfl rfl) <| rn (qn (Wcf rfl (Wskip (qn (Wseq (Wseq (Wreg ?_))))))); refine au 1 rfl <| rn (qn (Wblk ?_)); replace hc := hc.nilOwn S_ref23_Entry.pr 111; replace hc := hc.m [2]; replace hc := S_ref23_Ledger.fd (x := (⟨[]⟩ : S_ref23_Ledger)) hc; refine Wloop (rg [2, 1, 5, 11, 29, 125]) [5] (fun m vs w' => ∃ j13 : S_ref23_Ledger, ∃ j14 : S_ledger_Ledger, ∃ j15 : Int, vs = [.int .i64 j15] ∧ law23_LedgerActs.L1 N x0 m j13 j14 j15 = some r ∧ Ctx w' (S_ref23_Ledger.hp b10 j13 :: S_ledger_Ledger.hp b8 j14 :: P0 :: Fr)) N ?_ ?_
     · exact ⟨(⟨[]⟩ : S_ref23_Ledger), r7, 0, rfl, hp, hc⟩
     · clear hp hc; intro m vs u w16 hJ; obtain ⟨j13, j14, j15, rfl, hp, hc⟩ := hJ; rcases m with _ | m1
       · cases (show none = some r from hp)
       rw [law23_LedgerActs.L1] at hp; refine Wseq (Wseq (Wreg ?_)); refine au 2 rfl <| sz (ln rfl U66) <| au 1 rfl <| rn (qn ?_); refine Wif hp (fun _ h => ?_) fun _ h => ?_
       · replace hp := h; clear h; refine Wexit (qx (qx (be (qn (Wseq (Wreg ?_)))))); refine au 1 rfl <| rn (qn (Wret ?_)); replace hc := hc.m [3, 1]; obtain rfl := sj hp; exact fz R5 M5 (k _ hc)
       · replace hp := h; clear h; refine Wskip (qn (Wseq (Wblk (Wseq (Wreg ?_))))); refine au 2 rfl ?_; replace hp := bind_some hp; obtain ⟨y18, hy18, hp⟩ := hp; obtain ⟨b21, o22, rfl, hi19, hi20⟩ := hc.ra 2 hrd0 hy18; refine sz (ixx rfl rfl U66 Z72 hi19 hi20 rfl) ?_; replace hc := Ctx.rdCell hc (k := 2) rfl rfl hrd0 hy18; obtain ⟨cs24, hc, hcell25⟩ := hc; replace hc := S_law23_Act.op hc; obtain ⟨a27, q28, a29, q30, u26, hc⟩ := hc; subst u26; refine sz (v := .agg (S_law23_Act.cz y18 a27 q28 a29 q30).toArray) (ldg rfl G72 Z72 rfl (elCells hcell25 0 (vs := (S_law23_Act.cz y18 a27 q28 a29 q30)) rfl)) ?_; refine rsE (Ctx.allocOp (cs := [.int .i64 0, .int .i64 0, .int .i64 0, .int .i64 0, .int .i64 0, .int .i64 0, .slice none 0 0, .slice none 0 0]) hc V72 rfl) rfl ?_; clear hc; rintro _ w33 ⟨b31, rfl, hc⟩; refine pa hc 0 Z72 ?_; clear hc; rintro w34 hc; refine rn (qn (Wseq (Wseq (Wreg ?_)))); refine sz (v := pt b31 4) (fax 4 rfl U72 rfl Z29 rfl rfl rfl) ?_; refine fq 2 U29 Z23 G23 hc 0 ?_; refine sz (ln rfl U23) <| au 2 rfl ?_; cases hb35 : (decide (((y18.R.Prompt.length : Nat) : Int) > 100))
         · replace hp := gneg hp (of_decide_eq_false hb35); refine fq 7 U72 Z23 G23 hc 0 ?_; refine sz (ln rfl U23) <| au 2 rfl <| rn (qn ?_); refine Wif hp (fun _ h => ?_) fun _ h => ?_
           · replace hp := h; clear h; refine Wskip (qn ?_); refine Wseqm (rg [2, 1, 7, 9, 50, 98]) [] (fun vs w' => ∃ j37 : S_ref23_Ledger, ∃ j38 : S_ledger_Ledger, vs = [] ∧ law23_LedgerActs.J2 N j15 y18 (law23_LedgerActs.L1 N x0 m1) j37 j38 = some r ∧ Ctx w' (B b31 (S_law23_Act.cz y18 a27 q28 a29 q30) 72 :: hR .i64 a27 q28 y18.R.Prompt :: hR .i64 a29 q30 y18.Ids :: S_ref23_Ledger.hp b10 j37 :: S_ledger_Ledger.hp b8 j38 :: P0 :: Fr)) ?_ ?_
             · refine Wseq (Wreg ?_); refine fq 0 U72 Z3 G3 hc 0 ?_; refine rn (qn (Wblk (Wseq (Wreg ?_)))); refine au 2 rfl <| rn (qn ?_); cases hb39 : (decide (y18.Kind = 0))
               · replace hp := gneg hp (of_decide_eq_false hb39); refine Wcf rfl ?_; refine Wseqm [63, 64, 65] [63] (fun vs w' => ∃ j40 : Bool, vs = [.bool j40] ∧ law23_LedgerActs.J3 N j13 j14 j15 y18 (law23_LedgerActs.L1 N x0 m1) j40 = some r ∧ Ctx w' (B b31 (S_law23_Act.cz y18 a27 q28 a29 q30) 72 :: hR .i64 a27 q28 y18.R.Prompt :: hR .i64 a29 q30 y18.Ids :: S_ref23_Ledger.hp b10 j13 :: S_ledger_Ledger.hp b8 j14 :: P0 :: Fr)) ?_ ?_
                 · refine Wseq (Wreg ?_); refine au 2 rfl <| rn (qn ?_); refine Wif hp (fun _ h => ?_) fun _ h => ?_
                   · replace hp := h; clear h; refine Wreg <| au 2 rfl <| rn (qn ?_); exact ⟨⟨decide (y18.Kind = 2), rfl, hp, hc⟩, (kl rfl kb)⟩
                   · replace hp := h; clear h; refine Wskip (qn ?_); exact ⟨⟨decide (y18.Kind = 1), rfl, (by rw [decide_eq_true ‹y18.Kind = 1›]; exact hp), hc⟩, (kl rfl kb)⟩
                 · clear hp hc; intro vs u w42 hJ; obtain ⟨j40, rfl, hp, hc⟩ := hJ; unfold law23_LedgerActs.J3 at hp; cases hb43 : j40
                   · replace hp := gneg hp (by rw [hb43]; exact Bool.false_ne_true); subst hb43; refine Wcf rfl (Wseq (Wreg ?_)); refine au 2 rfl <| rn (qn ?_); refine Wif hp (fun _ h => ?_) fun _ h => ?_
                     · replace hp := h; clear h; refine Wseq (Wreg ?_); refine au 2 rfl <| rn (qn ?_); refine Wif hp (fun _ h => ?_) fun _ h => ?_
                       · replace hp := h; clear h; refine Wskip (bn (qn ?_)); exact ⟨⟨j13, j14, rfl, hp, hc⟩, (kl rfl (km rfl (kl rfl kb)))⟩
                       · replace hp := h; clear h; refine Wseq (Wreg ?_); refine au 1 rfl <| rn (qn (Wseq (Wseq (Wreg ?_)))); refine au 1 rfl <| rn (qn (Wblk ?_)); refine Wloop (rg [14, 2, 126, 16]) [14, 15] (fun m vs w' => ∃ j46 : S_ref23_Ledger, ∃ j47 : Int, ∃ j48 : Int, vs = [.int .i64 j47, .int .i64 j48] ∧ law23_LedgerActs.L4 N j14 j15 y18 (law23_LedgerActs.L1 N x0 m1) m j46 j47 j48 = some r ∧ Ctx w' (B b31 (S_law23_Act.cz y18 a27 q28 a29 q30) 72 :: hR .i64 a27 q28 y18.R.Prompt :: hR .i64 a29 q30 y18.Ids :: S_ref23_Ledger.hp b10 j46 :: S_ledger_Ledger.hp b8 j14 :: P0 :: Fr)) N ?_ ?_
                         · exact ⟨j13, 0, 0, rfl, hp, hc⟩
                         · clear hp hc; intro m vs u w49 hJ; obtain ⟨j46, j47, j48, rfl, hp, hc⟩ := hJ; rcases m with _ | m4
                           · cases (show none = some r from hp)
                           rw [law23_LedgerActs.L4] at hp; refine Wseq (Wseq (Wreg ?_)); refine au 1 rfl ?_; refine fq 7 U72 Z23 G23 hc 0 ?_; refine sz (ln rfl U23) <| au 1 rfl <| rn (qn ?_); refine Wif hp (fun _ h => ?_) fun _ h => ?_
                           · replace hp := h; clear h; refine Wexit (qx (qx (be (qn (Wseq (Wreg ?_)))))); refine au 1 rfl ?_; refine fq 7 U72 Z23 G23 hc 0 ?_; replace hc := hc.dz 2; replace hp := bind_some hp; obtain ⟨r51, hr51, hp⟩ := hp; replace hc := hc.m [10]; refine kz C26 ?_; refine ledger_Ledger_Close_any reads_ro hc hr51 ?_; clear hc; intro w52 hc; refine au 2 rfl <| rn (qn ?_); refine Wif hp (fun _ h => ?_) fun _ h => ?_
                             · replace hp := h; clear h; refine Wskip (bn (qn ?_)); replace hc := hc.m [3, 10, 2, 10, 10, 10, 10]; exact ⟨⟨j46, r51.2, rfl, hp, hc⟩, (kl rfl (km rfl (kl rfl (km rfl (kl rfl kb)))))⟩
                             · replace hp := h; clear h; refine Wseq (Wreg ?_); refine au 1 rfl <| rn (qn (Wret (br (qr (br (qr (qr (br (qr ?_))))))))); replace hc := hc.m [11, 9, 7, 5, 3, 1]; obtain rfl := sj hp; exact fz R5 M5 (k _ hc)
                           · replace hp := h; clear h; refine Wskip (qn (Wseq (Wblk (Wreg ?_)))); refine au 2 rfl ?_; refine fq 7 U72 Z23 G23 hc 0 ?_; refine au 1 rfl ?_; replace hp := bind_some hp; obtain ⟨y54, hy54, hp⟩ := hp; obtain ⟨b57, o58, rfl, hi55, hi56⟩ := hc.ra 2 reads_ro hy54; refine sz (ixx rfl rfl U23 Z3 hi55 hi56 rfl) ?_; have hcell61 := hc.rv 2 reads_ro hy54; refine sz (ld rfl G3 (hcell61 0 _ rfl)) ?_; replace hp := bind_some hp; obtain ⟨r63, hr63, hp⟩ := hp; replace hc := hc.m [6]; refine kz C25 ?_; refine ref23_Ledger_Close_any hc hr63 ?_; clear hc; intro w64 hc; refine au 1 rfl ?_; replace hp := bind_some hp; obtain ⟨e65, he65, hp⟩ := hp; injection he65 with he65; refine sz (v := .int .i64 e65) (av (v := .int .i64 e65) (by rw [← he65]; rfl)) <| rn (bn (qn (Wreg ?_))); refine au 3 rfl <| rn (qn ?_); replace hc := hc.m [10, 10, 4, 10, 10, 10]; exact ⟨m4, Nat.lt_succ_self _, ⟨r63.2, e65, (IntKind.i64.wrap (j48 + 1)), rfl, hp, hc⟩, (kl rfl k0)⟩
                     · replace hp := h; clear h; refine Wseq (Wreg ?_); refine au 1 rfl ?_; refine fq 7 U72 Z23 G23 hc 0 ?_; replace hc := hc.dz 2; replace hp := bind_some hp; obtain ⟨r66, hr66, hp⟩ := hp; replace hc := hc.m [10]; refine kz C13 ?_; refine ledger_Ledger_Rewind_any reads_ro hc hr66 ?_; clear hc; intro w67 hc; refine rn (qn (Wreg ?_)); refine au 1 rfl ?_; refine fq 7 U72 Z23 G23 hc 2 ?_; replace hc := hc.dz 4; replace hp := bind_some hp; obtain ⟨r68, hr68, hp⟩ := hp; replace hc := hc.m [12]; refine kz C24 ?_; refine ref23_Ledger_Rewind_any reads_ro hc hr68 ?_; clear hc; intro w69 hc; refine rn (bn (qn ?_)); replace hc := hc.m [7, 3, 10, 4, 4, 10, 10, 10]; exact ⟨⟨r68, r66, rfl, hp, hc⟩, (kl rfl (km rfl (kl rfl kb)))⟩
                   · replace hp := gpos hp hb43; subst hb43; refine Wct rfl (Wseq (Wreg ?_)); refine fq 2 U72 Z3 G3 hc 0 ?_; refine au 1 rfl <| rn (qn ?_); refine Wseqm (rg [7, 1, 68, 11]) [7] (fun vs w' => ∃ j70 : Int, vs = [.int .i64 j70] ∧ law23_LedgerActs.J5 N j13 j14 j15 y18 (law23_LedgerActs.L1 N x0 m1) j70 = some r ∧ Ctx w' (B b31 (S_law23_Act.cz y18 a27 q28 a29 q30) 72 :: hR .i64 a27 q28 y18.R.Prompt :: hR .i64 a29 q30 y18.Ids :: S_ref23_Ledger.hp b10 j13 :: S_ledger_Ledger.hp b8 j14 :: P0 :: Fr)) ?_ ?_
                     · refine Wseq (Wreg ?_); refine fq 0 U72 Z3 G3 hc 0 ?_; refine au 1 rfl <| rn (qn ?_); refine Wif hp (fun _ h => ?_) fun _ h => ?_
                       · replace hp := h; clear h; refine Wskip (qn ?_); exact ⟨⟨y18.Place, rfl, hp, hc⟩, (kl rfl kb)⟩
                       · replace hp := h; clear h; refine Wreg <| au 1 rfl ?_; refine fq 1 U72 Z3 G3 hc 0 ?_; replace hp := bind_some hp; obtain ⟨r72, hr72, hp⟩ := hp; replace hc := hc.m [6]; refine kz C22 ?_; refine ref23_Ledger_Next_any hc hr72 ?_; clear hc; intro w73 hc; refine au 5 rfl <| rn (qn ?_); replace hc := hc.m [10, 10, 4, 10, 10, 10]; exact ⟨⟨r72.1, rfl, hp, hc⟩, (kl rfl kb)⟩
                     · clear hp hc; intro vs u w74 hJ; obtain ⟨j70, rfl, hp, hc⟩ := hJ; unfold law23_LedgerActs.J5 at hp; refine Wseq (Wreg ?_); refine au 1 rfl ?_; refine fq 1 U72 Z3 G3 hc 0 ?_; refine au 1 rfl ?_; refine fq 3 U72 Z3 G3 hc 0 ?_; replace hp := bind_some hp; obtain ⟨r75, hr75, hp⟩ := hp; replace hc := hc.m [8]; refine kz C10 ?_; refine ledger_Ledger_Answer_any hc hr75 ?_; clear hc; intro w76 hc; refine au 4 rfl ?_; refine rsE (Ctx.allocOp (cs := [.int .i64 0, .int .i64 0, .int .i64 0]) hc V35 rfl) rfl ?_; clear hc; rintro _ w79 ⟨b77, rfl, hc⟩; refine pa hc 0 Z35 ?_; clear hc; rintro w80 hc; refine au 2 rfl <| rn (qn (Wseq (Wreg ?_))); refine au 1 rfl ?_; refine fq 1 U72 Z3 G3 hc 2 ?_; refine au 1 rfl ?_; refine fq 3 U72 Z3 G3 hc 2 ?_; replace hp := bind_some hp; obtain ⟨r81, hr81, hp⟩ := hp; replace hc := hc.m [10]; refine kz C23 ?_; refine ref23_Ledger_Answer_any hc hr81 ?_; clear hc; intro w82 hc; refine au 4 rfl ?_; refine rsE (Ctx.allocOp (cs := [.int .i64 0, .int .i64 0, .int .i64 0]) hc V35 rfl) rfl ?_; clear hc; rintro _ w85 ⟨b83, rfl, hc⟩; refine pa hc 0 Z35 ?_; clear hc; rintro w86 hc; refine au 2 rfl <| rn (qn (Wseq (Wreg ?_))); refine au 4 rfl ?_; cases hb87 : (decide (r75.2.2.1 ≠ r81.2.2.1))
                       · replace hp := gneg hp (of_decide_eq_false hb87); refine au 2 rfl <| sz (v := .bool (!(r75.2.1 == r81.2.1))) (neb U4 rfl rfl) <| au 2 rfl ?_; cases hb88 : (!(r75.2.1 == r81.2.1))
                         · replace hp := gneg hp (by rw [hb88]; exact Bool.false_ne_true); refine lg G35 Z35 hc 2 ?_; refine lg G35 Z35 hc 0 ?_; refine sz (v := .bool (!decide (r75.1 = r81.1))) (nes rfl rfl (by kernel_rfl) (fun w => S_api_Say.eql w r75.1 r81.1)) <| au 1 rfl <| rn (qn ?_); cases hb89 : (!decide (r75.1 = r81.1))
                           · replace hp := gneg hp (by rw [hb89]; exact Bool.false_ne_true); refine Wcf rfl (Wskip (bn (qn ?_))); replace hc := hc.m [5, 1, 10, 4, 4, 10, 10, 10]; exact ⟨⟨r81.2.2.2, r75.2.2.2, rfl, hp, hc⟩, (kl rfl (km rfl (kl rfl (km rfl (kl rfl kb)))))⟩
                           · replace hp := gpos hp hb89; refine Wct rfl (Wseq (Wreg ?_)); refine au 1 rfl <| rn (qn (Wret (br (qr (br (qr (qr (br (qr ?_))))))))); replace hc := hc.m [13, 11, 9, 7, 5, 3, 1]; obtain rfl := sj hp; exact fz R5 M5 (k _ hc)
                         · replace hp := gpos hp hb88; (iterate 3 refine r0 rfl ?_); refine au 1 rfl <| rn (qn (Wct rfl (Wseq (Wreg ?_)))); refine au 1 rfl <| rn (qn (Wret (br (qr (br (qr (qr (br (qr ?_))))))))); replace hc := hc.m [13, 11, 9, 7, 5, 3, 1]; obtain rfl := sj hp; exact fz R5 M5 (k _ hc)
                       · replace hp := gpos hp (of_decide_eq_true hb87); (iterate 3 refine r0 rfl ?_); refine au 2 rfl ?_; (iterate 3 refine r0 rfl ?_); refine au 1 rfl <| rn (qn (Wct rfl (Wseq (Wreg ?_)))); refine au 1 rfl <| rn (qn (Wret (br (qr (br (qr (qr (br (qr ?_))))))))); replace hc := hc.m [13, 11, 9, 7, 5, 3, 1]; obtain rfl := sj hp; exact fz R5 M5 (k _ hc)
               · replace hp := gpos hp (of_decide_eq_true hb39); refine Wct rfl (Wseq ?_); replace hc := hc.drew; refine Wdrw (fun j w' => (j = 6 → ∀ j v, ((S_api_Request.cz y18.R a27 q28) : List Value)[j]? = some v → w'.cell? ((⟨b31, 4, none⟩ : Addr).add j) = some v) ∧ True) [0, 0, 2, 7, 0, 0, 32, 127, 255] 0 4 rfl (by kernel_rfl) (fun j hj => ⟨fun _ => Ctx.cells hc (k := 0) rfl rfl 4 (vs := (S_api_Request.cz y18.R a27 q28)) rfl, trivial⟩) ?_; generalize hw : World.drew w34 = w90 at *; clear hw; refine ad_ 1 rfl <| ds (v := pt b31 4) rfl (fun w' hF => fax 4 rfl U72 rfl Z29 rfl rfl rfl) rfl <| dx (v := .agg (S_api_Request.cz y18.R a27 q28).toArray) rfl (ldg rfl G29 Z29 rfl (Ctx.cells hc (k := 0) rfl rfl 4 (vs := (S_api_Request.cz y18.R a27 q28)) rfl)) rfl rfl ?_; replace hc := hc.dz 1; replace hp := bind_some hp; obtain ⟨r91, hr91, hp⟩ := hp; replace hc := hc.m [10]; refine dc (cl C8 rfl rfl) rfl rfl ?_; refine ledger_Ledger_Open_any (x1 := y18.R) hc hr91 ?_; clear hc; intro w92 hc; refine ⟨fun j hj hb => ⟨fun _ => Ctx.cells hc (k := 1) rfl rfl 4 (vs := (S_api_Request.cz y18.R a27 q28)) rfl, trivial⟩, ?_⟩; refine ad_ 1 rfl <| ds (v := pt b31 4) rfl (fun w' hF => fax 4 rfl U72 rfl Z29 rfl rfl rfl) rfl <| ds (v := .agg (S_api_Request.cz y18.R a27 q28).toArray) rfl (fun w' hF => ldg rfl G29 Z29 rfl (hF.1 rfl)) rfl ?_; replace hc := hc.dz 2; replace hp := bind_some hp; obtain ⟨r93, hr93, hp⟩ := hp; replace hc := hc.m [10]; refine dc (cl C21 rfl rfl) rfl rfl ?_; refine ref23_Ledger_Open_any (x1 := y18.R) hc hr93 ?_; clear hc; intro w94 hc; refine ⟨fun j hj hb => ⟨fun e => nja hj e, trivial⟩, ?_⟩; refine ad_ 1 rfl <| dn (qn ?_); refine Wif hp (fun _ h => ?_) fun _ h => ?_
                 · replace hp := h; clear h; refine Wskip (bn (qn ?_)); replace hc := hc.m [10, 4, 4, 10, 10, 10]; exact ⟨⟨r93.2, r91.2, rfl, hp, hc⟩, (kl rfl kb)⟩
                 · replace hp := h; clear h; refine Wseq (Wreg ?_); refine au 1 rfl <| rn (qn (Wret (br (qr (br (qr (qr (br (qr ?_))))))))); replace hc := hc.m [9, 7, 5, 3, 1]; obtain rfl := sj hp; exact fz R5 M5 (k _ hc)
             · clear hp hc; intro vs u w96 hJ; obtain ⟨j37, j38, rfl, hp, hc⟩ := hJ; unfold law23_LedgerActs.J2 at hp; refine Wseq (Wreg ?_); refine au 2 rfl ?_; refine fq 1 U72 Z3 G3 hc 0 ?_; replace hp := bind_some hp; obtain ⟨r97, hr97, hp⟩ := hp; replace hc := hc.m [6, 8]; refine kz C27 ?_; refine law23_told_any hc hr97 ?_; clear hc; intro w98 hc; cases hb99 : r97
               · replace hp := gneg hp (by rw [hb99]; exact Bool.false_ne_true); subst hb99; refine au 1 rfl <| rn (qn (Wct rfl (Wseq (Wreg ?_)))); refine au 1 rfl <| rn (qn (Wret (br (qr (qr (br (qr ?_))))))); replace hc := hc.m [9, 7, 5, 3, 1]; obtain rfl := sj hp; exact fz R5 M5 (k _ hc)
               · replace hp := gpos hp hb99; subst hb99; refine au 1 rfl <| rn (qn (Wcf rfl (Wskip (bn (qn (Wreg ?_)))))); refine au 3 rfl <| rn (qn ?_); replace hc := hc.m [9, 7, 5, 4, 2, 4]; exact ⟨m1, Nat.lt_succ_self _, ⟨j37, j38, (IntKind.i64.wrap (j15 + 1)), rfl, hp, hc⟩, (kl rfl (km rfl (kl rfl k0)))⟩
           · replace hp := h; clear h; refine Wseq (Wreg ?_); refine au 1 rfl <| rn (qn (Wret (qr (br (qr (qr (br (qr ?_)))))))); replace hc := hc.m [9, 7, 5, 3, 1]; obtain rfl := sj hp; exact fz R5 M5 (k _ hc)
         · replace hp := gpos hp (of_decide_eq_true hb35); (iterate 4 refine r0 rfl ?_); refine au 1 rfl <| rn (qn (Wct rfl (Wseq (Wreg ?_)))); refine au 1 rfl <| rn (qn (Wret (qr (br (qr (qr (br (qr ?_)))))))); replace hc := hc.m [9, 7, 5, 3, 1]; obtain rfl := sj hp; exact fz R5 M5 (k _ hc)
   · replace hp := h; clear h; refine Wseq (Wreg ?_); replace hp := bind_some hp; obtain ⟨r100, hr100, hp⟩ := hp; refine kz C6 ?_; refine law23_awake_any hc hr100 ?_; clear hc; intro w101 hc; refine au 1 rfl <| rn (qn (Wret (qr ?_))); obtain rfl := sj hp; exact fz R5 M5 (k _ hc)

end Go.Proofs.Ytfhpmaphgkiegaa
end
section
namespace Go.Hp
open Go
theorem W_in {x : Int} (h : -9223372036854775808 ≤ x ∧ x ≤ 9223372036854775807) : IntKind.i64.wrap x = x := IntWalk.i64_in x h
theorem W_succ (k : Nat) (h : k < 4611686018427387904) : IntKind.i64.wrap ((k : Int) + 1) = ((k + 1 : Nat) : Int) := by rw [W_in (by omega)]; rfl
theorem idx_nat {α : Type} (xs : List α) (k : Nat) : idx xs (k : Int) = xs[k]? := by simp [idx]
theorem idx_get {α : Type} (xs : List α) (k : Nat) (h : k < xs.length) : idx xs (k : Int) = some xs[k] := by rw [idx_nat, List.getElem?_eq_getElem h]
theorem app_ok {α : Type} (xs ys : List α) (h : xs.length + ys.length ≤ 4294967296) : app xs ys = some (xs ++ ys) := by unfold app; rw [if_pos h]
theorem chk_ok {α : Type} {p : Prop} [Decidable p] (x : Option α) (h : p) : chk p x = x := by unfold chk; rw [if_pos h]
end Go.Hp
namespace Go.Hp
end Go.Hp
end
section
namespace Go.Hp
open Go
set_option linter.unusedVariables false
set_option linter.unusedSimpArgs false
set_option linter.unusedSectionVars false
section
variable {κ β : Type} [DecidableEq κ]
theorem mget_mset (l : List (κ × β)) (k q : κ) (x : β) : mget (mset l k x) q = if q = k then some x else mget l q := by
  induction l with
  | nil => simp only [mset, mget]; by_cases h : q = k
           · subst h; simp
           · rw [if_neg (fun e => h e.symm), if_neg h]
  | cons p l ih =>
    obtain ⟨k', x'⟩ := p
    simp only [mset]
    by_cases hk : k' = k
    · subst hk
      simp only [if_true, mget]
      by_cases h : q = k'
      · subst h; simp
      · rw [if_neg (fun e => h e.symm), if_neg h, if_neg (fun e => h e.symm)]
    · simp only [hk, if_false, mget, ih]
      by_cases h : k' = q
      · subst h; simp [hk]
      · simp [h]
theorem mget_none {l : List (κ × β)} {k : κ} : mget l k = none ↔ k ∉ l.map Prod.fst := by
  induction l with
  | nil => simp [mget]
  | cons p l ih =>
    obtain ⟨k', x'⟩ := p
    simp only [mget]
    by_cases hk : k' = k
    · subst hk; simp
    · simp only [hk, if_false, ih, List.map_cons, List.mem_cons, not_or]
      exact ⟨fun h => ⟨fun e => hk e.symm, h⟩, fun h => h.2⟩
theorem mget_mem {l : List (κ × β)} {k : κ} {x : β} (h : mget l k = some x) : (k, x) ∈ l := by
  induction l with
  | nil => simp [mget] at h
  | cons p l ih =>
    obtain ⟨k', x'⟩ := p
    simp only [mget] at h
    by_cases hk : k' = k
    · subst hk; simp at h; subst h; simp
    · simp only [hk, if_false] at h; simp [ih h]
theorem mget_of_mem {l : List (κ × β)} (hn : (l.map Prod.fst).Nodup) {k : κ} {x : β} (h : (k, x) ∈ l) : mget l k = some x := by
  obtain ⟨j, hj⟩ := List.getElem?_of_mem h
  exact mget_at hn hj
theorem keys_mset (l : List (κ × β)) (k : κ) (x : β) : (mset l k x).map Prod.fst = if k ∈ l.map Prod.fst then l.map Prod.fst else l.map Prod.fst ++ [k] := by
  induction l with
  | nil => simp [mset]
  | cons p l ih =>
    obtain ⟨k', x'⟩ := p
    simp only [mset]
    by_cases hk : k' = k
    · subst hk; simp
    · simp only [hk, if_false, List.map_cons, ih, List.mem_cons]
      by_cases h : k ∈ l.map Prod.fst
      · rw [if_pos h, if_pos (.inr h)]
      · rw [if_neg h, if_neg (fun q => q.elim (fun e => hk e.symm) h)]; rfl
theorem nodup_mset {l : List (κ × β)} (h : (l.map Prod.fst).Nodup) (k : κ) (x : β) : ((mset l k x).map Prod.fst).Nodup := by
  rw [keys_mset]
  split
  · exact h
  · rename_i hk
    rw [List.nodup_append]
    exact ⟨h, by simp, fun a ha b hb e => by simp at hb; subst hb; subst e; exact hk ha⟩
theorem mset_map {l : List (κ × β)} (hn : (l.map Prod.fst).Nodup) {k : κ} {y : β} (h : mget l k = some y) (z : β) : mset l k z = l.map fun p => if p.1 = k then (p.1, z) else p := by
  induction l with
  | nil => simp [mget] at h
  | cons p l ih =>
    obtain ⟨k', x'⟩ := p
    simp only [List.map_cons, List.nodup_cons] at hn
    simp only [mset, List.map_cons]
    by_cases hk : k' = k
    · subst hk
      simp only [if_true, List.cons.injEq, true_and]
      symm
      calc l.map (fun p => if p.1 = k' then (p.1, z) else p) = l.map id := by
            apply List.map_congr_left
            intro p hp
            have : p.1 ≠ k' := fun e => hn.1 (by rw [← e]; exact List.mem_map.2 ⟨p, hp, rfl⟩)
            simp [this]
        _ = l := by simp
    · simp only [mget, hk, if_false] at h ⊢
      rw [ih hn.2 h]
theorem mget_map (f : κ → β → β) (l : List (κ × β)) (k : κ) : mget (l.map fun p => (p.1, f p.1 p.2)) k = (mget l k).map (f k) := by
  induction l with
  | nil => simp [mget]
  | cons p l ih =>
    obtain ⟨k', x'⟩ := p
    simp only [List.map_cons, mget]
    by_cases hk : k' = k
    · subst hk; simp
    · simp [hk, ih]
theorem keys_map (f : κ → β → β) (l : List (κ × β)) : (l.map fun p => (p.1, f p.1 p.2)).map Prod.fst = l.map Prod.fst := by simp [List.map_map, Function.comp_def]
theorem remK_len (l : List (κ × β)) (seen : List κ) (hn : (l.map Prod.fst).Nodup) {k : κ} (hk : k ∈ remK l seen) : (remK l (k :: seen)).length < (remK l seen).length := by
  have h1 : remK l (k :: seen) = (remK l seen).filter (fun q => decide (q ≠ k)) := by
    unfold remK
    rw [List.filter_filter]
    apply List.filter_congr
    intro q _
    simp [List.mem_cons, not_or, and_comm]
  rw [h1]
  have := List.length_filter_lt_length_iff_exists (l := remK l seen) (p := fun q => decide (q ≠ k))
  rw [this]
  exact ⟨k, hk, by simp⟩
theorem remK_all (l : List (κ × β)) : remK l [] = l.map Prod.fst := by simp [remK]
end
end Go.Hp
end
section
namespace Go.Proofs.Ytfhpmaphgkiegaa
open Go Go.Hp
set_option linter.unusedVariables false
set_option linter.unusedSimpArgs false
theorem awake23 : law23_awake 1000 = some true := by decide +kernel
theorem index_loop (xs : List Int) (v : Int) (hx : xs.length < 1000) : ∀ (d m k : Nat), k + d = xs.length → d < m → ∃ r, slices_Index_s_int_int.L1 xs v m (k : Int) = some r ∧ (0 ≤ r ↔ v ∈ xs.drop k) := by
  intro d
  induction d with
  | zero =>
    intro m k hk hm
    obtain ⟨m, rfl⟩ : ∃ q, m = q + 1 := ⟨m - 1, by omega⟩
    rw [slices_Index_s_int_int.L1, if_neg (by omega), List.drop_of_length_le (by omega)]
    exact ⟨_, rfl, by simp⟩
  | succ d ih =>
    intro m k hk hm
    obtain ⟨m, rfl⟩ : ∃ q, m = q + 1 := ⟨m - 1, by omega⟩
    have hlt : k < xs.length := by omega
    obtain ⟨r, h1, h2⟩ := ih m (k + 1) (by omega) (by omega)
    rw [slices_Index_s_int_int.L1, if_pos (by omega), idx_get _ _ hlt, List.drop_eq_getElem_cons hlt]
    simp only [Option.bind_some]
    by_cases e : v = xs[k]
    · rw [if_pos e]; exact ⟨(k : Int), rfl, ⟨fun _ => by rw [e]; exact List.mem_cons_self, fun _ => by omega⟩⟩
    · rw [if_neg e, W_succ k (by omega)]
      refine ⟨r, h1, ?_⟩
      rw [h2, List.mem_cons]
      exact ⟨.inr, fun h => h.resolve_left e⟩
theorem contains_eq (xs : List Int) (v : Int) (hx : xs.length < 1000) : slices_Contains_s_int_int 1000 xs v = some (decide (v ∈ xs)) := by
  obtain ⟨r, h1, h2⟩ := index_loop xs v hx xs.length 1000 0 (by omega) (by omega)
  rw [slices_Contains_s_int_int, slices_Index_s_int_int, show (0 : Int) = ((0 : Nat) : Int) from rfl, h1]
  simp only [Option.bind_some, ge_iff_le, List.drop_zero] at h2 ⊢
  congr 1
  exact decide_eq_decide.2 h2
theorem clone_eq (xs : List Int) (hx : xs.length ≤ 4294967296) : slices_Clone_s_int_int xs = some xs := by
  rw [slices_Clone_s_int_int, app_ok _ _ (by simpa using hx)]; rfl
theorem ints_loop (xs : List Int) (hx : xs.length < 1000) : ∀ (d m k : Nat), k + d = xs.length → d < m → ref09_Ints.L1 xs xs m (k : Int) = some true := by
  intro d
  induction d with
  | zero =>
    intro m k hk hm
    obtain ⟨m, rfl⟩ : ∃ q, m = q + 1 := ⟨m - 1, by omega⟩
    rw [ref09_Ints.L1, if_neg (by omega)]
  | succ d ih =>
    intro m k hk hm
    obtain ⟨m, rfl⟩ : ∃ q, m = q + 1 := ⟨m - 1, by omega⟩
    have hlt : k < xs.length := by omega
    rw [ref09_Ints.L1, if_pos (by omega), idx_get _ _ hlt]
    simp only [Option.bind_some, ne_eq, not_true_eq_false, if_false]
    rw [W_succ k (by omega)]
    exact ih m (k + 1) (by omega) (by omega)
theorem ints_refl (xs : List Int) (hx : xs.length < 1000) : ref09_Ints 1000 xs xs = some true := by
  rw [ref09_Ints, if_neg (by simp)]
  exact ints_loop xs hx xs.length 1000 0 (by omega) (by omega)
def rst (e : S_ledger_entry) : S_ledger_entry := ⟨e.Request, e.log, 0⟩
def rewF (x1 : List Int) (k : Int) (e : S_ledger_entry) : S_ledger_entry := if x1.length = 0 ∨ k ∈ x1 then rst e else e
theorem rewind_loop (l0 : List (Int × S_ledger_entry)) (hn : (l0.map Prod.fst).Nodup) (x1 : List Int) (hx : x1.length < 1000) : ∀ (d m : Nat) (seen : List Int), (remK l0 seen).length ≤ d → d < m →
    ledger_Ledger_Rewind.L1 1000 x1 m (l0.map fun p => (p.1, if p.1 ∈ seen then rewF x1 p.1 p.2 else p.2)) seen = some ⟨l0.map fun p => (p.1, rewF x1 p.1 p.2)⟩ := by
  have hrem : ∀ seen : List Int, remK (l0.map fun p => (p.1, if p.1 ∈ seen then rewF x1 p.1 p.2 else p.2)) seen = remK l0 seen := fun seen => remK_keys (by simp [List.map_map, Function.comp_def]) seen
  have hdone : ∀ seen : List Int, remK l0 seen = [] → (l0.map fun p => (p.1, if p.1 ∈ seen then rewF x1 p.1 p.2 else p.2)) = l0.map fun p => (p.1, rewF x1 p.1 p.2) := by
    intro seen h
    apply List.map_congr_left
    intro p hp
    have : p.1 ∈ seen := by
      apply Classical.byContradiction
      intro hc
      have : p.1 ∈ remK l0 seen := mem_remK.2 ⟨List.mem_map.2 ⟨p, hp, rfl⟩, hc⟩
      rw [h] at this; cases this
    rw [if_pos this]
  intro d
  induction d with
  | zero =>
    intro m seen hd hm
    obtain ⟨m, rfl⟩ : ∃ q, m = q + 1 := ⟨m - 1, by omega⟩
    have h0 : remK l0 seen = [] := List.eq_nil_of_length_eq_zero (by omega)
    rw [ledger_Ledger_Rewind.L1, hrem, h0, anyK, hdone seen h0]
  | succ d ih =>
    intro m seen hd hm
    obtain ⟨m, rfl⟩ : ∃ q, m = q + 1 := ⟨m - 1, by omega⟩
    rw [ledger_Ledger_Rewind.L1, hrem]
    by_cases h0 : remK l0 seen = []
    · rw [h0, anyK, hdone seen h0]
    · refine anyK_eq (fun k hk => ?_) h0
      have hkm := mem_remK.1 hk
      obtain ⟨⟨k', e⟩, hp, hke⟩ := List.mem_map.1 hkm.1
      simp only at hke; subst hke
      have hg := mget_of_mem hn hp
      have hg2 : mget (l0.map fun p => (p.1, if p.1 ∈ seen then rewF x1 p.1 p.2 else p.2)) k' = some e := by
        rw [mget_map (fun k e => if k ∈ seen then rewF x1 k e else e), hg]
        simp [hkm.2]
      have hlen := remK_len l0 seen hn hk
      have hstep : ∀ b : Bool, (b = true ↔ (x1.length = 0 ∨ k' ∈ x1)) → ledger_Ledger_Rewind.J2 (l0.map fun p => (p.1, if p.1 ∈ seen then rewF x1 p.1 p.2 else p.2)) seen k' e (ledger_Ledger_Rewind.L1 1000 x1 m) b = some ⟨l0.map fun p => (p.1, rewF x1 p.1 p.2)⟩ := by
        intro b hb
        rw [ledger_Ledger_Rewind.J2]
        have hnext := ih m (k' :: seen) (by omega) (by omega)
        have huniq : ∀ p ∈ l0, p.1 = k' → p.2 = e := fun p hp1 hpk => by
          have h1 := mget_of_mem hn (show (p.1, p.2) ∈ l0 from hp1)
          rw [hpk, hg] at h1; injection h1 with h1; exact h1.symm
        split
        · rename_i ht
          have hsel := hb.1 ht
          rw [mset_map (by rw [keys_map (fun k e => if k ∈ seen then rewF x1 k e else e)]; exact hn) hg2]
          rw [← hnext, List.map_map]
          congr 1
          apply List.map_congr_left
          intro p hp1
          simp only [Function.comp_def]
          by_cases hpk : p.1 = k'
          · have := huniq p hp1 hpk
            rw [if_pos hpk, if_pos (by simp [hpk]), hpk, this]
            rw [rewF, if_pos hsel]; rfl
          · rw [if_neg hpk]
            by_cases hs : p.1 ∈ seen
            · rw [if_pos hs, if_pos (by simp [hs])]
            · rw [if_neg hs, if_neg (by simp [hs, hpk])]
        · rename_i ht
          have hsel : ¬ (x1.length = 0 ∨ k' ∈ x1) := fun h => ht (hb.2 h)
          rw [← hnext]
          congr 1
          apply List.map_congr_left
          intro p hp1
          by_cases hpk : p.1 = k'
          · rw [if_neg (by rw [hpk]; exact hkm.2), if_pos (by simp [hpk]), rewF, if_neg (by rw [hpk]; exact hsel)]
          · by_cases hs : p.1 ∈ seen
            · rw [if_pos hs, if_pos (by simp [hs])]
            · rw [if_neg hs, if_neg (by simp [hs, hpk])]
      simp only [hg2, Option.bind_some]
      by_cases hz : x1.length = 0
      · rw [if_pos (by omega)]
        exact hstep true (by simp [hz])
      · rw [if_neg (by omega), contains_eq _ _ hx]
        simp only [Option.bind_some]
        exact hstep _ (by simp [hz])
theorem rewind_eq (x : S_ledger_Ledger) (hn : (x.m.map Prod.fst).Nodup) (hl : x.m.length < 1000) (x1 : List Int) (hx : x1.length < 1000) :
    ledger_Ledger_Rewind 1000 x x1 = some ⟨x.m.map fun p => (p.1, rewF x1 p.1 p.2)⟩ := by
  rw [ledger_Ledger_Rewind, chk_ok _ hn]
  have := rewind_loop x.m hn x1 hx x.m.length 1000 [] (by rw [remK_all]; simp) hl
  rw [← this]
  congr 1
  simp
structure OkE (B : Nat) (e : S_ledger_entry) : Prop where
  p0 : 1 ≤ e.Request.Prompt.length
  p1 : e.Request.Prompt.length ≤ 100
  l : e.log.length ≤ B
  f0 : 0 ≤ e.fed
  f1 : e.fed < e.Request.Prompt.length + e.log.length
theorem OkE.mono {B C : Nat} {e : S_ledger_entry} (h : OkE B e) (hBC : B ≤ C) : OkE C e := ⟨h.p0, h.p1, Nat.le_trans h.l hBC, h.f0, h.f1⟩
theorem OkE.rst {B : Nat} {e : S_ledger_entry} (h : OkE B e) : OkE B (rst e) := ⟨h.p0, h.p1, h.l, Int.le_refl _, by have := h.p0; show (0 : Int) < e.Request.Prompt.length + e.log.length; omega⟩
theorem token_eq {B : Nat} (hB : B ≤ 10000) {e : S_ledger_entry} (h : OkE B e) : ∃ t, (e.Request.Prompt ++ e.log)[e.fed.toNat]? = some t ∧ ledger_entry_token e e.fed = some t := by
  have h1 := h.p0
  have h2 := h.p1
  have h3 := h.l
  have h4 := h.f0
  have h5 := h.f1
  obtain ⟨f, hf⟩ := Int.eq_ofNat_of_zero_le h4
  rw [hf] at h5 ⊢
  rw [ledger_entry_token]
  by_cases hlt : f < e.Request.Prompt.length
  · rw [if_pos (by omega), idx_get _ _ hlt]
    exact ⟨_, by rw [Int.toNat_natCast, List.getElem?_append_left hlt, List.getElem?_eq_getElem hlt], rfl⟩
  · rw [if_neg (by omega), show IntKind.i64.wrap ((f : Int) - ((e.Request.Prompt.length : Nat) : Int)) = ((f - e.Request.Prompt.length : Nat) : Int) by rw [W_in (by omega)]; omega]
    have hl : f - e.Request.Prompt.length < e.log.length := by omega
    rw [idx_get _ _ hl]
    exact ⟨_, by rw [Int.toNat_natCast, List.getElem?_append_right (by omega), List.getElem?_eq_getElem hl], rfl⟩
theorem done_eq (e : S_ledger_entry) : ledger_entry_done e = some (decide (((e.log.length : Nat) : Int) ≥ e.Request.Most)) := rfl
def upd (x : S_ledger_Ledger) (k : Int) (o : Option S_ledger_entry) : S_ledger_Ledger := match o with
  | none => x
  | some e' => ⟨mset x.m k e'⟩
end Go.Proofs.Ytfhpmaphgkiegaa
end
section
namespace Go.Hp
open Go
set_option linter.unusedVariables false
set_option linter.unusedSimpArgs false
theorem loop_c {σ ρ : Type} (F : Nat → σ → Int → ρ) (c : Nat → σ) (n : Nat) (r : ρ) (hs : ∀ m i, i < n → F (m + 1) (c i) (i : Int) = F m (c (i + 1)) ((i + 1 : Nat) : Int)) (he : ∀ m, F (m + 1) (c n) (n : Int) = r) : ∀ m, n < m → F m (c 0) 0 = r := by
  have key : ∀ d m i, i + d = n → d < m → F m (c i) (i : Int) = r := by
    intro d
    induction d with
    | zero =>
      intro m i hi hm
      obtain ⟨m, rfl⟩ : ∃ q, m = q + 1 := ⟨m - 1, by omega⟩
      obtain rfl : i = n := by omega
      exact he m
    | succ d ih =>
      intro m i hi hm
      obtain ⟨m, rfl⟩ : ∃ q, m = q + 1 := ⟨m - 1, by omega⟩
      rw [hs m i (by omega)]
      exact ih m (i + 1) (by omega) (by omega)
  intro m hm
  exact key n m 0 (by omega) hm
theorem mdel_filter {κ β : Type} [DecidableEq κ] {l : List (κ × β)} (hn : (l.map Prod.fst).Nodup) (k : κ) : mdel l k = l.filter fun p => decide (p.1 ≠ k) := by
  induction l with
  | nil => rfl
  | cons p l ih =>
    obtain ⟨k', x'⟩ := p
    simp only [List.map_cons, List.nodup_cons] at hn
    by_cases hk : k' = k
    · subst hk
      simp only [mdel, if_true, List.filter_cons, ne_eq, not_true_eq_false, decide_false, Bool.false_eq_true, if_false]
      symm
      rw [List.filter_eq_self]
      intro p hp
      simp only [decide_eq_true_eq]
      intro e
      exact hn.1 (by rw [← e]; exact List.mem_map.2 ⟨p, hp, rfl⟩)
    · simp only [mdel, hk, if_false, List.filter_cons, ne_eq, not_false_eq_true, decide_true, if_true, ih hn.2]
end Go.Hp
end
section
namespace Go.Hp
open Go
set_option linter.unusedVariables false
end Go.Hp
end
section
namespace Go.Proofs.Ytfhpmaphgkiegaa
open Go Go.Hp
set_option linter.unusedVariables false
set_option linter.unusedSimpArgs false
def wf64 (z : Int) : Prop := (Lit.int .i64 z).wf = true
theorem it_sorted_is {β : Type} {xs : List (Int × β)} (hn : (xs.map Prod.fst).Nodup) (hw : ∀ k ∈ xs.map Prod.fst, wf64 k) (hl : xs.length ≤ 4294967296) : it_sorted xs = some ((xs.map Prod.fst).mergeSort fun x y => decide (x ≤ y)) := if_pos ⟨hn, hw, hl⟩
theorem rise_nodup {a : List Int} (ha : a.Pairwise (· < ·)) : a.Nodup := ha.imp fun h e => by rw [e] at h; exact absurd h (Int.lt_irrefl _)
theorem rise_eq {a b : List Int} (ha : a.Pairwise (· < ·)) (hb : b.Pairwise (· < ·)) (h : ∀ z, z ∈ a ↔ z ∈ b) : a = b :=
  List.Perm.eq_of_pairwise (le := fun x y => x < y) (fun x y _ _ h1 h2 => absurd (Int.lt_trans h1 h2) (Int.lt_irrefl _)) ha hb ((List.perm_ext_iff_of_nodup (rise_nodup ha) (rise_nodup hb)).2 h)
theorem sort_rise {l : List Int} (h : l.Nodup) : (l.mergeSort fun x y => decide (x ≤ y)).Pairwise (· < ·) := by
  have tr : ∀ a b c : Int, decide (a ≤ b) = true → decide (b ≤ c) = true → decide (a ≤ c) = true := fun a b c h1 h2 => by simp only [decide_eq_true_eq] at *; omega
  have to : ∀ a b : Int, (decide (a ≤ b) || decide (b ≤ a)) = true := fun a b => by simp only [Bool.or_eq_true, decide_eq_true_eq]; omega
  have h1 := List.pairwise_mergeSort (le := fun x y : Int => decide (x ≤ y)) tr to l
  have h2 : (l.mergeSort fun x y => decide (x ≤ y)).Nodup := (List.mergeSort_perm _ _).nodup_iff.2 h
  exact (h1.and h2).imp fun ⟨q1, q2⟩ => by simp only [decide_eq_true_eq] at q1; omega
theorem rise_in {l : List Int} (hl : l.Pairwise (· < ·)) {x : Int} {p : Nat} (h1 : ∀ z ∈ l.take p, z < x) (h2 : ∀ z ∈ l.drop p, x < z) : (l.take p ++ ([x] ++ l.drop p)).Pairwise (· < ·) := by
  have hl' : (l.take p ++ l.drop p).Pairwise (· < ·) := by rw [List.take_append_drop]; exact hl
  rw [List.pairwise_append] at hl'
  rw [← List.append_assoc]
  exact List.pairwise_append.2 ⟨List.pairwise_append.2 ⟨hl'.1, by simp, fun a ha b hb => by rw [List.mem_singleton.1 hb]; exact h1 a ha⟩, hl'.2.1, fun a ha b hb => by
    rcases List.mem_append.1 ha with q | q
    · exact hl'.2.2 a q b hb
    · rw [List.mem_singleton.1 q]; exact h2 b hb⟩
theorem mget_filt {β : Type} {l : List (Int × β)} (hn : (l.map Prod.fst).Nodup) (f : Int → Bool) (t : Int) : mget (l.filter fun p => f p.1) t = if f t = true then mget l t else none := by
  by_cases hf : f t = true
  · rw [if_pos hf]
    cases e : mget l t with
    | some o => exact mget_of_mem (hn.sublist (List.filter_sublist.map _)) (List.mem_filter.2 ⟨mget_mem e, hf⟩)
    | none =>
      refine mget_none.2 fun q => ?_
      obtain ⟨p, hp, rfl⟩ := List.mem_map.1 q
      exact absurd (List.mem_map.2 ⟨p, (List.mem_filter.1 hp).1, rfl⟩) (mget_none.1 e)
  · rw [if_neg hf]
    refine mget_none.2 fun q => ?_
    obtain ⟨p, hp, rfl⟩ := List.mem_map.1 q
    exact hf (List.mem_filter.1 hp).2
def rgt : List S_ref23_Entry → Int → Option S_ref23_Entry
  | [], _ => none
  | e :: l, k => if e.R.ID = k then some e else rgt l k
def ids (l : List S_ref23_Entry) : List Int := l.map fun e => e.R.ID
def gE (e : S_ref23_Entry) : S_ledger_entry := ⟨e.R, e.Log, e.Fed⟩
theorem rgt_none {l : List S_ref23_Entry} {k : Int} : rgt l k = none ↔ k ∉ ids l := by
  induction l with
  | nil => simp [rgt, ids]
  | cons e l ih =>
    rw [rgt]
    by_cases h : e.R.ID = k
    · rw [if_pos h]; simp [ids, h]
    · rw [if_neg h, ih]
      simp only [ids, List.map_cons, List.mem_cons, not_or]
      exact ⟨fun q => ⟨fun e => h e.symm, q⟩, fun q => q.2⟩
theorem rgt_mem {l : List S_ref23_Entry} {k : Int} {e : S_ref23_Entry} (h : rgt l k = some e) : e ∈ l ∧ e.R.ID = k := by
  induction l with
  | nil => cases h
  | cons x l ih =>
    rw [rgt] at h
    by_cases c : x.R.ID = k
    · rw [if_pos c] at h; injection h with h; subst h; exact ⟨by simp, c⟩
    · rw [if_neg c] at h; exact ⟨List.mem_cons_of_mem _ (ih h).1, (ih h).2⟩
theorem rgt_of {l : List S_ref23_Entry} (hn : (ids l).Nodup) {e : S_ref23_Entry} (h : e ∈ l) : rgt l e.R.ID = some e := by
  induction l with
  | nil => cases h
  | cons x l ih =>
    have hn' : x.R.ID ∉ ids l ∧ (ids l).Nodup := List.nodup_cons.1 hn
    rw [rgt]
    rcases List.mem_cons.1 h with rfl | h
    · rw [if_pos rfl]
    · rw [if_neg (fun c => hn'.1 (by rw [c]; exact List.mem_map.2 ⟨e, h, rfl⟩))]; exact ih hn'.2 h
theorem rgt_app (a b : List S_ref23_Entry) (k : Int) : rgt (a ++ b) k = (rgt a k).or (rgt b k) := by
  induction a with
  | nil => rfl
  | cons e a ih =>
    rw [List.cons_append, rgt, rgt]
    by_cases c : e.R.ID = k
    · rw [if_pos c, if_pos c]; rfl
    · rw [if_neg c, if_neg c, ih]
theorem rgt_filter (f : Int → Bool) (k : Int) : ∀ l : List S_ref23_Entry, rgt (l.filter fun e => f e.R.ID) k = if f k = true then rgt l k else none
  | [] => by simp [rgt]
  | e :: l => by
    by_cases h : e.R.ID = k
    · subst h
      by_cases hf : f e.R.ID = true
      · rw [List.filter_cons_of_pos (by exact hf), rgt, if_pos rfl, if_pos hf, rgt, if_pos rfl]
      · rw [List.filter_cons_of_neg (by exact hf), rgt_filter f e.R.ID l, if_neg hf, if_neg hf]
    · by_cases hf : f e.R.ID = true
      · rw [List.filter_cons_of_pos (by exact hf), rgt, if_neg h, rgt_filter f k l, rgt, if_neg h]
      · rw [List.filter_cons_of_neg (by exact hf), rgt_filter f k l, rgt, if_neg h]
theorem rgt_map (f : S_ref23_Entry → S_ref23_Entry) (hf : ∀ e, (f e).R.ID = e.R.ID) (k : Int) : ∀ l : List S_ref23_Entry, rgt (l.map f) k = (rgt l k).map f
  | [] => rfl
  | e :: l => by
    rw [List.map_cons, rgt, rgt, hf e]
    by_cases h : e.R.ID = k
    · rw [if_pos h, if_pos h]; rfl
    · rw [if_neg h, if_neg h, rgt_map f hf k l]
theorem ids_set (l : List S_ref23_Entry) (p : Nat) (hp : p < l.length) (e : S_ref23_Entry) (he : e.R.ID = l[p].R.ID) : ids (l.set p e) = ids l := by
  unfold ids
  rw [List.map_set, he]
  have : l[p].R.ID = (l.map fun e => e.R.ID)[p]'(by simpa using hp) := by simp
  rw [this, List.set_getElem_self]
theorem rgt_set : ∀ (l : List S_ref23_Entry), (ids l).Nodup → ∀ (p : Nat) (hp : p < l.length) (e : S_ref23_Entry), e.R.ID = l[p].R.ID → ∀ k, rgt (l.set p e) k = if k = e.R.ID then some e else rgt l k
  | [], _, p, hp, _, _, _ => by simp at hp
  | x :: l, hn, 0, _, e, he, k => by
    simp only [List.getElem_cons_zero] at he
    rw [List.set_cons_zero, rgt, rgt, ← he]
    by_cases c : e.R.ID = k
    · rw [if_pos c, if_pos c.symm]
    · rw [if_neg c, if_neg (fun q => c q.symm), if_neg c]
  | x :: l, hn, p + 1, hp, e, he, k => by
    have hn' : x.R.ID ∉ ids l ∧ (ids l).Nodup := List.nodup_cons.1 hn
    simp only [List.getElem_cons_succ] at he
    have hp' : p < l.length := by simpa using hp
    rw [List.set_cons_succ, rgt, rgt, rgt_set l hn'.2 p hp' e he k]
    by_cases c : x.R.ID = k
    · rw [if_pos c, if_pos c, if_neg]
      intro q
      exact hn'.1 (List.mem_map.2 ⟨l[p], List.getElem_mem _, by rw [← he, ← q, c]⟩)
    · rw [if_neg c, if_neg c]
theorem find_loop (R : S_ref23_Ledger) (hl : R.L.length < 1000) (k : Int) : ∀ (d m i : Nat), i + d = R.L.length → d < m → (∃ (p : Nat) (hp : p < R.L.length), ref23_Ledger_Find.L1 R k m (i : Int) = some (p : Int) ∧ R.L[p].R.ID = k) ∨ (ref23_Ledger_Find.L1 R k m (i : Int) = some (-1) ∧ k ∉ ids (R.L.drop i)) := by
  intro d
  induction d with
  | zero =>
    intro m i hi hm
    obtain ⟨m, rfl⟩ : ∃ q, m = q + 1 := ⟨m - 1, by omega⟩
    rw [ref23_Ledger_Find.L1, if_neg (by omega), List.drop_of_length_le (by omega)]
    exact .inr ⟨rfl, by simp [ids]⟩
  | succ d ih =>
    intro m i hi hm
    obtain ⟨m, rfl⟩ : ∃ q, m = q + 1 := ⟨m - 1, by omega⟩
    have hlt : i < R.L.length := by omega
    rw [ref23_Ledger_Find.L1, if_pos (by omega), idx_get _ _ hlt, Option.bind_some]
    by_cases c : R.L[i].R.ID = k
    · rw [if_pos c]; exact .inl ⟨i, hlt, rfl, c⟩
    · rw [if_neg c, W_succ i (by omega)]
      rcases ih m (i + 1) (by omega) (by omega) with h | ⟨h1, h2⟩
      · exact .inl h
      · refine .inr ⟨h1, fun q => ?_⟩
        rw [List.drop_eq_getElem_cons hlt] at q
        rcases List.mem_cons.1 (show k ∈ R.L[i].R.ID :: ids (R.L.drop (i + 1)) from q) with e | e
        · exact c e.symm
        · exact h2 e
theorem find_is (R : S_ref23_Ledger) (hl : R.L.length < 1000) (hn : (ids R.L).Nodup) (k : Int) : (∃ (p : Nat) (hp : p < R.L.length), ref23_Ledger_Find 1000 R k = some (p : Int) ∧ R.L[p].R.ID = k ∧ rgt R.L k = some R.L[p]) ∨ (ref23_Ledger_Find 1000 R k = some (-1) ∧ rgt R.L k = none) := by
  rcases find_loop R hl k R.L.length 1000 0 (by omega) (by omega) with ⟨p, hp, h1, h2⟩ | ⟨h1, h2⟩
  · exact .inl ⟨p, hp, h1, h2, by rw [← h2]; exact rgt_of hn (List.getElem_mem _)⟩
  · exact .inr ⟨h1, rgt_none.2 h2⟩
structure AI (i : Nat) (m : S_ledger_Ledger) (R : S_ref23_Ledger) : Prop where
  nd : (m.m.map Prod.fst).Nodup
  rise : (ids R.L).Pairwise (· < ·)
  le : R.L.length ≤ i
  eq : ∀ k, mget m.m k = (rgt R.L k).map gE
  ok : ∀ e ∈ R.L, OkE i (gE e)
  wf : ∀ e ∈ R.L, wf64 e.R.ID
theorem AI.nil : AI 0 ⟨[]⟩ ⟨[]⟩ := ⟨by simp, by simp [ids], by simp, fun k => rfl, by simp, by simp⟩
theorem AI.mono {i j : Nat} {m : S_ledger_Ledger} {R : S_ref23_Ledger} (h : AI i m R) (hj : i ≤ j) : AI j m R := ⟨h.nd, h.rise, Nat.le_trans h.le hj, h.eq, fun e he => (h.ok e he).mono hj, h.wf⟩
theorem AI.keys {i : Nat} {m : S_ledger_Ledger} {R : S_ref23_Ledger} (h : AI i m R) (k : Int) : k ∈ m.m.map Prod.fst ↔ k ∈ ids R.L := by
  have h1 := @mget_none Int S_ledger_entry _ m.m k
  have h2 := @rgt_none R.L k
  have h3 := h.eq k
  constructor
  · intro q
    refine Classical.byContradiction fun c => ?_
    rw [h2.2 c] at h3
    exact h1.1 h3 q
  · intro q
    refine Classical.byContradiction fun c => ?_
    rw [h1.2 c] at h3
    cases e : rgt R.L k with
    | none => exact h2.1 e q
    | some z => rw [e] at h3; cases h3
theorem AI.len {i : Nat} {m : S_ledger_Ledger} {R : S_ref23_Ledger} (h : AI i m R) : m.m.length = R.L.length := by
  have := ((List.perm_ext_iff_of_nodup h.nd (rise_nodup h.rise)).2 h.keys).length_eq
  simpa [ids] using this
theorem AI.entries {i : Nat} {m : S_ledger_Ledger} {R : S_ref23_Ledger} (hi : i < 900) (h : AI i m R) : ledger_Ledger_Entries m = some (ids R.L) := by
  have hl := h.len
  have hle := h.le
  rw [ledger_Ledger_Entries, it_sorted_is h.nd (fun k hk => ?_) (by omega)]
  · rw [Option.bind_some]
    congr 1
    refine rise_eq (sort_rise h.nd) h.rise fun z => ?_
    rw [(List.mergeSort_perm _ _).mem_iff]; exact h.keys z
  · obtain ⟨e, he, rfl⟩ := List.mem_map.1 ((h.keys k).1 hk)
    exact h.wf e he
theorem AI.find {i : Nat} {m : S_ledger_Ledger} {R : S_ref23_Ledger} (hi : i < 900) (h : AI i m R) (k : Int) : (∃ (p : Nat) (hp : p < R.L.length), ref23_Ledger_Find 1000 R k = some (p : Int) ∧ R.L[p].R.ID = k ∧ rgt R.L k = some R.L[p] ∧ mget m.m k = some (gE R.L[p])) ∨ (ref23_Ledger_Find 1000 R k = some (-1) ∧ rgt R.L k = none ∧ mget m.m k = none) := by
  have hle := h.le
  rcases find_is R (by omega) (rise_nodup h.rise) k with ⟨p, hp, h1, h2, h3⟩ | ⟨h1, h2⟩
  · exact .inl ⟨p, hp, h1, h2, h3, by rw [h.eq k, h3]; rfl⟩
  · exact .inr ⟨h1, h2, by rw [h.eq k, h2]; rfl⟩
theorem AI.next {i : Nat} {m : S_ledger_Ledger} {R : S_ref23_Ledger} (hi : i < 900) (h : AI i m R) (k : Int) : ∃ a b c, ledger_Ledger_Next m k = some (a, b, c) ∧ ref23_Ledger_Next 1000 R k = some (a, b, c) ∧ (rgt R.L k = none → a = 0 ∧ b = 0 ∧ c = false) := by
  rcases h.find hi k with ⟨p, hp, h1, h2, h3, h4⟩ | ⟨h1, h2, h3⟩
  · have hok := h.ok _ (List.getElem_mem hp)
    have e1 := hok.p1
    have e2 := hok.l
    have e3 := hok.f0
    have e4 := hok.f1
    obtain ⟨t, ht1, ht2⟩ := token_eq (B := i) (by omega) hok
    simp only [gE] at e1 e2 e3 e4 ht1
    unfold ledger_Ledger_Next ref23_Ledger_Next
    rw [h4, h1, Option.bind_some, if_neg (by omega), idx_get _ _ hp]
    simp only [optc, done_eq, Option.bind_some, ref23_Entry_Done, gE]
    by_cases c : ((R.L[p].Log.length : Nat) : Int) ≥ R.L[p].R.Most
    · simp only [decide_eq_true c, if_true]
      exact ⟨_, _, _, rfl, rfl, fun q => by rw [h3] at q; cases q⟩
    · simp only [decide_eq_false c, Bool.false_eq_true, if_false]
      simp only [gE] at ht2
      rw [ht2, app_ok [] _ (by simp; omega), List.nil_append]
      simp only [Option.bind_some]
      rw [app_ok _ _ (by omega), Option.bind_some]
      have hx : idx (R.L[p].R.Prompt ++ R.L[p].Log) R.L[p].Fed = some t := by
        rw [← ht1, ← idx_nat, Int.toNat_of_nonneg e3]
      rw [hx]
      exact ⟨_, _, _, rfl, rfl, fun q => by rw [h3] at q; cases q⟩
  · unfold ledger_Ledger_Next ref23_Ledger_Next
    rw [h3, h1]
    exact ⟨_, _, _, rfl, rfl, fun _ => ⟨rfl, rfl, rfl⟩⟩
theorem told_loop {i : Nat} {m : S_ledger_Ledger} {R : S_ref23_Ledger} (hi : i < 900) (h : AI i m R) (z : Int) : ∀ (d f j : Nat), j + d = R.L.length → d < f → law23_told.L1 1000 m R z (ids R.L) f (j : Int) = some true := by
  have hle := h.le
  have hl : (ids R.L).length = R.L.length := by simp [ids]
  intro d
  induction d with
  | zero =>
    intro f j hj hf
    obtain ⟨f, rfl⟩ : ∃ q, f = q + 1 := ⟨f - 1, by omega⟩
    rw [law23_told.L1, if_neg (by omega)]
    obtain ⟨a, b, c, n1, n2, n3⟩ := h.next hi z
    rcases h.find hi z with ⟨p, hp, h1, h2, h3, h4⟩ | ⟨h1, h2, h3⟩
    · rw [h1, Option.bind_some, if_pos (by omega)]
    · obtain ⟨rfl, rfl, rfl⟩ := n3 h2
      rw [h1, Option.bind_some, if_neg (by omega), n1]
      simp only [Option.bind_some, if_true, Bool.false_eq_true, if_false, ledger_Ledger_Log, ledger_Ledger_Done, h3, optc, List.length_nil]
      rfl
  | succ d ih =>
    intro f j hj hf
    obtain ⟨f, rfl⟩ : ∃ q, f = q + 1 := ⟨f - 1, by omega⟩
    have hlt : j < R.L.length := by omega
    obtain ⟨a, b, c, n1, n2, n3⟩ := h.next hi R.L[j].R.ID
    have hok := h.ok _ (List.getElem_mem hlt)
    have e2 := hok.l
    simp only [gE] at e2
    have hg : mget m.m R.L[j].R.ID = some (gE R.L[j]) := by rw [h.eq, rgt_of (rise_nodup h.rise) (List.getElem_mem hlt)]; rfl
    have hx : (ids R.L)[j]'(by omega) = R.L[j].R.ID := by simp [ids]
    rw [law23_told.L1, if_pos (by omega), idx_get _ _ hlt, Option.bind_some, n1, n2, idx_get _ _ (show j < (ids R.L).length by omega)]
    simp only [Option.bind_some, hx, ne_eq, not_true_eq_false, if_false, ledger_Ledger_Log, ledger_Ledger_Done, hg, optc]
    rw [clone_eq _ (by show R.L[j].Log.length ≤ _; omega), Option.bind_some, Option.bind_some, show (gE R.L[j]).log = R.L[j].Log from rfl, ints_refl _ (by omega), Option.bind_some, if_pos rfl, done_eq, Option.bind_some, Option.bind_some, ref23_Entry_Done, Option.bind_some]
    rw [if_neg (by simp [gE]), if_neg (by simp), W_succ j (by omega)]
    exact ih f (j + 1) (by omega) (by omega)
theorem AI.told {i : Nat} {m : S_ledger_Ledger} {R : S_ref23_Ledger} (hi : i < 900) (h : AI i m R) (z : Int) : law23_told 1000 m R z = some true := by
  have hle := h.le
  rw [law23_told, h.entries hi, Option.bind_some, if_neg (by simp [ids])]
  exact told_loop hi h z R.L.length 1000 0 (by omega) (by omega)
theorem open_loop (R : S_ref23_Ledger) (hl : R.L.length < 1000) (hr : (ids R.L).Pairwise (· < ·)) (r : S_api_Request) : ∀ (d f j : Nat), j + d = R.L.length → d < f → (∀ z ∈ (ids R.L).take j, z < r.ID) →
    ∃ p, p ≤ R.L.length ∧ (∀ z ∈ (ids R.L).take p, z < r.ID) ∧ (∀ z ∈ (ids R.L).drop p, r.ID ≤ z) ∧ ref23_Ledger_Open.L2 R r f (j : Int) = ref23_Ledger_Open.J1 R r (p : Int) := by
  have hL : (ids R.L).length = R.L.length := by simp [ids]
  intro d
  induction d with
  | zero =>
    intro f j hj hf hz
    obtain ⟨f, rfl⟩ : ∃ q, f = q + 1 := ⟨f - 1, by omega⟩
    rw [ref23_Ledger_Open.L2, if_neg (by omega), ref23_Ledger_Open.J3]
    exact ⟨j, by omega, hz, by rw [List.drop_of_length_le (by omega)]; simp, rfl⟩
  | succ d ih =>
    intro f j hj hf hz
    obtain ⟨f, rfl⟩ : ∃ q, f = q + 1 := ⟨f - 1, by omega⟩
    have hlt : j < R.L.length := by omega
    have hx : (ids R.L)[j]'(by omega) = R.L[j].R.ID := by simp [ids]
    rw [ref23_Ledger_Open.L2, if_pos (by omega), idx_get _ _ hlt, Option.bind_some, ref23_Ledger_Open.J3]
    by_cases c : R.L[j].R.ID < r.ID
    · rw [if_pos (by simpa using c), W_succ j (by omega)]
      refine ih f (j + 1) (by omega) (by omega) fun z hz' => ?_
      rw [List.take_succ_eq_append_getElem (show j < (ids R.L).length by omega), hx] at hz'
      rcases List.mem_append.1 hz' with q | q
      · exact hz z q
      · rw [List.mem_singleton.1 q]; exact c
    · rw [if_neg (by simpa using c)]
      refine ⟨j, by omega, hz, fun z hz' => ?_, rfl⟩
      have hd : (ids R.L).drop j = R.L[j].R.ID :: (ids R.L).drop (j + 1) := by rw [List.drop_eq_getElem_cons (show j < (ids R.L).length by omega), hx]
      have hr' : ((ids R.L).drop j).Pairwise (· < ·) := hr.sublist (List.drop_sublist _ _)
      rw [hd] at hz' hr'
      rcases List.mem_cons.1 hz' with e | e
      · omega
      · have := (List.pairwise_cons.1 hr').1 z e; omega
theorem AI.open {i : Nat} {m : S_ledger_Ledger} {R : S_ref23_Ledger} (hi : i < 800) (h : AI i m R) (r : S_api_Request) (hp : r.Prompt.length ≤ 100) (hw : wf64 r.ID) : ∃ e m' R', ledger_Ledger_Open m r = some (e, m') ∧ ref23_Ledger_Open 1000 R r = some (e, R') ∧ AI (i + 1) m' R' := by
  have hle := h.le
  rcases h.find (by omega) r.ID with ⟨p, hp, h1, h2, h3, h4⟩ | ⟨h1, h2, h3⟩
  · exact ⟨210, m, R, by rw [ledger_Ledger_Open, h4, optc], by rw [ref23_Ledger_Open, h1, Option.bind_some, if_pos (by omega)], h.mono (by omega)⟩
  · have hA : ledger_Ledger_Open m r = if ((r.Prompt.length : Nat) : Int) = 0 then some (90, m) else if r.Most < 1 then some (2, m) else some (0, (⟨(mset m.m r.ID (⟨(⟨r.ID, r.Most, r.Prompt⟩ : S_api_Request), [], 0⟩ : S_ledger_entry))⟩ : S_ledger_Ledger)) := by
      rw [ledger_Ledger_Open, h3, optc, clone_eq _ (by omega), Option.bind_some]
    have hB : ref23_Ledger_Open 1000 R r = if ((r.Prompt.length : Nat) : Int) = 0 then some (90, R) else if r.Most < 1 then some (2, R) else ref23_Ledger_Open.L2 R r 1000 0 := by
      rw [ref23_Ledger_Open, h1, Option.bind_some, if_neg (by omega)]
    by_cases c1 : ((r.Prompt.length : Nat) : Int) = 0
    · rw [if_pos c1] at hA hB; exact ⟨_, _, _, hA, hB, h.mono (by omega)⟩
    rw [if_neg c1] at hA hB
    by_cases c2 : r.Most < 1
    · rw [if_pos c2] at hA hB; exact ⟨_, _, _, hA, hB, h.mono (by omega)⟩
    rw [if_neg c2] at hA hB
    obtain ⟨p, hpl, g1, g2, g3⟩ := open_loop R (by omega) h.rise r R.L.length 1000 0 (by omega) (by omega) (by simp)
    rw [show (0 : Int) = ((0 : Nat) : Int) from rfl, g3, ref23_Ledger_Open.J1, app_ok _ _ (by simp; omega), Option.bind_some, chk_ok _ (by omega), Int.toNat_natCast, Int.toNat_natCast, List.take_length, app_ok _ _ (by simp; omega), Option.bind_some, app_ok _ _ (by simp; omega), Option.bind_some, chk_ok _ (by omega), app_ok _ _ (by simp; omega), Option.bind_some] at hB
    simp only [List.nil_append] at hB
    have hid : ids (R.L.take p ++ [(⟨⟨r.ID, r.Most, r.Prompt⟩, [], 0⟩ : S_ref23_Entry)] ++ R.L.drop p) = (ids R.L).take p ++ ([r.ID] ++ (ids R.L).drop p) := by
      simp [ids, List.map_take, List.map_drop]
    have hnot := rgt_none.1 h2
    have hmem : ∀ e ∈ (R.L.take p ++ [(⟨⟨r.ID, r.Most, r.Prompt⟩, [], 0⟩ : S_ref23_Entry)] ++ R.L.drop p), e ∈ R.L ∨ e = ⟨⟨r.ID, r.Most, r.Prompt⟩, [], 0⟩ := fun e he => by
      rcases List.mem_append.1 he with q | q
      · rcases List.mem_append.1 q with q | q
        · exact .inl (List.mem_of_mem_take q)
        · exact .inr (List.mem_singleton.1 q)
      · exact .inl (List.mem_of_mem_drop q)
    refine ⟨_, _, _, hA, hB, nodup_mset h.nd _ _, ?_, ?_, fun k => ?_, fun e he => ?_, fun e he => ?_⟩
    · show (ids _).Pairwise _
      rw [hid]
      exact rise_in h.rise g1 fun z hz => by
        have q1 := g2 z hz
        have q2 : z ≠ r.ID := fun e => hnot (by rw [← e]; exact List.mem_of_mem_drop hz)
        omega
    · simp; omega
    · show mget (mset m.m r.ID _) k = _
      rw [mget_mset, rgt_app, rgt_app]
      have hs : (rgt R.L k) = (rgt (R.L.take p) k).or (rgt (R.L.drop p) k) := by rw [← rgt_app, List.take_append_drop]
      by_cases c : k = r.ID
      · subst c
        rw [h2] at hs
        have hn : rgt (R.L.take p) r.ID = none := by cases e : rgt (R.L.take p) r.ID with
          | none => rfl
          | some x => rw [e] at hs; cases hs
        rw [if_pos rfl, hn, rgt, if_pos rfl]; rfl
      · rw [if_neg c, h.eq k, hs, rgt, if_neg (fun q => c q.symm), rgt, Option.or_none]
    · rcases hmem e he with q | rfl
      · exact (h.ok e q).mono (by omega)
      · exact ⟨by show 1 ≤ r.Prompt.length; omega, hp, by simp [gE], by simp [gE], by show (0 : Int) < r.Prompt.length + _; simp [gE]; omega⟩
    · rcases hmem e he with q | rfl
      · exact h.wf e q
      · exact hw
theorem AI.put {i j : Nat} (hij : i ≤ j) {m : S_ledger_Ledger} {R : S_ref23_Ledger} (h : AI i m R) {p : Nat} (hp : p < R.L.length) (e : S_ref23_Entry) (he : e.R.ID = R.L[p].R.ID) (ho : OkE j (gE e)) : AI j ⟨mset m.m e.R.ID (gE e)⟩ ⟨R.L.set p e⟩ := by
  have hmem : ∀ x ∈ R.L.set p e, x ∈ R.L ∨ x = e := fun x hx => List.mem_or_eq_of_mem_set hx
  refine ⟨nodup_mset h.nd _ _, ?_, ?_, fun k => ?_, fun x hx => ?_, fun x hx => ?_⟩
  · show (ids _).Pairwise _
    rw [ids_set _ _ hp _ he]; exact h.rise
  · have := h.le; simp; omega
  · show mget (mset m.m e.R.ID _) k = (rgt (R.L.set p e) k).map gE
    rw [mget_mset, rgt_set _ (rise_nodup h.rise) p hp e he k]
    by_cases c : k = e.R.ID
    · rw [if_pos c, if_pos c]; rfl
    · rw [if_neg c, if_neg c, h.eq]
  · rcases hmem x hx with q | rfl
    · exact (h.ok x q).mono hij
    · exact ho
  · rcases hmem x hx with q | rfl
    · exact h.wf x q
    · rw [he]; exact h.wf _ (List.getElem_mem hp)
theorem AI.answer {i : Nat} {m : S_ledger_Ledger} {R : S_ref23_Ledger} (hi : i < 800) (h : AI i m R) (k place tok : Int) : ∃ s b e m' R', ledger_Ledger_Answer m k place tok = some (s, b, e, m') ∧ ref23_Ledger_Answer 1000 R k place tok = some (s, b, e, R') ∧ AI (i + 1) m' R' := by
  have hle := h.le
  rcases h.find (by omega) k with ⟨p, hp, h1, h2, h3, h4⟩ | ⟨h1, h2, h3⟩
  · have hok := h.ok _ (List.getElem_mem hp)
    obtain ⟨e0, e1, e2, e3, e4⟩ := hok
    simp only [gE] at e0 e1 e2 e3 e4
    have hA : ∀ r, ledger_Ledger_Answer m k place tok = r ↔ _ = r := fun r => by rw [ledger_Ledger_Answer, h4, optc, done_eq, Option.bind_some]
    have hB : ∀ r, ref23_Ledger_Answer 1000 R k place tok = r ↔ _ = r := fun r => by rw [ref23_Ledger_Answer, h1, Option.bind_some, if_neg (by omega), idx_get _ _ hp, Option.bind_some, ref23_Entry_Done, Option.bind_some]
    by_cases c : ((R.L[p].Log.length : Nat) : Int) ≥ R.L[p].R.Most
    · exact ⟨⟨0, 0, 0⟩, false, 2, m, R, (hA _).2 (by rw [if_pos (decide_eq_true (show (((gE R.L[p]).log.length : Nat) : Int) ≥ (gE R.L[p]).Request.Most from c))]), (hB _).2 (by rw [if_pos (decide_eq_true c)]), h.mono (by omega)⟩
    have cA : ¬ decide ((((gE R.L[p]).log.length : Nat) : Int) ≥ (gE R.L[p]).Request.Most) = true := by rw [decide_eq_true_eq]; exact c
    have cB : ¬ decide (((R.L[p].Log.length : Nat) : Int) ≥ R.L[p].R.Most) = true := by rw [decide_eq_true_eq]; exact c
    by_cases c2 : place = R.L[p].Fed
    · subst c2
      have w1 : IntKind.i64.wrap (R.L[p].Fed - IntKind.i64.wrap ((((gE R.L[p]).Request.Prompt.length : Nat) : Int) - 1)) = R.L[p].Fed - (R.L[p].R.Prompt.length - 1) := by simp only [gE]; rw [W_in (x := ((R.L[p].R.Prompt.length : Nat) : Int) - 1) (by omega), W_in (by omega)]
      have w2 : IntKind.i64.wrap (R.L[p].Fed + 1) = R.L[p].Fed + 1 := W_in (by omega)
      have w3 : IntKind.i64.wrap (((R.L[p].R.Prompt.length : Nat) : Int) + ((R.L[p].Log.length : Nat) : Int)) = R.L[p].R.Prompt.length + R.L[p].Log.length := W_in (by omega)
      have gl : ((gE R.L[p]).log.length : Int) = R.L[p].Log.length := rfl
      by_cases c3 : R.L[p].Fed + 1 < R.L[p].R.Prompt.length + R.L[p].Log.length
      · have hput := h.put (j := i + 1) (by omega) hp ⟨R.L[p].R, R.L[p].Log, R.L[p].Fed + 1⟩ rfl ⟨e0, e1, by show R.L[p].Log.length ≤ _; omega, by show 0 ≤ R.L[p].Fed + 1; omega, c3⟩
        refine ⟨⟨0, 0, 0⟩, false, 0, _, _, (hA _).2 ?_, (hB _).2 ?_, hput⟩
        · rw [if_neg cA, if_neg (fun q => q rfl), w1, Option.bind_some, if_pos (by omega), ← w2, h2]; rfl
        · rw [if_neg cB, if_neg (fun q => q rfl), Option.bind_some, w2, w3, if_pos c3, Int.toNat_natCast]
      · have hput := h.put (j := i + 1) (by omega) hp ⟨R.L[p].R, R.L[p].Log ++ [tok], R.L[p].Fed + 1⟩ rfl ⟨e0, e1, by show (R.L[p].Log ++ [tok]).length ≤ _; simp; omega, by show 0 ≤ R.L[p].Fed + 1; omega, by show R.L[p].Fed + 1 < R.L[p].R.Prompt.length + (R.L[p].Log ++ [tok]).length; simp; omega⟩
        have hq : p < (R.L.set p { R.L[p] with Fed := R.L[p].Fed + 1 }).length := by simpa using hp
        refine ⟨⟨k, R.L[p].Log.length, tok⟩, true, 0, _, _, (hA _).2 ?_, (hB _).2 ?_, hput⟩
        · rw [if_neg cA, if_neg (fun q => q rfl), w1, Option.bind_some, if_neg (by omega), app_ok _ _ (by show R.L[p].Log.length + _ ≤ _; simp; omega), Option.bind_some, show R.L[p].Fed - (((R.L[p].R.Prompt.length : Nat) : Int) - 1) = R.L[p].Log.length by omega, ← w2, ← h2]; rfl
        · rw [if_neg cB, if_neg (fun q => q rfl), Option.bind_some, w2, w3, if_neg c3, Int.toNat_natCast, app_ok [] _ (by simp; omega), Option.bind_some, app_ok _ _ (by simp; omega), Option.bind_some, idx_get _ _ hq, Option.bind_some, ref23_Ledger_Answer.J1]
          simp
    · exact ⟨⟨0, 0, 0⟩, false, 2, m, R, (hA _).2 (by rw [if_neg cA, if_pos (show place ≠ (gE R.L[p]).fed from c2)]), (hB _).2 (by rw [if_neg cB, if_pos c2]), h.mono (by omega)⟩
  · exact ⟨⟨0, 0, 0⟩, false, 121, m, R, by rw [ledger_Ledger_Answer, h3, optc], by rw [ref23_Ledger_Answer, h1, Option.bind_some, if_pos (by omega)], h.mono (by omega)⟩
end Go.Proofs.Ytfhpmaphgkiegaa
end
section
namespace Go.Proofs.Ytfhpmaphgkiegaa
open Go Go.Hp
set_option linter.unusedVariables false
set_option linter.unusedSimpArgs false
def rwE (xs : List Int) (e : S_ref23_Entry) : S_ref23_Entry := if xs.length = 0 ∨ e.R.ID ∈ xs then { e with Fed := 0 } else e
theorem rwE_id (xs : List Int) (e : S_ref23_Entry) : (rwE xs e).R.ID = e.R.ID := by unfold rwE; split <;> rfl
theorem rew_L3 (x1 : List Int) (hx : x1.length < 1000) (j1 : S_ref23_Ledger) (p : Nat) (hp : p < j1.L.length) (k1 : S_ref23_Ledger → Int → Option S_ref23_Ledger) : ∀ (d f j : Nat) (b : Bool), j + d = x1.length → d < f →
    ref23_Ledger_Rewind.L3 x1 j1 (p : Int) k1 f b (j : Int) = ref23_Ledger_Rewind.J2 (p : Int) k1 (if b = true ∨ j1.L[p].R.ID ∈ x1.drop j then ⟨j1.L.set p { j1.L[p] with Fed := 0 }⟩ else j1) := by
  intro d
  induction d with
  | zero =>
    intro f j b hj hf
    obtain ⟨f, rfl⟩ : ∃ q, f = q + 1 := ⟨f - 1, by omega⟩
    rw [ref23_Ledger_Rewind.L3, if_neg (by omega), List.drop_of_length_le (by omega)]
    cases b with
    | true => rw [if_pos rfl, idx_get _ _ hp, Option.bind_some, if_pos (.inl rfl), Int.toNat_natCast]
    | false => rw [if_neg (by simp), if_neg (by simp)]
  | succ d ih =>
    intro f j b hj hf
    obtain ⟨f, rfl⟩ : ∃ q, f = q + 1 := ⟨f - 1, by omega⟩
    have hlt : j < x1.length := by omega
    rw [ref23_Ledger_Rewind.L3, if_pos (by omega)]
    cases b with
    | true => rw [if_pos rfl, ref23_Ledger_Rewind.J4, W_succ j (by omega), ih f (j + 1) true (by omega) (by omega), if_pos (.inl rfl), if_pos (.inl rfl)]
    | false =>
      rw [if_neg (by simp), idx_get _ _ hlt, Option.bind_some, idx_get _ _ hp, Option.bind_some, ref23_Ledger_Rewind.J4, W_succ j (by omega), ih f (j + 1) _ (by omega) (by omega), List.drop_eq_getElem_cons hlt]
      congr 1
      by_cases c : x1[j] = j1.L[p].R.ID
      · rw [if_pos (.inl (decide_eq_true c)), if_pos (.inr (by rw [← c]; exact List.mem_cons_self))]
      · have : (decide (x1[j] = j1.L[p].R.ID) = true ∨ j1.L[p].R.ID ∈ x1.drop (j + 1)) ↔ (false = true ∨ j1.L[p].R.ID ∈ x1[j] :: x1.drop (j + 1)) := by
          simp only [decide_eq_true_eq, c, false_or, List.mem_cons, Bool.false_eq_true]
          exact ⟨.inr, fun q => q.resolve_left (fun e => c e.symm)⟩
        by_cases c2 : (decide (x1[j] = j1.L[p].R.ID) = true ∨ j1.L[p].R.ID ∈ x1.drop (j + 1))
        · rw [if_pos c2, if_pos (this.1 c2)]
        · rw [if_neg c2, if_neg (fun q => c2 (this.2 q))]
theorem mid_set {α : Type} (f : α → α) (xs : List α) (i : Nat) (hi : i < xs.length) : ∃ h : i < ((xs.take i).map f ++ xs.drop i).length, ((xs.take i).map f ++ xs.drop i)[i] = xs[i] ∧ (∀ y, ((xs.take i).map f ++ xs.drop i).set i y = (xs.take i).map f ++ y :: xs.drop (i + 1)) ∧ (xs.take (i + 1)).map f ++ xs.drop (i + 1) = (xs.take i).map f ++ f xs[i] :: xs.drop (i + 1) := by
  have hl : ((xs.take i).map f).length = i := by simp; omega
  have h : i < ((xs.take i).map f ++ xs.drop i).length := by simp; omega
  have hd := List.drop_eq_getElem_cons hi
  refine ⟨h, ?_, fun y => ?_, ?_⟩
  · rw [List.getElem_append_right (by omega)]
    simp only [hl, Nat.sub_self, hd, List.getElem_cons_zero]
  · rw [List.set_append_right _ _ (by omega), hl, Nat.sub_self, hd, List.set_cons_zero]
  · rw [List.take_succ_eq_append_getElem hi, List.map_append, List.append_assoc]; rfl
theorem rrewind_is (R : S_ref23_Ledger) (hl : R.L.length < 1000) (x1 : List Int) (hx : x1.length < 1000) : ref23_Ledger_Rewind 1000 R x1 = some ⟨R.L.map (rwE x1)⟩ := by
  unfold ref23_Ledger_Rewind
  refine Eq.trans ?_ (loop_c (fun m (s : S_ref23_Ledger) i => ref23_Ledger_Rewind.L1 1000 x1 m s i) (fun i => ⟨(R.L.take i).map (rwE x1) ++ R.L.drop i⟩) R.L.length (some ⟨R.L.map (rwE x1)⟩) (fun m i hi => ?_) (fun m => ?_) 1000 (by omega))
  · simp
  · obtain ⟨h, h1, h2, h3⟩ := mid_set (rwE x1) R.L i hi
    show ref23_Ledger_Rewind.L1 1000 x1 (m + 1) _ (i : Int) = ref23_Ledger_Rewind.L1 1000 x1 m _ _
    rw [ref23_Ledger_Rewind.L1, if_pos (by simp only; omega)]
    rw [show (0 : Int) = ((0 : Nat) : Int) from rfl, rew_L3 x1 hx _ i h _ x1.length 1000 0 _ (by omega) (by omega), ref23_Ledger_Rewind.J2, W_succ i (by omega), h3]
    simp only [h1, List.drop_zero, h2]
    congr 1
    unfold rwE
    by_cases c : x1.length = 0 ∨ R.L[i].R.ID ∈ x1
    · rw [if_pos c, if_pos (by rcases c with c | c; exact .inl (by simpa using c); exact .inr c)]
    · rw [if_neg c, if_neg (fun q => c (by rcases q with q | q; exact .inl (by simpa using q); exact .inr q))]
      rw [List.drop_eq_getElem_cons hi]
  · show ref23_Ledger_Rewind.L1 1000 x1 (m + 1) _ (R.L.length : Int) = _
    rw [ref23_Ledger_Rewind.L1, if_neg (by simp)]
    simp
theorem AI.rewind {i : Nat} {m : S_ledger_Ledger} {R : S_ref23_Ledger} (hi : i < 800) (h : AI i m R) (xs : List Int) (hx : xs.length < 1000) : ∃ m' R', ledger_Ledger_Rewind 1000 m xs = some m' ∧ ref23_Ledger_Rewind 1000 R xs = some R' ∧ AI i m' R' := by
  have hle := h.le
  have hlen := h.len
  refine ⟨_, _, rewind_eq m h.nd (by omega) xs hx, rrewind_is R (by omega) xs hx, ?_, ?_, ?_, fun k => ?_, fun e he => ?_, fun e he => ?_⟩
  · simpa [List.map_map, Function.comp_def] using h.nd
  · have : ids (R.L.map (rwE xs)) = ids R.L := by simp [ids, List.map_map, Function.comp_def, rwE_id]
    show (ids (R.L.map (rwE xs))).Pairwise _
    rw [this]; exact h.rise
  · simpa using hle
  · show mget (m.m.map fun p => (p.1, rewF xs p.1 p.2)) k = (rgt (R.L.map (rwE xs)) k).map gE
    rw [mget_map (fun k e => rewF xs k e), rgt_map _ (rwE_id xs), h.eq k]
    cases e : rgt R.L k with
    | none => rfl
    | some x =>
      have hk := (rgt_mem e).2
      simp only [Option.map_some]
      congr 1
      unfold rewF rwE
      rw [hk]
      by_cases c : xs.length = 0 ∨ k ∈ xs
      · rw [if_pos c, if_pos c]; rfl
      · rw [if_neg c, if_neg c]
  · obtain ⟨x, hx', rfl⟩ := List.mem_map.1 he
    have := h.ok x hx'
    unfold rwE
    split
    · exact this.rst
    · exact this
  · obtain ⟨x, hx', rfl⟩ := List.mem_map.1 he
    rw [rwE_id]; exact h.wf x hx'
theorem AI.drop {i : Nat} {m : S_ledger_Ledger} {R : S_ref23_Ledger} (h : AI i m R) (f : Int → Bool) : AI i ⟨m.m.filter fun p => f p.1⟩ ⟨R.L.filter fun e => f e.R.ID⟩ := by
  refine ⟨h.nd.sublist (List.filter_sublist.map _), h.rise.sublist (List.filter_sublist.map _), Nat.le_trans (List.length_filter_le _ _) h.le, fun k => ?_, fun e he => h.ok e (List.mem_filter.1 he).1, fun e he => h.wf e (List.mem_filter.1 he).1⟩
  show mget (m.m.filter _) k = (rgt (R.L.filter _) k).map gE
  rw [mget_filt h.nd, rgt_filter]
  by_cases c : f k = true
  · rw [if_pos c, if_pos c, h.eq]
  · rw [if_neg c, if_neg c]; rfl
theorem rclose_is (R : S_ref23_Ledger) (hl : R.L.length < 1000) (hn : (ids R.L).Nodup) (k : Int) : ref23_Ledger_Close 1000 R k = some (((R.L.length : Int) - (R.L.filter fun e => decide (e.R.ID ≠ k)).length), ⟨R.L.filter fun e => decide (e.R.ID ≠ k)⟩) := by
  unfold ref23_Ledger_Close
  rcases find_is R hl hn k with ⟨p, hp, h1, h2, h3⟩ | ⟨h1, h2⟩
  · have hf : (R.L.filter fun e => decide (e.R.ID ≠ k)) = R.L.take p ++ R.L.drop (p + 1) := by
      have hsp : R.L = R.L.take p ++ R.L[p] :: R.L.drop (p + 1) := by rw [← List.drop_eq_getElem_cons hp, List.take_append_drop]
      have hn' : (ids (R.L.take p ++ R.L[p] :: R.L.drop (p + 1))).Nodup := by rw [← hsp]; exact hn
      unfold ids at hn'
      rw [List.map_append, List.map_cons, List.nodup_append, List.nodup_cons] at hn'
      conv => lhs; rw [hsp]
      rw [List.filter_append, List.filter_cons_of_neg (by simpa using h2)]
      congr 1
      · refine List.filter_eq_self.2 fun e he => decide_eq_true fun q => ?_
        exact hn'.2.2 _ (List.mem_map.2 ⟨e, he, rfl⟩) _ List.mem_cons_self (by rw [q, h2])
      · refine List.filter_eq_self.2 fun e he => decide_eq_true fun q => ?_
        exact hn'.2.1.1 (List.mem_map.2 ⟨e, he, by rw [q, h2]⟩)
    have hfl : (R.L.take p ++ R.L.drop (p + 1)).length = R.L.length - 1 := by simp; omega
    rw [h1, Option.bind_some, if_neg (by omega), chk_ok _ (by omega), Int.toNat_natCast, app_ok [] _ (by simp; omega), Option.bind_some, W_succ p (by omega), chk_ok _ (by omega), Int.toNat_natCast, Int.toNat_natCast, List.take_length, app_ok _ _ (by simp; omega), Option.bind_some, List.nil_append, hf, hfl]
    congr 2
    omega
  · rw [h1, Option.bind_some, if_pos (by omega)]
    have hf : (R.L.filter fun e => decide (e.R.ID ≠ k)) = R.L := by
      refine List.filter_eq_self.2 fun e he => decide_eq_true fun q => ?_
      exact rgt_none.1 h2 (List.mem_map.2 ⟨e, he, q⟩)
    rw [hf]
    congr 2
    omega
theorem filt_true {α : Type} (l : List α) : (l.filter fun _ => true) = l := List.filter_eq_self.2 fun _ _ => rfl
def outF (xs : List Int) (z : Int) : Bool := !decide (z ∈ xs)
theorem outF_step (xs : List Int) (j : Nat) (hj : j < xs.length) (z : Int) : outF (xs.take (j + 1)) z = (decide (z ≠ xs[j]) && outF (xs.take j) z) := by
  unfold outF
  have : z ∈ xs.take (j + 1) ↔ z ∈ xs.take j ∨ z = xs[j] := by rw [List.take_succ_eq_append_getElem hj, List.mem_append, List.mem_singleton]
  rw [show decide (z ∈ xs.take (j + 1)) = decide (z ∈ xs.take j ∨ z = xs[j]) from decide_eq_decide.2 this]
  by_cases c : z = xs[j]
  · simp only [c, or_true, ne_eq, not_true_eq_false, decide_true, decide_false, Bool.not_true, Bool.false_and]
  · simp only [c, or_false, ne_eq, not_false_eq_true, decide_true, Bool.true_and]
theorem close_is (m : S_ledger_Ledger) (hn : (m.m.map Prod.fst).Nodup) (hl : m.m.length < 1000) (xs : List Int) (hx : xs.length < 1000) : ledger_Ledger_Close 1000 m xs = some ((m.m.length : Int) - (m.m.filter fun p => outF xs p.1).length, ⟨m.m.filter fun p => outF xs p.1⟩) := by
  unfold ledger_Ledger_Close
  refine Eq.trans ?_ (loop_c (fun f (s : S_ledger_Ledger) i => ledger_Ledger_Close.L1 m xs f s i) (fun j => ⟨m.m.filter fun p => outF (xs.take j) p.1⟩) xs.length (some ((m.m.length : Int) - (m.m.filter fun p => outF xs p.1).length, ⟨m.m.filter fun p => outF xs p.1⟩)) (fun f j hj => ?_) (fun f => ?_) 1000 (by omega))
  · simp only [List.take_zero, outF, List.not_mem_nil, decide_false, Bool.not_false, filt_true]
  · show ledger_Ledger_Close.L1 m xs (f + 1) _ (j : Int) = ledger_Ledger_Close.L1 m xs f _ _
    rw [ledger_Ledger_Close.L1, if_pos (by omega), idx_get _ _ hj, Option.bind_some, W_succ j (by omega)]
    congr 2
    rw [mdel_filter (hn.sublist (List.filter_sublist.map _)), List.filter_filter]
    refine List.filter_congr fun p _ => ?_
    rw [outF_step xs j hj]
  · have := List.length_filter_le (fun p : Int × S_ledger_entry => outF xs p.1) m.m
    show ledger_Ledger_Close.L1 m xs (f + 1) _ (xs.length : Int) = _
    rw [ledger_Ledger_Close.L1, if_neg (by omega), List.take_length]
    simp only
    rw [W_in (by omega), Option.bind_some]
theorem acts_L4 {i : Nat} {m : S_ledger_Ledger} {R : S_ref23_Ledger} (hi : i < 800) (h : AI i m R) (c : Int) (a : S_law23_Act) (ha : a.Ids.length < 1000) (k1 : S_ref23_Ledger → S_ledger_Ledger → Int → Option Bool) :
    ∃ m' R', AI i m' R' ∧ law23_LedgerActs.L4 1000 m c a k1 1000 R 0 0 = law23_LedgerActs.J2 1000 c a k1 R' m' := by
  have hle := h.le
  have hlen := h.len
  refine ⟨_, _, h.drop (outF a.Ids), ?_⟩
  have hd := (h.drop (outF a.Ids)).len
  simp only at hd
  refine Eq.trans ?_ (loop_c (fun f (s : S_ref23_Ledger × Int) j => law23_LedgerActs.L4 1000 m c a k1 f s.1 s.2 j) (fun j => (⟨R.L.filter fun e => outF (a.Ids.take j) e.R.ID⟩, (R.L.length : Int) - (R.L.filter fun e => outF (a.Ids.take j) e.R.ID).length)) a.Ids.length _ (fun f j hj => ?_) (fun f => ?_) 1000 (by omega))
  · simp only [List.take_zero, outF, List.not_mem_nil, decide_false, Bool.not_false, filt_true, Int.sub_self]
  · show law23_LedgerActs.L4 1000 m c a k1 (f + 1) _ _ (j : Int) = law23_LedgerActs.L4 1000 m c a k1 f _ _ _
    have hd' := h.drop (outF (a.Ids.take j))
    have hle' := hd'.le
    have q1 := List.length_filter_le (fun e : S_ref23_Entry => outF (a.Ids.take j) e.R.ID) R.L
    have q2 := List.length_filter_le (fun e : S_ref23_Entry => outF (a.Ids.take (j + 1)) e.R.ID) R.L
    have q3 := List.length_filter_le (fun e : S_ref23_Entry => decide (e.R.ID ≠ a.Ids[j])) (R.L.filter fun e => outF (a.Ids.take j) e.R.ID)
    have e1 : ((R.L.filter fun e => outF (a.Ids.take j) e.R.ID).filter fun e => decide (e.R.ID ≠ a.Ids[j])) = R.L.filter fun e => outF (a.Ids.take (j + 1)) e.R.ID := by
      rw [List.filter_filter]
      exact List.filter_congr fun e _ => by rw [outF_step a.Ids j hj]
    rw [law23_LedgerActs.L4, if_pos (by omega), idx_get _ _ hj, Option.bind_some, rclose_is _ (by omega) (rise_nodup hd'.rise), Option.bind_some]
    simp only [e1] at q3 ⊢
    rw [Option.bind_some, W_succ j (by omega), W_in (by omega)]
    congr 1
    omega
  · have q1 := List.length_filter_le (fun e : S_ref23_Entry => outF a.Ids e.R.ID) R.L
    show law23_LedgerActs.L4 1000 m c a k1 (f + 1) _ _ (a.Ids.length : Int) = _
    rw [law23_LedgerActs.L4, if_neg (by omega), close_is m h.nd (by omega) a.Ids ha, Option.bind_some, if_neg]
    · rw [List.take_length]
    · simp only [List.take_length, hd, hlen, ne_eq, not_true_eq_false, not_false_eq_true]
theorem acts_loop (xs : List S_law23_Act) (hx : xs.length ≤ 80) (hw : ∀ a ∈ xs, wf64 a.R.ID) : ∀ (q i f : Nat) (m : S_ledger_Ledger) (R : S_ref23_Ledger), i + q = xs.length → q < f → AI i m R → law23_LedgerActs.L1 1000 xs f R m (i : Int) = some true := by
  intro q
  induction q with
  | zero =>
    intro i f m R hi hf h
    obtain ⟨f, rfl⟩ : ∃ q, f = q + 1 := ⟨f - 1, by omega⟩
    rw [law23_LedgerActs.L1, if_neg (by omega)]
  | succ q ih =>
    intro i f m R hi hf h
    obtain ⟨f, rfl⟩ : ∃ q, f = q + 1 := ⟨f - 1, by omega⟩
    have hlt : i < xs.length := by omega
    have hwa := hw _ (List.getElem_mem hlt)
    rw [law23_LedgerActs.L1, if_pos (by omega), idx_get _ _ hlt, Option.bind_some]
    generalize xs[i] = a at hwa
    have hJ : ∀ m' R', AI (i + 1) m' R' → law23_LedgerActs.J2 1000 (i : Int) a (law23_LedgerActs.L1 1000 xs f) R' m' = some true := fun m' R' h' => by
      rw [law23_LedgerActs.J2, h'.told (by omega), Option.bind_some, if_pos rfl, W_succ i (by omega)]
      exact ih (i + 1) f m' R' (by omega) (by omega) h'
    by_cases c1 : ((a.R.Prompt.length : Nat) : Int) > 100
    · rw [if_pos c1]
    rw [if_neg c1]
    by_cases c2 : ((a.Ids.length : Nat) : Int) > 30
    · rw [if_pos c2]
    rw [if_neg c2]
    by_cases k0 : a.Kind = 0
    · rw [if_pos k0]
      obtain ⟨e, m', R', h1, h2, h3⟩ := h.open (by omega) ⟨a.R.ID, a.R.Most, a.R.Prompt⟩ (by show a.R.Prompt.length ≤ 100; omega) hwa
      rw [h1, h2, Option.bind_some, Option.bind_some, if_neg (by simp)]
      exact hJ m' R' h3
    rw [if_neg k0]
    have hJ5 : ∀ pl, law23_LedgerActs.J5 1000 R m (i : Int) a (law23_LedgerActs.L1 1000 xs f) pl = some true := fun pl => by
      obtain ⟨s, b, e, m', R', h1, h2, h3⟩ := h.answer (by omega) a.ID pl a.Token
      rw [law23_LedgerActs.J5, h1, h2, Option.bind_some, Option.bind_some, if_neg (by simp), if_neg (by simp), if_neg (by simp)]
      exact hJ m' R' h3
    have hJ3 : ∀ b, law23_LedgerActs.J3 1000 R m (i : Int) a (law23_LedgerActs.L1 1000 xs f) b = some true := fun b => by
      rw [law23_LedgerActs.J3]
      cases b with
      | true =>
        rw [if_pos rfl]
        by_cases k2 : a.Kind = 2
        · obtain ⟨x, y, z, n1, n2, n3⟩ := h.next (by omega) a.ID
          rw [if_pos k2, n2, Option.bind_some]; exact hJ5 _
        · rw [if_neg k2]; exact hJ5 _
      | false =>
        rw [if_neg (by simp)]
        by_cases k3 : a.Kind = 3
        · obtain ⟨m', R', h1, h2, h3⟩ := h.rewind (by omega) a.Ids (by omega)
          rw [if_pos k3, h1, h2, Option.bind_some, Option.bind_some]
          exact hJ m' R' (h3.mono (by omega))
        rw [if_neg k3]
        by_cases k4 : a.Kind = 4
        · obtain ⟨m', R', h3, h1⟩ := acts_L4 (by omega) h (i : Int) a (by omega) (law23_LedgerActs.L1 1000 xs f)
          rw [if_pos k4, h1]
          exact hJ m' R' (h3.mono (by omega))
        rw [if_neg k4]
        exact hJ m R (h.mono (by omega))
    by_cases k1 : a.Kind = 1
    · rw [if_pos k1]; exact hJ3 _
    · rw [if_neg k1]; exact hJ3 _
theorem ledgerActs (xs : List S_law23_Act) (hw : ∀ a ∈ xs, wf64 a.R.ID) : law23_LedgerActs 1000 xs = some true := by
  rw [law23_LedgerActs, awake23, Option.bind_some, if_pos rfl]
  by_cases h : ((xs.length : Nat) : Int) > 80
  · rw [if_pos h]; rfl
  · rw [if_neg h, ledger_New, Option.bind_some]
    exact acts_loop xs (by omega) hw xs.length 0 1000 _ _ (by omega) (by omega) AI.nil
end Go.Proofs.Ytfhpmaphgkiegaa
end
