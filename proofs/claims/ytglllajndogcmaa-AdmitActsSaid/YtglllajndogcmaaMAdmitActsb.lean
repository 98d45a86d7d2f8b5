/- What the law needs. -/
import Derived.Test.YtglllajndogcmaaMAdmitActsa
import Derived.Test.YtglllajndogcmaaProg
section
namespace Go.Proofs.Ytglllajndogcmaa
open Go Go.RowKit Go.Hp
set_option linter.unusedVariables false
set_option linter.unusedSimpArgs false
set_option maxRecDepth 100000
set_option maxHeartbeats 8000000

structure S_api_Request where
  ID : Int
  Most : Int
  Prompt : (List Int)
  deriving DecidableEq

def S_api_Request.pr : PR S_api_Request 3 := pMap (fun x : S_api_Request => (x.ID, x.Most, x.Prompt)) (pSeq (pInt .i64) (pSeq (pInt .i64) (pRo (pInt .i64))))

theorem S_api_Request.op {w : World} {l : List HP} {cs : List Value} {x : S_api_Request} (h : Ctx w (Hold S_api_Request.pr cs x :: l)) : ∃ a2 q2, cs = [.int .i64 x.ID, .int .i64 x.Most, .slice a2 x.Prompt.length q2] ∧ Ctx w (Hold (pRo (pInt .i64)) [.slice a2 x.Prompt.length q2] x.Prompt :: l) := by
  obtain ⟨R, Ss, hc⟩ := h
  match Ss, hc with
  | S :: Ss, hc =>
    obtain ⟨⟨rfl, ⟨_, _, rfl, rfl, ⟨_, _, rfl, rfl, ⟨_, rfl, a2, q2, rfl, hc2, hr2⟩⟩⟩⟩, h3⟩ := hc.all
    exact ⟨a2, q2, rfl, R, [] :: Ss, ⟨⟨rfl, _, rfl, a2, q2, rfl, hc2, hr2⟩, h3⟩, by simpa using hc.nodup, by simpa using hc.own, hc.fz⟩
theorem S_api_Request.cl {w : World} {l : List HP} {z0 : Int} {z1 : Int} {z2 : (List Int)} {v2 : Value} (h : Ctx w (Hold (pRo (pInt .i64)) [v2] z2 :: l)) : Ctx w (Hold S_api_Request.pr [.int .i64 z0, .int .i64 z1, v2] (⟨z0, z1, z2⟩ : S_api_Request) :: l) := by
  obtain ⟨R, Ss, hc⟩ := h
  match Ss, hc with
  | S2 :: Ss, hc =>
    obtain ⟨⟨rfl, _, e2, hr2⟩, h3⟩ := hc.all
    injection e2 with e2; subst e2
    exact ⟨R, [] :: Ss, ⟨⟨rfl, ⟨_, _, rfl, rfl, ⟨_, _, rfl, rfl, ⟨_, rfl, hr2⟩⟩⟩⟩, h3⟩, by simpa using hc.nodup, by simpa using hc.own, hc.fz⟩
  | [], hc => exact hc.all.elim

structure S_api_Shape where
  Layers : Int
  Width : Int
  Heads : Int
  Inner : Int
  Vocab : Int
  Places : Int
  deriving DecidableEq

def S_api_Shape.pr : PR S_api_Shape 6 := pC (fun x => [.int .i64 x.Layers, .int .i64 x.Width, .int .i64 x.Heads, .int .i64 x.Inner, .int .i64 x.Vocab, .int .i64 x.Places]) (fun _ => rfl) (fun _ => rfl)

structure S_admit_Desk where
  s : S_api_Shape
  room : Int
  row : (List S_api_Request)
  took : (List (Int × Bool))
  deriving DecidableEq

def S_admit_Desk.hp (b : Nat) (x : S_admit_Desk) : HP := Ex fun v7 : Value => Ex fun v8 : Nat => Sep (Sep (B b [.int .i64 x.s.Layers, .int .i64 x.s.Width, .int .i64 x.s.Heads, .int .i64 x.s.Inner, .int .i64 x.s.Vocab, .int .i64 x.s.Places, .int .i64 x.room, v7, .map (some v8)] 59) (Own S_api_Request.pr 24 v7 x.row)) (Mp (ekI .i64) (HV vf1 pBool) v8 x.took)

theorem S_admit_Desk.uf {w : World} {l : List HP} {b : Nat} {x : S_admit_Desk} (h : Ctx w (S_admit_Desk.hp b x :: l)) : ∃ (a7 : Option Addr) (q7 : Nat) (v8 : Nat), Ctx w (B b [.int .i64 x.s.Layers, .int .i64 x.s.Width, .int .i64 x.s.Heads, .int .i64 x.s.Inner, .int .i64 x.s.Vocab, .int .i64 x.s.Places, .int .i64 x.room, .slice a7 x.row.length q7, .map (some v8)] 59 :: Own S_api_Request.pr 24 (.slice a7 x.row.length q7) x.row :: Mp (ekI .i64) (HV vf1 pBool) v8 x.took :: l) := by
  obtain ⟨v7, h⟩ := Ctx.exF h
  obtain ⟨v8, h⟩ := Ctx.exF h
  replace h := Ctx.sepF h
  replace h := Ctx.sepF h
  obtain ⟨a7, q7, u7⟩ := h.rd (k := 1) rfl rfl reads_own; subst u7
  exact ⟨a7, q7, v8, h⟩
theorem S_admit_Desk.fd {w : World} {l : List HP} {b : Nat} {x : S_admit_Desk} {v7 : Value} {v8 : Nat} (h : Ctx w (B b [.int .i64 x.s.Layers, .int .i64 x.s.Width, .int .i64 x.s.Heads, .int .i64 x.s.Inner, .int .i64 x.s.Vocab, .int .i64 x.s.Places, .int .i64 x.room, v7, .map (some v8)] 59 :: Own S_api_Request.pr 24 v7 x.row :: Mp (ekI .i64) (HV vf1 pBool) v8 x.took :: l)) : Ctx w (S_admit_Desk.hp b x :: l) := Ctx.exB _ _ (Ctx.exB _ _ (Ctx.sepB (Ctx.sepB h)))

structure S_ref21_Desk where
  S : S_api_Shape
  Room : Int
  L : (List S_api_Request)
  Ids : (List Int)
  deriving DecidableEq

def S_ref21_Desk.hp (b : Nat) (x : S_ref21_Desk) : HP := Ex fun v7 : Value => Ex fun v8 : Value => Sep (Sep (B b [.int .i64 x.S.Layers, .int .i64 x.S.Width, .int .i64 x.S.Heads, .int .i64 x.S.Inner, .int .i64 x.S.Vocab, .int .i64 x.S.Places, .int .i64 x.Room, v7, v8] 47) (Own S_api_Request.pr 24 v7 x.L)) (Own (pInt .i64) 3 v8 x.Ids)

theorem S_ref21_Desk.uf {w : World} {l : List HP} {b : Nat} {x : S_ref21_Desk} (h : Ctx w (S_ref21_Desk.hp b x :: l)) : ∃ (a7 : Option Addr) (q7 : Nat) (a8 : Option Addr) (q8 : Nat), Ctx w (B b [.int .i64 x.S.Layers, .int .i64 x.S.Width, .int .i64 x.S.Heads, .int .i64 x.S.Inner, .int .i64 x.S.Vocab, .int .i64 x.S.Places, .int .i64 x.Room, .slice a7 x.L.length q7, .slice a8 x.Ids.length q8] 47 :: Own S_api_Request.pr 24 (.slice a7 x.L.length q7) x.L :: Own (pInt .i64) 3 (.slice a8 x.Ids.length q8) x.Ids :: l) := by
  obtain ⟨v7, h⟩ := Ctx.exF h
  obtain ⟨v8, h⟩ := Ctx.exF h
  replace h := Ctx.sepF h
  replace h := Ctx.sepF h
  obtain ⟨a7, q7, u7⟩ := h.rd (k := 1) rfl rfl reads_own; subst u7
  obtain ⟨a8, q8, u8⟩ := h.rd (k := 2) rfl rfl reads_own; subst u8
  exact ⟨a7, q7, a8, q8, h⟩
theorem S_ref21_Desk.fd {w : World} {l : List HP} {b : Nat} {x : S_ref21_Desk} {v7 : Value} {v8 : Value} (h : Ctx w (B b [.int .i64 x.S.Layers, .int .i64 x.S.Width, .int .i64 x.S.Heads, .int .i64 x.S.Inner, .int .i64 x.S.Vocab, .int .i64 x.S.Places, .int .i64 x.Room, v7, v8] 47 :: Own S_api_Request.pr 24 v7 x.L :: Own (pInt .i64) 3 v8 x.Ids :: l)) : Ctx w (S_ref21_Desk.hp b x :: l) := Ctx.exB _ _ (Ctx.exB _ _ (Ctx.sepB (Ctx.sepB h)))

structure S_law21_Act where
  Kind : Int
  R : S_api_Request
  deriving DecidableEq

def S_law21_Act.pr : PR S_law21_Act 4 := pMap (fun x : S_law21_Act => (x.Kind, x.R)) (pSeq (pInt .i64) S_api_Request.pr)

abbrev S_api_Request.cz (x : S_api_Request) (a2 : Option Addr) (q2 : Nat) : List Value := [.int .i64 x.ID, .int .i64 x.Most, .slice a2 x.Prompt.length q2]
abbrev S_api_Shape.cz (x : S_api_Shape) : List Value := [.int .i64 x.Layers, .int .i64 x.Width, .int .i64 x.Heads, .int .i64 x.Inner, .int .i64 x.Vocab, .int .i64 x.Places]
abbrev S_ref21_Desk.cz (x : S_ref21_Desk) (a7 : Option Addr) (q7 : Nat) (a8 : Option Addr) (q8 : Nat) : List Value := [.int .i64 x.S.Layers, .int .i64 x.S.Width, .int .i64 x.S.Heads, .int .i64 x.S.Inner, .int .i64 x.S.Vocab, .int .i64 x.S.Places, .int .i64 x.Room, .slice a7 x.L.length q7, .slice a8 x.Ids.length q8]
abbrev S_law21_Act.cz (x : S_law21_Act) (a3 : Option Addr) (q3 : Nat) : List Value := [.int .i64 x.Kind, .int .i64 x.R.ID, .int .i64 x.R.Most, .slice a3 x.R.Prompt.length q3]
abbrev C10 := @Try.call10
abbrev C11 := @Try.call11
abbrev C12 := @Try.call12
abbrev C13 := @Try.call13
abbrev C14 := @Try.call14
abbrev C15 := @Try.call15
abbrev C16 := @Try.call16
abbrev C17 := @Try.call17
abbrev C18 := @Try.call18
abbrev C19 := @Try.call19
abbrev C20 := @Try.call20
abbrev C21 := @Try.call21
abbrev C22 := @Try.call22
abbrev C23 := @Try.call23
abbrev C24 := @Try.call24
abbrev C25 := @Try.call25
abbrev C26 := @Try.call26
abbrev C27 := @Try.call27
abbrev C28 := @Try.call28
abbrev C29 := @Try.call29
abbrev C30 := @Try.call30
abbrev C31 := @Try.call31
abbrev C32 := @Try.call32
abbrev C33 := @Try.call33
abbrev C34 := @Try.call34
abbrev C35 := @Try.call35
abbrev C36 := @Try.call36
abbrev C37 := @Try.call37
abbrev C38 := @Try.call38
abbrev C6 := @Try.call6
abbrev C7 := @Try.call7
abbrev C8 := @Try.call8
abbrev C9 := @Try.call9
abbrev F10 := @Try.func10
abbrev F11 := @Try.func11
abbrev F12 := @Try.func12
abbrev F13 := @Try.func13
abbrev F14 := @Try.func14
abbrev F15 := @Try.func15
abbrev F16 := @Try.func16
abbrev F17 := @Try.func17
abbrev F18 := @Try.func18
abbrev F19 := @Try.func19
abbrev F20 := @Try.func20
abbrev F21 := @Try.func21
abbrev F22 := @Try.func22
abbrev F23 := @Try.func23
abbrev F24 := @Try.func24
abbrev F25 := @Try.func25
abbrev F26 := @Try.func26
abbrev F27 := @Try.func27
abbrev F28 := @Try.func28
abbrev F29 := @Try.func29
abbrev F30 := @Try.func30
abbrev F31 := @Try.func31
abbrev F32 := @Try.func32
abbrev F33 := @Try.func33
abbrev F34 := @Try.func34
abbrev F35 := @Try.func35
abbrev F36 := @Try.func36
abbrev F37 := @Try.func37
abbrev F38 := @Try.func38
abbrev F4 := @Try.func4
abbrev F6 := @Try.func6
abbrev F7 := @Try.func7
abbrev F8 := @Try.func8
abbrev F9 := @Try.func9
abbrev G22 := @Try.isAgg22
abbrev G24 := @Try.isAgg24
abbrev G27 := @Try.isAgg27
abbrev G3 := @Try.isAgg3
abbrev G31 := @Try.isAgg31
abbrev G45 := @Try.isAgg45
abbrev G49 := @Try.isAgg49
abbrev G57 := @Try.isAgg57
abbrev M10 := @Try.ntmps10
abbrev M11 := @Try.ntmps11
abbrev M12 := @Try.ntmps12
abbrev M13 := @Try.ntmps13
abbrev M14 := @Try.ntmps14
abbrev M15 := @Try.ntmps15
abbrev M16 := @Try.ntmps16
abbrev M17 := @Try.ntmps17
abbrev M18 := @Try.ntmps18
abbrev M19 := @Try.ntmps19
abbrev M20 := @Try.ntmps20
abbrev M21 := @Try.ntmps21
abbrev M22 := @Try.ntmps22
abbrev M23 := @Try.ntmps23
abbrev M24 := @Try.ntmps24
abbrev M25 := @Try.ntmps25
abbrev M26 := @Try.ntmps26
abbrev M27 := @Try.ntmps27
abbrev M28 := @Try.ntmps28
abbrev M29 := @Try.ntmps29
abbrev M30 := @Try.ntmps30
abbrev M31 := @Try.ntmps31
abbrev M32 := @Try.ntmps32
abbrev M33 := @Try.ntmps33
abbrev M34 := @Try.ntmps34
abbrev M35 := @Try.ntmps35
abbrev M36 := @Try.ntmps36
abbrev M37 := @Try.ntmps37
abbrev M38 := @Try.ntmps38
abbrev M4 := @Try.ntmps4
abbrev M6 := @Try.ntmps6
abbrev M7 := @Try.ntmps7
abbrev M8 := @Try.ntmps8
abbrev M9 := @Try.ntmps9
abbrev R10 := @Try.results10
abbrev R11 := @Try.results11
abbrev R12 := @Try.results12
abbrev R13 := @Try.results13
abbrev R14 := @Try.results14
abbrev R15 := @Try.results15
abbrev R16 := @Try.results16
abbrev R17 := @Try.results17
abbrev R18 := @Try.results18
abbrev R19 := @Try.results19
abbrev R20 := @Try.results20
abbrev R21 := @Try.results21
abbrev R22 := @Try.results22
abbrev R23 := @Try.results23
abbrev R24 := @Try.results24
abbrev R25 := @Try.results25
abbrev R26 := @Try.results26
abbrev R27 := @Try.results27
abbrev R28 := @Try.results28
abbrev R29 := @Try.results29
abbrev R30 := @Try.results30
abbrev R31 := @Try.results31
abbrev R32 := @Try.results32
abbrev R33 := @Try.results33
abbrev R34 := @Try.results34
abbrev R35 := @Try.results35
abbrev R36 := @Try.results36
abbrev R37 := @Try.results37
abbrev R38 := @Try.results38
abbrev R4 := @Try.results4
abbrev R6 := @Try.results6
abbrev R7 := @Try.results7
abbrev R8 := @Try.results8
abbrev R9 := @Try.results9
abbrev U22 := @Try.underlying22
abbrev U24 := @Try.underlying24
abbrev U26 := @Try.underlying26
abbrev U3 := @Try.underlying3
abbrev U31 := @Try.underlying31
abbrev U33 := @Try.underlying33
abbrev U4 := @Try.underlying4
abbrev U42 := @Try.underlying42
abbrev U45 := @Try.underlying45
abbrev U47 := @Try.underlying47
abbrev U49 := @Try.underlying49
abbrev U57 := @Try.underlying57
abbrev U59 := @Try.underlying59
abbrev V24 := @Try.zeroValue24
abbrev V27 := @Try.zeroValue27
abbrev V3 := @Try.zeroValue3
abbrev V31 := @Try.zeroValue31
abbrev V4 := @Try.zeroValue4
abbrev V49 := @Try.zeroValue49
abbrev Z22 := @Try.sizeOf22
abbrev Z24 := @Try.sizeOf24
abbrev Z27 := @Try.sizeOf27
abbrev Z3 := @Try.sizeOf3
abbrev Z31 := @Try.sizeOf31
abbrev Z45 := @Try.sizeOf45
abbrev Z49 := @Try.sizeOf49
abbrev Z57 := @Try.sizeOf57
theorem S_law21_Act.op {w : World} {l : List HP} {cs : List Value} {x : S_law21_Act} (h : Ctx w (Hold S_law21_Act.pr cs x :: l)) : ∃ a3 q3, cs = [.int .i64 x.Kind, .int .i64 x.R.ID, .int .i64 x.R.Most, .slice a3 x.R.Prompt.length q3] ∧ Ctx w (Hold (pRo (pInt .i64)) [.slice a3 x.R.Prompt.length q3] x.R.Prompt :: l) := by
  obtain ⟨R, Ss, hc⟩ := h
  match Ss, hc with
  | S :: Ss, hc =>
    obtain ⟨⟨rfl, ⟨_, _, rfl, rfl, ⟨_, _, rfl, rfl, ⟨_, _, rfl, rfl, ⟨_, rfl, a3, q3, rfl, hc3, hr3⟩⟩⟩⟩⟩, h3⟩ := hc.all
    exact ⟨a3, q3, rfl, R, [] :: Ss, ⟨⟨rfl, _, rfl, a3, q3, rfl, hc3, hr3⟩, h3⟩, by simpa using hc.nodup, by simpa using hc.own, hc.fz⟩
def slices_Index_s_int_int.L1 (x0 : (List Int)) (x1 : Int) : Nat → Int → Option (Int)
  | 0, _ => none
  | m1 + 1, j1 =>
    if j1 < ((x0.length : Nat) : Int) then
      (idx x0 j1).bind fun y4 =>
      if x1 = y4 then
        some j1
      else
        (slices_Index_s_int_int.L1 x0 x1 m1) (IntKind.i64.wrap (j1 + 1))
    else
      some (-1)

def slices_Index_s_int_int (N : Nat) (x0 : (List Int)) (x1 : Int) : Option (Int) :=
  slices_Index_s_int_int.L1 x0 x1 N 0

theorem slices_Index_s_int_int_any {N nx0 qx0 : Nat} {x0 : (List Int)} {ax0 : Option Addr} {P0 : HP} {x1 r : Int} {Fr : List HP} {w : World} {K : Value → World → Prop} (hrd0 : Reads P0 (pInt .i64) (.slice ax0 nx0 qx0) x0) (hc : Ctx w (P0 :: Fr)) (hp : slices_Index_s_int_int N x0 x1 = some r)
    (k : ∀ w', Ctx w' (P0 :: Fr) → K (.int .i64 r) w') : Calls Try.prog 37 #[.slice ax0 nx0 qx0, .int .i64 x1] w (Ret K) := by
 unfold slices_Index_s_int_int at hp; refine Center2 F37 M37 rfl rfl ?_; obtain ⟨hn0, _⟩ := Ctx.rdLen hc (k := 0) rfl rfl hrd0; subst hn0; refine Wseq (Wreg ?_); refine au 1 rfl <| rn (qn (Wseq (Wseq (Wreg ?_)))); refine au 1 rfl <| sz (ln rfl U22) <| au 1 rfl <| rn (qn (Wblk ?_)); refine Wloop (rg [4, 2, 8, 11]) [8] (fun m vs w' => ∃ j1 : Int, vs = [.int .i64 j1] ∧ slices_Index_s_int_int.L1 x0 x1 m j1 = some r ∧ Ctx w' (P0 :: Fr)) N ?_ ?_
 · exact ⟨0, rfl, hp, hc⟩
 · clear hp hc; intro m vs u w2 hJ; obtain ⟨j1, rfl, hp, hc⟩ := hJ; rcases m with _ | m1
   · cases (show none = some r from hp)
   rw [slices_Index_s_int_int.L1] at hp; refine Wseq (Wreg ?_); refine au 1 rfl <| rn (qn (Wseq ?_)); refine Wif hp (fun _ hp => ?_) fun _ hp => ?_
   · refine Wexit (qx (qx (be (qn (Wseq (Wreg ?_)))))); refine au 1 rfl <| rn (qn (Wret ?_)); obtain rfl := sj hp; exact fz R37 M37 (k _ hc)
   · refine Wskip (qn (Wseq (Wblk (Wseq (Wreg ?_))))); refine au 2 rfl <| rn (qn (Wseq (Wreg ?_))); refine au 3 rfl ?_; obtain ⟨y4, hy4, hp⟩ := bind_some hp; obtain ⟨b7, o8, rfl, hi5, hi6⟩ := hc.ra 0 hrd0 hy4; refine sz (ixx rfl rfl U22 Z3 hi5 hi6 rfl) ?_; have hcell11 := hc.rv 0 hrd0 hy4; refine sz (ld rfl G3 (hcell11 0 _ rfl)) <| au 1 rfl <| rn (qn ?_); refine Wif hp (fun _ hp => ?_) fun _ hp => ?_
     · refine Wskip (bn (qn (Wreg ?_))); refine au 2 rfl <| rn (qn ?_); exact ⟨m1, Nat.lt_succ_self _, ⟨(IntKind.i64.wrap (j1 + 1)), rfl, hp, hc⟩, (kl rfl k0)⟩
     · refine Wseq (Wreg ?_); refine au 2 rfl <| rn (qn (Wret (br (qr (qr (br (qr ?_))))))); obtain rfl := sj hp; exact fz R37 M37 (k _ hc)

def slices_Contains_s_int_int (N : Nat) (x0 : (List Int)) (x1 : Int) : Option (Bool) :=
  (slices_Index_s_int_int N x0 x1).bind fun r1 =>
  some (decide (r1 ≥ 0))

theorem slices_Contains_s_int_int_any {N nx0 qx0 : Nat} {x0 : (List Int)} {ax0 : Option Addr} {P0 : HP} {x1 : Int} {Fr : List HP} {w : World} {r : Bool} {K : Value → World → Prop} (hrd0 : Reads P0 (pInt .i64) (.slice ax0 nx0 qx0) x0) (hc : Ctx w (P0 :: Fr)) (hp : slices_Contains_s_int_int N x0 x1 = some r)
    (k : ∀ w', Ctx w' (P0 :: Fr) → K (.bool r) w') : Calls Try.prog 31 #[.slice ax0 nx0 qx0, .int .i64 x1] w (Ret K) := by
 unfold slices_Contains_s_int_int at hp; refine Center2 F31 M31 rfl rfl ?_; obtain ⟨hn0, _⟩ := Ctx.rdLen hc (k := 0) rfl rfl hrd0; subst hn0; refine Wseq (Wreg ?_); refine au 1 rfl <| rn (qn (Wseq (Wreg ?_))); refine au 2 rfl ?_; obtain ⟨r1, hr1, hp⟩ := bind_some hp; refine kz C37 ?_; refine slices_Index_s_int_int_any hrd0 hc hr1 ?_; clear hc; intro w2 hc; refine au 2 rfl <| rn (qn (Wret ?_)); obtain rfl := sj hp; exact fz R31 M31 (k _ hc)

def slices_Clone_s_int_int (x0 : (List Int)) : Option ((List Int)) :=
  (app ([]) x0).bind fun z3 =>
  some z3

theorem slices_Clone_s_int_int_any {x0 r : (List Int)} {ax0 : Option Addr} {nx0 qx0 : Nat} {P0 : HP} {Fr : List HP} {w : World} {K : Value → World → Prop} (hrd0 : Reads P0 (pInt .i64) (.slice ax0 nx0 qx0) x0) (hc : Ctx w (P0 :: Fr)) (hp : slices_Clone_s_int_int x0 = some r)
    (k : ∀ a9 n10 q11 w', Ctx w' (Own (pInt .i64) 3 (.slice a9 n10 q11) r :: P0 :: Fr) → K (.slice a9 n10 q11) w') : Calls Try.prog 24 #[.slice ax0 nx0 qx0] w (Ret K) := by
 unfold slices_Clone_s_int_int at hp; refine Center1 F24 M24 rfl rfl ?_; obtain ⟨hn0, _⟩ := Ctx.rdLen hc (k := 0) rfl rfl hrd0; subst hn0; rcases ax0 with _ | ax0
 · have hx := Ctx.nilRows hc (k := 0) rfl rfl hrd0; subst hx; obtain ⟨z, hz, hp⟩ := bind_some hp; obtain rfl := sj hp; obtain ⟨_, hz⟩ := app_some hz; subst hz; refine Wseq (Wreg ?_); refine au 1 rfl <| rn (qn (Wseq (Wseq (Wreg ?_)))); refine au 1 rfl <| sz (v := .bool true) (esnT U22 rfl rfl) <| rn (qn (Wct rfl (Wseq (Wreg ?_)))); refine au 1 rfl <| rn (qn (Wret (qr ?_))); replace hc := hc.nilOwn (pInt .i64) 3; exact fz R24 M24 (k _ _ _ _ hc)
 · refine Wseq (Wreg ?_); refine au 1 rfl <| rn (qn (Wseq (Wseq (Wreg ?_)))); refine au 1 rfl <| sz (v := .bool false) (esnF U22 rfl rfl) <| rn (qn (Wcf rfl (Wskip (qn (Wseq (Wreg ?_)))))); refine rsE (Ctx.builtOp (css := []) (xs := ([] : List Int)) (E := (pInt .i64)) hc U22 Z3 V3 rfl rfl rfl rfl rfl rfl rfl rfl) rfl ?_; clear hc; rintro _ w2 ⟨a1, rfl, hc⟩; refine au 1 rfl ?_; obtain ⟨z3, hz3, hp⟩ := bind_some hp; obtain ⟨hg4, e5⟩ := app_some hz3; refine rsE (hc.ap 0 1 hrd0 U22 Try.t3 hg4) rfl ?_; clear hc; rintro _ w8 ⟨a6, q7, rfl, hc⟩; rw [← e5] at hc ⊢; replace hc := Ctx.n0 hc; refine au 1 rfl <| rn (qn (Wret ?_)); obtain rfl := sj hp; exact fz R24 M24 (k _ _ _ _ hc)

def slices_IndexFunc_s_int_int.L1 (x0 : (List Int)) (x1 : (Int → Option Bool)) : Nat → Int → Option (Int)
  | 0, _ => none
  | m1 + 1, j1 =>
    if j1 < ((x0.length : Nat) : Int) then
      (idx x0 j1).bind fun y4 =>
      (x1 y4).bind fun r13 =>
      if r13 = true then
        some j1
      else
        (slices_IndexFunc_s_int_int.L1 x0 x1 m1) (IntKind.i64.wrap (j1 + 1))
    else
      some (-1)

def slices_IndexFunc_s_int_int (N : Nat) (x0 : (List Int)) (x1 : (Int → Option Bool)) : Option (Int) :=
  slices_IndexFunc_s_int_int.L1 x0 x1 N 0

theorem slices_IndexFunc_s_int_int_any {N nx0 qx0 : Nat} {x0 : (List Int)} {ax0 : Option Addr} {P0 : HP} {x1 : (Int → Option Bool)} {fid1 : FuncId} {cap1 : List Value} {Fr : List HP} {w : World} {r : Int} {K : Value → World → Prop} (hrd0 : Reads P0 (pInt .i64) (.slice ax0 nx0 qx0) x0) (hcl1 : ∀ a w, (callFunc fid1 a).run Try.prog w = .ok (.enter fid1 a) w) (hf1 : ∀ (y0 : Int) (Qs : List HP) (w : World) (r : Bool) (K : Value → World → Prop), Ctx w ((Qs ++ Fr)) → x1 y0 = some r → (∀ w', Ctx w' (Qs ++ Fr) → K (.bool r) w') → Calls Try.prog fid1 (([.int .i64 y0] : List Value) ++ cap1).toArray w (Ret K)) (hc : Ctx w (P0 :: Fr)) (hp : slices_IndexFunc_s_int_int N x0 x1 = some r)
    (k : ∀ w', Ctx w' (P0 :: Fr) → K (.int .i64 r) w') : Calls Try.prog 38 #[.slice ax0 nx0 qx0, .func (.func fid1) #[] cap1.toArray] w (Ret K) := by
 unfold slices_IndexFunc_s_int_int at hp; refine Center2 F38 M38 rfl rfl ?_; obtain ⟨hn0, _⟩ := Ctx.rdLen hc (k := 0) rfl rfl hrd0; subst hn0; refine Wseq (Wreg ?_); refine au 1 rfl <| rn (qn (Wseq (Wseq (Wreg ?_)))); refine au 1 rfl <| sz (ln rfl U22) <| au 1 rfl <| rn (qn (Wblk ?_)); refine Wloop (rg [4, 2, 8, 11]) [8] (fun m vs w' => ∃ j1 : Int, vs = [.int .i64 j1] ∧ slices_IndexFunc_s_int_int.L1 x0 x1 m j1 = some r ∧ Ctx w' (P0 :: Fr)) N ?_ ?_
 · exact ⟨0, rfl, hp, hc⟩
 · clear hp hc; intro m vs u w2 hJ; obtain ⟨j1, rfl, hp, hc⟩ := hJ; rcases m with _ | m1
   · cases (show none = some r from hp)
   rw [slices_IndexFunc_s_int_int.L1] at hp; refine Wseq (Wreg ?_); refine au 1 rfl <| rn (qn (Wseq ?_)); refine Wif hp (fun _ h => ?_) fun _ h => ?_
   · replace hp := h; clear h; refine Wexit (qx (qx (be (qn (Wseq (Wreg ?_)))))); refine au 1 rfl <| rn (qn (Wret ?_)); obtain rfl := sj hp; exact fz R38 M38 (k _ hc)
   · replace hp := h; clear h; refine Wskip (qn (Wseq (Wblk (Wseq (Wreg ?_))))); refine au 2 rfl <| rn (qn (Wseq (Wreg ?_))); refine au 3 rfl ?_; replace hp := bind_some hp; obtain ⟨y4, hy4, hp⟩ := hp; obtain ⟨b7, o8, rfl, hi5, hi6⟩ := hc.ra 0 hrd0 hy4; refine sz (ixx rfl rfl U22 Z3 hi5 hi6 rfl) ?_; have hcell11 := hc.rv 0 hrd0 hy4; refine sz (ld rfl G3 (hcell11 0 _ rfl)) ?_; replace hp := bind_some hp; obtain ⟨r13, hr13, hp⟩ := hp; refine rc (cv (fi := []) (ca := cap1) (vs := ([.int .i64 y4] : List Value) ++ cap1) hcl1 rfl rfl) rfl ?_; refine hf1 _ [P0] _ _ _ hc hr13 ?_; clear hc; intro w14 hc; replace hc : Ctx w14 (P0 :: Fr) := hc; refine rn (qn ?_); cases hb15 : r13
     · replace hp := gneg hp (by rw [hb15]; exact Bool.false_ne_true); subst hb15; refine Wcf rfl (Wskip (bn (qn (Wreg ?_)))); refine au 2 rfl <| rn (qn ?_); exact ⟨m1, Nat.lt_succ_self _, ⟨(IntKind.i64.wrap (j1 + 1)), rfl, hp, hc⟩, (kl rfl k0)⟩
     · replace hp := gpos hp hb15; subst hb15; refine Wct rfl (Wseq (Wreg ?_)); refine au 2 rfl <| rn (qn (Wret (br (qr (qr (br (qr ?_))))))); obtain rfl := sj hp; exact fz R38 M38 (k _ hc)

def slices_ContainsFunc_s_int_int (N : Nat) (x0 : (List Int)) (x1 : (Int → Option Bool)) : Option (Bool) :=
  (slices_IndexFunc_s_int_int N x0 x1).bind fun r2 =>
  some (decide (r2 ≥ 0))

theorem slices_ContainsFunc_s_int_int_any {N nx0 qx0 : Nat} {x0 : (List Int)} {ax0 : Option Addr} {P0 : HP} {x1 : (Int → Option Bool)} {fid1 : FuncId} {cap1 : List Value} {Fr : List HP} {w : World} {r : Bool} {K : Value → World → Prop} (hrd0 : Reads P0 (pInt .i64) (.slice ax0 nx0 qx0) x0) (hcl1 : ∀ a w, (callFunc fid1 a).run Try.prog w = .ok (.enter fid1 a) w) (hf1 : ∀ (y0 : Int) (Qs : List HP) (w : World) (r : Bool) (K : Value → World → Prop), Ctx w ((Qs ++ Fr)) → x1 y0 = some r → (∀ w', Ctx w' (Qs ++ Fr) → K (.bool r) w') → Calls Try.prog fid1 (([.int .i64 y0] : List Value) ++ cap1).toArray w (Ret K)) (hc : Ctx w (P0 :: Fr)) (hp : slices_ContainsFunc_s_int_int N x0 x1 = some r)
    (k : ∀ w', Ctx w' (P0 :: Fr) → K (.bool r) w') : Calls Try.prog 35 #[.slice ax0 nx0 qx0, .func (.func fid1) #[] cap1.toArray] w (Ret K) := by
 unfold slices_ContainsFunc_s_int_int at hp; refine Center2 F35 M35 rfl rfl ?_; obtain ⟨hn0, _⟩ := Ctx.rdLen hc (k := 0) rfl rfl hrd0; subst hn0; refine Wseq (Wreg ?_); refine au 1 rfl <| rn (qn (Wseq (Wreg ?_))); refine au 2 rfl ?_; have hf1 : ∀ (y0 : Int) (Qs : List HP) (w : World) (r : Bool) (K : Value → World → Prop), Ctx w ((Qs ++ (Fr))) → x1 y0 = some r → (∀ w', Ctx w' (Qs ++ (Fr)) → K (.bool r) w') → Calls Try.prog fid1 (([.int .i64 y0] : List Value) ++ cap1).toArray w (Ret K) := by
   intro z0 Qs w r K hc hp k; refine hf1 z0 (Qs ++ []) w r K (by rw [List.append_assoc]; exact hc) hp (fun w' hc' => k w' (by rw [List.append_assoc] at hc'; exact hc'))
 obtain ⟨r2, hr2, hp⟩ := bind_some hp; refine kz C38 ?_; refine slices_IndexFunc_s_int_int_any hrd0 hcl1 hf1 hc hr2 ?_; clear hc; intro w3 hc; refine au 2 rfl <| rn (qn (Wret ?_)); obtain rfl := sj hp; exact fz R35 M35 (k _ hc)

def slices_IndexFunc_s_api_Request_api_Request.L1 (x0 : (List S_api_Request)) (x1 : (S_api_Request → Option Bool)) : Nat → Int → Option (Int)
  | 0, _ => none
  | m1 + 1, j1 =>
    if j1 < ((x0.length : Nat) : Int) then
      (idx x0 j1).bind fun y4 =>
      (x1 y4).bind fun r15 =>
      if r15 = true then
        some j1
      else
        (slices_IndexFunc_s_api_Request_api_Request.L1 x0 x1 m1) (IntKind.i64.wrap (j1 + 1))
    else
      some (-1)

def slices_IndexFunc_s_api_Request_api_Request (N : Nat) (x0 : (List S_api_Request)) (x1 : (S_api_Request → Option Bool)) : Option (Int) :=
  slices_IndexFunc_s_api_Request_api_Request.L1 x0 x1 N 0

theorem slices_IndexFunc_s_api_Request_api_Request_any {N nx0 qx0 : Nat} {x0 : (List S_api_Request)} {ax0 : Option Addr} {P0 : HP} {x1 : (S_api_Request → Option Bool)} {fid1 : FuncId} {cap1 : List Value} {Fr : List HP} {w : World} {r : Int} {K : Value → World → Prop} (hrd0 : Reads P0 S_api_Request.pr (.slice ax0 nx0 qx0) x0) (hcl1 : ∀ a w, (callFunc fid1 a).run Try.prog w = .ok (.enter fid1 a) w) (hf1 : ∀ (y0 : S_api_Request) (a1 : Option Addr) (n2 : Nat) (q3 : Nat) (Qs : List HP) (w : World) (r : Bool) (K : Value → World → Prop), Ctx w (Hold (pRo (pInt .i64)) [.slice a1 n2 q3] y0.Prompt :: (Qs ++ Fr)) → x1 y0 = some r → (∀ w', Ctx w' (Qs ++ Fr) → K (.bool r) w') → Calls Try.prog fid1 (([.agg #[.int .i64 y0.ID, .int .i64 y0.Most, .slice a1 n2 q3]] : List Value) ++ cap1).toArray w (Ret K)) (hc : Ctx w (P0 :: Fr)) (hp : slices_IndexFunc_s_api_Request_api_Request N x0 x1 = some r)
    (k : ∀ w', Ctx w' (P0 :: Fr) → K (.int .i64 r) w') : Calls Try.prog 36 #[.slice ax0 nx0 qx0, .func (.func fid1) #[] cap1.toArray] w (Ret K) := by
 unfold slices_IndexFunc_s_api_Request_api_Request at hp; refine Center2 F36 M36 rfl rfl ?_; obtain ⟨hn0, _⟩ := Ctx.rdLen hc (k := 0) rfl rfl hrd0; subst hn0; refine Wseq (Wreg ?_); refine au 1 rfl <| rn (qn (Wseq (Wseq (Wreg ?_)))); refine au 1 rfl <| sz (ln rfl U45) <| au 1 rfl <| rn (qn (Wblk ?_)); refine Wloop (rg [4, 2, 8, 11]) [8] (fun m vs w' => ∃ j1 : Int, vs = [.int .i64 j1] ∧ slices_IndexFunc_s_api_Request_api_Request.L1 x0 x1 m j1 = some r ∧ Ctx w' (P0 :: Fr)) N ?_ ?_
 · exact ⟨0, rfl, hp, hc⟩
 · clear hp hc; intro m vs u w2 hJ; obtain ⟨j1, rfl, hp, hc⟩ := hJ; rcases m with _ | m1
   · cases (show none = some r from hp)
   rw [slices_IndexFunc_s_api_Request_api_Request.L1] at hp; refine Wseq (Wreg ?_); refine au 1 rfl <| rn (qn (Wseq ?_)); refine Wif hp (fun _ h => ?_) fun _ h => ?_
   · replace hp := h; clear h; refine Wexit (qx (qx (be (qn (Wseq (Wreg ?_)))))); refine au 1 rfl <| rn (qn (Wret ?_)); obtain rfl := sj hp; exact fz R36 M36 (k _ hc)
   · replace hp := h; clear h; refine Wskip (qn (Wseq (Wblk (Wseq (Wreg ?_))))); refine au 2 rfl <| rn (qn (Wseq (Wreg ?_))); refine au 3 rfl ?_; replace hp := bind_some hp; obtain ⟨y4, hy4, hp⟩ := hp; obtain ⟨b7, o8, rfl, hi5, hi6⟩ := hc.ra 0 hrd0 hy4; refine sz (ixx rfl rfl U45 Z24 hi5 hi6 rfl) ?_; replace hc := Ctx.rdCell hc (k := 0) rfl rfl hrd0 hy4; obtain ⟨cs10, hc, hcell11⟩ := hc; replace hc := S_api_Request.op hc; obtain ⟨a13, q14, u12, hc⟩ := hc; subst u12; refine sz (v := .agg (S_api_Request.cz y4 a13 q14).toArray) (ldg rfl G24 Z24 rfl (elCells hcell11 0 (vs := (S_api_Request.cz y4 a13 q14)) rfl)) ?_; replace hc := hc.dz 0; replace hp := bind_some hp; obtain ⟨r15, hr15, hp⟩ := hp; refine rc (cv (fi := []) (ca := cap1) (vs := ([.agg (S_api_Request.cz y4 a13 q14).toArray] : List Value) ++ cap1) hcl1 rfl rfl) rfl ?_; refine hf1 _ _ _ _ [hR .i64 a13 q14 y4.Prompt, P0] _ _ _ hc hr15 ?_; clear hc; intro w16 hc; replace hc : Ctx w16 (hR .i64 a13 q14 y4.Prompt :: P0 :: Fr) := hc; refine rn (qn ?_); cases hb17 : r15
     · replace hp := gneg hp (by rw [hb17]; exact Bool.false_ne_true); subst hb17; refine Wcf rfl (Wskip (bn (qn (Wreg ?_)))); refine au 2 rfl <| rn (qn ?_); replace hc := hc.m [1]; exact ⟨m1, Nat.lt_succ_self _, ⟨(IntKind.i64.wrap (j1 + 1)), rfl, hp, hc⟩, (kl rfl k0)⟩
     · replace hp := gpos hp hb17; subst hb17; refine Wct rfl (Wseq (Wreg ?_)); refine au 2 rfl <| rn (qn (Wret (br (qr (qr (br (qr ?_))))))); replace hc := hc.m [1]; obtain rfl := sj hp; exact fz R36 M36 (k _ hc)

def slices_DeleteFunc_s_api_Request_api_Request.J2 (j10 : Int) (k1 : (List S_api_Request) → Int → Int → Option ((List S_api_Request))) (j22 : (List S_api_Request)) (j26 : Int) : Option ((List S_api_Request)) :=
  k1 j22 j26 (IntKind.i64.wrap (j10 + 1))

def slices_DeleteFunc_s_api_Request_api_Request.J3 (j5 : (List S_api_Request)) (j9 : Int) (j10 : Int) (y27 : S_api_Request) (k1 : (List S_api_Request) → Int → Int → Option ((List S_api_Request))) (j42 : Bool) : Option ((List S_api_Request)) :=
  if j42 = true then
    (idx j5 j9).bind fun y48 =>
    slices_DeleteFunc_s_api_Request_api_Request.J2 j10 k1 (j5.set (j9).toNat y27) (IntKind.i64.wrap (j9 + 1))
  else
    slices_DeleteFunc_s_api_Request_api_Request.J2 j10 k1 j5 j9

def slices_DeleteFunc_s_api_Request_api_Request.L1 (x0 : (List S_api_Request)) (x1 : (S_api_Request → Option Bool)) : Nat → (List S_api_Request) → Int → Int → Option ((List S_api_Request))
  | 0, _, _, _ => none
  | m1 + 1, j5, j9, j10 =>
    if j10 < ((x0.length : Nat) : Int) then
      (idx j5 j10).bind fun y27 =>
      (x1 (⟨y27.ID, y27.Most, y27.Prompt⟩ : S_api_Request)).bind fun r43 =>
      if r43 = true then
        slices_DeleteFunc_s_api_Request_api_Request.J3 j5 j9 j10 y27 (slices_DeleteFunc_s_api_Request_api_Request.L1 x0 x1 m1) false
      else
        slices_DeleteFunc_s_api_Request_api_Request.J3 j5 j9 j10 y27 (slices_DeleteFunc_s_api_Request_api_Request.L1 x0 x1 m1) true
    else
      chk (0 ≤ j9 ∧ j9 ≤ ((x0.length : Nat) : Int) ∧ ((x0.length : Nat) : Int) ≤ ((x0.length : Nat) : Int)) <|
      chk (0 ≤ j9 ∧ j9 ≤ ((x0.length : Nat) : Int)) <|
      some ((j5.take (j9).toNat ++ List.replicate (x0.length - (j9).toNat) (⟨0, 0, []⟩ : S_api_Request)).take (j9).toNat)

def slices_DeleteFunc_s_api_Request_api_Request (N : Nat) (x0 : (List S_api_Request)) (x1 : (S_api_Request → Option Bool)) : Option ((List S_api_Request)) :=
  (slices_IndexFunc_s_api_Request_api_Request N x0 x1).bind fun r2 =>
  if r2 = (-1) then
    some x0
  else
    slices_DeleteFunc_s_api_Request_api_Request.L1 x0 x1 N x0 r2 (IntKind.i64.wrap (r2 + 1))

theorem slices_DeleteFunc_s_api_Request_api_Request_any {N nx0 qx0 : Nat} {x0 r : (List S_api_Request)} {ax0 : Option Addr} {x1 : (S_api_Request → Option Bool)} {fid1 : FuncId} {cap1 : List Value} {Fr : List HP} {w : World} {K : Value → World → Prop} (hcl1 : ∀ a w, (callFunc fid1 a).run Try.prog w = .ok (.enter fid1 a) w) (hf1 : ∀ (y0 : S_api_Request) (a1 : Option Addr) (n2 : Nat) (q3 : Nat) (Qs : List HP) (w : World) (r : Bool) (K : Value → World → Prop), Ctx w (Hold (pRo (pInt .i64)) [.slice a1 n2 q3] y0.Prompt :: (Qs ++ Fr)) → x1 y0 = some r → (∀ w', Ctx w' (Qs ++ Fr) → K (.bool r) w') → Calls Try.prog fid1 (([.agg #[.int .i64 y0.ID, .int .i64 y0.Most, .slice a1 n2 q3]] : List Value) ++ cap1).toArray w (Ret K)) (hc : Ctx w (Own S_api_Request.pr 24 (.slice ax0 nx0 qx0) x0 :: Fr)) (hp : slices_DeleteFunc_s_api_Request_api_Request N x0 x1 = some r)
    (k : ∀ a56 n57 q58 w', Ctx w' (Own S_api_Request.pr 24 (.slice a56 n57 q58) r :: Fr) → K (.slice a56 n57 q58) w') : Calls Try.prog 29 #[.slice ax0 nx0 qx0, .func (.func fid1) #[] cap1.toArray] w (Ret K) := by
 unfold slices_DeleteFunc_s_api_Request_api_Request at hp; refine Center2 F29 M29 rfl rfl ?_; obtain ⟨hn0, _⟩ := Ctx.rdLen hc (k := 0) rfl rfl reads_own; subst hn0; refine Wseq (Wreg ?_); refine au 1 rfl <| rn (qn (Wseq (Wreg ?_))); refine au 2 rfl ?_; have hf1 : ∀ (y0 : S_api_Request) (a2 : Option Addr) (n3 : Nat) (q4 : Nat) (Qs : List HP) (w : World) (r : Bool) (K : Value → World → Prop), Ctx w (Hold (pRo (pInt .i64)) [.slice a2 n3 q4] y0.Prompt :: (Qs ++ (Fr))) → x1 y0 = some r → (∀ w', Ctx w' (Qs ++ (Fr)) → K (.bool r) w') → Calls Try.prog fid1 (([.agg #[.int .i64 y0.ID, .int .i64 y0.Most, .slice a2 n3 q4]] : List Value) ++ cap1).toArray w (Ret K) := by
   intro z0 z1 z2 z3 Qs w r K hc hp k; refine hf1 z0 z1 z2 z3 (Qs ++ []) w r K (by rw [List.append_assoc]; exact hc) hp (fun w' hc' => k w' (by rw [List.append_assoc] at hc'; exact hc'))
 replace hp := bind_some hp; obtain ⟨r2, hr2, hp⟩ := hp; refine kz C36 ?_; refine slices_IndexFunc_s_api_Request_api_Request_any reads_own hcl1 hf1 hc hr2 ?_; clear hc; intro w3 hc; refine au 1 rfl <| rn (qn (Wseq (Wseq (Wreg ?_)))); refine au 2 rfl <| rn (qn ?_); refine Wif hp (fun _ h => ?_) fun _ h => ?_
 · replace hp := h; clear h; refine Wskip (qn (Wseq (Wseq (Wreg ?_)))); refine au 3 rfl <| rn (qn (Wblk ?_)); refine Wloop (rg [5, 3, 16, 20]) [5, 6] (fun m vs w' => ∃ j5 : (List S_api_Request), ∃ j9 : Int, ∃ j10 : Int, vs = [.int .i64 j9, .int .i64 j10] ∧ slices_DeleteFunc_s_api_Request_api_Request.L1 x0 x1 m j5 j9 j10 = some r ∧ Ctx w' (Own S_api_Request.pr 24 (.slice ax0 x0.length qx0) j5 :: Fr)) N ?_ ?_
   · exact ⟨x0, r2, (IntKind.i64.wrap (r2 + 1)), rfl, hp, hc⟩
   · clear hp hc; intro m vs u w11 hJ; obtain ⟨j5, j9, j10, rfl, hp, hc⟩ := hJ; rcases m with _ | m1
     · cases (show none = some r from hp)
     rw [slices_DeleteFunc_s_api_Request_api_Request.L1] at hp; refine Wseq (Wseq (Wreg ?_)); refine au 2 rfl <| sz (ln rfl U45) <| au 1 rfl <| rn (qn ?_); refine Wif hp (fun _ h => ?_) fun _ h => ?_
     · replace hp := h; clear h; refine Wexit (qx (qx (be (qn (Wseq (Wreg ?_)))))); refine au 2 rfl ?_; replace hp := chk_some hp; obtain ⟨hg13, hp⟩ := hp; refine rsE (Ctx.subOp (li := some j9) (hi' := none) hc (k := 0) rfl rfl reads_own rfl ⟨_, rfl⟩ trivial U45 Z24 hg13) rfl ?_; rintro _ _ ⟨rfl, a14, q15, rfl, rd16, ea17, eq18⟩; replace rd16 : Reads (Own S_api_Request.pr 24 (.slice ax0 x0.length qx0) j5) S_api_Request.pr (.slice a14 ((((x0.length : Nat) : Int)).toNat - (j9).toNat) q15) ((j5.take (((x0.length : Nat) : Int)).toNat).drop (j9).toNat) := rd16; subst ea17 eq18; refine rvE (Ctx.clearFrom (x0 := (⟨0, 0, []⟩ : S_api_Request)) hc (k := 0) rfl rfl U45 V24 rfl rfl (fun _ _ => ⟨([.int .i64 0] : List Value), ([.int .i64 0, .slice none 0 0] : List Value), rfl, rfl, ⟨([.int .i64 0] : List Value), ([.slice none 0 0] : List Value), rfl, rfl, ⟨_, rfl, none, 0, rfl, Nat.le_refl _, fun i x hx => by simp at hx⟩⟩⟩) (j9).toNat (by omega) rfl) rfl ?_; clear hc; intro w19 hc; replace hc := Ctx.n0 hc; refine rn (qn (Wseq (Wreg ?_))); refine au 2 rfl ?_; replace hp := chk_some hp; obtain ⟨hg20, hp⟩ := hp; refine rsE (Ctx.subOp0 (hv := j9) hc (k := 0) rfl rfl reads_own rfl ⟨_, rfl⟩ U45 Z24 hg20) rfl ?_; rintro _ _ ⟨rfl, rfl, rd21⟩; refine au 1 rfl <| rn (qn (Wret ?_)); replace hc := hc.ownTake (k := 0) rfl rfl (j9).toNat (by omega) rfl; replace hc := Ctx.n0 hc; obtain rfl := sj hp; exact fz R29 M29 (k _ _ _ _ hc)
     · replace hp := h; clear h; refine Wskip (qn ?_); refine Wseqm (rg [5, 1, 7, 1, 22, 14]) [5] (fun vs w' => ∃ j22 : (List S_api_Request), ∃ j26 : Int, vs = [.int .i64 j26] ∧ slices_DeleteFunc_s_api_Request_api_Request.J2 j10 (slices_DeleteFunc_s_api_Request_api_Request.L1 x0 x1 m1) j22 j26 = some r ∧ Ctx w' (Own S_api_Request.pr 24 (.slice ax0 x0.length qx0) j22 :: Fr)) ?_ ?_
       · refine Wblk (Wseq (Wreg ?_)); refine au 2 rfl ?_; replace hp := bind_some hp; obtain ⟨y27, hy27, hp⟩ := hp; obtain ⟨b30, o31, rfl, hi28, hi29⟩ := hc.ra 0 reads_own hy27; refine sz (ixx rfl rfl U45 Z24 hi28 hi29 rfl) ?_; replace hc := Ctx.rdCell hc (k := 0) rfl rfl reads_own hy27; obtain ⟨cs33, hc, hcell34⟩ := hc; replace hc := S_api_Request.op hc; obtain ⟨a36, q37, u35, hc⟩ := hc; subst u35; refine sz (v := .agg (S_api_Request.cz y27 a36 q37).toArray) (ldg rfl G24 Z24 rfl (elCells hcell34 0 (vs := (S_api_Request.cz y27 a36 q37)) rfl)) ?_; refine rsE (Ctx.allocOp (cs := [.int .i64 0, .int .i64 0, .slice none 0 0]) hc V24 rfl) rfl ?_; clear hc; rintro _ w40 ⟨b38, rfl, hc⟩; refine pa hc 0 Z24 ?_; clear hc; rintro w41 hc; refine rn (qn ?_); refine Wseqm (rg [26, 4]) [29] (fun vs w' => ∃ j42 : Bool, vs = [.bool j42] ∧ slices_DeleteFunc_s_api_Request_api_Request.J3 j5 j9 j10 y27 (slices_DeleteFunc_s_api_Request_api_Request.L1 x0 x1 m1) j42 = some r ∧ Ctx w' (B b38 (S_api_Request.cz y27 a36 q37) 24 :: hR .i64 a36 q37 y27.Prompt :: Own S_api_Request.pr 24 (.slice (some ⟨b30, o31, none⟩) x0.length qx0) j5 :: Fr)) ?_ ?_
         · refine Wreg <| au 1 rfl <| lg G24 Z24 hc 0 ?_; replace hc := hc.dz 1; replace hp := bind_some hp; obtain ⟨r43, hr43, hp⟩ := hp; refine rc (cv (fi := []) (ca := cap1) (vs := ([.agg (S_api_Request.cz y27 a36 q37).toArray] : List Value) ++ cap1) hcl1 rfl rfl) rfl ?_; refine hf1 _ _ _ _ [B b38 (S_api_Request.cz y27 a36 q37) 24, hR .i64 a36 q37 y27.Prompt, Own S_api_Request.pr 24 (.slice (some ⟨b30, o31, none⟩) x0.length qx0) j5] _ _ _ hc hr43 ?_; clear hc; intro w44 hc; replace hc : Ctx w44 (B b38 (S_api_Request.cz y27 a36 q37) 24 :: hR .i64 a36 q37 y27.Prompt :: Own S_api_Request.pr 24 (.slice (some ⟨b30, o31, none⟩) x0.length qx0) j5 :: Fr) := hc; cases hb45 : r43
           · replace hp := gneg hp (by rw [hb45]; exact Bool.false_ne_true); subst hb45; refine au 1 rfl <| rn (qn ?_); exact ⟨⟨true, rfl, hp, hc⟩, (kl rfl kb)⟩
           · replace hp := gpos hp hb45; subst hb45; refine au 1 rfl <| rn (qn ?_); exact ⟨⟨false, rfl, hp, hc⟩, (kl rfl kb)⟩
         · clear hp hc; intro vs u w46 hJ; obtain ⟨j42, rfl, hp, hc⟩ := hJ; unfold slices_DeleteFunc_s_api_Request_api_Request.J3 at hp; cases hb47 : j42
           · replace hp := gneg hp (by rw [hb47]; exact Bool.false_ne_true); subst hb47; refine Wcf rfl (Wskip (bn (qn ?_))); replace hc := hc.m [3, 1]; exact ⟨⟨j5, j9, rfl, hp, hc⟩, (kl rfl (km rfl (kl rfl kb)))⟩
           · replace hp := gpos hp hb47; subst hb47; refine Wct rfl (Wseq (Wreg ?_)); refine au 2 rfl <| lg G24 Z24 hc 0 ?_; replace hp := bind_some hp; obtain ⟨y48, hy48, hp⟩ := hp; obtain ⟨b51, o52, -, hi49, hi50⟩ := hc.ra 2 reads_own hy48; refine sz (ixx rfl rfl U45 Z24 hi49 hi50 rfl) ?_; replace hc := hc.dz 1; replace hc : Ctx w46 (Hold S_api_Request.pr (S_api_Request.cz y27 a36 q37) y27 :: B b38 (S_api_Request.cz y27 a36 q37) 24 :: hR .i64 a36 q37 y27.Prompt :: Own S_api_Request.pr 24 (.slice (some ⟨b30, o31, none⟩) x0.length qx0) j5 :: Fr) := S_api_Request.cl hc; refine ruE (Ctx.ownStore hc (k := 2) rfl rfl (x0 := y48) hy48 (vs := (S_api_Request.cz y27 a36 q37)) rfl rfl Z24) rfl ?_; clear hc; rintro w54 hc; replace hc := Ctx.n2 hc; refine rn (qn (Wreg ?_)); refine au 3 rfl <| rn (bn (qn ?_)); replace hc := hc.m [3, 1]; exact ⟨⟨(j5.set (j9).toNat y27), (IntKind.i64.wrap (j9 + 1)), rfl, hp, hc⟩, (kl rfl (km rfl (kl rfl kb)))⟩
       · clear hp hc; intro vs u w55 hJ; obtain ⟨j22, j26, rfl, hp, hc⟩ := hJ; unfold slices_DeleteFunc_s_api_Request_api_Request.J2 at hp; refine Wreg <| au 3 rfl <| rn (qn ?_); exact ⟨m1, Nat.lt_succ_self _, ⟨j22, j26, (IntKind.i64.wrap (j10 + 1)), rfl, hp, hc⟩, (kl rfl (km rfl (kl rfl k0)))⟩
 · replace hp := h; clear h; refine Wseq (Wreg ?_); refine au 2 rfl <| rn (qn (Wret (qr ?_))); obtain rfl := sj hp; exact fz R29 M29 (k _ _ _ _ hc)

def slices_Delete_s_api_Request_api_Request (x0 : (List S_api_Request)) (x1 : Int) (x2 : Int) : Option ((List S_api_Request)) :=
  chk (0 ≤ x1 ∧ x1 ≤ x2 ∧ x2 ≤ ((x0.length : Nat) : Int)) <|
  if x1 = x2 then
    some x0
  else
    chk (0 ≤ x1 ∧ x1 ≤ ((x0.length : Nat) : Int)) <|
    chk (0 ≤ x2 ∧ x2 ≤ ((x0.length : Nat) : Int) ∧ ((x0.length : Nat) : Int) ≤ ((x0.length : Nat) : Int)) <|
    chk ((x1).toNat < (x2).toNat) <|
    chk (0 ≤ ((((x1).toNat + (x0.length - (x2).toNat)) : Nat) : Int) ∧ ((((x1).toNat + (x0.length - (x2).toNat)) : Nat) : Int) ≤ ((x0.length : Nat) : Int)) <|
    some (((x0.take (x1).toNat ++ x0.drop (x2).toNat ++ x0.drop ((x1).toNat + (x0.length - (x2).toNat))).take (((((x1).toNat + (x0.length - (x2).toNat)) : Nat) : Int)).toNat ++ List.replicate (x0.length - (((((x1).toNat + (x0.length - (x2).toNat)) : Nat) : Int)).toNat) (⟨0, 0, []⟩ : S_api_Request)).take ((x1).toNat + (x0.length - (x2).toNat)))

theorem slices_Delete_s_api_Request_api_Request_any {x0 r : (List S_api_Request)} {ax0 : Option Addr} {nx0 qx0 : Nat} {x1 x2 : Int} {Fr : List HP} {w : World} {K : Value → World → Prop}  (hc : Ctx w (Own S_api_Request.pr 24 (.slice ax0 nx0 qx0) x0 :: Fr)) (hp : slices_Delete_s_api_Request_api_Request x0 x1 x2 = some r)
    (k : ∀ a24 n25 q26 w', Ctx w' (Own S_api_Request.pr 24 (.slice a24 n25 q26) r :: Fr) → K (.slice a24 n25 q26) w') : Calls Try.prog 27 #[.slice ax0 nx0 qx0, .int .i64 x1, .int .i64 x2] w (Ret K) := by
 unfold slices_Delete_s_api_Request_api_Request at hp; refine Center3 F27 M27 rfl rfl ?_; obtain ⟨hn0, _⟩ := Ctx.rdLen hc (k := 0) rfl rfl reads_own; subst hn0; refine Wseq (Wreg ?_); refine au 1 rfl <| rn (qn (Wseq (Wreg ?_))); refine au 4 rfl <| sz (ln rfl U45) ?_; obtain ⟨hg1, hp⟩ := chk_some hp; obtain ⟨hl2, hq3⟩ := Ctx.rdLen hc (k := 0) rfl rfl reads_own; refine rsE (run_sub3 rfl ⟨_, rfl⟩ ⟨_, rfl⟩ ⟨_, rfl⟩ U45 Z24 hg1 (by omega)) rfl ?_; rintro v4 w5 hw; rw [hw]; clear hw w5; refine rn (qn (Wseq (Wseq (Wreg ?_)))); refine au 3 rfl <| rn (qn ?_); refine Wif hp (fun _ hp => ?_) fun _ hp => ?_
 · refine Wskip (qn (Wseq (Wreg ?_))); refine au 1 rfl <| sz (ln rfl U45) <| au 1 rfl <| rn (qn (Wseq ?_)); replace hc := hc.drew; refine Wdrw (fun j w' => True) [0, 0, 3, 0, 0, 24, 63, 127] 0 0 rfl (by kernel_rfl) (fun _ _ => trivial) ?_; generalize hw : World.drew w = w7 at *; clear hw; refine ad_ 2 rfl ?_; obtain ⟨hg8, hp⟩ := chk_some hp; obtain ⟨hl9, hq10⟩ := Ctx.rdLen hc (k := 0) rfl rfl reads_own; have rd11 := reads_pre (hv := x1) (reads_own : Reads (Own S_api_Request.pr 24 (.slice ax0 x0.length qx0) x0) S_api_Request.pr (.slice ax0 x0.length qx0) x0) (by omega) hq10 hl9; refine ds (v := .slice ax0 ((x1).toNat) qx0) rfl (fun w' hF => run_sub0 (hv := x1) rfl ⟨_, rfl⟩ U45 Z24 hg8 hq10) rfl <| ad_ 2 rfl ?_; obtain ⟨hg12, hp⟩ := chk_some hp; obtain ⟨hl16, hq17⟩ := Ctx.rdLen hc (k := 0) rfl rfl reads_own; have rd15 := reads_sub (lo := (x2).toNat) (hi := (((x0.length : Nat) : Int)).toNat) ((reads_own : Reads (Own S_api_Request.pr 24 (.slice ax0 x0.length qx0) x0) S_api_Request.pr (.slice ax0 x0.length qx0) x0)) (by omega) (by omega); refine ds (v := .slice (if qx0 = (x2).toNat then ax0 else Option.map (fun x => x.add ((x2).toNat * 3)) ax0) ((((x0.length : Nat) : Int)).toNat - (x2).toNat) (qx0 - (x2).toNat)) rfl (fun w' hF => run_sub (li := some x2) (hi' := none) rfl ⟨_, rfl⟩ trivial U45 Z24 hg12 hq17) rfl ?_; obtain ⟨hg19, hp⟩ := chk_some hp; refine deE (Ctx.appendIn hc (k := 0) rfl rfl U45 (inf := Try.t24) rfl rfl ((x1).toNat) ((x2).toNat) hg19 (by omega) rfl rfl) rfl rfl ?_; clear hc; rintro _ w18 ⟨rfl, hc⟩; replace hc := Ctx.n0 hc; refine ⟨fun j hj hb => trivial, ?_⟩; refine ad_ 1 rfl <| dn (qn (Wseq (Wreg ?_))); refine au 2 rfl <| sz (v := .int .i64 ((((x1).toNat + (x0.length - (x2).toNat)) : Nat) : Int)) (ln rfl U45) <| au 1 rfl ?_; obtain ⟨hg20, hp⟩ := chk_some hp; obtain ⟨hl21, hq22⟩ := Ctx.rdLen hc (k := 0) rfl rfl reads_own; refine sz (v := .slice (if qx0 = (((((x1).toNat + (x0.length - (x2).toNat)) : Nat) : Int)).toNat then ax0 else Option.map (fun x => x.add ((((((x1).toNat + (x0.length - (x2).toNat)) : Nat) : Int)).toNat * 3)) ax0) (x0.length - (((((x1).toNat + (x0.length - (x2).toNat)) : Nat) : Int)).toNat) (qx0 - (((((x1).toNat + (x0.length - (x2).toNat)) : Nat) : Int)).toNat)) (run_subc (l := ((((x1).toNat + (x0.length - (x2).toNat)) : Nat) : Int)) (h := ((x0.length : Nat) : Int)) rfl ⟨_, rfl⟩ ⟨_, rfl⟩ U45 Z24 hg20 (by omega)) ?_; refine rvE (Ctx.clearFrom (x0 := (⟨0, 0, []⟩ : S_api_Request)) hc (k := 0) rfl rfl U45 V24 rfl rfl (fun _ _ => ⟨([.int .i64 0] : List Value), ([.int .i64 0, .slice none 0 0] : List Value), rfl, rfl, ⟨([.int .i64 0] : List Value), ([.slice none 0 0] : List Value), rfl, rfl, ⟨_, rfl, none, 0, rfl, Nat.le_refl _, fun i x hx => by simp at hx⟩⟩⟩) (((((x1).toNat + (x0.length - (x2).toNat)) : Nat) : Int)).toNat (by omega) rfl) rfl ?_; clear hc; intro w23 hc; replace hc := Ctx.n0 hc; refine rn (qn (Wseq (Wreg ?_))); refine au 2 rfl <| rn (qn (Wret ?_)); replace hc := hc.ownTake (k := 0) rfl rfl ((x1).toNat + (x0.length - (x2).toNat)) (by omega) rfl; replace hc := Ctx.n0 hc; obtain rfl := sj hp; exact fz R27 M27 (k _ _ _ _ hc)
 · refine Wseq (Wreg ?_); refine au 2 rfl <| rn (qn (Wret (qr ?_))); obtain rfl := sj hp; exact fz R27 M27 (k _ _ _ _ hc)

def weight_in (x0 : Int) (x1 : Int) (x2 : Int) : Option (Bool) :=
  if x0 ≥ x1 then
    some (decide (x0 ≤ x2))
  else
    some false

theorem weight_in_any {x0 x1 x2 : Int} {Fr : List HP} {w : World} {r : Bool} {K : Value → World → Prop}  (hc : Ctx w (Fr)) (hp : weight_in x0 x1 x2 = some r)
    (k : ∀ w', Ctx w' (Fr) → K (.bool r) w') : Calls Try.prog 33 #[.int .i64 x0, .int .i64 x1, .int .i64 x2] w (Ret K) := by
 unfold weight_in at hp; refine Center3 F33 M33 rfl rfl ?_; refine Wseq (Wreg ?_); refine au 1 rfl <| rn (qn (Wseq (Wreg ?_))); refine au 4 rfl ?_; cases hb1 : (decide (x0 ≥ x1))
 · replace hp := gneg hp (of_decide_eq_false hb1); (iterate 3 refine r0 rfl ?_); refine au 2 rfl <| rn (qn (Wret ?_)); obtain rfl := sj hp; exact fz R33 M33 (k _ hc)
 · replace hp := gpos hp (of_decide_eq_true hb1); refine au 5 rfl <| rn (qn (Wret ?_)); obtain rfl := sj hp; exact fz R33 M33 (k _ hc)

def weight_Right (x0 : S_api_Shape) : Option (Bool) :=
  (weight_in x0.Layers 1 16).bind fun r4 =>
  if r4 = true then
    (weight_in x0.Heads 1 16).bind fun r7 =>
    if r7 = true then
      (weight_in x0.Width 2 128).bind fun r10 =>
      if r10 = true then
        chk ((IntKind.i64.wrap (2 * x0.Heads)) ≠ 0) <|
        if (Int.tmod x0.Width (IntKind.i64.wrap (2 * x0.Heads))) = 0 then
          (weight_in x0.Inner 1 256).bind fun r15 =>
          if r15 = true then
            (weight_in x0.Vocab 1 512).bind fun r18 =>
            if r18 = true then
              (weight_in x0.Places 1 256).bind fun r21 =>
              some r21
            else
              some false
          else
            some false
        else
          some false
      else
        some false
    else
      some false
  else
    some false

theorem weight_Right_any {x0 : S_api_Shape} {Fr : List HP} {w : World} {r : Bool} {K : Value → World → Prop}  (hc : Ctx w (Fr)) (hp : weight_Right x0 = some r)
    (k : ∀ w', Ctx w' (Fr) → K (.bool r) w') : Calls Try.prog 23 #[.agg (S_api_Shape.cz x0).toArray] w (Ret K) := by
 unfold weight_Right at hp; refine Center1 F23 M23 rfl rfl ?_; refine Wseq (Wreg ?_); refine rsE (Ctx.boxOp (cs := (S_api_Shape.cz x0)) (v := .agg (S_api_Shape.cz x0).toArray) hc rfl rfl) rfl ?_; clear hc; rintro _ w3 ⟨b1, rfl, hc⟩; refine au 1 rfl <| rn (qn (Wseq (Wreg ?_))); refine fq 0 U31 Z3 G3 hc 0 ?_; replace hp := bind_some hp; obtain ⟨r4, hr4, hp⟩ := hp; refine kz C33 ?_; refine weight_in_any hc hr4 ?_; clear hc; intro w5 hc; refine au 1 rfl ?_; cases hb6 : r4
 · replace hp := gneg hp (by rw [hb6]; exact Bool.false_ne_true); subst hb6; (iterate 3 refine r0 rfl ?_); refine au 2 rfl ?_; (iterate 3 refine r0 rfl ?_); refine au 2 rfl ?_; (iterate 7 refine r0 rfl ?_); refine au 2 rfl ?_; (iterate 3 refine r0 rfl ?_); refine au 2 rfl ?_; (iterate 3 refine r0 rfl ?_); refine au 2 rfl ?_; (iterate 3 refine r0 rfl ?_); refine au 2 rfl <| rn (qn (Wret ?_)); replace hc := hc.m [1]; obtain rfl := sj hp; exact fz R23 M23 (k _ hc)
 · replace hp := gpos hp hb6; subst hb6; refine fq 2 U31 Z3 G3 hc 0 ?_; replace hp := bind_some hp; obtain ⟨r7, hr7, hp⟩ := hp; refine kz C33 ?_; refine weight_in_any hc hr7 ?_; clear hc; intro w8 hc; refine au 2 rfl ?_; cases hb9 : r7
   · replace hp := gneg hp (by rw [hb9]; exact Bool.false_ne_true); subst hb9; (iterate 3 refine r0 rfl ?_); refine au 2 rfl ?_; (iterate 7 refine r0 rfl ?_); refine au 2 rfl ?_; (iterate 3 refine r0 rfl ?_); refine au 2 rfl ?_; (iterate 3 refine r0 rfl ?_); refine au 2 rfl ?_; (iterate 3 refine r0 rfl ?_); refine au 2 rfl <| rn (qn (Wret ?_)); replace hc := hc.m [1]; obtain rfl := sj hp; exact fz R23 M23 (k _ hc)
   · replace hp := gpos hp hb9; subst hb9; refine fq 1 U31 Z3 G3 hc 0 ?_; replace hp := bind_some hp; obtain ⟨r10, hr10, hp⟩ := hp; refine kz C33 ?_; refine weight_in_any hc hr10 ?_; clear hc; intro w11 hc; refine au 2 rfl ?_; cases hb12 : r10
     · replace hp := gneg hp (by rw [hb12]; exact Bool.false_ne_true); subst hb12; (iterate 7 refine r0 rfl ?_); refine au 2 rfl ?_; (iterate 3 refine r0 rfl ?_); refine au 2 rfl ?_; (iterate 3 refine r0 rfl ?_); refine au 2 rfl ?_; (iterate 3 refine r0 rfl ?_); refine au 2 rfl <| rn (qn (Wret ?_)); replace hc := hc.m [1]; obtain rfl := sj hp; exact fz R23 M23 (k _ hc)
     · replace hp := gpos hp hb12; subst hb12; refine fq 1 U31 Z3 G3 hc 0 ?_; refine fq 2 U31 Z3 G3 hc 0 ?_; refine au 1 rfl ?_; replace hp := chk_some hp; obtain ⟨hg13, hp⟩ := hp; refine sz (rm rfl rfl hg13) <| au 3 rfl ?_; cases hb14 : (decide ((Int.tmod x0.Width (IntKind.i64.wrap (2 * x0.Heads))) = 0))
       · replace hp := gneg hp (of_decide_eq_false hb14); (iterate 3 refine r0 rfl ?_); refine au 2 rfl ?_; (iterate 3 refine r0 rfl ?_); refine au 2 rfl ?_; (iterate 3 refine r0 rfl ?_); refine au 2 rfl <| rn (qn (Wret ?_)); replace hc := hc.m [1]; obtain rfl := sj hp; exact fz R23 M23 (k _ hc)
       · replace hp := gpos hp (of_decide_eq_true hb14); refine fq 3 U31 Z3 G3 hc 0 ?_; replace hp := bind_some hp; obtain ⟨r15, hr15, hp⟩ := hp; refine kz C33 ?_; refine weight_in_any hc hr15 ?_; clear hc; intro w16 hc; refine au 2 rfl ?_; cases hb17 : r15
         · replace hp := gneg hp (by rw [hb17]; exact Bool.false_ne_true); subst hb17; (iterate 3 refine r0 rfl ?_); refine au 2 rfl ?_; (iterate 3 refine r0 rfl ?_); refine au 2 rfl <| rn (qn (Wret ?_)); replace hc := hc.m [1]; obtain rfl := sj hp; exact fz R23 M23 (k _ hc)
         · replace hp := gpos hp hb17; subst hb17; refine fq 4 U31 Z3 G3 hc 0 ?_; replace hp := bind_some hp; obtain ⟨r18, hr18, hp⟩ := hp; refine kz C33 ?_; refine weight_in_any hc hr18 ?_; clear hc; intro w19 hc; refine au 2 rfl ?_; cases hb20 : r18
           · replace hp := gneg hp (by rw [hb20]; exact Bool.false_ne_true); subst hb20; (iterate 3 refine r0 rfl ?_); refine au 2 rfl <| rn (qn (Wret ?_)); replace hc := hc.m [1]; obtain rfl := sj hp; exact fz R23 M23 (k _ hc)
           · replace hp := gpos hp hb20; subst hb20; refine fq 5 U31 Z3 G3 hc 0 ?_; replace hp := bind_some hp; obtain ⟨r21, hr21, hp⟩ := hp; refine kz C33 ?_; refine weight_in_any hc hr21 ?_; clear hc; intro w22 hc; refine au 2 rfl <| rn (qn (Wret ?_)); replace hc := hc.m [1]; obtain rfl := sj hp; exact fz R23 M23 (k _ hc)

def admit_set_int_put (x0 : (List (Int × Bool))) (x1 : Int) : Option ((List (Int × Bool))) :=
  some (mset x0 x1 true)

theorem admit_set_int_put_any {b0 : Nat} {x0 r : (List (Int × Bool))} {x1 : Int} {Fr : List HP} {w : World} {K : Value → World → Prop}  (hc : Ctx w (Mp (ekI .i64) (HV vf1 pBool) b0 x0 :: Fr)) (hp : admit_set_int_put x0 x1 = some r)
    (k : ∀ w', Ctx w' (Mp (ekI .i64) (HV vf1 pBool) b0 r :: Fr) → K (.tuple #[]) w') : Calls Try.prog 25 #[.map (some b0), .int .i64 x1] w (Ret K) := by
 unfold admit_set_int_put at hp; refine Center2 F25 M25 rfl rfl ?_; refine Wreg <| au 2 rfl ?_; replace hc : Ctx w (Hold pBool [.bool true] true :: Mp (ekI .i64) (HV vf1 pBool) b0 x0 :: Fr) := hc.add _ fun _ _ _ => ⟨rfl, rfl⟩; refine ruE (Ctx.mpSet (keyL_int U3) hc (i := 0) rfl rfl U57 rfl rfl rfl) rfl ?_; clear hc; rintro w1 hc; replace hc := Ctx.n0 hc; refine rn ?_; refine f0n R25 ?_; obtain rfl := sj hp; exact ⟨_, rfl, k _ hc⟩

def gen_Check (N : Nat) (x0 : S_api_Shape) (x1 : (List Int)) (x2 : Int) : Option (Int) :=
  if ((x1.length : Nat) : Int) = 0 then
    some 90
  else
    (slices_ContainsFunc_s_int_int N x1 (fun (y6_ : Int) =>
      if y6_ < 0 then
        some true
      else
        some (decide (y6_ ≥ x0.Vocab)))).bind fun r8 =>
    if r8 = true then
      some 2
    else
      if x2 < 1 then
        some 2
      else
        if ((x1.length : Nat) : Int) > x0.Places then
          some 80
        else
          if (IntKind.i64.wrap (x2 - 1)) > (IntKind.i64.wrap (x0.Places - ((x1.length : Nat) : Int))) then
            some 80
          else
            some 0

theorem gen_Check_any {N nx1 qx1 : Nat} {x0 : S_api_Shape} {x1 : (List Int)} {ax1 : Option Addr} {P1 : HP} {x2 r : Int} {Fr : List HP} {w : World} {K : Value → World → Prop} (hrd1 : Reads P1 (pInt .i64) (.slice ax1 nx1 qx1) x1) (hc : Ctx w (P1 :: Fr)) (hp : gen_Check N x0 x1 x2 = some r)
    (k : ∀ w', Ctx w' (P1 :: Fr) → K (.int .i64 r) w') : Calls Try.prog 26 #[.agg (S_api_Shape.cz x0).toArray, .slice ax1 nx1 qx1, .int .i64 x2] w (Ret K) := by
 unfold gen_Check at hp; refine Center3 F26 M26 rfl rfl ?_; obtain ⟨hn1, _⟩ := Ctx.rdLen hc (k := 0) rfl rfl hrd1; subst hn1; refine Wseq (Wreg ?_); refine rsE (Ctx.boxOp (cs := (S_api_Shape.cz x0)) (v := .agg (S_api_Shape.cz x0).toArray) hc rfl rfl) rfl ?_; clear hc; rintro _ w3 ⟨b1, rfl, hc⟩; refine au 1 rfl <| rn (qn (Wseq (Wreg ?_))); refine sz (v := .func (.func 34) #[] #[pt b1 0]) (mkf rfl rfl) <| au 1 rfl <| rn (qn (Wseq (Wblk (Wseq (Wreg ?_))))); refine au 1 rfl <| sz (ln rfl U22) <| au 2 rfl <| rn (qn ?_); refine Wif hp (fun _ h => ?_) fun _ h => ?_
 · replace hp := h; clear h; refine Wseq (Wreg ?_); refine au 2 rfl ?_; replace hc := hc.m [2]; have hf5 : ∀ (y0 : Int) (Qs : List HP) (w : World) (r : Bool) (K : Value → World → Prop), Ctx w ((Qs ++ (B b1 (S_api_Shape.cz x0) 31 :: Fr))) → (fun (y6_ : Int) =>
        if y6_ < 0 then
          some true
        else
          some (decide (y6_ ≥ x0.Vocab))) y0 = some r → (∀ w', Ctx w' (Qs ++ (B b1 (S_api_Shape.cz x0) 31 :: Fr)) → K (.bool r) w') → Calls Try.prog 34 (([.int .i64 y0] : List Value) ++ ([pt b1 0] : List Value)).toArray w (Ret K) := by
    intro y6 Qs w r K hc hp k; replace hc : Ctx w (B b1 (S_api_Shape.cz x0) 31 :: (Qs ++ Fr)) := Ctx.front (As := [B b1 (S_api_Shape.cz x0) 31]) (Qs := Qs) hc; refine Center (args := [.int .i64 y6, pt b1 0]) (l := [(0, .int .i64 y6), (1, pt b1 0)]) F34 M34 rfl rfl rfl ?_; refine Wseq (Wreg ?_); refine au 1 rfl <| rn (qn (Wseq (Wreg ?_))); refine au 3 rfl ?_; cases hb7 : (decide (y6 < 0))
    · replace hp := gneg hp (of_decide_eq_false hb7); refine au 1 rfl ?_; refine fq 4 U31 Z3 G3 hc 0 ?_; refine au 3 rfl <| rn (qn (Wret ?_)); obtain rfl := sj hp; replace hc : Ctx w (Qs ++ (B b1 (S_api_Shape.cz x0) 31 :: Fr)) := Ctx.front (Qs := [B b1 (S_api_Shape.cz x0) 31]) (As := Qs) hc; exact fz R34 M34 (k _ hc)
    · replace hp := gpos hp (of_decide_eq_true hb7); (iterate 4 refine r0 rfl ?_); refine au 2 rfl <| rn (qn (Wret ?_)); obtain rfl := sj hp; replace hc : Ctx w (Qs ++ (B b1 (S_api_Shape.cz x0) 31 :: Fr)) := Ctx.front (Qs := [B b1 (S_api_Shape.cz x0) 31]) (As := Qs) hc; exact fz R34 M34 (k _ hc)
   replace hp := bind_some hp; obtain ⟨r8, hr8, hp⟩ := hp; refine kz C35 ?_; refine slices_ContainsFunc_s_int_int_any hrd1 C34 hf5 hc hr8 ?_; clear hc; intro w9 hc; refine au 1 rfl ?_; cases hb10 : r8
   · replace hp := gneg hp (by rw [hb10]; exact Bool.false_ne_true); subst hb10; refine au 4 rfl <| rn (qn ?_); refine Wif hp (fun _ h => ?_) fun _ h => ?_
     · replace hp := h; clear h; refine Wseq (Wreg ?_); refine au 1 rfl <| sz (ln rfl U22) ?_; refine fq 5 U31 Z3 G3 hc 1 ?_; refine au 2 rfl ?_; cases hb12 : (decide (((x1.length : Nat) : Int) > x0.Places))
       · replace hp := gneg hp (of_decide_eq_false hb12); refine au 2 rfl ?_; refine fq 5 U31 Z3 G3 hc 1 ?_; refine au 1 rfl <| sz (ln rfl U22) <| au 4 rfl <| rn (qn ?_); refine Wif hp (fun _ h => ?_) fun _ h => ?_
         · replace hp := h; clear h; refine Wskip (bn (qn (Wseq (Wreg ?_)))); refine au 1 rfl <| rn (qn (Wret ?_)); replace hc := hc.m [3]; obtain rfl := sj hp; exact fz R26 M26 (k _ hc)
         · replace hp := h; clear h; refine Wseq (Wreg ?_); refine au 1 rfl <| rn (qn (Wret (br (qr ?_)))); replace hc := hc.m [3]; obtain rfl := sj hp; exact fz R26 M26 (k _ hc)
       · replace hp := gpos hp (of_decide_eq_true hb12); (iterate 8 refine r0 rfl ?_); refine au 2 rfl <| rn (qn (Wct rfl (Wseq (Wreg ?_)))); refine au 1 rfl <| rn (qn (Wret (br (qr ?_)))); replace hc := hc.m [3]; obtain rfl := sj hp; exact fz R26 M26 (k _ hc)
     · replace hp := h; clear h; refine Wseq (Wreg ?_); refine au 1 rfl <| rn (qn (Wret (br (qr ?_)))); replace hc := hc.m [3]; obtain rfl := sj hp; exact fz R26 M26 (k _ hc)
   · replace hp := gpos hp hb10; subst hb10; (iterate 2 refine r0 rfl ?_); refine au 2 rfl <| rn (qn (Wct rfl (Wseq (Wreg ?_)))); refine au 1 rfl <| rn (qn (Wret (br (qr ?_)))); replace hc := hc.m [3]; obtain rfl := sj hp; exact fz R26 M26 (k _ hc)
 · replace hp := h; clear h; refine Wseq (Wreg ?_); refine au 1 rfl <| rn (qn (Wret (br (qr ?_)))); replace hc := hc.m [1]; obtain rfl := sj hp; exact fz R26 M26 (k _ hc)

theorem bd_59_0_1_3 {ρ : Operand → Value} {w : World} {dst : Option Nat} {ty : TypeId} {pos : String} {after : Array Edge} {g : Option (Nat × Bool)} {x0 x1 x3 : Operand} {c0_0 c0_1 c0_2 c0_3 c0_4 c0_5 : Value} {k1 : IntKind} {a1 : Int} {a3 : Option Nat} (h0 : ρ x0 = .agg #[c0_0, c0_1, c0_2, c0_3, c0_4, c0_5]) (h1 : ρ x1 = (.int k1 a1)) (h3 : ρ x3 = (.map a3)) :
    (execOp ρ ⟨dst, .build 59 #[(0, x0), (1, x1), (3, x3)], ty, pos, after, g⟩).run Try.prog w = .ok (.value (.agg #[c0_0, c0_1, c0_2, c0_3, c0_4, c0_5, (.int k1 a1), (.slice none 0 0), (.map a3)])) w := by
  simp [execOp, Instr.build, Instr.fill, Try.zeroValue59, Try.runUnderlying59, Try.sizeOf3, Try.sizeOf31, Try.sizeOf45, Try.sizeOf57, h0, h1, h3, Value.cells]

def admit_New (x0 : S_api_Shape) (x1 : Int) : Option ((Option S_admit_Desk) × Int) :=
  (weight_Right x0).bind fun r4 =>
  if r4 = true then
    if x1 < 0 then
      some (none, 2)
    else
      if x1 > 4096 then
        some (none, 2)
      else
        some ((some (⟨x0, x1, [], []⟩ : S_admit_Desk)), 0)
  else
    some (none, 30)

theorem admit_New_any {x0 : S_api_Shape} {x1 : Int} {Fr : List HP} {w : World} {r : (Option S_admit_Desk) × Int} {K : Value → World → Prop}  (hc : Ctx w (Fr)) (hp : admit_New x0 x1 = some r)
    (k : ∀ (v14 : Value) w', Ctx w' (PtO S_admit_Desk.hp v14 r.1 :: Fr) → K (.tuple #[v14, .int .i64 r.2]) w') : Calls Try.prog 7 #[.agg (S_api_Shape.cz x0).toArray, .int .i64 x1] w (Ret K) := by
 unfold admit_New at hp; refine Center2 F7 M7 rfl rfl ?_; refine Wseq (Wreg ?_); refine rsE (Ctx.boxOp (cs := (S_api_Shape.cz x0)) (v := .agg (S_api_Shape.cz x0).toArray) hc rfl rfl) rfl ?_; clear hc; rintro _ w3 ⟨b1, rfl, hc⟩; refine au 2 rfl <| rn (qn (Wseq (Wblk (Wseq (Wreg ?_))))); refine lg G31 Z31 hc 0 ?_; replace hp := bind_some hp; obtain ⟨r4, hr4, hp⟩ := hp; refine kz C23 ?_; refine weight_Right_any (x0 := x0) hc hr4 ?_; clear hc; intro w5 hc; cases hb6 : r4
 · replace hp := gneg hp (by rw [hb6]; exact Bool.false_ne_true); subst hb6; refine au 2 rfl <| rn (qn (Wct rfl (Wseq (Wreg ?_)))); refine au 2 rfl <| rn (qn (Wret (br (qr ?_)))); replace hc := Ctx.ptoNB S_admit_Desk.hp hc; replace hc := hc.m [3]; obtain rfl := sj hp; exact fz2 R7 M7 (k _ _ hc)
 · replace hp := gpos hp hb6; subst hb6; refine au 2 rfl <| rn (qn (Wcf rfl (Wseq (Wreg ?_)))); refine au 3 rfl ?_; cases hb7 : (decide (x1 < 0))
   · replace hp := gneg hp (of_decide_eq_false hb7); refine au 4 rfl <| rn (qn ?_); refine Wif hp (fun _ h => ?_) fun _ h => ?_
     · replace hp := h; clear h; refine Wskip (bn (qn (Wseq (Wreg ?_)))); refine lg G31 Z31 hc 0 ?_; refine au 1 rfl ?_; refine rsE (Ctx.mpMake (ekI .i64) (HV vf1 pBool) hc) rfl ?_; clear hc; rintro _ w10 ⟨b9, rfl, hc⟩; refine sz (v := .agg #[.int .i64 x0.Layers, .int .i64 x0.Width, .int .i64 x0.Heads, .int .i64 x0.Inner, .int .i64 x0.Vocab, .int .i64 x0.Places, .int .i64 x1, .slice none 0 0, .map (some b9)]) (bd_59_0_1_3 rfl rfl rfl) ?_; refine rsE (Ctx.boxOp (cs := [.int .i64 x0.Layers, .int .i64 x0.Width, .int .i64 x0.Heads, .int .i64 x0.Inner, .int .i64 x0.Vocab, .int .i64 x0.Places, .int .i64 x1, .slice none 0 0, .map (some b9)]) (v := .agg #[.int .i64 x0.Layers, .int .i64 x0.Width, .int .i64 x0.Heads, .int .i64 x0.Inner, .int .i64 x0.Vocab, .int .i64 x0.Places, .int .i64 x1, .slice none 0 0, .map (some b9)]) hc rfl rfl) rfl ?_; clear hc; rintro _ w13 ⟨b11, rfl, hc⟩; refine au 2 rfl <| rn (qn (Wret ?_)); replace hc := hc.nilOwn S_api_Request.pr 24; replace hc := hc.m [4, 2, 4]; replace hc := S_admit_Desk.fd (x := (⟨x0, x1, [], []⟩ : S_admit_Desk)) hc; replace hc := Ctx.ptoSB S_admit_Desk.hp hc; replace hc := hc.m [3]; obtain rfl := sj hp; exact fz2 R7 M7 (k _ _ hc)
     · replace hp := h; clear h; refine Wseq (Wreg ?_); refine au 2 rfl <| rn (qn (Wret (br (qr ?_)))); replace hc := Ctx.ptoNB S_admit_Desk.hp hc; replace hc := hc.m [3]; obtain rfl := sj hp; exact fz2 R7 M7 (k _ _ hc)
   · replace hp := gpos hp (of_decide_eq_true hb7); (iterate 2 refine r0 rfl ?_); refine au 2 rfl <| rn (qn (Wct rfl (Wseq (Wreg ?_)))); refine au 2 rfl <| rn (qn (Wret (br (qr ?_)))); replace hc := Ctx.ptoNB S_admit_Desk.hp hc; replace hc := hc.m [3]; obtain rfl := sj hp; exact fz2 R7 M7 (k _ _ hc)

def admit_Desk_Judge (N : Nat) (x0 : S_admit_Desk) (x1 : S_api_Request) : Option (Int) :=
  if x1.ID < 0 then
    some 2
  else
    if x1.ID ≥ 1099511627776 then
      some 2
    else
      if ((mget x0.took x1.ID).getD false) = true then
        some 210
      else
        (gen_Check N x0.s x1.Prompt x1.Most).bind fun r16 =>
        if r16 ≠ 0 then
          some r16
        else
          if ((x0.row.length : Nat) : Int) ≥ x0.room then
            some 211
          else
            some 0

theorem admit_Desk_Judge_any {N b0 n2 q3 : Nat} {x0 : S_admit_Desk} {x1 : S_api_Request} {a1 : Option Addr} {Fr : List HP} {w : World} {r : Int} {K : Value → World → Prop}  (hc : Ctx w (S_admit_Desk.hp b0 x0 :: Hold (pRo (pInt .i64)) [.slice a1 n2 q3] x1.Prompt :: Fr)) (hp : admit_Desk_Judge N x0 x1 = some r)
    (k : ∀ w', Ctx w' (S_admit_Desk.hp b0 x0 :: Fr) → K (.int .i64 r) w') : Calls Try.prog 11 #[pt b0 0, .agg #[.int .i64 x1.ID, .int .i64 x1.Most, .slice a1 n2 q3]] w (Ret K) := by
 unfold admit_Desk_Judge at hp; refine Center2 F11 M11 rfl rfl ?_; obtain rfl := hc.rz 1 reads_ro; refine Wseq (Wreg ?_); refine rsE (Ctx.boxOp (cs := (S_api_Request.cz x1 a1 q3)) (v := .agg (S_api_Request.cz x1 a1 q3).toArray) hc rfl rfl) rfl ?_; clear hc; rintro _ w7 ⟨b5, rfl, hc⟩; refine au 1 rfl <| rn (qn (Wseq (Wblk (Wseq (Wreg ?_))))); refine fq 0 U24 Z3 G3 hc 0 ?_; refine au 2 rfl ?_; cases hb8 : (decide (x1.ID < 0))
 · replace hp := gneg hp (of_decide_eq_false hb8); refine fq 0 U24 Z3 G3 hc 0 ?_; refine au 3 rfl <| rn (qn ?_); refine Wif hp (fun _ hp => ?_) fun _ hp => ?_
   · refine Wseq ?_; replace hc := hc.m [2]; replace hc := S_admit_Desk.uf hc; obtain ⟨a10, q11, v12, hc⟩ := hc; replace hc := hc.drew; refine Wdrw (fun _ w' => w' = World.drew w7) [0, 1, 3, 7, 0, 16, 63, 127] 0 0 rfl (by kernel_rfl) (fun _ _ => rfl) ?_; generalize hw : World.drew w7 = w13 at *; clear hw; refine ad_ 2 rfl <| dE (v := pt b0 8) (fax 8 rfl U59 rfl Z57 rfl rfl rfl) rfl rfl <| dE (ld rfl G57 (Ctx.cell hc (k := 0) rfl rfl rfl)) rfl rfl <| dE (v := pt b5 0) (fax 0 rfl U24 rfl Z3 rfl rfl rfl) rfl rfl <| dE (ld rfl G3 (Ctx.cell hc (k := 3) rfl rfl rfl)) rfl rfl <| dE (v := .bool ((mget x0.took x1.ID).getD false)) (Ctx.mpGetC (f := fun x => [.bool x]) (fun _ _ _ _ h => h) (keyL_int U3) hc (i := 2) rfl rfl U57 rfl rfl V4 rfl (fun _ _ => rfl) rfl) rfl rfl <| ad_ 1 rfl <| dn (qn ?_); cases hb14 : ((mget x0.took x1.ID).getD false)
     · replace hp := gneg hp (by rw [hb14]; exact Bool.false_ne_true); refine Wcf rfl (Wskip (bn (qn (Wseq (Wseq ?_))))); replace hc := hc.drew; refine Wdrw (fun j w' => True) [0, 1, 3, 7, 0, 16, 0, 64, 255, 511] 0 168 rfl (by kernel_rfl) (fun _ _ => trivial) ?_; generalize hw : World.drew w13 = w15 at *; clear hw; refine ad_ 2 rfl <| ds (v := pt b0 0) rfl (fun w' hF => fax 0 rfl U59 rfl Z31 rfl rfl rfl) rfl <| dx (v := .agg (S_api_Shape.cz x0.s).toArray) rfl (ldg rfl G31 Z31 rfl (Ctx.cells hc (k := 0) rfl rfl 0 (vs := (S_api_Shape.cz x0.s)) rfl)) rfl rfl <| ds (v := pt b5 2) rfl (fun w' hF => fax 2 rfl U24 rfl Z22 rfl rfl rfl) rfl <| dx rfl (ld rfl G22 (Ctx.cell hc (k := 3) rfl rfl rfl)) rfl rfl <| ds (v := pt b5 1) rfl (fun w' hF => fax 1 rfl U24 rfl Z3 rfl rfl rfl) rfl <| dx rfl (ld rfl G3 (Ctx.cell hc (k := 3) rfl rfl rfl)) rfl rfl ?_; replace hc := hc.dz 4; obtain ⟨r16, hr16, hp⟩ := bind_some hp; refine dc (cl C26 rfl rfl) rfl rfl ?_; refine gen_Check_any (x0 := x0.s) reads_ro hc hr16 ?_; clear hc; intro w17 hc; refine ⟨fun j hj hb => trivial, ?_⟩; refine ad_ 1 rfl <| dn (qn (Wseq (Wreg ?_))); refine au 2 rfl <| rn (qn ?_); refine Wif hp (fun _ hp => ?_) fun _ hp => ?_
       · refine Wskip (qn (Wseq (Wseq ?_))); replace hc := hc.drew; refine Wdrw (fun _ w' => w' = World.drew w17) [0, 1, 3, 7, 15, 0, 32, 96, 224, 511] 0 0 rfl (by kernel_rfl) (fun _ _ => rfl) ?_; generalize hw : World.drew w17 = w19 at *; clear hw; refine ad_ 2 rfl <| dE (v := pt b0 7) (fax 7 rfl U59 rfl Z45 rfl rfl rfl) rfl rfl <| dE (ld rfl G45 (Ctx.cell hc (k := 1) rfl rfl rfl)) rfl rfl <| dE (ln rfl U45) rfl rfl <| ad_ 2 rfl <| dE (v := pt b0 6) (fax 6 rfl U59 rfl Z3 rfl rfl rfl) rfl rfl <| dE (ld rfl G3 (Ctx.cell hc (k := 1) rfl rfl rfl)) rfl rfl <| ad_ 1 rfl <| dn (qn ?_); refine Wif hp (fun _ hp => ?_) fun _ hp => ?_
         · refine Wskip (qn (Wseq (Wreg ?_))); refine au 1 rfl <| rn (qn (Wret ?_)); replace hc := hc.m [6, 6, 6]; replace hc := S_admit_Desk.fd (x := x0) hc; replace hc := hc.m [7, 5, 3]; obtain rfl := sj hp; exact fz R11 M11 (k _ hc)
         · refine Wseq (Wreg ?_); refine au 1 rfl <| rn (qn (Wret (qr ?_))); replace hc := hc.m [6, 6, 6]; replace hc := S_admit_Desk.fd (x := x0) hc; replace hc := hc.m [7, 5, 3]; obtain rfl := sj hp; exact fz R11 M11 (k _ hc)
       · refine Wseq (Wreg ?_); refine au 2 rfl <| rn (qn (Wret (qr ?_))); replace hc := hc.m [6, 6, 6]; replace hc := S_admit_Desk.fd (x := x0) hc; replace hc := hc.m [7, 5, 3]; obtain rfl := sj hp; exact fz R11 M11 (k _ hc)
     · replace hp := gpos hp hb14; refine Wct rfl (Wseq (Wreg ?_)); refine au 1 rfl <| rn (qn (Wret (br (qr ?_)))); replace hc := hc.m [4, 4, 4]; replace hc := S_admit_Desk.fd (x := x0) hc; replace hc := hc.m [5, 3]; obtain rfl := sj hp; exact fz R11 M11 (k _ hc)
   · refine Wseq (Wreg ?_); refine au 1 rfl <| rn (qn (Wret (br (qr ?_)))); replace hc := hc.m [5, 1]; obtain rfl := sj hp; exact fz R11 M11 (k _ hc)
 · replace hp := gpos hp (of_decide_eq_true hb8); (iterate 3 refine r0 rfl ?_); refine au 2 rfl <| rn (qn (Wct rfl (Wseq (Wreg ?_)))); refine au 1 rfl <| rn (qn (Wret (br (qr ?_)))); replace hc := hc.m [5, 1]; obtain rfl := sj hp; exact fz R11 M11 (k _ hc)

def admit_Desk_Submit.J3 (j2 : (List Int)) (j6 : Int) (j25 : Int) (k1 : S_admit_Desk → (List Int) → Int → Option ((List Int) × S_admit_Desk)) (j43 : S_admit_Desk) : Option ((List Int) × S_admit_Desk) :=
  (app j2 ([j25])).bind fun z71 =>
  k1 j43 z71 (IntKind.i64.wrap (j6 + 1))

def admit_Desk_Submit.J2 (j1 : S_admit_Desk) (j2 : (List Int)) (j6 : Int) (y10 : S_api_Request) (k1 : S_admit_Desk → (List Int) → Int → Option ((List Int) × S_admit_Desk)) (j25 : Int) : Option ((List Int) × S_admit_Desk) :=
  if j25 = 0 then
    (slices_Clone_s_int_int y10.Prompt).bind fun r45 =>
    (app j1.row ([(⟨y10.ID, y10.Most, r45⟩ : S_api_Request)])).bind fun z58 =>
    (admit_set_int_put j1.took y10.ID).bind fun r66 =>
    admit_Desk_Submit.J3 j2 j6 j25 k1 (⟨j1.s, j1.room, z58, r66⟩ : S_admit_Desk)
  else
    admit_Desk_Submit.J3 j2 j6 j25 k1 j1

def admit_Desk_Submit.L1 (N : Nat) (x1 : (List S_api_Request)) : Nat → S_admit_Desk → (List Int) → Int → Option ((List Int) × S_admit_Desk)
  | 0, _, _, _ => none
  | m1 + 1, j1, j2, j6 =>
    if j6 < ((x1.length : Nat) : Int) then
      (idx x1 j6).bind fun y10 =>
      if y10.ID < 0 then
        admit_Desk_Submit.J2 j1 j2 j6 y10 (admit_Desk_Submit.L1 N x1 m1) 2
      else
        if y10.ID ≥ 1099511627776 then
          admit_Desk_Submit.J2 j1 j2 j6 y10 (admit_Desk_Submit.L1 N x1 m1) 2
        else
          if ((mget j1.took y10.ID).getD false) = true then
            admit_Desk_Submit.J2 j1 j2 j6 y10 (admit_Desk_Submit.L1 N x1 m1) 210
          else
            (gen_Check N (⟨j1.s.Layers, j1.s.Width, j1.s.Heads, j1.s.Inner, j1.s.Vocab, j1.s.Places⟩ : S_api_Shape) y10.Prompt y10.Most).bind fun r37 =>
            if r37 ≠ 0 then
              admit_Desk_Submit.J2 j1 j2 j6 y10 (admit_Desk_Submit.L1 N x1 m1) r37
            else
              if ((j1.row.length : Nat) : Int) ≥ j1.room then
                admit_Desk_Submit.J2 j1 j2 j6 y10 (admit_Desk_Submit.L1 N x1 m1) 211
              else
                admit_Desk_Submit.J2 j1 j2 j6 y10 (admit_Desk_Submit.L1 N x1 m1) 0
    else
      some (j2, j1)

def admit_Desk_Submit (N : Nat) (x0 : S_admit_Desk) (x1 : (List S_api_Request)) : Option ((List Int) × S_admit_Desk) :=
  admit_Desk_Submit.L1 N x1 N x0 ([]) 0

theorem admit_Desk_Submit_any {N b0 nx1 qx1 : Nat} {x0 : S_admit_Desk} {x1 : (List S_api_Request)} {ax1 : Option Addr} {P1 : HP} {Fr : List HP} {w : World} {r : (List Int) × S_admit_Desk} {K : Value → World → Prop} (hrd1 : Reads P1 S_api_Request.pr (.slice ax1 nx1 qx1) x1) (hc : Ctx w (S_admit_Desk.hp b0 x0 :: P1 :: Fr)) (hp : admit_Desk_Submit N x0 x1 = some r)
    (k : ∀ a77 n78 q79 w', Ctx w' (Own (pInt .i64) 27 (.slice a77 n78 q79) r.1 :: S_admit_Desk.hp b0 r.2 :: P1 :: Fr) → K (.slice a77 n78 q79) w') : Calls Try.prog 9 #[pt b0 0, .slice ax1 nx1 qx1] w (Ret K) := by
 unfold admit_Desk_Submit at hp; refine Center2 F9 M9 rfl rfl ?_; obtain ⟨hn1, _⟩ := Ctx.rdLen hc (k := 1) rfl rfl hrd1; subst hn1; refine Wseq (Wreg ?_); refine au 1 rfl <| rn (qn (Wseq (Wreg ?_))); refine au 1 rfl <| rn (qn (Wseq (Wseq (Wreg ?_)))); refine au 1 rfl <| sz (ln rfl U45) <| au 1 rfl <| rn (qn (Wblk ?_)); replace hc := hc.nilOwn (pInt .i64) 27; replace hc := hc.m [4, 4]; refine Wloop (rg [5, 1, 7, 2, 11, 35]) [5, 11] (fun m vs w' => ∃ j1 : S_admit_Desk, ∃ j2 : (List Int), ∃ j6 : Int, ∃ a3 n4 q5, vs = [.slice a3 n4 q5, .int .i64 j6] ∧ admit_Desk_Submit.L1 N x1 m j1 j2 j6 = some r ∧ Ctx w' (S_admit_Desk.hp b0 j1 :: P1 :: Own (pInt .i64) 27 (.slice a3 n4 q5) j2 :: Fr)) N ?_ ?_
 · exact ⟨x0, [], 0, none, 0, 0, rfl, hp, hc⟩
 · clear hp hc; intro m vs u w7 hJ; obtain ⟨j1, j2, j6, a3, n4, q5, rfl, hp, hc⟩ := hJ; obtain rfl := hc.rz 2 reads_own; rcases m with _ | m1
   · cases (show none = some r from hp)
   rw [admit_Desk_Submit.L1] at hp; refine Wseq (Wreg ?_); refine au 1 rfl <| rn (qn (Wseq ?_)); refine Wif hp (fun _ hp => ?_) fun _ hp => ?_
   · refine Wexit (qx (qx (be (qn (Wseq (Wreg ?_)))))); refine au 2 rfl <| rn (qn (Wret ?_)); replace hc := hc.m [2, 2, 4]; obtain rfl := sj hp; exact fz R9 M9 (k _ _ _ _ hc)
   · refine Wskip (qn (Wseq (Wblk (Wseq (Wreg ?_))))); obtain ⟨y10, hy10, hp⟩ := bind_some hp; obtain ⟨b13, o14, rfl, hi11, hi12⟩ := hc.ra 1 hrd1 hy10; refine sz (ixx rfl rfl U45 Z24 hi11 hi12 rfl) ?_; replace hc := Ctx.rdCell hc (k := 1) rfl rfl hrd1 hy10; obtain ⟨cs16, hc, hcell17⟩ := hc; replace hc := S_api_Request.op hc; obtain ⟨a19, q20, u18, hc⟩ := hc; subst u18; refine sz (v := .agg (S_api_Request.cz y10 a19 q20).toArray) (ldg rfl G24 Z24 rfl (elCells hcell17 0 (vs := (S_api_Request.cz y10 a19 q20)) rfl)) ?_; refine rsE (Ctx.allocOp (cs := [.int .i64 0, .int .i64 0, .slice none 0 0]) hc V24 rfl) rfl ?_; clear hc; rintro _ w23 ⟨b21, rfl, hc⟩; refine pa hc 0 Z24 ?_; clear hc; rintro w24 hc; refine rn (qn ?_); refine Wseqm [8, 15, 16, 17] [8] (fun vs w' => ∃ j25 : Int, vs = [.int .i64 j25] ∧ admit_Desk_Submit.J2 j1 j2 j6 y10 (admit_Desk_Submit.L1 N x1 m1) j25 = some r ∧ Ctx w' (B b21 (S_api_Request.cz y10 a19 q20) 24 :: hR .i64 a19 q20 y10.Prompt :: S_admit_Desk.hp b0 j1 :: P1 :: oR .i64 27 a3 q5 j2 :: Fr)) ?_ ?_
     · refine Wreg <| au 1 rfl <| lg G24 Z24 hc 0 ?_; refine kz C11 ?_; refine Center (args := [pt b0 0, .agg (S_api_Request.cz y10 a19 q20).toArray]) (l := [(0, pt b0 0), (1, .agg (S_api_Request.cz y10 a19 q20).toArray)]) F11 M11 rfl rfl rfl ?_; refine Wseq (Wreg ?_); refine rsE (Ctx.boxOp (cs := (S_api_Request.cz y10 a19 q20)) (v := .agg (S_api_Request.cz y10 a19 q20).toArray) hc rfl rfl) rfl ?_; clear hc; rintro _ w28 ⟨b26, rfl, hc⟩; refine au 1 rfl <| rn (qn (Wseq (Wblk (Wseq (Wreg ?_))))); refine fq 0 U24 Z3 G3 hc 0 ?_; refine au 2 rfl ?_; cases hb29 : (decide (y10.ID < 0))
       · replace hp := gneg hp (of_decide_eq_false hb29); refine fq 0 U24 Z3 G3 hc 0 ?_; refine au 3 rfl <| rn (qn ?_); refine Wif hp (fun _ hp => ?_) fun _ hp => ?_
         · refine Wseq ?_; replace hc := hc.m [6]; replace hc := S_admit_Desk.uf hc; obtain ⟨a31, q32, v33, hc⟩ := hc; replace hc := hc.drew; refine Wdrw (fun _ w' => w' = World.drew w28) [0, 1, 3, 7, 0, 16, 63, 127] 0 0 rfl (by kernel_rfl) (fun _ _ => rfl) ?_; generalize hw : World.drew w28 = w34 at *; clear hw; refine ad_ 2 rfl <| dE (v := pt b0 8) (fax 8 rfl U59 rfl Z57 rfl rfl rfl) rfl rfl <| dE (ld rfl G57 (Ctx.cell hc (k := 0) rfl rfl rfl)) rfl rfl <| dE (v := pt b26 0) (fax 0 rfl U24 rfl Z3 rfl rfl rfl) rfl rfl <| dE (ld rfl G3 (Ctx.cell hc (k := 3) rfl rfl rfl)) rfl rfl <| dE (v := .bool ((mget j1.took y10.ID).getD false)) (Ctx.mpGetC (f := fun x => [.bool x]) (fun _ _ _ _ h => h) (keyL_int U3) hc (i := 2) rfl rfl U57 rfl rfl V4 rfl (fun _ _ => rfl) rfl) rfl rfl <| ad_ 1 rfl <| dn (qn ?_); cases hb35 : ((mget j1.took y10.ID).getD false)
           · replace hp := gneg hp (by rw [hb35]; exact Bool.false_ne_true); refine Wcf rfl (Wskip (bn (qn (Wseq (Wseq ?_))))); replace hc := hc.drew; refine Wdrw (fun j w' => True) [0, 1, 3, 7, 0, 16, 0, 64, 255, 511] 0 168 rfl (by kernel_rfl) (fun _ _ => trivial) ?_; generalize hw : World.drew w34 = w36 at *; clear hw; refine ad_ 2 rfl <| ds (v := pt b0 0) rfl (fun w' hF => fax 0 rfl U59 rfl Z31 rfl rfl rfl) rfl <| dx (v := .agg (S_api_Shape.cz j1.s).toArray) rfl (ldg rfl G31 Z31 rfl (Ctx.cells hc (k := 0) rfl rfl 0 (vs := (S_api_Shape.cz j1.s)) rfl)) rfl rfl <| ds (v := pt b26 2) rfl (fun w' hF => fax 2 rfl U24 rfl Z22 rfl rfl rfl) rfl <| dx rfl (ld rfl G22 (Ctx.cell hc (k := 3) rfl rfl rfl)) rfl rfl <| ds (v := pt b26 1) rfl (fun w' hF => fax 1 rfl U24 rfl Z3 rfl rfl rfl) rfl <| dx rfl (ld rfl G3 (Ctx.cell hc (k := 3) rfl rfl rfl)) rfl rfl ?_; replace hc := hc.dz 5; obtain ⟨r37, hr37, hp⟩ := bind_some hp; refine dc (cl C26 rfl rfl) rfl rfl ?_; refine gen_Check_any (x0 := j1.s) reads_ro hc hr37 ?_; clear hc; intro w38 hc; refine ⟨fun j hj hb => trivial, ?_⟩; refine ad_ 1 rfl <| dn (qn (Wseq (Wreg ?_))); refine au 2 rfl <| rn (qn ?_); refine Wif hp (fun _ hp => ?_) fun _ hp => ?_
             · refine Wskip (qn (Wseq (Wseq ?_))); replace hc := hc.drew; refine Wdrw (fun _ w' => w' = World.drew w38) [0, 1, 3, 7, 15, 0, 32, 96, 224, 511] 0 0 rfl (by kernel_rfl) (fun _ _ => rfl) ?_; generalize hw : World.drew w38 = w40 at *; clear hw; refine ad_ 2 rfl <| dE (v := pt b0 7) (fax 7 rfl U59 rfl Z45 rfl rfl rfl) rfl rfl <| dE (ld rfl G45 (Ctx.cell hc (k := 1) rfl rfl rfl)) rfl rfl <| dE (ln rfl U45) rfl rfl <| ad_ 2 rfl <| dE (v := pt b0 6) (fax 6 rfl U59 rfl Z3 rfl rfl rfl) rfl rfl <| dE (ld rfl G3 (Ctx.cell hc (k := 1) rfl rfl rfl)) rfl rfl <| ad_ 1 rfl <| dn (qn ?_); refine Wif hp (fun _ hp => ?_) fun _ hp => ?_
               · refine Wskip (qn (Wseq (Wreg ?_))); refine au 1 rfl <| rn (qn (Wret ?_)); refine f1 (v := .int .i64 0) R11 M11 rfl ?_; refine ⟨_, rfl, ?_⟩; refine au 1 rfl <| rn (qn ?_); replace hc := hc.m [6, 6, 6]; replace hc := S_admit_Desk.fd (x := j1) hc; replace hc := hc.m [5, 3, 8, 8, 4, 8, 8]; exact ⟨⟨0, rfl, hp, hc⟩, (kl rfl kb)⟩
               · refine Wseq (Wreg ?_); refine au 1 rfl <| rn (qn (Wret (qr ?_))); refine f1 (v := .int .i64 211) R11 M11 rfl ?_; refine ⟨_, rfl, ?_⟩; refine au 1 rfl <| rn (qn ?_); replace hc := hc.m [6, 6, 6]; replace hc := S_admit_Desk.fd (x := j1) hc; replace hc := hc.m [5, 3, 8, 8, 4, 8, 8]; exact ⟨⟨211, rfl, hp, hc⟩, (kl rfl kb)⟩
             · refine Wseq (Wreg ?_); refine au 2 rfl <| rn (qn (Wret (qr ?_))); refine f1 (v := .int .i64 r37) R11 M11 rfl ?_; refine ⟨_, rfl, ?_⟩; refine au 1 rfl <| rn (qn ?_); replace hc := hc.m [6, 6, 6]; replace hc := S_admit_Desk.fd (x := j1) hc; replace hc := hc.m [5, 3, 8, 8, 4, 8, 8]; exact ⟨⟨r37, rfl, hp, hc⟩, (kl rfl kb)⟩
           · replace hp := gpos hp hb35; refine Wct rfl (Wseq (Wreg ?_)); refine au 1 rfl <| rn (qn (Wret (br (qr ?_)))); refine f1 (v := .int .i64 210) R11 M11 rfl ?_; refine ⟨_, rfl, ?_⟩; refine au 1 rfl <| rn (qn ?_); replace hc := hc.m [4, 4, 4]; replace hc := S_admit_Desk.fd (x := j1) hc; replace hc := hc.m [3, 8, 8, 4, 8, 8]; exact ⟨⟨210, rfl, hp, hc⟩, (kl rfl kb)⟩
         · refine Wseq (Wreg ?_); refine au 1 rfl <| rn (qn (Wret (br (qr ?_)))); refine f1 (v := .int .i64 2) R11 M11 rfl ?_; refine ⟨_, rfl, ?_⟩; refine au 1 rfl <| rn (qn ?_); replace hc := hc.m [1]; exact ⟨⟨2, rfl, hp, hc⟩, (kl rfl kb)⟩
       · replace hp := gpos hp (of_decide_eq_true hb29); (iterate 3 refine r0 rfl ?_); refine au 2 rfl <| rn (qn (Wct rfl (Wseq (Wreg ?_)))); refine au 1 rfl <| rn (qn (Wret (br (qr ?_)))); refine f1 (v := .int .i64 2) R11 M11 rfl ?_; refine ⟨_, rfl, ?_⟩; refine au 1 rfl <| rn (qn ?_); replace hc := hc.m [1]; exact ⟨⟨2, rfl, hp, hc⟩, (kl rfl kb)⟩
     · clear hp hc; intro vs u w42 hJ; obtain ⟨j25, rfl, hp, hc⟩ := hJ; unfold admit_Desk_Submit.J2 at hp; refine Wseqm (rg [18, 23]) [] (fun vs w' => ∃ j43 : S_admit_Desk, vs = [] ∧ admit_Desk_Submit.J3 j2 j6 j25 (admit_Desk_Submit.L1 N x1 m1) j43 = some r ∧ Ctx w' (S_admit_Desk.hp b0 j43 :: P1 :: oR .i64 27 a3 q5 j2 :: Fr)) ?_ ?_
       · refine Wseq (Wreg ?_); refine au 2 rfl <| rn (qn ?_); refine Wif hp (fun _ hp => ?_) fun _ hp => ?_
         · refine Wskip (qn ?_); replace hc := hc.m [3, 1]; exact ⟨⟨j1, rfl, hp, hc⟩, (kl rfl kb)⟩
         · refine Wseq (Wreg ?_); refine fq 2 U24 Z22 G22 hc 0 ?_; replace hc := hc.dz 1; obtain ⟨r45, hr45, hp⟩ := bind_some hp; refine kz C24 ?_; refine slices_Clone_s_int_int_any reads_ro hc hr45 ?_; clear hc; intro a46 n47 q48 w49 hc; obtain rfl := hc.rz 0 reads_own; refine sz (v := pt b21 2) (fax 2 rfl U24 rfl Z22 rfl rfl rfl) <| po hc 2 Z22 ?_; clear hc; rintro w51 hc; refine rn (qn (Wseq ?_)); replace hc := hc.m [8]; replace hc := S_admit_Desk.uf hc; obtain ⟨a52, q53, v54, hc⟩ := hc; replace hc := hc.drew; refine Wdrw (fun j w' => (j = 4 → w'.cell? ⟨b0, 7, none⟩ = some (.slice a52 j1.row.length q53)) ∧ True) [0, 0, 2, 6, 14, 0, 32, 126, 255, 511, 1023] 0 32 rfl (by kernel_rfl) (fun j hj => ⟨fun _ => hc.cell (k := 0) rfl rfl rfl, trivial⟩) ?_; generalize hw : World.drew w51 = w55 at *; clear hw; refine ad_ 3 rfl <| ds (v := pt b0 7) rfl (fun w' hF => fax 7 rfl U59 rfl Z45 rfl rfl rfl) rfl <| ds rfl (fun w' hF => ld rfl G45 ((hF.1 rfl))) rfl <| dx (v := .agg #[.int .i64 y10.ID, .int .i64 y10.Most, .slice a46 r45.length q48]) rfl (ldg rfl G24 Z24 rfl (Ctx.cells hc (k := 5) rfl rfl 0 (vs := [.int .i64 y10.ID, .int .i64 y10.Most, .slice a46 r45.length q48]) rfl)) rfl rfl ?_; replace hc := hc.freeze (k := 3) rfl rfl rfl; replace hc := Ctx.n3 hc; replace hc := hc.dz 3; replace hc : Ctx w55 (Hold S_api_Request.pr [.int .i64 y10.ID, .int .i64 y10.Most, .slice a46 r45.length q48] (⟨y10.ID, y10.Most, r45⟩ : S_api_Request) :: B b0 [.int .i64 j1.s.Layers, .int .i64 j1.s.Width, .int .i64 j1.s.Heads, .int .i64 j1.s.Inner, .int .i64 j1.s.Vocab, .int .i64 j1.s.Places, .int .i64 j1.room, .slice a52 j1.row.length q53, .map (some v54)] 59 :: Own S_api_Request.pr 24 (.slice a52 j1.row.length q53) j1.row :: Mp (ekI .i64) (HV vf1 pBool) v54 j1.took :: hR .i64 a46 q48 r45 :: hR .i64 a19 q20 y10.Prompt :: B b21 [.int .i64 y10.ID, .int .i64 y10.Most, .slice a46 r45.length q48] 24 :: hR .i64 a19 q20 y10.Prompt :: P1 :: oR .i64 27 a3 q5 j2 :: Fr) := S_api_Request.cl hc; refine deE (Ctx.builtOp (css := [[.int .i64 y10.ID, .int .i64 y10.Most, .slice a46 r45.length q48]]) (xs := ([(⟨y10.ID, y10.Most, r45⟩ : S_api_Request)] : List S_api_Request)) (E := S_api_Request.pr) hc U45 Z24 V24 rfl rfl rfl rfl rfl rfl rfl rfl) rfl rfl ?_; clear hc; rintro _ w57 ⟨a56, rfl, hc⟩; refine ⟨fun j hj hb => ⟨fun _ => hc.cell (k := 1) rfl rfl rfl, trivial⟩, ?_⟩; obtain ⟨z58, hz58, hp⟩ := bind_some hp; obtain ⟨hg59, e60⟩ := app_some hz58; refine deE (hc.ap 2 0 reads_own U45 Try.t24 hg59) rfl rfl ?_; clear hc; rintro _ w63 ⟨a61, q62, rfl, hc⟩; rw [← e60] at hc ⊢; replace hc := Ctx.n2 hc; refine ⟨fun j hj hb => ⟨fun e => nja hj e, trivial⟩, ?_⟩; refine ad_ 1 rfl <| ds (v := pt b0 7) rfl (fun w' hF => fax 7 rfl U59 rfl Z45 rfl rfl rfl) rfl ?_; refine pod hc 1 Z45 ?_; clear hc; rintro w64 hc; refine ⟨fun j hj hb => ⟨fun e => nja hj e, trivial⟩, ?_⟩; refine dn (qn ?_); replace hc := hc.drew; refine Wdrw (fun j w' => True) [0, 1, 3, 7, 0, 16, 63] 0 40 rfl (by kernel_rfl) (fun _ _ => trivial) ?_; generalize hw : World.drew w64 = w65 at *; clear hw; refine ad_ 2 rfl <| ds (v := pt b0 8) rfl (fun w' hF => fax 8 rfl U59 rfl Z57 rfl rfl rfl) rfl <| dx rfl (ld rfl G57 (Ctx.cell hc (k := 1) rfl rfl rfl)) rfl rfl <| ds (v := pt b21 0) rfl (fun w' hF => fax 0 rfl U24 rfl Z3 rfl rfl rfl) rfl <| dx rfl (ld rfl G3 (Ctx.cell hc (k := 6) rfl rfl rfl)) rfl rfl ?_; obtain ⟨r66, hr66, hp⟩ := bind_some hp; replace hc := hc.m [6]; refine dc (cl C25 rfl rfl) rfl rfl ?_; refine admit_set_int_put_any hc hr66 ?_; clear hc; intro w67 hc; refine ⟨fun j hj hb => trivial, ?_⟩; refine dn (qn ?_); replace hc := hc.m [6, 6]; replace hc := S_admit_Desk.fd (x := (⟨j1.s, j1.room, z58, r66⟩ : S_admit_Desk)) hc; replace hc := hc.m [11, 9, 7, 5, 3]; exact ⟨⟨(⟨j1.s, j1.room, z58, r66⟩ : S_admit_Desk), rfl, hp, hc⟩, (kl rfl kb)⟩
       · clear hp hc; intro vs u w68 hJ; obtain ⟨j43, rfl, hp, hc⟩ := hJ; unfold admit_Desk_Submit.J3 at hp; refine Wreg <| au 2 rfl ?_; refine rsE (oneI hc U33 Z27 V27) rfl ?_; clear hc; rintro _ w70 ⟨a69, rfl, hc⟩; obtain ⟨z71, hz71, hp⟩ := bind_some hp; obtain ⟨hg72, e73⟩ := app_some hz71; refine rsE (hc.ap 3 0 reads_own U33 Try.t27 hg72) rfl ?_; clear hc; rintro _ w76 ⟨a74, q75, rfl, hc⟩; rw [← e73] at hc ⊢; replace hc := Ctx.n3 hc; refine au 1 rfl <| rn (bn (qn (Wreg ?_))); refine au 2 rfl <| rn (qn ?_); replace hc := hc.m [1]; exact ⟨m1, Nat.lt_succ_self _, ⟨j43, z71, (IntKind.i64.wrap (j6 + 1)), a74, z71.length, q75, rfl, hp, hc⟩, (kl rfl (km rfl (kl rfl (km rfl (kl rfl k0)))))⟩

theorem bd_24_ {ρ : Operand → Value} {w : World} {dst : Option Nat} {ty : TypeId} {pos : String} {after : Array Edge} {g : Option (Nat × Bool)}    :
    (execOp ρ ⟨dst, .build 24 #[], ty, pos, after, g⟩).run Try.prog w = .ok (.value (.agg #[(.int .i64 0), (.int .i64 0), (.slice none 0 0)])) w := by
  simp [execOp, Instr.build, Instr.fill, Try.zeroValue24, Try.runUnderlying24, Try.sizeOf22, Try.sizeOf3, Value.cells]

def admit_Desk_Take (x0 : S_admit_Desk) : Option (S_api_Request × Bool × S_admit_Desk) :=
  if ((x0.row.length : Nat) : Int) = 0 then
    some ((⟨0, 0, []⟩ : S_api_Request), false, x0)
  else
    (idx x0.row (0 : Int)).bind fun y8 =>
    (slices_Delete_s_api_Request_api_Request x0.row 0 1).bind fun r23 =>
    some (y8, true, (⟨x0.s, x0.room, r23, x0.took⟩ : S_admit_Desk))

theorem admit_Desk_Take_any {b0 : Nat} {x0 : S_admit_Desk} {Fr : List HP} {w : World} {r : S_api_Request × Bool × S_admit_Desk} {K : Value → World → Prop}  (hc : Ctx w (S_admit_Desk.hp b0 x0 :: Fr)) (hp : admit_Desk_Take x0 = some r)
    (k : ∀ a32 n33 q34 w', Ctx w' (Hold (pRo (pInt .i64)) [.slice a32 n33 q34] r.1.Prompt :: S_admit_Desk.hp b0 r.2.2 :: Fr) → K (.tuple #[.agg #[.int .i64 r.1.ID, .int .i64 r.1.Most, .slice a32 n33 q34], .bool r.2.1]) w') : Calls Try.prog 12 #[pt b0 0] w (Ret K) := by
 unfold admit_Desk_Take at hp; refine Center1 F12 M12 rfl rfl ?_; refine Wseq (Wreg ?_); refine rsE (Ctx.allocOp (cs := [.int .i64 0, .int .i64 0, .slice none 0 0]) hc V24 rfl) rfl ?_; clear hc; rintro _ w3 ⟨b1, rfl, hc⟩; refine au 1 rfl <| rn (qn (Wseq (Wseq (Wreg ?_)))); refine au 2 rfl <| sz (v := pt b0 7) (fax 7 rfl U59 rfl Z45 rfl rfl rfl) ?_; replace hc := hc.m [2]; replace hc := S_admit_Desk.uf hc; obtain ⟨a4, q5, v6, hc⟩ := hc; refine sz (ld rfl G45 (Ctx.cell hc (k := 0) rfl rfl rfl)) <| sz (ln rfl U45) <| au 1 rfl <| rn (qn ?_); refine Wif hp (fun _ hp => ?_) fun _ hp => ?_
 · refine Wskip (qn (Wseq (Wreg ?_))); refine au 2 rfl ?_; refine fq 7 U59 Z45 G45 hc 0 ?_; obtain ⟨y8, hy8, hp⟩ := bind_some hp; obtain ⟨b11, o12, rfl, hi9, hi10⟩ := hc.ra 1 reads_own hy8; refine sz (ixx rfl rfl U45 Z24 hi9 hi10 rfl) ?_; replace hc := Ctx.rdCell hc (k := 1) rfl rfl reads_own hy8; obtain ⟨cs14, hc, hcell15⟩ := hc; replace hc := S_api_Request.op hc; obtain ⟨a17, q18, u16, hc⟩ := hc; subst u16; refine sz (v := .agg (S_api_Request.cz y8 a17 q18).toArray) (ldg rfl G24 Z24 rfl (elCells hcell15 0 (vs := (S_api_Request.cz y8 a17 q18)) rfl)) ?_; refine rsE (Ctx.allocOp (cs := [.int .i64 0, .int .i64 0, .slice none 0 0]) hc V24 rfl) rfl ?_; clear hc; rintro _ w21 ⟨b19, rfl, hc⟩; refine pa hc 0 Z24 ?_; clear hc; rintro w22 hc; refine rn (qn (Wseq (Wreg ?_))); refine au 3 rfl ?_; refine fq 7 U59 Z45 G45 hc 2 ?_; obtain ⟨r23, hr23, hp⟩ := bind_some hp; replace hc := hc.m [6]; refine kz C27 ?_; refine slices_Delete_s_api_Request_api_Request_any hc hr23 ?_; clear hc; intro a24 n25 q26 w27 hc; obtain rfl := hc.rz 0 reads_own; refine au 1 rfl <| sz (v := pt b0 7) (fax 7 rfl U59 rfl Z45 rfl rfl rfl) <| po hc 3 Z45 ?_; clear hc; rintro w29 hc; refine rn (qn (Wseq (Wreg ?_))); refine lg G24 Z24 hc 1 ?_; refine pa hc 5 Z24 ?_; clear hc; rintro w30 hc; refine au 1 rfl <| rn (qn (Wret ?_)); have hres := Ctx.cells hc (k := 5) rfl rfl 0 (vs := (S_api_Request.cz y8 a17 q18)) rfl; replace hc := hc.dz 2; replace hc := hc.m [10, 4, 10]; replace hc := S_admit_Desk.fd (x := (⟨x0.s, x0.room, r23, x0.took⟩ : S_admit_Desk)) hc; replace hc := hc.m [9, 7, 5, 2]; obtain rfl := sj hp; refine f2c (cs := (S_api_Request.cz y8 a17 q18)) (u := .bool true) R12 M12 rfl G24 Z24 rfl hres rfl ?_; exact ⟨_, rfl, k _ _ _ _ hc⟩
 · refine Wseq (Wreg ?_); refine sz (v := .agg #[.int .i64 0, .int .i64 0, .slice none 0 0]) (bd_24_ ) <| pa hc 3 Z24 ?_; clear hc; rintro w31 hc; refine au 1 rfl <| rn (qn (Wret (qr ?_))); have hres := Ctx.cells hc (k := 3) rfl rfl 0 (vs := [.int .i64 0, .int .i64 0, .slice none 0 0]) rfl; replace hc := hc.nilRo (pInt .i64); replace hc := hc.dz 0; replace hc := hc.m [8, 8, 8]; replace hc := S_admit_Desk.fd (x := x0) hc; replace hc := hc.m [7, 5, 2]; obtain rfl := sj hp; refine f2c (cs := [.int .i64 0, .int .i64 0, .slice none 0 0]) (u := .bool false) R12 M12 rfl G24 Z24 rfl hres rfl ?_; exact ⟨_, rfl, k _ _ _ _ hc⟩

def admit_Desk_Cancel (N : Nat) (x0 : S_admit_Desk) (x1 : (List Int)) : Option (Int × S_admit_Desk) :=
  (slices_DeleteFunc_s_api_Request_api_Request N x0.row (fun (y8_ : S_api_Request) =>
    (slices_Contains_s_int_int N x1 y8_.ID).bind fun r16_ =>
    some r16_)).bind fun r18 =>
  (some (IntKind.i64.wrap (((x0.row.length : Nat) : Int) - ((r18.length : Nat) : Int)))).bind fun e25 =>
  some (e25, (⟨x0.s, x0.room, r18, x0.took⟩ : S_admit_Desk))

theorem admit_Desk_Cancel_any {N b0 nx1 qx1 : Nat} {x0 : S_admit_Desk} {x1 : (List Int)} {ax1 : Option Addr} {P1 : HP} {Fr : List HP} {w : World} {r : Int × S_admit_Desk} {K : Value → World → Prop} (hrd1 : Reads P1 (pInt .i64) (.slice ax1 nx1 qx1) x1) (hc : Ctx w (S_admit_Desk.hp b0 x0 :: P1 :: Fr)) (hp : admit_Desk_Cancel N x0 x1 = some r)
    (k : ∀ w', Ctx w' (S_admit_Desk.hp b0 r.2 :: P1 :: Fr) → K (.int .i64 r.1) w') : Calls Try.prog 19 #[pt b0 0, .slice ax1 nx1 qx1] w (Ret K) := by
 unfold admit_Desk_Cancel at hp; refine Center2 F19 M19 rfl rfl ?_; obtain ⟨hn1, _⟩ := Ctx.rdLen hc (k := 1) rfl rfl hrd1; subst hn1; refine Wseq (Wreg ?_); refine rsE (Ctx.boxOp (cs := [.slice ax1 x1.length qx1]) (v := .slice ax1 x1.length qx1) hc rfl rfl) rfl ?_; clear hc; rintro _ w3 ⟨b1, rfl, hc⟩; refine au 1 rfl <| rn (qn (Wseq (Wreg ?_))); refine au 2 rfl <| sz (v := pt b0 7) (fax 7 rfl U59 rfl Z45 rfl rfl rfl) ?_; replace hc := hc.m [2]; replace hc := S_admit_Desk.uf hc; obtain ⟨a4, q5, v6, hc⟩ := hc; refine sz (ld rfl G45 (Ctx.cell hc (k := 0) rfl rfl rfl)) <| sz (ln rfl U45) <| au 1 rfl <| rn (qn (Wseq (Wreg ?_))); refine au 3 rfl ?_; refine fq 7 U59 Z45 G45 hc 0 ?_; refine sz (v := .func (.func 30) #[] #[pt b1 0]) (mkf rfl rfl) ?_; replace hc := hc.m [2]; have hf7 : ∀ (y0 : S_api_Request) (a18 : Option Addr) (n19 : Nat) (q20 : Nat) (Qs : List HP) (w : World) (r : Bool) (K : Value → World → Prop), Ctx w (Hold (pRo (pInt .i64)) [.slice a18 n19 q20] y0.Prompt :: (Qs ++ (B b0 [.int .i64 x0.s.Layers, .int .i64 x0.s.Width, .int .i64 x0.s.Heads, .int .i64 x0.s.Inner, .int .i64 x0.s.Vocab, .int .i64 x0.s.Places, .int .i64 x0.room, .slice a4 x0.row.length q5, .map (some v6)] 59 :: Mp (ekI .i64) (HV vf1 pBool) v6 x0.took :: B b1 [.slice ax1 x1.length qx1] 22 :: P1 :: Fr))) → (fun (y8_ : S_api_Request) =>
          (slices_Contains_s_int_int N x1 y8_.ID).bind fun r16_ =>
          some r16_) y0 = some r → (∀ w', Ctx w' (Qs ++ (B b0 [.int .i64 x0.s.Layers, .int .i64 x0.s.Width, .int .i64 x0.s.Heads, .int .i64 x0.s.Inner, .int .i64 x0.s.Vocab, .int .i64 x0.s.Places, .int .i64 x0.room, .slice a4 x0.row.length q5, .map (some v6)] 59 :: Mp (ekI .i64) (HV vf1 pBool) v6 x0.took :: B b1 [.slice ax1 x1.length qx1] 22 :: P1 :: Fr)) → K (.bool r) w') → Calls Try.prog 30 (([.agg #[.int .i64 y0.ID, .int .i64 y0.Most, .slice a18 n19 q20]] : List Value) ++ ([pt b1 0] : List Value)).toArray w (Ret K) := by
  intro y8 a9 n10 q11 Qs w r K hc hp k; replace hc : Ctx w (B b0 [.int .i64 x0.s.Layers, .int .i64 x0.s.Width, .int .i64 x0.s.Heads, .int .i64 x0.s.Inner, .int .i64 x0.s.Vocab, .int .i64 x0.s.Places, .int .i64 x0.room, .slice a4 x0.row.length q5, .map (some v6)] 59 :: Mp (ekI .i64) (HV vf1 pBool) v6 x0.took :: B b1 [.slice ax1 x1.length qx1] 22 :: P1 :: Hold (pRo (pInt .i64)) [.slice a9 n10 q11] y8.Prompt :: (Qs ++ Fr)) := Ctx.front (As := [B b0 [.int .i64 x0.s.Layers, .int .i64 x0.s.Width, .int .i64 x0.s.Heads, .int .i64 x0.s.Inner, .int .i64 x0.s.Vocab, .int .i64 x0.s.Places, .int .i64 x0.room, .slice a4 x0.row.length q5, .map (some v6)] 59, Mp (ekI .i64) (HV vf1 pBool) v6 x0.took, B b1 [.slice ax1 x1.length qx1] 22, P1]) (Qs := Hold (pRo (pInt .i64)) [.slice a9 n10 q11] y8.Prompt :: Qs) hc; refine Center (args := [.agg #[.int .i64 y8.ID, .int .i64 y8.Most, .slice a9 n10 q11], pt b1 0]) (l := [(0, .agg #[.int .i64 y8.ID, .int .i64 y8.Most, .slice a9 n10 q11]), (1, pt b1 0)]) F30 M30 rfl rfl rfl ?_; obtain rfl := hc.rz 4 reads_ro; refine Wseq (Wreg ?_); refine rsE (Ctx.boxOp (cs := (S_api_Request.cz y8 a9 q11)) (v := .agg (S_api_Request.cz y8 a9 q11).toArray) hc rfl rfl) rfl ?_; clear hc; rintro _ w15 ⟨b13, rfl, hc⟩; refine au 1 rfl <| rn (qn (Wseq (Wreg ?_))); refine sz (ld rfl G22 (Ctx.cell hc (k := 3) rfl rfl rfl)) ?_; refine fq 0 U24 Z3 G3 hc 0 ?_; obtain ⟨r16, hr16, hp⟩ := bind_some hp; replace hc := hc.m [8]; refine kz C31 ?_; refine slices_Contains_s_int_int_any hrd1 hc hr16 ?_; clear hc; intro w17 hc; refine au 1 rfl <| rn (qn (Wret ?_)); replace hc := hc.m [11, 3, 6, 6, 6]; obtain rfl := sj hp; replace hc : Ctx w17 (Qs ++ (B b0 [.int .i64 x0.s.Layers, .int .i64 x0.s.Width, .int .i64 x0.s.Heads, .int .i64 x0.s.Inner, .int .i64 x0.s.Vocab, .int .i64 x0.s.Places, .int .i64 x0.room, .slice a4 x0.row.length q5, .map (some v6)] 59 :: Mp (ekI .i64) (HV vf1 pBool) v6 x0.took :: B b1 [.slice ax1 x1.length qx1] 22 :: P1 :: Fr)) := Ctx.front (Qs := [B b0 [.int .i64 x0.s.Layers, .int .i64 x0.s.Width, .int .i64 x0.s.Heads, .int .i64 x0.s.Inner, .int .i64 x0.s.Vocab, .int .i64 x0.s.Places, .int .i64 x0.room, .slice a4 x0.row.length q5, .map (some v6)] 59, Mp (ekI .i64) (HV vf1 pBool) v6 x0.took, B b1 [.slice ax1 x1.length qx1] 22, P1]) (As := Qs) hc; exact fz R30 M30 (k _ hc)
 obtain ⟨r18, hr18, hp⟩ := bind_some hp; refine kz C29 ?_; refine slices_DeleteFunc_s_api_Request_api_Request_any C30 hf7 hc hr18 ?_; clear hc; intro a19 n20 q21 w22 hc; obtain rfl := hc.rz 0 reads_own; refine au 1 rfl <| sz (v := pt b0 7) (fax 7 rfl U59 rfl Z45 rfl rfl rfl) <| po hc 1 Z45 ?_; clear hc; rintro w24 hc; refine rn (qn (Wseq (Wreg ?_))); refine au 3 rfl ?_; refine fq 7 U59 Z45 G45 hc 1 ?_; refine sz (ln rfl U45) <| au 1 rfl ?_; obtain ⟨e25, he25, hp⟩ := bind_some hp; injection he25 with he25; refine sz (v := .int .i64 e25) (av (v := .int .i64 e25) (by rw [← he25]; rfl)) <| rn (qn (Wret ?_)); replace hc := hc.m [4, 2, 4]; replace hc := S_admit_Desk.fd (x := (⟨x0.s, x0.room, r18, x0.took⟩ : S_admit_Desk)) hc; replace hc := hc.m [3]; obtain rfl := sj hp; exact fz R19 M19 (k _ hc)

def admit_Desk_Len (x0 : S_admit_Desk) : Option (Int) :=
  some ((x0.row.length : Nat) : Int)

theorem admit_Desk_Len_any {b0 : Nat} {x0 : S_admit_Desk} {Fr : List HP} {w : World} {r : Int} {K : Value → World → Prop}  (hc : Ctx w (S_admit_Desk.hp b0 x0 :: Fr)) (hp : admit_Desk_Len x0 = some r)
    (k : ∀ w', Ctx w' (S_admit_Desk.hp b0 x0 :: Fr) → K (.int .i64 r) w') : Calls Try.prog 14 #[pt b0 0] w (Ret K) := by
 unfold admit_Desk_Len at hp; refine Center1 F14 M14 rfl rfl ?_; refine Wseq (Wreg ?_); refine au 1 rfl <| rn (qn (Wseq (Wreg ?_))); refine au 2 rfl <| sz (v := pt b0 7) (fax 7 rfl U59 rfl Z45 rfl rfl rfl) ?_; replace hc := S_admit_Desk.uf hc; obtain ⟨a1, q2, v3, hc⟩ := hc; refine sz (ld rfl G45 (Ctx.cell hc (k := 0) rfl rfl rfl)) <| sz (ln rfl U45) <| au 1 rfl <| rn (qn (Wret ?_)); replace hc := hc.m [4, 4, 4]; replace hc := S_admit_Desk.fd (x := x0) hc; obtain rfl := sj hp; exact fz R14 M14 (k _ hc)

def admit_Desk_Took (x0 : S_admit_Desk) (x1 : Int) : Option (Bool) :=
  some ((mget x0.took x1).getD false)

theorem admit_Desk_Took_any {b0 : Nat} {x0 : S_admit_Desk} {x1 : Int} {Fr : List HP} {w : World} {r : Bool} {K : Value → World → Prop}  (hc : Ctx w (S_admit_Desk.hp b0 x0 :: Fr)) (hp : admit_Desk_Took x0 x1 = some r)
    (k : ∀ w', Ctx w' (S_admit_Desk.hp b0 x0 :: Fr) → K (.bool r) w') : Calls Try.prog 13 #[pt b0 0, .int .i64 x1] w (Ret K) := by
 unfold admit_Desk_Took at hp; refine Center2 F13 M13 rfl rfl ?_; refine Wseq (Wreg ?_); refine au 1 rfl <| rn (qn (Wseq (Wreg ?_))); refine au 2 rfl <| sz (v := pt b0 8) (fax 8 rfl U59 rfl Z57 rfl rfl rfl) ?_; replace hc := S_admit_Desk.uf hc; obtain ⟨a1, q2, v3, hc⟩ := hc; refine sz (ld rfl G57 (Ctx.cell hc (k := 0) rfl rfl rfl)) <| au 1 rfl <| sz (v := .bool ((mget x0.took x1).getD false)) (Ctx.mpGetC (f := fun x => [.bool x]) (fun _ _ _ _ h => h) (keyL_int U3) hc (i := 2) rfl rfl U57 rfl rfl V4 rfl (fun _ _ => rfl) rfl) <| au 1 rfl <| rn (qn (Wret ?_)); replace hc := hc.m [4, 4, 4]; replace hc := S_admit_Desk.fd (x := x0) hc; obtain rfl := sj hp; exact fz R13 M13 (k _ hc)

def ref09_Ints.L1 (x0 : (List Int)) (x1 : (List Int)) : Nat → Int → Option (Bool)
  | 0, _ => none
  | m1 + 1, j2 =>
    if j2 < ((x0.length : Nat) : Int) then
      (idx x0 j2).bind fun y6 =>
      (idx x1 j2).bind fun y15 =>
      if y6 ≠ y15 then
        some false
      else
        (ref09_Ints.L1 x0 x1 m1) (IntKind.i64.wrap (j2 + 1))
    else
      some true

def ref09_Ints (N : Nat) (x0 : (List Int)) (x1 : (List Int)) : Option (Bool) :=
  if ((x0.length : Nat) : Int) ≠ ((x1.length : Nat) : Int) then
    some false
  else
    ref09_Ints.L1 x0 x1 N 0

theorem ref09_Ints_any {N nx0 qx0 nx1 qx1 : Nat} {x0 x1 : (List Int)} {ax0 ax1 : Option Addr} {P0 P1 : HP} {Fr : List HP} {w : World} {r : Bool} {K : Value → World → Prop} (hrd0 : Reads P0 (pInt .i64) (.slice ax0 nx0 qx0) x0) (hrd1 : Reads P1 (pInt .i64) (.slice ax1 nx1 qx1) x1) (hc : Ctx w (P0 :: P1 :: Fr)) (hp : ref09_Ints N x0 x1 = some r)
    (k : ∀ w', Ctx w' (P0 :: P1 :: Fr) → K (.bool r) w') : Calls Try.prog 28 #[.slice ax0 nx0 qx0, .slice ax1 nx1 qx1] w (Ret K) := by
 unfold ref09_Ints at hp; refine Center2 F28 M28 rfl rfl ?_; obtain ⟨hn0, _⟩ := Ctx.rdLen hc (k := 0) rfl rfl hrd0; subst hn0; obtain ⟨hn1, _⟩ := Ctx.rdLen hc (k := 1) rfl rfl hrd1; subst hn1; refine Wseq (Wreg ?_); refine au 1 rfl <| rn (qn (Wseq (Wseq (Wreg ?_)))); refine au 1 rfl <| sz (ln rfl U22) <| au 1 rfl <| sz (ln rfl U22) <| au 1 rfl <| rn (qn ?_); refine Wif hp (fun _ hp => ?_) fun _ hp => ?_
 · refine Wskip (qn (Wseq (Wseq (Wreg ?_)))); refine au 1 rfl <| rn (qn (Wblk ?_)); refine Wloop (rg [4, 2, 11, 15]) [5] (fun m vs w' => ∃ j2 : Int, vs = [.int .i64 j2] ∧ ref09_Ints.L1 x0 x1 m j2 = some r ∧ Ctx w' (P0 :: P1 :: Fr)) N ?_ ?_
   · exact ⟨0, rfl, hp, hc⟩
   · clear hp hc; intro m vs u w3 hJ; obtain ⟨j2, rfl, hp, hc⟩ := hJ; rcases m with _ | m1
     · cases (show none = some r from hp)
     rw [ref09_Ints.L1] at hp; refine Wseq (Wseq (Wreg ?_)); refine au 2 rfl <| sz (ln rfl U22) <| au 1 rfl <| rn (qn ?_); refine Wif hp (fun _ hp => ?_) fun _ hp => ?_
     · refine Wexit (qx (qx (be (qn (Wseq (Wreg ?_)))))); refine au 1 rfl <| rn (qn (Wret ?_)); obtain rfl := sj hp; exact fz R28 M28 (k _ hc)
     · refine Wskip (qn (Wseq (Wblk (Wseq ?_)))); replace hc := hc.drew; refine Wdrw (fun _ w' => w' = World.drew w3) [0, 0, 3, 7, 0, 0, 48, 112, 255] 0 0 rfl (by kernel_rfl) (fun _ _ => rfl) ?_; generalize hw : World.drew w3 = w5 at *; clear hw; refine ad_ 2 rfl ?_; obtain ⟨y6, hy6, hp⟩ := bind_some hp; obtain ⟨b9, o10, rfl, hi7, hi8⟩ := hc.ra 0 hrd0 hy6; refine dE (ixx rfl rfl U22 Z3 hi7 hi8 rfl) rfl rfl ?_; have hcell13 := hc.rv 0 hrd0 hy6; refine dE (ld rfl G3 (hcell13 0 _ rfl)) rfl rfl <| ad_ 2 rfl ?_; obtain ⟨y15, hy15, hp⟩ := bind_some hp; obtain ⟨b18, o19, rfl, hi16, hi17⟩ := hc.ra 1 hrd1 hy15; refine dE (ixx rfl rfl U22 Z3 hi16 hi17 rfl) rfl rfl ?_; have hcell22 := hc.rv 1 hrd1 hy15; refine dE (ld rfl G3 (hcell22 0 _ rfl)) rfl rfl <| ad_ 1 rfl <| dn (qn ?_); refine Wif hp (fun _ hp => ?_) fun _ hp => ?_
       · refine Wskip (bn (qn (Wreg ?_))); refine au 3 rfl <| rn (qn ?_); exact ⟨m1, Nat.lt_succ_self _, ⟨(IntKind.i64.wrap (j2 + 1)), rfl, hp, hc⟩, (kl rfl k0)⟩
       · refine Wseq (Wreg ?_); refine au 1 rfl <| rn (qn (Wret (br (qr (qr (br (qr ?_))))))); obtain rfl := sj hp; exact fz R28 M28 (k _ hc)
 · refine Wseq (Wreg ?_); refine au 1 rfl <| rn (qn (Wret (qr ?_))); obtain rfl := sj hp; exact fz R28 M28 (k _ hc)

def ref09_Check.L1 (x0 : S_api_Shape) (x1 : (List Int)) (x2 : Int) : Nat → Int → Option (Int)
  | 0, _ => none
  | m1 + 1, j5 =>
    if j5 < ((x1.length : Nat) : Int) then
      (idx x1 j5).bind fun y12 =>
      if y12 < 0 then
        some 2
      else
        (idx x1 j5).bind fun y22 =>
        if y22 ≥ x0.Vocab then
          some 2
        else
          (ref09_Check.L1 x0 x1 x2 m1) (IntKind.i64.wrap (j5 + 1))
    else
      if x2 < 1 then
        some 2
      else
        if ((x1.length : Nat) : Int) > x0.Places then
          some 80
        else
          if x2 > (IntKind.i64.wrap ((IntKind.i64.wrap (x0.Places - ((x1.length : Nat) : Int))) + 1)) then
            some 80
          else
            some 0

def ref09_Check (N : Nat) (x0 : S_api_Shape) (x1 : (List Int)) (x2 : Int) : Option (Int) :=
  if ((x1.length : Nat) : Int) = 0 then
    some 90
  else
    ref09_Check.L1 x0 x1 x2 N 0

theorem ref09_Check_any {N nx1 qx1 : Nat} {x0 : S_api_Shape} {x1 : (List Int)} {ax1 : Option Addr} {P1 : HP} {x2 r : Int} {Fr : List HP} {w : World} {K : Value → World → Prop} (hrd1 : Reads P1 (pInt .i64) (.slice ax1 nx1 qx1) x1) (hc : Ctx w (P1 :: Fr)) (hp : ref09_Check N x0 x1 x2 = some r)
    (k : ∀ w', Ctx w' (P1 :: Fr) → K (.int .i64 r) w') : Calls Try.prog 32 #[.agg (S_api_Shape.cz x0).toArray, .slice ax1 nx1 qx1, .int .i64 x2] w (Ret K) := by
 unfold ref09_Check at hp; refine Center3 F32 M32 rfl rfl ?_; obtain ⟨hn1, _⟩ := Ctx.rdLen hc (k := 0) rfl rfl hrd1; subst hn1; refine Wseq (Wreg ?_); refine rsE (Ctx.boxOp (cs := (S_api_Shape.cz x0)) (v := .agg (S_api_Shape.cz x0).toArray) hc rfl rfl) rfl ?_; clear hc; rintro _ w3 ⟨b1, rfl, hc⟩; refine au 1 rfl <| rn (qn (Wseq (Wseq (Wreg ?_)))); refine au 1 rfl <| sz (ln rfl U22) <| au 1 rfl <| rn (qn ?_); refine Wif hp (fun _ hp => ?_) fun _ hp => ?_
 · refine Wskip (qn (Wseq (Wseq (Wreg ?_)))); refine au 1 rfl <| rn (qn (Wblk ?_)); refine Wloop (rg [6, 2, 11, 20]) [7] (fun m vs w' => ∃ j5 : Int, vs = [.int .i64 j5] ∧ ref09_Check.L1 x0 x1 x2 m j5 = some r ∧ Ctx w' (B b1 (S_api_Shape.cz x0) 31 :: P1 :: Fr)) N ?_ ?_
   · exact ⟨0, rfl, hp, hc⟩
   · clear hp hc; intro m vs u w6 hJ; obtain ⟨j5, rfl, hp, hc⟩ := hJ; rcases m with _ | m1
     · cases (show none = some r from hp)
     rw [ref09_Check.L1] at hp; refine Wseq (Wseq (Wreg ?_)); refine au 2 rfl <| sz (ln rfl U22) <| au 1 rfl <| rn (qn ?_); refine Wif hp (fun _ hp => ?_) fun _ hp => ?_
     · refine Wexit (qx (qx (be (qn (Wseq (Wseq (Wreg ?_))))))); refine au 2 rfl <| rn (qn ?_); refine Wif hp (fun _ hp => ?_) fun _ hp => ?_
       · refine Wskip (qn (Wseq (Wseq (Wreg ?_)))); refine au 1 rfl <| sz (ln rfl U22) ?_; refine fq 5 U31 Z3 G3 hc 0 ?_; refine au 2 rfl ?_; cases hb9 : (decide (((x1.length : Nat) : Int) > x0.Places))
         · replace hp := gneg hp (of_decide_eq_false hb9); refine au 1 rfl ?_; refine fq 5 U31 Z3 G3 hc 0 ?_; refine au 1 rfl <| sz (ln rfl U22) <| au 4 rfl <| rn (qn ?_); refine Wif hp (fun _ hp => ?_) fun _ hp => ?_
           · refine Wskip (qn (Wseq (Wreg ?_))); refine au 1 rfl <| rn (qn (Wret ?_)); replace hc := hc.m [1]; obtain rfl := sj hp; exact fz R32 M32 (k _ hc)
           · refine Wseq (Wreg ?_); refine au 1 rfl <| rn (qn (Wret (qr ?_))); replace hc := hc.m [1]; obtain rfl := sj hp; exact fz R32 M32 (k _ hc)
         · replace hp := gpos hp (of_decide_eq_true hb9); (iterate 8 refine r0 rfl ?_); refine au 1 rfl <| rn (qn (Wct rfl (Wseq (Wreg ?_)))); refine au 1 rfl <| rn (qn (Wret (qr ?_))); replace hc := hc.m [1]; obtain rfl := sj hp; exact fz R32 M32 (k _ hc)
       · refine Wseq (Wreg ?_); refine au 1 rfl <| rn (qn (Wret (qr ?_))); replace hc := hc.m [1]; obtain rfl := sj hp; exact fz R32 M32 (k _ hc)
     · refine Wskip (qn (Wseq (Wblk (Wseq ?_)))); replace hc := hc.drew; refine Wdrw (fun _ w' => w' = World.drew w6) [0, 0, 3, 7, 15, 31, 63, 63, 255, 511, 63, 1087, 4095, 8191] 0 0 rfl (by kernel_rfl) (fun _ _ => rfl) ?_; generalize hw : World.drew w6 = w11 at *; clear hw; refine ad_ 2 rfl ?_; obtain ⟨y12, hy12, hp⟩ := bind_some hp; obtain ⟨b15, o16, rfl, hi13, hi14⟩ := hc.ra 1 hrd1 hy12; refine dE (ixx rfl rfl U22 Z3 hi13 hi14 rfl) rfl rfl ?_; have hcell19 := hc.rv 1 hrd1 hy12; refine dE (ld rfl G3 (hcell19 0 _ rfl)) rfl rfl <| ad_ 2 rfl ?_; cases hb21 : (decide (y12 < 0))
       · replace hp := gneg hp (of_decide_eq_false hb21); refine ad_ 2 rfl ?_; obtain ⟨y22, hy22, hp⟩ := bind_some hp; obtain ⟨b25, o26, -, hi23, hi24⟩ := hc.ra 1 hrd1 hy22; refine dE (ixx rfl rfl U22 Z3 hi23 hi24 rfl) rfl rfl ?_; have hcell29 := hc.rv 1 hrd1 hy22; refine dE (ld rfl G3 (hcell29 0 _ rfl)) rfl rfl <| dE (v := pt b1 4) (fax 4 rfl U31 rfl Z3 rfl rfl rfl) rfl rfl <| dE (ld rfl G3 (Ctx.cell hc (k := 0) rfl rfl rfl)) rfl rfl <| ad_ 2 rfl <| dn (qn ?_); refine Wif hp (fun _ hp => ?_) fun _ hp => ?_
         · refine Wskip (bn (qn (Wreg ?_))); refine au 3 rfl <| rn (qn ?_); exact ⟨m1, Nat.lt_succ_self _, ⟨(IntKind.i64.wrap (j5 + 1)), rfl, hp, hc⟩, (kl rfl k0)⟩
         · refine Wseq (Wreg ?_); refine au 1 rfl <| rn (qn (Wret (br (qr (qr (br (qr ?_))))))); replace hc := hc.m [1]; obtain rfl := sj hp; exact fz R32 M32 (k _ hc)
       · replace hp := gpos hp (of_decide_eq_true hb21); (iterate 7 refine d0 rfl rfl ?_); refine ad_ 1 rfl <| dn (qn (Wct rfl (Wseq (Wreg ?_)))); refine au 1 rfl <| rn (qn (Wret (br (qr (qr (br (qr ?_))))))); replace hc := hc.m [1]; obtain rfl := sj hp; exact fz R32 M32 (k _ hc)
 · refine Wseq (Wreg ?_); refine au 1 rfl <| rn (qn (Wret (qr ?_))); replace hc := hc.m [1]; obtain rfl := sj hp; exact fz R32 M32 (k _ hc)

def ref21_Desk_Took.L1 (x0 : S_ref21_Desk) (x1 : Int) : Nat → Int → Option (Bool)
  | 0, _ => none
  | m1 + 1, j1 =>
    if j1 < ((x0.Ids.length : Nat) : Int) then
      (idx x0.Ids j1).bind fun y8 =>
      if y8 = x1 then
        some true
      else
        (ref21_Desk_Took.L1 x0 x1 m1) (IntKind.i64.wrap (j1 + 1))
    else
      some false

def ref21_Desk_Took (N : Nat) (x0 : S_ref21_Desk) (x1 : Int) : Option (Bool) :=
  ref21_Desk_Took.L1 x0 x1 N 0

theorem ref21_Desk_Took_any {N b0 : Nat} {x0 : S_ref21_Desk} {x1 : Int} {Fr : List HP} {w : World} {r : Bool} {K : Value → World → Prop}  (hc : Ctx w (S_ref21_Desk.hp b0 x0 :: Fr)) (hp : ref21_Desk_Took N x0 x1 = some r)
    (k : ∀ w', Ctx w' (S_ref21_Desk.hp b0 x0 :: Fr) → K (.bool r) w') : Calls Try.prog 22 #[pt b0 0, .int .i64 x1] w (Ret K) := by
 unfold ref21_Desk_Took at hp; refine Center2 F22 M22 rfl rfl ?_; refine Wseq (Wreg ?_); refine au 1 rfl <| rn (qn (Wseq (Wseq (Wreg ?_)))); refine au 1 rfl <| rn (qn (Wblk ?_)); refine Wloop (rg [4, 20]) [5] (fun m vs w' => ∃ j1 : Int, vs = [.int .i64 j1] ∧ ref21_Desk_Took.L1 x0 x1 m j1 = some r ∧ Ctx w' (S_ref21_Desk.hp b0 x0 :: Fr)) N ?_ ?_
 · exact ⟨0, rfl, hp, hc⟩
 · clear hp hc; intro m vs u w2 hJ; obtain ⟨j1, rfl, hp, hc⟩ := hJ; rcases m with _ | m1
   · cases (show none = some r from hp)
   rw [ref21_Desk_Took.L1] at hp; refine Wseq (Wseq (Wreg ?_)); refine au 3 rfl <| sz (v := pt b0 8) (fax 8 rfl U47 rfl Z22 rfl rfl rfl) ?_; replace hc := S_ref21_Desk.uf hc; obtain ⟨a3, q4, a5, q6, hc⟩ := hc; refine sz (ld rfl G22 (Ctx.cell hc (k := 0) rfl rfl rfl)) <| sz (ln rfl U22) <| au 1 rfl <| rn (qn ?_); refine Wif hp (fun _ hp => ?_) fun _ hp => ?_
   · refine Wexit (qx (qx (be (qn (Wseq (Wreg ?_)))))); refine au 1 rfl <| rn (qn (Wret ?_)); replace hc := hc.m [4, 4, 4]; replace hc := S_ref21_Desk.fd (x := x0) hc; obtain rfl := sj hp; exact fz R22 M22 (k _ hc)
   · refine Wskip (qn (Wseq (Wblk (Wseq (Wreg ?_))))); refine au 2 rfl ?_; refine fq 8 U47 Z22 G22 hc 0 ?_; refine au 1 rfl ?_; obtain ⟨y8, hy8, hp⟩ := bind_some hp; obtain ⟨b11, o12, rfl, hi9, hi10⟩ := hc.ra 2 reads_own hy8; refine sz (ixx rfl rfl U22 Z3 hi9 hi10 rfl) ?_; have hcell15 := hc.rv 2 reads_own hy8; refine sz (ld rfl G3 (hcell15 0 _ rfl)) <| au 2 rfl <| rn (qn ?_); refine Wif hp (fun _ hp => ?_) fun _ hp => ?_
     · refine Wskip (bn (qn (Wreg ?_))); refine au 3 rfl <| rn (qn ?_); replace hc := hc.m [4, 4, 4]; replace hc := S_ref21_Desk.fd (x := x0) hc; exact ⟨m1, Nat.lt_succ_self _, ⟨(IntKind.i64.wrap (j1 + 1)), rfl, hp, hc⟩, (kl rfl k0)⟩
     · refine Wseq (Wreg ?_); refine au 1 rfl <| rn (qn (Wret (br (qr (qr (br (qr ?_))))))); replace hc := hc.m [4, 4, 4]; replace hc := S_ref21_Desk.fd (x := x0) hc; obtain rfl := sj hp; exact fz R22 M22 (k _ hc)

def ref21_Desk_Judge (N : Nat) (x0 : S_ref21_Desk) (x1 : S_api_Request) : Option (Int) :=
  if x1.ID < 0 then
    some 2
  else
    if x1.ID ≥ 1099511627776 then
      some 2
    else
      (ref21_Desk_Took N x0 x1.ID).bind fun r10 =>
      if r10 = true then
        some 210
      else
        (ref09_Check N x0.S x1.Prompt x1.Most).bind fun r18 =>
        if r18 ≠ 0 then
          some r18
        else
          if ((x0.L.length : Nat) : Int) ≥ x0.Room then
            some 211
          else
            some 0

theorem ref21_Desk_Judge_any {N b0 n2 q3 : Nat} {x0 : S_ref21_Desk} {x1 : S_api_Request} {a1 : Option Addr} {Fr : List HP} {w : World} {r : Int} {K : Value → World → Prop}  (hc : Ctx w (S_ref21_Desk.hp b0 x0 :: Hold (pRo (pInt .i64)) [.slice a1 n2 q3] x1.Prompt :: Fr)) (hp : ref21_Desk_Judge N x0 x1 = some r)
    (k : ∀ w', Ctx w' (S_ref21_Desk.hp b0 x0 :: Fr) → K (.int .i64 r) w') : Calls Try.prog 21 #[pt b0 0, .agg #[.int .i64 x1.ID, .int .i64 x1.Most, .slice a1 n2 q3]] w (Ret K) := by
 unfold ref21_Desk_Judge at hp; refine Center2 F21 M21 rfl rfl ?_; obtain rfl := hc.rz 1 reads_ro; refine Wseq (Wreg ?_); refine rsE (Ctx.boxOp (cs := (S_api_Request.cz x1 a1 q3)) (v := .agg (S_api_Request.cz x1 a1 q3).toArray) hc rfl rfl) rfl ?_; clear hc; rintro _ w7 ⟨b5, rfl, hc⟩; refine au 1 rfl <| rn (qn (Wseq (Wseq (Wreg ?_)))); refine fq 0 U24 Z3 G3 hc 0 ?_; refine au 2 rfl ?_; cases hb8 : (decide (x1.ID < 0))
 · replace hp := gneg hp (of_decide_eq_false hb8); refine fq 0 U24 Z3 G3 hc 0 ?_; refine au 2 rfl <| rn (qn ?_); refine Wif hp (fun _ h => ?_) fun _ h => ?_
   · replace hp := h; clear h; refine Wskip (qn (Wseq (Wseq (Wreg ?_)))); refine au 1 rfl ?_; refine fq 0 U24 Z3 G3 hc 0 ?_; replace hp := bind_some hp; obtain ⟨r10, hr10, hp⟩ := hp; replace hc := hc.m [2]; refine kz C22 ?_; refine ref21_Desk_Took_any hc hr10 ?_; clear hc; intro w11 hc; refine rn (qn ?_); cases hb12 : r10
     · replace hp := gneg hp (by rw [hb12]; exact Bool.false_ne_true); subst hb12; refine Wcf rfl (Wskip (qn (Wseq ?_))); replace hc := S_ref21_Desk.uf hc; obtain ⟨a13, q14, a15, q16, hc⟩ := hc; replace hc := hc.drew; refine Wdrw (fun j w' => True) [0, 1, 3, 7, 0, 16, 0, 64, 255, 511] 0 168 rfl (by kernel_rfl) (fun _ _ => trivial) ?_; generalize hw : World.drew w11 = w17 at *; clear hw; refine ad_ 2 rfl <| ds (v := pt b0 0) rfl (fun w' hF => fax 0 rfl U47 rfl Z31 rfl rfl rfl) rfl <| dx (v := .agg (S_api_Shape.cz x0.S).toArray) rfl (ldg rfl G31 Z31 rfl (Ctx.cells hc (k := 0) rfl rfl 0 (vs := (S_api_Shape.cz x0.S)) rfl)) rfl rfl <| ds (v := pt b5 2) rfl (fun w' hF => fax 2 rfl U24 rfl Z22 rfl rfl rfl) rfl <| dx rfl (ld rfl G22 (Ctx.cell hc (k := 3) rfl rfl rfl)) rfl rfl <| ds (v := pt b5 1) rfl (fun w' hF => fax 1 rfl U24 rfl Z3 rfl rfl rfl) rfl <| dx rfl (ld rfl G3 (Ctx.cell hc (k := 3) rfl rfl rfl)) rfl rfl ?_; replace hc := hc.dz 4; replace hp := bind_some hp; obtain ⟨r18, hr18, hp⟩ := hp; refine dc (cl C32 rfl rfl) rfl rfl ?_; refine ref09_Check_any (x0 := x0.S) reads_ro hc hr18 ?_; clear hc; intro w19 hc; refine ⟨fun j hj hb => trivial, ?_⟩; refine ad_ 1 rfl <| dn (qn (Wseq (Wseq (Wreg ?_)))); refine au 2 rfl <| rn (qn ?_); refine Wif hp (fun _ h => ?_) fun _ h => ?_
       · replace hp := h; clear h; refine Wskip (qn (Wseq (Wseq ?_))); replace hc := hc.drew; refine Wdrw (fun _ w' => w' = World.drew w19) [0, 1, 3, 7, 15, 0, 32, 96, 224, 511] 0 0 rfl (by kernel_rfl) (fun _ _ => rfl) ?_; generalize hw : World.drew w19 = w21 at *; clear hw; refine ad_ 2 rfl <| dE (v := pt b0 7) (fax 7 rfl U47 rfl Z45 rfl rfl rfl) rfl rfl <| dE (ld rfl G45 (Ctx.cell hc (k := 1) rfl rfl rfl)) rfl rfl <| dE (ln rfl U45) rfl rfl <| ad_ 2 rfl <| dE (v := pt b0 6) (fax 6 rfl U47 rfl Z3 rfl rfl rfl) rfl rfl <| dE (ld rfl G3 (Ctx.cell hc (k := 1) rfl rfl rfl)) rfl rfl <| ad_ 1 rfl <| dn (qn ?_); refine Wif hp (fun _ h => ?_) fun _ h => ?_
         · replace hp := h; clear h; refine Wskip (qn (Wseq (Wreg ?_))); refine au 1 rfl <| rn (qn (Wret ?_)); replace hc := hc.m [6, 6, 6]; replace hc := S_ref21_Desk.fd (x := x0) hc; replace hc := hc.m [7, 5, 3]; obtain rfl := sj hp; exact fz R21 M21 (k _ hc)
         · replace hp := h; clear h; refine Wseq (Wreg ?_); refine au 1 rfl <| rn (qn (Wret (qr ?_))); replace hc := hc.m [6, 6, 6]; replace hc := S_ref21_Desk.fd (x := x0) hc; replace hc := hc.m [7, 5, 3]; obtain rfl := sj hp; exact fz R21 M21 (k _ hc)
       · replace hp := h; clear h; refine Wseq (Wreg ?_); refine au 2 rfl <| rn (qn (Wret (qr ?_))); replace hc := hc.m [6, 6, 6]; replace hc := S_ref21_Desk.fd (x := x0) hc; replace hc := hc.m [7, 5, 3]; obtain rfl := sj hp; exact fz R21 M21 (k _ hc)
     · replace hp := gpos hp hb12; subst hb12; refine Wct rfl (Wseq (Wreg ?_)); refine au 1 rfl <| rn (qn (Wret (qr ?_))); replace hc := hc.m [5, 3]; obtain rfl := sj hp; exact fz R21 M21 (k _ hc)
   · replace hp := h; clear h; refine Wseq (Wreg ?_); refine au 1 rfl <| rn (qn (Wret (qr ?_))); replace hc := hc.m [5, 1]; obtain rfl := sj hp; exact fz R21 M21 (k _ hc)
 · replace hp := gpos hp (of_decide_eq_true hb8); (iterate 3 refine r0 rfl ?_); refine au 1 rfl <| rn (qn (Wct rfl (Wseq (Wreg ?_)))); refine au 1 rfl <| rn (qn (Wret (qr ?_))); replace hc := hc.m [5, 1]; obtain rfl := sj hp; exact fz R21 M21 (k _ hc)

def ref21_Desk_Submit (N : Nat) (x0 : S_ref21_Desk) (x1 : S_api_Request) : Option (Int × S_ref21_Desk) :=
  (ref21_Desk_Judge N x0 x1).bind fun r8 =>
  if r8 = 0 then
    (app ([]) x1.Prompt).bind fun z13 =>
    (app x0.L ([(⟨x1.ID, x1.Most, z13⟩ : S_api_Request)])).bind fun z27 =>
    (app x0.Ids ([x1.ID])).bind fun z37 =>
    some (r8, (⟨x0.S, x0.Room, z27, z37⟩ : S_ref21_Desk))
  else
    some (r8, x0)

theorem ref21_Desk_Submit_any {N b0 n2 q3 : Nat} {x0 : S_ref21_Desk} {x1 : S_api_Request} {a1 : Option Addr} {Fr : List HP} {w : World} {r : Int × S_ref21_Desk} {K : Value → World → Prop}  (hc : Ctx w (S_ref21_Desk.hp b0 x0 :: Hold (pRo (pInt .i64)) [.slice a1 n2 q3] x1.Prompt :: Fr)) (hp : ref21_Desk_Submit N x0 x1 = some r)
    (k : ∀ w', Ctx w' (S_ref21_Desk.hp b0 r.2 :: Fr) → K (.int .i64 r.1) w') : Calls Try.prog 16 #[pt b0 0, .agg #[.int .i64 x1.ID, .int .i64 x1.Most, .slice a1 n2 q3]] w (Ret K) := by
 unfold ref21_Desk_Submit at hp; refine Center2 F16 M16 rfl rfl ?_; obtain rfl := hc.rz 1 reads_ro; refine Wseq (Wreg ?_); refine rsE (Ctx.boxOp (cs := (S_api_Request.cz x1 a1 q3)) (v := .agg (S_api_Request.cz x1 a1 q3).toArray) hc rfl rfl) rfl ?_; clear hc; rintro _ w7 ⟨b5, rfl, hc⟩; refine au 1 rfl <| rn (qn (Wseq (Wreg ?_))); refine au 1 rfl <| lg G24 Z24 hc 0 ?_; replace hc := hc.dz 2; obtain ⟨r8, hr8, hp⟩ := bind_some hp; replace hc := hc.m [4]; refine kz C21 ?_; refine ref21_Desk_Judge_any (x1 := x1) hc hr8 ?_; clear hc; intro w9 hc; refine au 1 rfl <| rn (qn (Wseq (Wseq (Wreg ?_)))); refine au 2 rfl <| rn (qn ?_); refine Wif hp (fun _ hp => ?_) fun _ hp => ?_
 · refine Wskip (qn (Wseq (Wreg ?_))); refine au 2 rfl <| rn (qn (Wret ?_)); replace hc := hc.m [5, 3]; obtain rfl := sj hp; exact fz R16 M16 (k _ hc)
 · refine Wseq (Wreg ?_); refine rsE (Ctx.builtOp (css := []) (xs := ([] : List Int)) (E := (pInt .i64)) hc U22 Z3 V3 rfl rfl rfl rfl rfl rfl rfl rfl) rfl ?_; clear hc; rintro _ w12 ⟨a11, rfl, hc⟩; refine fq 2 U24 Z22 G22 hc 2 ?_; obtain ⟨z13, hz13, hp⟩ := bind_some hp; obtain ⟨hg14, e15⟩ := app_some hz13; refine rsE (hc.ap 0 3 reads_ro U22 Try.t3 hg14) rfl ?_; clear hc; rintro _ w18 ⟨a16, q17, rfl, hc⟩; rw [← e15] at hc ⊢; replace hc := Ctx.n0 hc; refine sz (v := pt b5 2) (fax 2 rfl U24 rfl Z22 rfl rfl rfl) <| po hc 2 Z22 ?_; clear hc; rintro w19 hc; refine rn (qn (Wseq ?_)); replace hc := hc.m [2]; replace hc := S_ref21_Desk.uf hc; obtain ⟨a20, q21, a22, q23, hc⟩ := hc; replace hc := hc.drew; refine Wdrw (fun j w' => (j = 4 → w'.cell? ⟨b0, 7, none⟩ = some (.slice a20 x0.L.length q21)) ∧ True) [0, 0, 2, 6, 14, 0, 32, 126, 255, 511, 1023] 0 32 rfl (by kernel_rfl) (fun j hj => ⟨fun _ => hc.cell (k := 0) rfl rfl rfl, trivial⟩) ?_; generalize hw : World.drew w19 = w24 at *; clear hw; refine ad_ 3 rfl <| ds (v := pt b0 7) rfl (fun w' hF => fax 7 rfl U47 rfl Z45 rfl rfl rfl) rfl <| ds rfl (fun w' hF => ld rfl G45 ((hF.1 rfl))) rfl <| dx (v := .agg #[.int .i64 x1.ID, .int .i64 x1.Most, .slice a16 z13.length q17]) rfl (ldg rfl G24 Z24 rfl (Ctx.cells hc (k := 4) rfl rfl 0 (vs := [.int .i64 x1.ID, .int .i64 x1.Most, .slice a16 z13.length q17]) rfl)) rfl rfl ?_; replace hc := hc.freeze (k := 3) rfl rfl rfl; replace hc := Ctx.n3 hc; replace hc := hc.dz 3; replace hc : Ctx w24 (Hold S_api_Request.pr [.int .i64 x1.ID, .int .i64 x1.Most, .slice a16 z13.length q17] (⟨x1.ID, x1.Most, z13⟩ : S_api_Request) :: B b0 (S_ref21_Desk.cz x0 a20 q21 a22 q23) 47 :: Own S_api_Request.pr 24 (.slice a20 x0.L.length q21) x0.L :: oR .i64 3 a22 q23 x0.Ids :: hR .i64 a16 q17 z13 :: B b5 [.int .i64 x1.ID, .int .i64 x1.Most, .slice a16 z13.length q17] 24 :: hR .i64 a1 q3 x1.Prompt :: Fr) := S_api_Request.cl hc; refine deE (Ctx.builtOp (css := [[.int .i64 x1.ID, .int .i64 x1.Most, .slice a16 z13.length q17]]) (xs := ([(⟨x1.ID, x1.Most, z13⟩ : S_api_Request)] : List S_api_Request)) (E := S_api_Request.pr) hc U45 Z24 V24 rfl rfl rfl rfl rfl rfl rfl rfl) rfl rfl ?_; clear hc; rintro _ w26 ⟨a25, rfl, hc⟩; refine ⟨fun j hj hb => ⟨fun _ => hc.cell (k := 1) rfl rfl rfl, trivial⟩, ?_⟩; obtain ⟨z27, hz27, hp⟩ := bind_some hp; obtain ⟨hg28, e29⟩ := app_some hz27; refine deE (hc.ap 2 0 reads_own U45 Try.t24 hg28) rfl rfl ?_; clear hc; rintro _ w32 ⟨a30, q31, rfl, hc⟩; rw [← e29] at hc ⊢; replace hc := Ctx.n2 hc; refine ⟨fun j hj hb => ⟨fun e => nja hj e, trivial⟩, ?_⟩; refine ad_ 1 rfl <| ds (v := pt b0 7) rfl (fun w' hF => fax 7 rfl U47 rfl Z45 rfl rfl rfl) rfl ?_; refine pod hc 1 Z45 ?_; clear hc; rintro w33 hc; refine ⟨fun j hj hb => ⟨fun e => nja hj e, trivial⟩, ?_⟩; refine dn (qn ?_); replace hc := hc.drew; refine Wdrw (fun j w' => (j = 4 → w'.cell? ⟨b0, 8, none⟩ = some (.slice a22 x0.Ids.length q23)) ∧ True) [0, 0, 2, 6, 14, 0, 32, 96, 254, 511, 1023, 2047] 0 64 rfl (by kernel_rfl) (fun j hj => ⟨fun _ => hc.cell (k := 1) rfl rfl rfl, trivial⟩) ?_; generalize hw : World.drew w33 = w34 at *; clear hw; refine ad_ 3 rfl <| ds (v := pt b0 8) rfl (fun w' hF => fax 8 rfl U47 rfl Z22 rfl rfl rfl) rfl <| ds rfl (fun w' hF => ld rfl G22 ((hF.1 rfl))) rfl <| ds (v := pt b5 0) rfl (fun w' hF => fax 0 rfl U24 rfl Z3 rfl rfl rfl) rfl <| dx rfl (ld rfl G3 (Ctx.cell hc (k := 5) rfl rfl rfl)) rfl rfl ?_; refine deE (oneI hc U22 Z3 V3) rfl rfl ?_; clear hc; rintro _ w36 ⟨a35, rfl, hc⟩; refine ⟨fun j hj hb => ⟨fun _ => hc.cell (k := 2) rfl rfl rfl, trivial⟩, ?_⟩; obtain ⟨z37, hz37, hp⟩ := bind_some hp; obtain ⟨hg38, e39⟩ := app_some hz37; refine deE (hc.ap 4 0 reads_own U22 Try.t3 hg38) rfl rfl ?_; clear hc; rintro _ w42 ⟨a40, q41, rfl, hc⟩; rw [← e39] at hc ⊢; replace hc := Ctx.n4 hc; refine ⟨fun j hj hb => ⟨fun e => nja hj e, trivial⟩, ?_⟩; refine ad_ 1 rfl <| ds (v := pt b0 8) rfl (fun w' hF => fax 8 rfl U47 rfl Z22 rfl rfl rfl) rfl ?_; refine pod hc 2 Z22 ?_; clear hc; rintro w43 hc; refine ⟨fun j hj hb => ⟨fun e => nja hj e, trivial⟩, ?_⟩; refine dn (qn (Wseq (Wreg ?_))); refine au 2 rfl <| rn (qn (Wret ?_)); replace hc := hc.m [8, 8, 8]; replace hc := S_ref21_Desk.fd (x := (⟨x0.S, x0.Room, z27, z37⟩ : S_ref21_Desk)) hc; replace hc := hc.m [11, 9, 7, 5, 3]; obtain rfl := sj hp; exact fz R16 M16 (k _ hc)

def ref21_Desk_Cancel.J2 (j5 : Int) (k1 : (List S_api_Request) → Int → Option (Int × S_ref21_Desk)) (j15 : (List S_api_Request)) : Option (Int × S_ref21_Desk) :=
  k1 j15 (IntKind.i64.wrap (j5 + 1))

def ref21_Desk_Cancel.L1 (x0 : S_ref21_Desk) (x1 : Int) : Nat → (List S_api_Request) → Int → Option (Int × S_ref21_Desk)
  | 0, _, _ => none
  | m1 + 1, j1, j5 =>
    if j5 < ((x0.L.length : Nat) : Int) then
      (idx x0.L j5).bind fun y19 =>
      if y19.ID ≠ x1 then
        (idx x0.L j5).bind fun y31 =>
        (app j1 ([y31])).bind fun z44 =>
        ref21_Desk_Cancel.J2 j5 (ref21_Desk_Cancel.L1 x0 x1 m1) z44
      else
        ref21_Desk_Cancel.J2 j5 (ref21_Desk_Cancel.L1 x0 x1 m1) j1
    else
      (some (IntKind.i64.wrap (((x0.L.length : Nat) : Int) - ((j1.length : Nat) : Int)))).bind fun e13 =>
      some (e13, (⟨x0.S, x0.Room, j1, x0.Ids⟩ : S_ref21_Desk))

def ref21_Desk_Cancel (N : Nat) (x0 : S_ref21_Desk) (x1 : Int) : Option (Int × S_ref21_Desk) :=
  ref21_Desk_Cancel.L1 x0 x1 N ([]) 0

theorem ref21_Desk_Cancel_any {N b0 : Nat} {x0 : S_ref21_Desk} {x1 : Int} {Fr : List HP} {w : World} {r : Int × S_ref21_Desk} {K : Value → World → Prop}  (hc : Ctx w (S_ref21_Desk.hp b0 x0 :: Fr)) (hp : ref21_Desk_Cancel N x0 x1 = some r)
    (k : ∀ w', Ctx w' (S_ref21_Desk.hp b0 r.2 :: Fr) → K (.int .i64 r.1) w') : Calls Try.prog 20 #[pt b0 0, .int .i64 x1] w (Ret K) := by
 unfold ref21_Desk_Cancel at hp; refine Center2 F20 M20 rfl rfl ?_; refine Wseq (Wreg ?_); refine au 1 rfl <| rn (qn (Wseq (Wreg ?_))); refine au 1 rfl <| rn (qn (Wseq (Wseq (Wreg ?_)))); refine au 1 rfl <| rn (qn (Wblk ?_)); replace hc := hc.nilOwn S_api_Request.pr 24; replace hc := hc.m [2]; refine Wloop (rg [5, 2, 8, 29]) [5, 6] (fun m vs w' => ∃ j1 : (List S_api_Request), ∃ j5 : Int, ∃ a2 n3 q4, vs = [.slice a2 n3 q4, .int .i64 j5] ∧ ref21_Desk_Cancel.L1 x0 x1 m j1 j5 = some r ∧ Ctx w' (S_ref21_Desk.hp b0 x0 :: Own S_api_Request.pr 24 (.slice a2 n3 q4) j1 :: Fr)) N ?_ ?_
 · exact ⟨[], 0, none, 0, 0, rfl, hp, hc⟩
 · clear hp hc; intro m vs u w6 hJ; obtain ⟨j1, j5, a2, n3, q4, rfl, hp, hc⟩ := hJ; obtain rfl := hc.rz 1 reads_own; rcases m with _ | m1
   · cases (show none = some r from hp)
   rw [ref21_Desk_Cancel.L1] at hp; refine Wseq (Wseq (Wreg ?_)); refine au 3 rfl <| sz (v := pt b0 7) (fax 7 rfl U47 rfl Z45 rfl rfl rfl) ?_; replace hc := S_ref21_Desk.uf hc; obtain ⟨a8, q9, a10, q11, hc⟩ := hc; refine sz (ld rfl G45 (Ctx.cell hc (k := 0) rfl rfl rfl)) <| sz (ln rfl U45) <| au 1 rfl <| rn (qn ?_); refine Wif hp (fun _ hp => ?_) fun _ hp => ?_
   · refine Wexit (qx (qx (be (qn (Wseq (Wreg ?_)))))); refine au 2 rfl ?_; refine fq 7 U47 Z45 G45 hc 0 ?_; refine sz (ln rfl U45) <| au 1 rfl <| sz (ln rfl U45) <| au 1 rfl ?_; obtain ⟨e13, he13, hp⟩ := bind_some hp; injection he13 with he13; refine sz (v := .int .i64 e13) (av (v := .int .i64 e13) (by rw [← he13]; rfl)) <| rn (qn (Wseq (Wreg ?_))); refine au 3 rfl <| sz (v := pt b0 7) (fax 7 rfl U47 rfl Z45 rfl rfl rfl) <| po hc 0 Z45 ?_; clear hc; rintro w14 hc; refine rn (qn (Wseq (Wreg ?_))); refine au 2 rfl <| rn (qn (Wret ?_)); replace hc := hc.m [4, 6, 4]; replace hc := S_ref21_Desk.fd (x := (⟨x0.S, x0.Room, j1, x0.Ids⟩ : S_ref21_Desk)) hc; replace hc := hc.m [3]; obtain rfl := sj hp; exact fz R20 M20 (k _ hc)
   · refine Wskip (qn ?_); refine Wseqm (rg [5, 1, 17, 20]) [5] (fun vs w' => ∃ j15 : (List S_api_Request), ∃ a16 n17 q18, vs = [.slice a16 n17 q18] ∧ ref21_Desk_Cancel.J2 j5 (ref21_Desk_Cancel.L1 x0 x1 m1) j15 = some r ∧ Ctx w' (S_ref21_Desk.hp b0 x0 :: Own S_api_Request.pr 24 (.slice a16 n17 q18) j15 :: Fr)) ?_ ?_
     · refine Wblk (Wseq (Wreg ?_)); refine au 2 rfl ?_; refine fq 7 U47 Z45 G45 hc 0 ?_; refine au 1 rfl ?_; obtain ⟨y19, hy19, hp⟩ := bind_some hp; obtain ⟨b22, o23, rfl, hi20, hi21⟩ := hc.ra 1 reads_own hy19; refine sz (ixx rfl rfl U45 Z24 hi20 hi21 rfl) <| sz (v := .pointer (some ⟨b22, o23 + (j5).toNat * 3 + 0, none⟩)) (fax 0 rfl U24 rfl Z3 rfl rfl rfl) ?_; replace hc := Ctx.rdCell hc (k := 1) rfl rfl reads_own hy19; obtain ⟨cs25, hc, hcell26⟩ := hc; replace hc := S_api_Request.op hc; obtain ⟨a28, q29, u27, hc⟩ := hc; subst u27; refine sz (ld rfl G3 (hcell26 0 _ rfl)) <| au 2 rfl <| rn (qn ?_); refine Wif hp (fun _ hp => ?_) fun _ hp => ?_
       · refine Wskip (bn (qn ?_)); replace hc := hc.m [6, 6, 6]; replace hc := S_ref21_Desk.fd (x := x0) hc; replace hc := hc.m [3]; exact ⟨⟨j1, a2, j1.length, q4, rfl, hp, hc⟩, (kl rfl kb)⟩
       · refine Wreg <| au 3 rfl ?_; refine fq 7 U47 Z45 G45 hc 1 ?_; refine au 1 rfl ?_; obtain ⟨y31, hy31, hp⟩ := bind_some hp; obtain ⟨b34, o35, -, hi32, hi33⟩ := hc.ra 2 reads_own hy31; refine sz (ixx rfl rfl U45 Z24 hi32 hi33 rfl) ?_; replace hc := Ctx.rdCell hc (k := 2) rfl rfl reads_own hy31; obtain ⟨cs37, hc, hcell38⟩ := hc; replace hc := S_api_Request.op hc; obtain ⟨a40, q41, u39, hc⟩ := hc; subst u39; refine sz (v := .agg (S_api_Request.cz y31 a40 q41).toArray) (ldg rfl G24 Z24 rfl (elCells hcell38 0 (vs := (S_api_Request.cz y31 a40 q41)) rfl)) ?_; replace hc := hc.dz 0; replace hc : Ctx w6 (Hold S_api_Request.pr (S_api_Request.cz y31 a40 q41) y31 :: hR .i64 a40 q41 y31.Prompt :: hR .i64 a28 q29 y19.Prompt :: B b0 [.int .i64 x0.S.Layers, .int .i64 x0.S.Width, .int .i64 x0.S.Heads, .int .i64 x0.S.Inner, .int .i64 x0.S.Vocab, .int .i64 x0.S.Places, .int .i64 x0.Room, .slice (some ⟨b22, o23, none⟩) x0.L.length q9, .slice a10 x0.Ids.length q11] 47 :: Own S_api_Request.pr 24 (.slice (some ⟨b22, o23, none⟩) x0.L.length q9) x0.L :: oR .i64 3 a10 q11 x0.Ids :: Own S_api_Request.pr 24 (.slice a2 j1.length q4) j1 :: Fr) := S_api_Request.cl hc; refine rsE (Ctx.builtOp (css := [(S_api_Request.cz y31 a40 q41)]) (xs := ([y31] : List S_api_Request)) (E := S_api_Request.pr) hc U45 Z24 V24 rfl rfl rfl rfl rfl rfl rfl rfl) rfl ?_; clear hc; rintro _ w43 ⟨a42, rfl, hc⟩; obtain ⟨z44, hz44, hp⟩ := bind_some hp; obtain ⟨hg45, e46⟩ := app_some hz44; refine rsE (hc.ap 6 0 reads_own U45 Try.t24 hg45) rfl ?_; clear hc; rintro _ w49 ⟨a47, q48, rfl, hc⟩; rw [← e46] at hc ⊢; replace hc := Ctx.n6 hc; refine au 1 rfl <| rn (bn (qn ?_)); replace hc := hc.m [10, 10, 10]; replace hc := S_ref21_Desk.fd (x := x0) hc; replace hc := hc.m [7, 5, 3]; exact ⟨⟨z44, a47, z44.length, q48, rfl, hp, hc⟩, (kl rfl kb)⟩
     · clear hp hc; intro vs u w50 hJ; obtain ⟨j15, a16, n17, q18, rfl, hp, hc⟩ := hJ; obtain rfl := hc.rz 1 reads_own; unfold ref21_Desk_Cancel.J2 at hp; refine Wreg <| au 3 rfl <| rn (qn ?_); exact ⟨m1, Nat.lt_succ_self _, ⟨j15, (IntKind.i64.wrap (j5 + 1)), a16, j15.length, q18, rfl, hp, hc⟩, (kl rfl (km rfl (kl rfl k0)))⟩

def ref21_Desk_Take (x0 : S_ref21_Desk) : Option (S_api_Request × Bool × S_ref21_Desk) :=
  if ((x0.L.length : Nat) : Int) = 0 then
    some ((⟨0, 0, []⟩ : S_api_Request), false, x0)
  else
    (idx x0.L (0 : Int)).bind fun y9 =>
    chk (0 ≤ (1 : Int) ∧ (1 : Int) ≤ ((x0.L.length : Nat) : Int) ∧ ((x0.L.length : Nat) : Int) ≤ ((x0.L.length : Nat) : Int)) <|
    (app ([]) ((x0.L.take (((x0.L.length : Nat) : Int)).toNat).drop ((1 : Int)).toNat)).bind fun z30 =>
    some (y9, true, (⟨x0.S, x0.Room, z30, x0.Ids⟩ : S_ref21_Desk))

theorem ref21_Desk_Take_any {b0 : Nat} {x0 : S_ref21_Desk} {Fr : List HP} {w : World} {r : S_api_Request × Bool × S_ref21_Desk} {K : Value → World → Prop}  (hc : Ctx w (S_ref21_Desk.hp b0 x0 :: Fr)) (hp : ref21_Desk_Take x0 = some r)
    (k : ∀ a39 n40 q41 w', Ctx w' (Hold (pRo (pInt .i64)) [.slice a39 n40 q41] r.1.Prompt :: S_ref21_Desk.hp b0 r.2.2 :: Fr) → K (.tuple #[.agg #[.int .i64 r.1.ID, .int .i64 r.1.Most, .slice a39 n40 q41], .bool r.2.1]) w') : Calls Try.prog 17 #[pt b0 0] w (Ret K) := by
 unfold ref21_Desk_Take at hp; refine Center1 F17 M17 rfl rfl ?_; refine Wseq (Wreg ?_); refine rsE (Ctx.allocOp (cs := [.int .i64 0, .int .i64 0, .slice none 0 0]) hc V24 rfl) rfl ?_; clear hc; rintro _ w3 ⟨b1, rfl, hc⟩; refine au 1 rfl <| rn (qn (Wseq (Wseq (Wreg ?_)))); refine au 2 rfl <| sz (v := pt b0 7) (fax 7 rfl U47 rfl Z45 rfl rfl rfl) ?_; replace hc := hc.m [2]; replace hc := S_ref21_Desk.uf hc; obtain ⟨a4, q5, a6, q7, hc⟩ := hc; refine sz (ld rfl G45 (Ctx.cell hc (k := 0) rfl rfl rfl)) <| sz (ln rfl U45) <| au 1 rfl <| rn (qn ?_); refine Wif hp (fun _ hp => ?_) fun _ hp => ?_
 · refine Wskip (qn (Wseq (Wreg ?_))); refine au 2 rfl ?_; refine fq 7 U47 Z45 G45 hc 0 ?_; obtain ⟨y9, hy9, hp⟩ := bind_some hp; obtain ⟨b12, o13, rfl, hi10, hi11⟩ := hc.ra 1 reads_own hy9; refine sz (ixx rfl rfl U45 Z24 hi10 hi11 rfl) ?_; replace hc := Ctx.rdCell hc (k := 1) rfl rfl reads_own hy9; obtain ⟨cs15, hc, hcell16⟩ := hc; replace hc := S_api_Request.op hc; obtain ⟨a18, q19, u17, hc⟩ := hc; subst u17; refine sz (v := .agg (S_api_Request.cz y9 a18 q19).toArray) (ldg rfl G24 Z24 rfl (elCells hcell16 0 (vs := (S_api_Request.cz y9 a18 q19)) rfl)) ?_; refine rsE (Ctx.allocOp (cs := [.int .i64 0, .int .i64 0, .slice none 0 0]) hc V24 rfl) rfl ?_; clear hc; rintro _ w22 ⟨b20, rfl, hc⟩; refine pa hc 0 Z24 ?_; clear hc; rintro w23 hc; refine rn (qn (Wseq (Wreg ?_))); refine au 1 rfl <| rn (qn (Wseq (Wreg ?_))); refine au 4 rfl ?_; refine fq 7 U47 Z45 G45 hc 2 ?_; obtain ⟨hg24, hp⟩ := chk_some hp; refine rsE (Ctx.subOp (li := some (1 : Int)) (hi' := none) hc (k := 3) rfl rfl reads_own rfl ⟨_, rfl⟩ trivial U45 Z24 hg24) rfl ?_; rintro _ _ ⟨rfl, a25, q26, rfl, rd27, ea28, eq29⟩; replace rd27 : Reads (Own S_api_Request.pr 24 (.slice (some ⟨b12, o13, none⟩) x0.L.length q5) x0.L) S_api_Request.pr (.slice a25 ((((x0.L.length : Nat) : Int)).toNat - ((1 : Int)).toNat) q26) ((x0.L.take (((x0.L.length : Nat) : Int)).toNat).drop ((1 : Int)).toNat) := rd27; replace hc := hc.nilOwn S_api_Request.pr 24; obtain ⟨z30, hz30, hp⟩ := bind_some hp; obtain ⟨hg31, e32⟩ := app_some hz30; refine rsE (hc.ap 0 4 rd27 U45 Try.t24 hg31) rfl ?_; clear hc; rintro _ w35 ⟨a33, q34, rfl, hc⟩; rw [← e32] at hc ⊢; replace hc := Ctx.n0 hc; refine au 1 rfl <| sz (v := pt b0 7) (fax 7 rfl U47 rfl Z45 rfl rfl rfl) <| po hc 3 Z45 ?_; clear hc; rintro w36 hc; refine rn (qn (Wseq (Wreg ?_))); refine lg G24 Z24 hc 1 ?_; refine pa hc 6 Z24 ?_; clear hc; rintro w37 hc; refine au 1 rfl <| rn (qn (Wret ?_)); have hres := Ctx.cells hc (k := 6) rfl rfl 0 (vs := (S_api_Request.cz y9 a18 q19)) rfl; replace hc := hc.dz 2; replace hc := hc.m [12, 4, 10]; replace hc := S_ref21_Desk.fd (x := (⟨x0.S, x0.Room, z30, x0.Ids⟩ : S_ref21_Desk)) hc; replace hc := hc.m [11, 9, 7, 5, 2]; obtain rfl := sj hp; refine f2c (cs := (S_api_Request.cz y9 a18 q19)) (u := .bool true) R17 M17 rfl G24 Z24 rfl hres rfl ?_; exact ⟨_, rfl, k _ _ _ _ hc⟩
 · refine Wseq (Wreg ?_); refine sz (v := .agg #[.int .i64 0, .int .i64 0, .slice none 0 0]) (bd_24_ ) <| pa hc 3 Z24 ?_; clear hc; rintro w38 hc; refine au 1 rfl <| rn (qn (Wret (qr ?_))); have hres := Ctx.cells hc (k := 3) rfl rfl 0 (vs := [.int .i64 0, .int .i64 0, .slice none 0 0]) rfl; replace hc := hc.nilRo (pInt .i64); replace hc := hc.dz 0; replace hc := hc.m [8, 8, 8]; replace hc := S_ref21_Desk.fd (x := x0) hc; replace hc := hc.m [7, 5, 2]; obtain rfl := sj hp; refine f2c (cs := [.int .i64 0, .int .i64 0, .slice none 0 0]) (u := .bool false) R17 M17 rfl G24 Z24 rfl hres rfl ?_; exact ⟨_, rfl, k _ _ _ _ hc⟩

theorem bd_31_0_1_2_3_4_5 {ρ : Operand → Value} {w : World} {dst : Option Nat} {ty : TypeId} {pos : String} {after : Array Edge} {g : Option (Nat × Bool)} {x0 x1 x2 x3 x4 x5 : Operand} {k0 : IntKind} {a0 : Int} {k1 : IntKind} {a1 : Int} {k2 : IntKind} {a2 : Int} {k3 : IntKind} {a3 : Int} {k4 : IntKind} {a4 : Int} {k5 : IntKind} {a5 : Int} (h0 : ρ x0 = (.int k0 a0)) (h1 : ρ x1 = (.int k1 a1)) (h2 : ρ x2 = (.int k2 a2)) (h3 : ρ x3 = (.int k3 a3)) (h4 : ρ x4 = (.int k4 a4)) (h5 : ρ x5 = (.int k5 a5)) :
    (execOp ρ ⟨dst, .build 31 #[(0, x0), (1, x1), (2, x2), (3, x3), (4, x4), (5, x5)], ty, pos, after, g⟩).run Try.prog w = .ok (.value (.agg #[(.int k0 a0), (.int k1 a1), (.int k2 a2), (.int k3 a3), (.int k4 a4), (.int k5 a5)])) w := by
  simp [execOp, Instr.build, Instr.fill, Try.zeroValue31, Try.runUnderlying31, Try.sizeOf3, h0, h1, h2, h3, h4, h5, Value.cells]

def law21_shape  : Option (S_api_Shape) :=
  some (⟨1, 4, 2, 3, 5, 8⟩ : S_api_Shape)

theorem law21_shape_any {Fr : List HP} {w : World} {r : S_api_Shape} {K : Value → World → Prop}  (hc : Ctx w (Fr)) (hp : law21_shape = some r)
    (k : ∀ w', Ctx w' (Fr) → K (.agg (S_api_Shape.cz r).toArray) w') : Calls Try.prog 8 #[] w (Ret K) := by
 unfold law21_shape at hp; refine Center (args := []) (l := []) F8 M8 rfl rfl rfl ?_; refine Wseq (Wreg ?_); refine rsE (Ctx.allocOp (cs := [.int .i64 0, .int .i64 0, .int .i64 0, .int .i64 0, .int .i64 0, .int .i64 0]) hc V31 rfl) rfl ?_; clear hc; rintro _ w3 ⟨b1, rfl, hc⟩; refine rn (qn (Wseq (Wreg ?_))); refine sz (v := .agg #[.int .i64 1, .int .i64 4, .int .i64 2, .int .i64 3, .int .i64 5, .int .i64 8]) (bd_31_0_1_2_3_4_5 rfl rfl rfl rfl rfl rfl) <| pa hc 0 Z31 ?_; clear hc; rintro w4 hc; refine rn (qn (Wret ?_)); have hres := Ctx.cells hc (k := 0) rfl rfl 0 (vs := [.int .i64 1, .int .i64 4, .int .i64 2, .int .i64 3, .int .i64 5, .int .i64 8]) rfl; replace hc := hc.m [1]; obtain rfl := sj hp; refine f1c (cs := [.int .i64 1, .int .i64 4, .int .i64 2, .int .i64 3, .int .i64 5, .int .i64 8]) R8 M8 rfl G31 Z31 rfl hres ?_; exact ⟨_, rfl, k _ hc⟩

theorem bd_24_0_1_2 {ρ : Operand → Value} {w : World} {dst : Option Nat} {ty : TypeId} {pos : String} {after : Array Edge} {g : Option (Nat × Bool)} {x0 x1 x2 : Operand} {k0 : IntKind} {a0 : Int} {k1 : IntKind} {a1 : Int} {a2 : Option Addr} {l2 c2 : Nat} (h0 : ρ x0 = (.int k0 a0)) (h1 : ρ x1 = (.int k1 a1)) (h2 : ρ x2 = (.slice a2 l2 c2)) :
    (execOp ρ ⟨dst, .build 24 #[(0, x0), (1, x1), (2, x2)], ty, pos, after, g⟩).run Try.prog w = .ok (.value (.agg #[(.int k0 a0), (.int k1 a1), (.slice a2 l2 c2)])) w := by
  simp [execOp, Instr.build, Instr.fill, Try.zeroValue24, Try.runUnderlying24, Try.sizeOf22, Try.sizeOf3, h0, h1, h2, Value.cells]

def law21_asks (x0 : Int) : Option (S_api_Request) :=
  some (⟨x0, 2, [1]⟩ : S_api_Request)

theorem law21_asks_any {x0 : Int} {Fr : List HP} {w : World} {r : S_api_Request} {K : Value → World → Prop}  (hc : Ctx w (Fr)) (hp : law21_asks x0 = some r)
    (k : ∀ a7 n8 q9 w', Ctx w' (Hold (pRo (pInt .i64)) [.slice a7 n8 q9] r.Prompt :: Fr) → K (.agg #[.int .i64 r.ID, .int .i64 r.Most, .slice a7 n8 q9]) w') : Calls Try.prog 10 #[.int .i64 x0] w (Ret K) := by
 unfold law21_asks at hp; refine Center1 F10 M10 rfl rfl ?_; refine Wseq (Wreg ?_); refine rsE (Ctx.allocOp (cs := [.int .i64 0, .int .i64 0, .slice none 0 0]) hc V24 rfl) rfl ?_; clear hc; rintro _ w3 ⟨b1, rfl, hc⟩; refine rn (qn (Wseq (Wreg ?_))); refine au 1 rfl ?_; refine rsE (oneI hc U22 Z3 V3) rfl ?_; clear hc; rintro _ w5 ⟨a4, rfl, hc⟩; refine sz (v := .agg #[.int .i64 x0, .int .i64 2, .slice a4 1 1]) (bd_24_0_1_2 rfl rfl rfl) <| pa hc 1 Z24 ?_; clear hc; rintro w6 hc; refine rn (qn (Wret ?_)); have hres := Ctx.cells hc (k := 1) rfl rfl 0 (vs := [.int .i64 x0, .int .i64 2, .slice a4 1 1]) rfl; replace hc := hc.freeze (k := 0) rfl rfl rfl; replace hc := Ctx.n0 hc; replace hc := hc.dz 0; replace hc := hc.m [5, 3]; obtain rfl := sj hp; refine f1c (cs := [.int .i64 x0, .int .i64 2, .slice a4 1 1]) R10 M10 rfl G24 Z24 rfl hres ?_; exact ⟨_, rfl, k _ _ _ _ hc⟩

def law21_awake (N : Nat) : Option (Bool) :=
  (law21_shape).bind fun r1 =>
  (admit_New r1 1).bind fun r3 =>
  optc r3.1 (
    some false) fun y7 =>
  if r3.2 ≠ 0 then
    some false
  else
    (law21_asks 5).bind fun r12 =>
    (law21_asks 6).bind fun r18 =>
    (admit_Desk_Submit N y7 ([r12, r18])).bind fun r26 =>
    (admit_Desk_Take r26.2).bind fun r32 =>
    (law21_asks 5).bind fun r42 =>
    (law21_asks 6).bind fun r48 =>
    (admit_Desk_Submit N r32.2.2 ([r42, r48])).bind fun r56 =>
    if ((r26.1.length : Nat) : Int) = 2 then
      (idx r26.1 (0 : Int)).bind fun y63 =>
      if y63 = 0 then
        (idx r26.1 (1 : Int)).bind fun y73 =>
        if y73 = 211 then
          if r32.2.1 = true then
            if r32.1.ID = 5 then
              if ((r56.1.length : Nat) : Int) = 2 then
                (idx r56.1 (0 : Int)).bind fun y86 =>
                if y86 = 210 then
                  (idx r56.1 (1 : Int)).bind fun y96 =>
                  some (decide (y96 = 0))
                else
                  some false
              else
                some false
            else
              some false
          else
            some false
        else
          some false
      else
        some false
    else
      some false

theorem law21_awake_any {N : Nat} {Fr : List HP} {w : World} {r : Bool} {K : Value → World → Prop}  (hc : Ctx w (Fr)) (hp : law21_awake N = some r)
    (k : ∀ w', Ctx w' (Fr) → K (.bool r) w') : Calls Try.prog 6 #[] w (Ret K) := by
 unfold law21_awake at hp; refine Center (args := []) (l := []) F6 M6 rfl rfl rfl ?_; refine Wseq (Wreg ?_); refine au 1 rfl <| rn (qn (Wseq (Wreg ?_))); obtain ⟨r1, hr1, hp⟩ := bind_some hp; refine kz C8 ?_; refine law21_shape_any hc hr1 ?_; clear hc; intro w2 hc; obtain ⟨r3, hr3, hp⟩ := bind_some hp; refine kz C7 ?_; refine admit_New_any hc hr3 ?_; clear hc; intro v4 w5 hc; refine au 5 rfl <| rn (qn (Wseq (Wseq (Wreg ?_)))); refine au 1 rfl ?_; cases hb6 : r3.1
 · replace hp := optN hp hb6; rw [hb6] at hc; replace hc := Ctx.ptoN hc; obtain ⟨u8, hc⟩ := hc; subst u8; refine sz (v := .bool true) (ept U26 rfl rfl) <| au 1 rfl ?_; (iterate 2 refine r0 rfl ?_); refine au 1 rfl <| rn (qn (Wct rfl (Wseq (Wreg ?_)))); refine au 1 rfl <| rn (qn (Wret (qr ?_))); obtain rfl := sj hp; exact fz R6 M6 (k _ hc)
 · rename_i y7; replace hp := optS hp hb6; rw [hb6] at hc; replace hc := Ctx.ptoS hc; obtain ⟨b9, u10, hc⟩ := hc; subst u10; refine sz (v := .bool false) (epf U26 rfl rfl) <| au 4 rfl <| rn (qn ?_); refine Wif hp (fun _ hp => ?_) fun _ hp => ?_
   · refine Wskip (qn (Wseq (Wreg ?_))); refine au 1 rfl ?_; obtain ⟨r12, hr12, hp⟩ := bind_some hp; refine kz C10 ?_; refine law21_asks_any hc hr12 ?_; clear hc; intro a13 n14 q15 w16 hc; obtain rfl := hc.rz 0 reads_ro; obtain ⟨r18, hr18, hp⟩ := bind_some hp; refine kz C10 ?_; refine law21_asks_any hc hr18 ?_; clear hc; intro a19 n20 q21 w22 hc; obtain rfl := hc.rz 0 reads_ro; replace hc := hc.dz 0; replace hc : Ctx w22 (Hold S_api_Request.pr (S_api_Request.cz r18 a19 q21) r18 :: hR .i64 a19 q21 r18.Prompt :: hR .i64 a13 q15 r12.Prompt :: S_admit_Desk.hp b9 y7 :: Fr) := S_api_Request.cl hc; replace hc := hc.dz 2; replace hc : Ctx w22 (Hold S_api_Request.pr (S_api_Request.cz r12 a13 q15) r12 :: Hold S_api_Request.pr (S_api_Request.cz r18 a19 q21) r18 :: hR .i64 a19 q21 r18.Prompt :: hR .i64 a13 q15 r12.Prompt :: S_admit_Desk.hp b9 y7 :: Fr) := S_api_Request.cl hc; refine rsE (Ctx.builtOp (css := [(S_api_Request.cz r12 a13 q15), (S_api_Request.cz r18 a19 q21)]) (xs := ([r12, r18] : List S_api_Request)) (E := S_api_Request.pr) hc U45 Z24 V24 rfl rfl rfl rfl rfl rfl rfl rfl) rfl ?_; clear hc; rintro _ w25 ⟨a24, rfl, hc⟩; obtain ⟨r26, hr26, hp⟩ := bind_some hp; replace hc := hc.m [6]; refine kz C9 ?_; refine admit_Desk_Submit_any reads_own hc hr26 ?_; clear hc; intro a27 n28 q29 w30 hc; obtain rfl := hc.rz 0 reads_own; refine au 1 rfl <| rn (qn (Wseq (Wreg ?_))); refine au 1 rfl ?_; obtain ⟨r32, hr32, hp⟩ := bind_some hp; replace hc := hc.m [2]; refine kz C12 ?_; refine admit_Desk_Take_any hc hr32 ?_; clear hc; intro a33 n34 q35 w36 hc; obtain rfl := hc.rz 0 reads_ro; refine au 3 rfl ?_; refine rsE (Ctx.allocOp (cs := [.int .i64 0, .int .i64 0, .slice none 0 0]) hc V24 rfl) rfl ?_; clear hc; rintro _ w40 ⟨b38, rfl, hc⟩; refine pa hc 0 Z24 ?_; clear hc; rintro w41 hc; refine au 1 rfl <| rn (qn (Wseq (Wreg ?_))); refine au 1 rfl ?_; obtain ⟨r42, hr42, hp⟩ := bind_some hp; refine kz C10 ?_; refine law21_asks_any hc hr42 ?_; clear hc; intro a43 n44 q45 w46 hc; obtain rfl := hc.rz 0 reads_ro; obtain ⟨r48, hr48, hp⟩ := bind_some hp; refine kz C10 ?_; refine law21_asks_any hc hr48 ?_; clear hc; intro a49 n50 q51 w52 hc; obtain rfl := hc.rz 0 reads_ro; replace hc := hc.dz 0; replace hc : Ctx w52 (Hold S_api_Request.pr (S_api_Request.cz r48 a49 q51) r48 :: hR .i64 a49 q51 r48.Prompt :: hR .i64 a43 q45 r42.Prompt :: B b38 (S_api_Request.cz r32.1 a33 q35) 24 :: hR .i64 a33 q35 r32.1.Prompt :: S_admit_Desk.hp b9 r32.2.2 :: oR .i64 27 a27 q29 r26.1 :: Own S_api_Request.pr 24 (.slice a24 2 2) ([r12, r18]) :: hR .i64 a19 q21 r18.Prompt :: hR .i64 a13 q15 r12.Prompt :: Fr) := S_api_Request.cl hc; replace hc := hc.dz 2; replace hc : Ctx w52 (Hold S_api_Request.pr (S_api_Request.cz r42 a43 q45) r42 :: Hold S_api_Request.pr (S_api_Request.cz r48 a49 q51) r48 :: hR .i64 a49 q51 r48.Prompt :: hR .i64 a43 q45 r42.Prompt :: B b38 (S_api_Request.cz r32.1 a33 q35) 24 :: hR .i64 a33 q35 r32.1.Prompt :: S_admit_Desk.hp b9 r32.2.2 :: oR .i64 27 a27 q29 r26.1 :: Own S_api_Request.pr 24 (.slice a24 2 2) ([r12, r18]) :: hR .i64 a19 q21 r18.Prompt :: hR .i64 a13 q15 r12.Prompt :: Fr) := S_api_Request.cl hc; refine rsE (Ctx.builtOp (css := [(S_api_Request.cz r42 a43 q45), (S_api_Request.cz r48 a49 q51)]) (xs := ([r42, r48] : List S_api_Request)) (E := S_api_Request.pr) hc U45 Z24 V24 rfl rfl rfl rfl rfl rfl rfl rfl) rfl ?_; clear hc; rintro _ w55 ⟨a54, rfl, hc⟩; obtain ⟨r56, hr56, hp⟩ := bind_some hp; replace hc := hc.m [10]; refine kz C9 ?_; refine admit_Desk_Submit_any reads_own hc hr56 ?_; clear hc; intro a57 n58 q59 w60 hc; obtain rfl := hc.rz 0 reads_own; refine au 1 rfl <| rn (qn (Wseq (Wreg ?_))); refine au 1 rfl <| sz (ln rfl U33) <| au 2 rfl ?_; cases hb62 : (decide (((r26.1.length : Nat) : Int) = 2))
     · replace hp := gneg hp (of_decide_eq_false hb62); (iterate 4 refine r0 rfl ?_); refine au 2 rfl ?_; (iterate 4 refine r0 rfl ?_); refine au 2 rfl ?_; refine r0 rfl <| au 2 rfl ?_; (iterate 3 refine r0 rfl ?_); refine au 2 rfl ?_; (iterate 3 refine r0 rfl ?_); refine au 2 rfl ?_; (iterate 4 refine r0 rfl ?_); refine au 2 rfl ?_; (iterate 4 refine r0 rfl ?_); refine au 2 rfl <| rn (qn (Wret ?_)); replace hc := hc.m [21, 19, 17, 15, 13, 11, 9, 7, 5, 3, 1]; obtain rfl := sj hp; exact fz R6 M6 (k _ hc)
     · replace hp := gpos hp (of_decide_eq_true hb62); refine au 1 rfl ?_; obtain ⟨y63, hy63, hp⟩ := bind_some hp; obtain ⟨b66, o67, rfl, hi64, hi65⟩ := hc.ra 7 reads_own hy63; refine sz (ixx rfl rfl U33 Z27 hi64 hi65 rfl) ?_; have hcell70 := hc.rv 7 reads_own hy63; refine sz (ld rfl G27 (hcell70 0 _ rfl)) <| au 3 rfl ?_; cases hb72 : (decide (y63 = 0))
       · replace hp := gneg hp (of_decide_eq_false hb72); (iterate 4 refine r0 rfl ?_); refine au 2 rfl ?_; refine r0 rfl <| au 2 rfl ?_; (iterate 3 refine r0 rfl ?_); refine au 2 rfl ?_; (iterate 3 refine r0 rfl ?_); refine au 2 rfl ?_; (iterate 4 refine r0 rfl ?_); refine au 2 rfl ?_; (iterate 4 refine r0 rfl ?_); refine au 2 rfl <| rn (qn (Wret ?_)); replace hc := hc.m [21, 19, 17, 15, 13, 11, 9, 7, 5, 3, 1]; obtain rfl := sj hp; exact fz R6 M6 (k _ hc)
       · replace hp := gpos hp (of_decide_eq_true hb72); refine au 1 rfl ?_; obtain ⟨y73, hy73, hp⟩ := bind_some hp; obtain ⟨b76, o77, -, hi74, hi75⟩ := hc.ra 7 reads_own hy73; refine sz (ixx rfl rfl U33 Z27 hi74 hi75 rfl) ?_; have hcell80 := hc.rv 7 reads_own hy73; refine sz (ld rfl G27 (hcell80 0 _ rfl)) <| au 3 rfl ?_; cases hb82 : (decide (y73 = 211))
         · replace hp := gneg hp (of_decide_eq_false hb82); refine r0 rfl <| au 2 rfl ?_; (iterate 3 refine r0 rfl ?_); refine au 2 rfl ?_; (iterate 3 refine r0 rfl ?_); refine au 2 rfl ?_; (iterate 4 refine r0 rfl ?_); refine au 2 rfl ?_; (iterate 4 refine r0 rfl ?_); refine au 2 rfl <| rn (qn (Wret ?_)); replace hc := hc.m [21, 19, 17, 15, 13, 11, 9, 7, 5, 3, 1]; obtain rfl := sj hp; exact fz R6 M6 (k _ hc)
         · replace hp := gpos hp (of_decide_eq_true hb82); refine au 3 rfl ?_; cases hb83 : r32.2.1
           · replace hp := gneg hp (by rw [hb83]; exact Bool.false_ne_true); (iterate 3 refine r0 rfl ?_); refine au 2 rfl ?_; (iterate 3 refine r0 rfl ?_); refine au 2 rfl ?_; (iterate 4 refine r0 rfl ?_); refine au 2 rfl ?_; (iterate 4 refine r0 rfl ?_); refine au 2 rfl <| rn (qn (Wret ?_)); replace hc := hc.m [21, 19, 17, 15, 13, 11, 9, 7, 5, 3, 1]; obtain rfl := sj hp; exact fz R6 M6 (k _ hc)
           · replace hp := gpos hp hb83; refine fq 0 U24 Z3 G3 hc 5 ?_; refine au 3 rfl ?_; cases hb84 : (decide (r32.1.ID = 5))
             · replace hp := gneg hp (of_decide_eq_false hb84); (iterate 3 refine r0 rfl ?_); refine au 2 rfl ?_; (iterate 4 refine r0 rfl ?_); refine au 2 rfl ?_; (iterate 4 refine r0 rfl ?_); refine au 2 rfl <| rn (qn (Wret ?_)); replace hc := hc.m [21, 19, 17, 15, 13, 11, 9, 7, 5, 3, 1]; obtain rfl := sj hp; exact fz R6 M6 (k _ hc)
             · replace hp := gpos hp (of_decide_eq_true hb84); refine au 1 rfl <| sz (ln rfl U33) <| au 3 rfl ?_; cases hb85 : (decide (((r56.1.length : Nat) : Int) = 2))
               · replace hp := gneg hp (of_decide_eq_false hb85); (iterate 4 refine r0 rfl ?_); refine au 2 rfl ?_; (iterate 4 refine r0 rfl ?_); refine au 2 rfl <| rn (qn (Wret ?_)); replace hc := hc.m [21, 19, 17, 15, 13, 11, 9, 7, 5, 3, 1]; obtain rfl := sj hp; exact fz R6 M6 (k _ hc)
               · replace hp := gpos hp (of_decide_eq_true hb85); refine au 1 rfl ?_; obtain ⟨y86, hy86, hp⟩ := bind_some hp; obtain ⟨b89, o90, rfl, hi87, hi88⟩ := hc.ra 0 reads_own hy86; refine sz (ixx rfl rfl U33 Z27 hi87 hi88 rfl) ?_; have hcell93 := hc.rv 0 reads_own hy86; refine sz (ld rfl G27 (hcell93 0 _ rfl)) <| au 3 rfl ?_; cases hb95 : (decide (y86 = 210))
                 · replace hp := gneg hp (of_decide_eq_false hb95); (iterate 4 refine r0 rfl ?_); refine au 2 rfl <| rn (qn (Wret ?_)); replace hc := hc.m [21, 19, 17, 15, 13, 11, 9, 7, 5, 3, 1]; obtain rfl := sj hp; exact fz R6 M6 (k _ hc)
                 · replace hp := gpos hp (of_decide_eq_true hb95); refine au 1 rfl ?_; obtain ⟨y96, hy96, hp⟩ := bind_some hp; obtain ⟨b99, o100, -, hi97, hi98⟩ := hc.ra 0 reads_own hy96; refine sz (ixx rfl rfl U33 Z27 hi97 hi98 rfl) ?_; have hcell103 := hc.rv 0 reads_own hy96; refine sz (ld rfl G27 (hcell103 0 _ rfl)) <| au 3 rfl <| rn (qn (Wret ?_)); replace hc := hc.m [21, 19, 17, 15, 13, 11, 9, 7, 5, 3, 1]; obtain rfl := sj hp; exact fz R6 M6 (k _ hc)
   · refine Wseq (Wreg ?_); refine au 1 rfl <| rn (qn (Wret (qr ?_))); replace hc := hc.m [1]; obtain rfl := sj hp; exact fz R6 M6 (k _ hc)

end Go.Proofs.Ytglllajndogcmaa
end
section
namespace Go.Proofs.Ytglllajndogcmaa
open Go Go.RowKit Go.Hp
set_option linter.unusedVariables false
set_option linter.unusedSimpArgs false
set_option maxRecDepth 100000
set_option maxHeartbeats 8000000

theorem bd_47_0_1 {ρ : Operand → Value} {w : World} {dst : Option Nat} {ty : TypeId} {pos : String} {after : Array Edge} {g : Option (Nat × Bool)} {x0 x1 : Operand} {c0_0 c0_1 c0_2 c0_3 c0_4 c0_5 : Value} {k1 : IntKind} {a1 : Int} (h0 : ρ x0 = .agg #[c0_0, c0_1, c0_2, c0_3, c0_4, c0_5]) (h1 : ρ x1 = (.int k1 a1)) :
    (execOp ρ ⟨dst, .build 47 #[(0, x0), (1, x1)], ty, pos, after, g⟩).run Try.prog w = .ok (.value (.agg #[c0_0, c0_1, c0_2, c0_3, c0_4, c0_5, (.int k1 a1), (.slice none 0 0), (.slice none 0 0)])) w := by
  simp [execOp, Instr.build, Instr.fill, Try.zeroValue47, Try.runUnderlying47, Try.sizeOf22, Try.sizeOf3, Try.sizeOf31, Try.sizeOf45, h0, h1, Value.cells]

def ref07_Right (x0 : S_api_Shape) : Option (Bool) :=
  if x0.Layers < 1 then
    some false
  else
    if x0.Layers > 16 then
      some false
    else
      if x0.Heads < 1 then
        some false
      else
        if x0.Heads > 16 then
          some false
        else
          if x0.Width < 2 then
            some false
          else
            if x0.Width > 128 then
              some false
            else
              chk ((IntKind.i64.wrap (2 * x0.Heads)) ≠ 0) <|
              if (Int.tmod x0.Width (IntKind.i64.wrap (2 * x0.Heads))) ≠ 0 then
                some false
              else
                if x0.Inner ≥ 1 then
                  if x0.Inner ≤ 256 then
                    if x0.Vocab ≥ 1 then
                      if x0.Vocab ≤ 512 then
                        if x0.Places ≥ 1 then
                          some (decide (x0.Places ≤ 256))
                        else
                          some false
                      else
                        some false
                    else
                      some false
                  else
                    some false
                else
                  some false

theorem ref07_Right_any {x0 : S_api_Shape} {Fr : List HP} {w : World} {r : Bool} {K : Value → World → Prop}  (hc : Ctx w (Fr)) (hp : ref07_Right x0 = some r)
    (k : ∀ w', Ctx w' (Fr) → K (.bool r) w') : Calls Try.prog 15 #[.agg (S_api_Shape.cz x0).toArray] w (Ret K) := by
 unfold ref07_Right at hp; refine Center1 F15 M15 rfl rfl ?_; refine Wseq (Wreg ?_); refine rsE (Ctx.boxOp (cs := (S_api_Shape.cz x0)) (v := .agg (S_api_Shape.cz x0).toArray) hc rfl rfl) rfl ?_; clear hc; rintro _ w3 ⟨b1, rfl, hc⟩; refine au 1 rfl <| rn (qn (Wseq (Wseq (Wreg ?_)))); refine fq 0 U31 Z3 G3 hc 0 ?_; refine au 2 rfl ?_; cases hb4 : (decide (x0.Layers < 1))
 · replace hp := gneg hp (of_decide_eq_false hb4); refine fq 0 U31 Z3 G3 hc 0 ?_; refine au 3 rfl ?_; cases hb5 : (decide (x0.Layers > 16))
   · replace hp := gneg hp (of_decide_eq_false hb5); refine fq 2 U31 Z3 G3 hc 0 ?_; refine au 3 rfl ?_; cases hb6 : (decide (x0.Heads < 1))
     · replace hp := gneg hp (of_decide_eq_false hb6); refine fq 2 U31 Z3 G3 hc 0 ?_; refine au 3 rfl ?_; cases hb7 : (decide (x0.Heads > 16))
       · replace hp := gneg hp (of_decide_eq_false hb7); refine fq 1 U31 Z3 G3 hc 0 ?_; refine au 3 rfl ?_; cases hb8 : (decide (x0.Width < 2))
         · replace hp := gneg hp (of_decide_eq_false hb8); refine fq 1 U31 Z3 G3 hc 0 ?_; refine au 3 rfl ?_; cases hb9 : (decide (x0.Width > 128))
           · replace hp := gneg hp (of_decide_eq_false hb9); refine fq 1 U31 Z3 G3 hc 0 ?_; refine fq 2 U31 Z3 G3 hc 0 ?_; refine au 1 rfl ?_; obtain ⟨hg10, hp⟩ := chk_some hp; refine sz (rm rfl rfl hg10) <| au 2 rfl <| rn (qn ?_); refine Wif hp (fun _ hp => ?_) fun _ hp => ?_
             · refine Wskip (qn (Wseq (Wreg ?_))); refine fq 3 U31 Z3 G3 hc 0 ?_; refine au 2 rfl ?_; cases hb12 : (decide (x0.Inner ≥ 1))
               · replace hp := gneg hp (of_decide_eq_false hb12); (iterate 3 refine r0 rfl ?_); refine au 2 rfl ?_; (iterate 3 refine r0 rfl ?_); refine au 2 rfl ?_; (iterate 3 refine r0 rfl ?_); refine au 2 rfl ?_; (iterate 3 refine r0 rfl ?_); refine au 2 rfl ?_; (iterate 3 refine r0 rfl ?_); refine au 2 rfl <| rn (qn (Wret ?_)); replace hc := hc.m [1]; obtain rfl := sj hp; exact fz R15 M15 (k _ hc)
               · replace hp := gpos hp (of_decide_eq_true hb12); refine fq 3 U31 Z3 G3 hc 0 ?_; refine au 3 rfl ?_; cases hb13 : (decide (x0.Inner ≤ 256))
                 · replace hp := gneg hp (of_decide_eq_false hb13); (iterate 3 refine r0 rfl ?_); refine au 2 rfl ?_; (iterate 3 refine r0 rfl ?_); refine au 2 rfl ?_; (iterate 3 refine r0 rfl ?_); refine au 2 rfl ?_; (iterate 3 refine r0 rfl ?_); refine au 2 rfl <| rn (qn (Wret ?_)); replace hc := hc.m [1]; obtain rfl := sj hp; exact fz R15 M15 (k _ hc)
                 · replace hp := gpos hp (of_decide_eq_true hb13); refine fq 4 U31 Z3 G3 hc 0 ?_; refine au 3 rfl ?_; cases hb14 : (decide (x0.Vocab ≥ 1))
                   · replace hp := gneg hp (of_decide_eq_false hb14); (iterate 3 refine r0 rfl ?_); refine au 2 rfl ?_; (iterate 3 refine r0 rfl ?_); refine au 2 rfl ?_; (iterate 3 refine r0 rfl ?_); refine au 2 rfl <| rn (qn (Wret ?_)); replace hc := hc.m [1]; obtain rfl := sj hp; exact fz R15 M15 (k _ hc)
                   · replace hp := gpos hp (of_decide_eq_true hb14); refine fq 4 U31 Z3 G3 hc 0 ?_; refine au 3 rfl ?_; cases hb15 : (decide (x0.Vocab ≤ 512))
                     · replace hp := gneg hp (of_decide_eq_false hb15); (iterate 3 refine r0 rfl ?_); refine au 2 rfl ?_; (iterate 3 refine r0 rfl ?_); refine au 2 rfl <| rn (qn (Wret ?_)); replace hc := hc.m [1]; obtain rfl := sj hp; exact fz R15 M15 (k _ hc)
                     · replace hp := gpos hp (of_decide_eq_true hb15); refine fq 5 U31 Z3 G3 hc 0 ?_; refine au 3 rfl ?_; cases hb16 : (decide (x0.Places ≥ 1))
                       · replace hp := gneg hp (of_decide_eq_false hb16); (iterate 3 refine r0 rfl ?_); refine au 2 rfl <| rn (qn (Wret ?_)); replace hc := hc.m [1]; obtain rfl := sj hp; exact fz R15 M15 (k _ hc)
                       · replace hp := gpos hp (of_decide_eq_true hb16); refine fq 5 U31 Z3 G3 hc 0 ?_; refine au 3 rfl <| rn (qn (Wret ?_)); replace hc := hc.m [1]; obtain rfl := sj hp; exact fz R15 M15 (k _ hc)
             · refine Wseq (Wreg ?_); refine au 1 rfl <| rn (qn (Wret (qr ?_))); replace hc := hc.m [1]; obtain rfl := sj hp; exact fz R15 M15 (k _ hc)
           · replace hp := gpos hp (of_decide_eq_true hb9); (iterate 7 refine r0 rfl ?_); refine au 1 rfl <| rn (qn (Wct rfl (Wseq (Wreg ?_)))); refine au 1 rfl <| rn (qn (Wret (qr ?_))); replace hc := hc.m [1]; obtain rfl := sj hp; exact fz R15 M15 (k _ hc)
         · replace hp := gpos hp (of_decide_eq_true hb8); (iterate 3 refine r0 rfl ?_); refine au 2 rfl ?_; (iterate 7 refine r0 rfl ?_); refine au 1 rfl <| rn (qn (Wct rfl (Wseq (Wreg ?_)))); refine au 1 rfl <| rn (qn (Wret (qr ?_))); replace hc := hc.m [1]; obtain rfl := sj hp; exact fz R15 M15 (k _ hc)
       · replace hp := gpos hp (of_decide_eq_true hb7); (iterate 3 refine r0 rfl ?_); refine au 2 rfl ?_; (iterate 3 refine r0 rfl ?_); refine au 2 rfl ?_; (iterate 7 refine r0 rfl ?_); refine au 1 rfl <| rn (qn (Wct rfl (Wseq (Wreg ?_)))); refine au 1 rfl <| rn (qn (Wret (qr ?_))); replace hc := hc.m [1]; obtain rfl := sj hp; exact fz R15 M15 (k _ hc)
     · replace hp := gpos hp (of_decide_eq_true hb6); (iterate 3 refine r0 rfl ?_); refine au 2 rfl ?_; (iterate 3 refine r0 rfl ?_); refine au 2 rfl ?_; (iterate 3 refine r0 rfl ?_); refine au 2 rfl ?_; (iterate 7 refine r0 rfl ?_); refine au 1 rfl <| rn (qn (Wct rfl (Wseq (Wreg ?_)))); refine au 1 rfl <| rn (qn (Wret (qr ?_))); replace hc := hc.m [1]; obtain rfl := sj hp; exact fz R15 M15 (k _ hc)
   · replace hp := gpos hp (of_decide_eq_true hb5); (iterate 3 refine r0 rfl ?_); refine au 2 rfl ?_; (iterate 3 refine r0 rfl ?_); refine au 2 rfl ?_; (iterate 3 refine r0 rfl ?_); refine au 2 rfl ?_; (iterate 3 refine r0 rfl ?_); refine au 2 rfl ?_; (iterate 7 refine r0 rfl ?_); refine au 1 rfl <| rn (qn (Wct rfl (Wseq (Wreg ?_)))); refine au 1 rfl <| rn (qn (Wret (qr ?_))); replace hc := hc.m [1]; obtain rfl := sj hp; exact fz R15 M15 (k _ hc)
 · replace hp := gpos hp (of_decide_eq_true hb4); (iterate 3 refine r0 rfl ?_); refine au 2 rfl ?_; (iterate 3 refine r0 rfl ?_); refine au 2 rfl ?_; (iterate 3 refine r0 rfl ?_); refine au 2 rfl ?_; (iterate 3 refine r0 rfl ?_); refine au 2 rfl ?_; (iterate 3 refine r0 rfl ?_); refine au 2 rfl ?_; (iterate 7 refine r0 rfl ?_); refine au 1 rfl <| rn (qn (Wct rfl (Wseq (Wreg ?_)))); refine au 1 rfl <| rn (qn (Wret (qr ?_))); replace hc := hc.m [1]; obtain rfl := sj hp; exact fz R15 M15 (k _ hc)

def law21_same (N : Nat) (x0 : S_api_Request) (x1 : S_api_Request) : Option (Bool) :=
  if x0.ID = x1.ID then
    if x0.Most = x1.Most then
      (ref09_Ints N x0.Prompt x1.Prompt).bind fun r17 =>
      some r17
    else
      some false
  else
    some false

theorem law21_same_any {N n2 q3 n5 q6 : Nat} {x0 x1 : S_api_Request} {a1 a4 : Option Addr} {Fr : List HP} {w : World} {r : Bool} {K : Value → World → Prop}  (hc : Ctx w (Hold (pRo (pInt .i64)) [.slice a1 n2 q3] x0.Prompt :: Hold (pRo (pInt .i64)) [.slice a4 n5 q6] x1.Prompt :: Fr)) (hp : law21_same N x0 x1 = some r)
    (k : ∀ w', Ctx w' (Fr) → K (.bool r) w') : Calls Try.prog 18 #[.agg #[.int .i64 x0.ID, .int .i64 x0.Most, .slice a1 n2 q3], .agg #[.int .i64 x1.ID, .int .i64 x1.Most, .slice a4 n5 q6]] w (Ret K) := by
 unfold law21_same at hp; refine Center2 F18 M18 rfl rfl ?_; obtain rfl := hc.rz 0 reads_ro; obtain rfl := hc.rz 1 reads_ro; refine Wseq (Wreg ?_); refine rsE (Ctx.boxOp (cs := (S_api_Request.cz x0 a1 q3)) (v := .agg (S_api_Request.cz x0 a1 q3).toArray) hc rfl rfl) rfl ?_; clear hc; rintro _ w11 ⟨b9, rfl, hc⟩; refine rsE (Ctx.boxOp (cs := (S_api_Request.cz x1 a4 q6)) (v := .agg (S_api_Request.cz x1 a4 q6).toArray) hc rfl rfl) rfl ?_; clear hc; rintro _ w14 ⟨b12, rfl, hc⟩; refine au 1 rfl <| rn (qn (Wseq (Wreg ?_))); refine fq 0 U24 Z3 G3 hc 1 ?_; refine fq 0 U24 Z3 G3 hc 0 ?_; refine au 2 rfl ?_; cases hb15 : (decide (x0.ID = x1.ID))
 · replace hp := gneg hp (of_decide_eq_false hb15); (iterate 5 refine r0 rfl ?_); refine au 2 rfl ?_; (iterate 5 refine r0 rfl ?_); refine au 2 rfl <| rn (qn (Wret ?_)); replace hc := hc.m [7, 5, 3, 1]; obtain rfl := sj hp; exact fz R18 M18 (k _ hc)
 · replace hp := gpos hp (of_decide_eq_true hb15); refine fq 1 U24 Z3 G3 hc 1 ?_; refine fq 1 U24 Z3 G3 hc 0 ?_; refine au 3 rfl ?_; cases hb16 : (decide (x0.Most = x1.Most))
   · replace hp := gneg hp (of_decide_eq_false hb16); (iterate 5 refine r0 rfl ?_); refine au 2 rfl <| rn (qn (Wret ?_)); replace hc := hc.m [7, 5, 3, 1]; obtain rfl := sj hp; exact fz R18 M18 (k _ hc)
   · replace hp := gpos hp (of_decide_eq_true hb16); refine fq 2 U24 Z22 G22 hc 1 ?_; refine fq 2 U24 Z22 G22 hc 0 ?_; replace hc := hc.dz 2; replace hc := hc.dz 4; obtain ⟨r17, hr17, hp⟩ := bind_some hp; replace hc := hc.m [2]; refine kz C28 ?_; refine ref09_Ints_any reads_ro reads_ro hc hr17 ?_; clear hc; intro w18 hc; refine au 2 rfl <| rn (qn (Wret ?_)); replace hc := hc.m [11, 9, 7, 5, 3, 1]; obtain rfl := sj hp; exact fz R18 M18 (k _ hc)

def law21_AdmitActs.J4 (j37 : S_ref21_Desk) : Option (Bool) :=
  some (decide (((j37.L.length : Nat) : Int) = 0))

def law21_AdmitActs.L5 (N : Nat) : Nat → S_ref21_Desk → S_admit_Desk → Option (Bool)
  | 0, _, _ => none
  | m5 + 1, j38, j39 =>
    (admit_Desk_Len j39).bind fun r41 =>
    if r41 > 0 then
      (admit_Desk_Take j39).bind fun r44 =>
      (ref21_Desk_Take j38).bind fun r54 =>
      if r54.2.1 = true then
        (law21_same N (⟨r44.1.ID, r44.1.Most, r44.1.Prompt⟩ : S_api_Request) (⟨r54.1.ID, r54.1.Most, r54.1.Prompt⟩ : S_api_Request)).bind fun r65 =>
        if r65 = true then
          (law21_AdmitActs.L5 N m5) r54.2.2 r44.2.2
        else
          some false
      else
        some false
    else
      law21_AdmitActs.J4 j38

def law21_AdmitActs.J6 (N : Nat) (x1 : Int) (j34 : Int) (y73 : S_law21_Act) (k3 : S_ref21_Desk → S_admit_Desk → Int → Option (Bool)) (j89 : S_ref21_Desk) (j90 : S_admit_Desk) : Option (Bool) :=
  (admit_Desk_Len j90).bind fun r284 =>
  if r284 ≠ ((j89.L.length : Nat) : Int) then
    some false
  else
    (admit_Desk_Len j90).bind fun r287 =>
    if r287 > x1 then
      some false
    else
      (admit_Desk_Took j90 y73.R.ID).bind fun r290 =>
      (ref21_Desk_Took N j89 y73.R.ID).bind fun r292 =>
      if (!(r290 == r292)) = true then
        some false
      else
        k3 j89 j90 (IntKind.i64.wrap (j34 + 1))

def law21_AdmitActs.L9 (N : Nat) (x1 : Int) (j34 : Int) (y73 : S_law21_Act) (j134 : (List Int)) (j178 : S_admit_Desk) (r198 : (Int × S_ref21_Desk)) (k3 : S_ref21_Desk → S_admit_Desk → Int → Option (Bool)) : Nat → (List Int) → Int → Option (Bool)
  | 0, _, _ => none
  | m9 + 1, j201, j205 =>
    if j205 < ((j134.length : Nat) : Int) then
      (idx j201 j205).bind fun y208 =>
      (law21_AdmitActs.L9 N x1 j34 y73 j134 j178 r198 k3 m9) (j201.set (j205).toNat (-1)) (IntKind.i64.wrap (j205 + 1))
    else
      law21_AdmitActs.J6 N x1 j34 y73 k3 r198.2 j178

def law21_AdmitActs.J11 (j179 : (List Int)) (j183 : Int) (j226 : Int) (k8 : S_admit_Desk → (List Int) → Int → Option (Bool)) (j244 : S_admit_Desk) : Option (Bool) :=
  (app j179 ([j226])).bind fun z272 =>
  k8 j244 z272 (IntKind.i64.wrap (j183 + 1))

def law21_AdmitActs.J10 (y73 : S_law21_Act) (j134 : (List Int)) (j178 : S_admit_Desk) (j179 : (List Int)) (j183 : Int) (k8 : S_admit_Desk → (List Int) → Int → Option (Bool)) (j226 : Int) : Option (Bool) :=
  if j226 = 0 then
    (slices_Clone_s_int_int j134).bind fun r246 =>
    (app j178.row ([(⟨y73.R.ID, y73.R.Most, r246⟩ : S_api_Request)])).bind fun z259 =>
    (admit_set_int_put j178.took y73.R.ID).bind fun r267 =>
    law21_AdmitActs.J11 j179 j183 j226 k8 (⟨j178.s, j178.room, z259, r267⟩ : S_admit_Desk)
  else
    law21_AdmitActs.J11 j179 j183 j226 k8 j178

def law21_AdmitActs.L8 (N : Nat) (x1 : Int) (j32 : S_ref21_Desk) (j34 : Int) (y73 : S_law21_Act) (j134 : (List Int)) (k3 : S_ref21_Desk → S_admit_Desk → Int → Option (Bool)) : Nat → S_admit_Desk → (List Int) → Int → Option (Bool)
  | 0, _, _, _ => none
  | m8 + 1, j178, j179, j183 =>
    if j183 < ((1 : Nat) : Int) then
      (idx ([(⟨y73.R.ID, y73.R.Most, j134⟩ : S_api_Request)]) j183).bind fun y215 =>
      if y73.R.ID < 0 then
        law21_AdmitActs.J10 y73 j134 j178 j179 j183 (law21_AdmitActs.L8 N x1 j32 j34 y73 j134 k3 m8) 2
      else
        if y73.R.ID ≥ 1099511627776 then
          law21_AdmitActs.J10 y73 j134 j178 j179 j183 (law21_AdmitActs.L8 N x1 j32 j34 y73 j134 k3 m8) 2
        else
          if ((mget j178.took y73.R.ID).getD false) = true then
            law21_AdmitActs.J10 y73 j134 j178 j179 j183 (law21_AdmitActs.L8 N x1 j32 j34 y73 j134 k3 m8) 210
          else
            (gen_Check N (⟨j178.s.Layers, j178.s.Width, j178.s.Heads, j178.s.Inner, j178.s.Vocab, j178.s.Places⟩ : S_api_Shape) j134 y73.R.Most).bind fun r238 =>
            if r238 ≠ 0 then
              law21_AdmitActs.J10 y73 j134 j178 j179 j183 (law21_AdmitActs.L8 N x1 j32 j34 y73 j134 k3 m8) r238
            else
              if ((j178.row.length : Nat) : Int) ≥ j178.room then
                law21_AdmitActs.J10 y73 j134 j178 j179 j183 (law21_AdmitActs.L8 N x1 j32 j34 y73 j134 k3 m8) 211
              else
                law21_AdmitActs.J10 y73 j134 j178 j179 j183 (law21_AdmitActs.L8 N x1 j32 j34 y73 j134 k3 m8) 0
    else
      if ((j179.length : Nat) : Int) ≠ 1 then
        some false
      else
        (idx j179 (0 : Int)).bind fun y189 =>
        (ref21_Desk_Submit N j32 (⟨y73.R.ID, y73.R.Most, y73.R.Prompt⟩ : S_api_Request)).bind fun r198 =>
        if y189 ≠ r198.1 then
          some false
        else
          law21_AdmitActs.L9 N x1 j34 y73 j134 j178 r198 k3 N j134 0

def law21_AdmitActs.J7 (N : Nat) (x1 : Int) (j32 : S_ref21_Desk) (j33 : S_admit_Desk) (j34 : Int) (y73 : S_law21_Act) (k3 : S_ref21_Desk → S_admit_Desk → Int → Option (Bool)) (j134 : (List Int)) : Option (Bool) :=
  law21_AdmitActs.L8 N x1 j32 j34 y73 j134 k3 N j33 ([]) 0

def law21_AdmitActs.L3 (N : Nat) (x1 : Int) (x2 : (List S_law21_Act)) : Nat → S_ref21_Desk → S_admit_Desk → Int → Option (Bool)
  | 0, _, _, _ => none
  | m3 + 1, j32, j33, j34 =>
    if j34 < ((x2.length : Nat) : Int) then
      (idx x2 j34).bind fun y73 =>
      if ((y73.R.Prompt.length : Nat) : Int) > 300 then
        some true
      else
        if y73.Kind = 0 then
          (app ([]) y73.R.Prompt).bind fun z100055 =>
          law21_AdmitActs.J7 N x1 j32 j33 j34 y73 (law21_AdmitActs.L3 N x1 x2 m3) z100055
        else
          if y73.Kind = 1 then
            (admit_Desk_Take j33).bind fun r109 =>
            (ref21_Desk_Take j32).bind fun r119 =>
            if (!(r109.2.1 == r119.2.1)) = true then
              some false
            else
              (law21_same N (⟨r109.1.ID, r109.1.Most, r109.1.Prompt⟩ : S_api_Request) (⟨r119.1.ID, r119.1.Most, r119.1.Prompt⟩ : S_api_Request)).bind fun r130 =>
              if r130 = true then
                law21_AdmitActs.J6 N x1 j34 y73 (law21_AdmitActs.L3 N x1 x2 m3) r119.2.2 r109.2.2
              else
                some false
          else
            if y73.Kind = 2 then
              (admit_Desk_Cancel N j33 ([y73.R.ID])).bind fun r104 =>
              (ref21_Desk_Cancel N j32 y73.R.ID).bind fun r106 =>
              if r104.1 ≠ r106.1 then
                some false
              else
                law21_AdmitActs.J6 N x1 j34 y73 (law21_AdmitActs.L3 N x1 x2 m3) r106.2 r104.2
            else
              if y73.Kind = 3 then
                (admit_Desk_Judge N j33 (⟨y73.R.ID, y73.R.Most, y73.R.Prompt⟩ : S_api_Request)).bind fun r96 =>
                (ref21_Desk_Judge N j32 (⟨y73.R.ID, y73.R.Most, y73.R.Prompt⟩ : S_api_Request)).bind fun r98 =>
                if r96 ≠ r98 then
                  some false
                else
                  law21_AdmitActs.J6 N x1 j34 y73 (law21_AdmitActs.L3 N x1 x2 m3) j32 j33
              else
                law21_AdmitActs.J6 N x1 j34 y73 (law21_AdmitActs.L3 N x1 x2 m3) j32 j33
    else
      law21_AdmitActs.L5 N N j32 j33

def law21_AdmitActs.J2 (N : Nat) (x0 : S_api_Shape) (x1 : Int) (x2 : (List S_law21_Act)) (r10 : ((Option S_admit_Desk) × Int)) (j19 : Bool) : Option (Bool) :=
  if j19 = true then
    optc r10.1 (
      some (decide (r10.2 = 2))) fun y300 =>
    some false
  else
    optc r10.1 (
      some false) fun y24 =>
    if r10.2 ≠ 0 then
      some false
    else
      law21_AdmitActs.L3 N x1 x2 N (⟨x0, x1, [], []⟩ : S_ref21_Desk) y24 0

def law21_AdmitActs.J1 (N : Nat) (x0 : S_api_Shape) (x1 : Int) (x2 : (List S_law21_Act)) (r10 : ((Option S_admit_Desk) × Int)) (j13 : Bool) : Option (Bool) :=
  if j13 = true then
    optc r10.1 (
      some (decide (r10.2 = 30))) fun y305 =>
    some false
  else
    if x1 < 0 then
      law21_AdmitActs.J2 N x0 x1 x2 r10 true
    else
      law21_AdmitActs.J2 N x0 x1 x2 r10 (decide (x1 > 4096))

def law21_AdmitActs (N : Nat) (x0 : S_api_Shape) (x1 : Int) (x2 : (List S_law21_Act)) : Option (Bool) :=
  (law21_awake N).bind fun r4 =>
  if r4 = true then
    if ((x2.length : Nat) : Int) > 80 then
      (law21_awake N).bind fun r309 =>
      some r309
    else
      (admit_New x0 x1).bind fun r10 =>
      (ref07_Right x0).bind fun r14 =>
      if r14 = true then
        law21_AdmitActs.J1 N x0 x1 x2 r10 false
      else
        law21_AdmitActs.J1 N x0 x1 x2 r10 true
  else
    (law21_awake N).bind fun r7 =>
    some r7

theorem law21_AdmitActs_any {N nx2 qx2 : Nat} {x0 : S_api_Shape} {x1 : Int} {x2 : (List S_law21_Act)} {ax2 : Option Addr} {P2 : HP} {Fr : List HP} {w : World} {r : Bool} {K : Value → World → Prop} (hrd2 : Reads P2 S_law21_Act.pr (.slice ax2 nx2 qx2) x2) (hc : Ctx w (P2 :: Fr)) (hp : law21_AdmitActs N x0 x1 x2 = some r)
    (k : ∀ w', Ctx w' (P2 :: Fr) → K (.bool r) w') : Calls Try.prog 4 #[.agg (S_api_Shape.cz x0).toArray, .int .i64 x1, .slice ax2 nx2 qx2] w (Ret K) := by
 unfold law21_AdmitActs at hp; refine Center3 F4 M4 rfl rfl ?_; obtain ⟨hn2, _⟩ := Ctx.rdLen hc (k := 0) rfl rfl hrd2; subst hn2; refine Wseq (Wreg ?_); refine rsE (Ctx.boxOp (cs := (S_api_Shape.cz x0)) (v := .agg (S_api_Shape.cz x0).toArray) hc rfl rfl) rfl ?_; clear hc; rintro _ w3 ⟨b1, rfl, hc⟩; refine au 1 rfl <| rn (qn (Wseq (Wseq (Wreg ?_)))); replace hp := bind_some hp; obtain ⟨r4, hr4, hp⟩ := hp; refine kz C6 ?_; refine law21_awake_any hc hr4 ?_; clear hc; intro w5 hc; cases hb6 : r4
 · replace hp := gneg hp (by rw [hb6]; exact Bool.false_ne_true); subst hb6; refine au 2 rfl ?_; (iterate 3 refine r0 rfl ?_); refine au 1 rfl <| rn (qn (Wct rfl (Wseq (Wreg ?_)))); replace hp := bind_some hp; obtain ⟨r7, hr7, hp⟩ := hp; refine kz C6 ?_; refine law21_awake_any hc hr7 ?_; clear hc; intro w8 hc; refine au 1 rfl <| rn (qn (Wret (qr ?_))); replace hc := hc.m [1]; obtain rfl := sj hp; exact fz R4 M4 (k _ hc)
 · replace hp := gpos hp hb6; subst hb6; refine au 3 rfl <| sz (ln rfl U42) <| au 2 rfl <| rn (qn ?_); refine Wif hp (fun _ h => ?_) fun _ h => ?_
   · replace hp := h; clear h; refine Wskip (qn (Wseq (Wreg ?_))); refine lg G31 Z31 hc 0 ?_; refine au 1 rfl ?_; replace hp := bind_some hp; obtain ⟨r10, hr10, hp⟩ := hp; refine kz C7 ?_; refine admit_New_any (x0 := x0) hc hr10 ?_; clear hc; intro v11 w12 hc; refine au 5 rfl <| rn (qn (Wseq ?_)); refine Wseqm [37, 38, 39] [39] (fun vs w' => ∃ j13 : Bool, vs = [.bool j13] ∧ law21_AdmitActs.J1 N x0 x1 x2 r10 j13 = some r ∧ Ctx w' (PtO S_admit_Desk.hp v11 r10.1 :: B b1 (S_api_Shape.cz x0) 31 :: P2 :: Fr)) ?_ ?_
     · refine Wreg <| lg G31 Z31 hc 1 ?_; replace hp := bind_some hp; obtain ⟨r14, hr14, hp⟩ := hp; refine kz C15 ?_; refine ref07_Right_any (x0 := x0) hc hr14 ?_; clear hc; intro w15 hc; cases hb16 : r14
       · replace hp := gneg hp (by rw [hb16]; exact Bool.false_ne_true); subst hb16; refine au 1 rfl <| rn (qn ?_); exact ⟨⟨true, rfl, hp, hc⟩, (kl rfl kb)⟩
       · replace hp := gpos hp hb16; subst hb16; refine au 1 rfl <| rn (qn ?_); exact ⟨⟨false, rfl, hp, hc⟩, (kl rfl kb)⟩
     · clear hp hc; intro vs u w17 hJ; obtain ⟨j13, rfl, hp, hc⟩ := hJ; unfold law21_AdmitActs.J1 at hp; cases hb18 : j13
       · replace hp := gneg hp (by rw [hb18]; exact Bool.false_ne_true); subst hb18; refine Wcf rfl (Wskip (qn (Wseq ?_))); refine Wseqm (rg [46, 6]) [51] (fun vs w' => ∃ j19 : Bool, vs = [.bool j19] ∧ law21_AdmitActs.J2 N x0 x1 x2 r10 j19 = some r ∧ Ctx w' (PtO S_admit_Desk.hp v11 r10.1 :: B b1 (S_api_Shape.cz x0) 31 :: P2 :: Fr)) ?_ ?_
         · refine Wreg <| au 3 rfl ?_; cases hb20 : (decide (x1 < 0))
           · replace hp := gneg hp (of_decide_eq_false hb20); refine au 3 rfl <| rn (qn ?_); exact ⟨⟨decide (x1 > 4096), rfl, hp, hc⟩, (kl rfl kb)⟩
           · replace hp := gpos hp (of_decide_eq_true hb20); (iterate 2 refine r0 rfl ?_); refine au 1 rfl <| rn (qn ?_); exact ⟨⟨true, rfl, hp, hc⟩, (kl rfl kb)⟩
         · clear hp hc; intro vs u w21 hJ; obtain ⟨j19, rfl, hp, hc⟩ := hJ; unfold law21_AdmitActs.J2 at hp; cases hb22 : j19
           · replace hp := gneg hp (by rw [hb22]; exact Bool.false_ne_true); subst hb22; refine Wcf rfl (Wskip (qn (Wseq (Wseq (Wreg ?_))))); refine au 1 rfl ?_; cases hb23 : r10.1
             · replace hp := optN hp hb23; rw [hb23] at hc; replace hc := Ctx.ptoN hc; obtain ⟨u25, hc⟩ := hc; subst u25; refine sz (v := .bool true) (ept U26 rfl rfl) <| au 1 rfl ?_; (iterate 2 refine r0 rfl ?_); refine au 1 rfl <| rn (qn (Wct rfl (Wseq (Wreg ?_)))); refine au 1 rfl <| rn (qn (Wret (qr ?_))); replace hc := hc.m [1]; obtain rfl := sj hp; exact fz R4 M4 (k _ hc)
             · rename_i y24; replace hp := optS hp hb23; rw [hb23] at hc; replace hc := Ctx.ptoS hc; obtain ⟨b26, u27, hc⟩ := hc; subst u27; refine sz (v := .bool false) (epf U26 rfl rfl) <| au 4 rfl <| rn (qn ?_); refine Wif hp (fun _ h => ?_) fun _ h => ?_
               · replace hp := h; clear h; refine Wskip (qn (Wseq (Wreg ?_))); refine lg G31 Z31 hc 1 ?_; refine au 1 rfl <| sz (v := .agg #[.int .i64 x0.Layers, .int .i64 x0.Width, .int .i64 x0.Heads, .int .i64 x0.Inner, .int .i64 x0.Vocab, .int .i64 x0.Places, .int .i64 x1, .slice none 0 0, .slice none 0 0]) (bd_47_0_1 rfl rfl) ?_; refine rsE (Ctx.boxOp (cs := [.int .i64 x0.Layers, .int .i64 x0.Width, .int .i64 x0.Heads, .int .i64 x0.Inner, .int .i64 x0.Vocab, .int .i64 x0.Places, .int .i64 x1, .slice none 0 0, .slice none 0 0]) (v := .agg #[.int .i64 x0.Layers, .int .i64 x0.Width, .int .i64 x0.Heads, .int .i64 x0.Inner, .int .i64 x0.Vocab, .int .i64 x0.Places, .int .i64 x1, .slice none 0 0, .slice none 0 0]) hc rfl rfl) rfl ?_; clear hc; rintro _ w31 ⟨b29, rfl, hc⟩; refine au 1 rfl <| rn (qn (Wseq (Wseq (Wreg ?_)))); refine au 1 rfl <| rn (qn (Wblk ?_)); replace hc := hc.nilOwn S_api_Request.pr 24; replace hc := hc.nilOwn (pInt .i64) 3; replace hc := hc.m [2, 4]; replace hc := S_ref21_Desk.fd (x := (⟨x0, x1, [], []⟩ : S_ref21_Desk)) hc; replace hc := hc.m [5]; refine Wloop (rg [6, 1, 10, 9, 68, 132]) [10] (fun m vs w' => ∃ j32 : S_ref21_Desk, ∃ j33 : S_admit_Desk, ∃ j34 : Int, vs = [.int .i64 j34] ∧ law21_AdmitActs.L3 N x1 x2 m j32 j33 j34 = some r ∧ Ctx w' (S_ref21_Desk.hp b29 j32 :: S_admit_Desk.hp b26 j33 :: P2 :: Fr)) N ?_ ?_
                 · exact ⟨(⟨x0, x1, [], []⟩ : S_ref21_Desk), y24, 0, rfl, hp, hc⟩
                 · clear hp hc; intro m vs u w35 hJ; obtain ⟨j32, j33, j34, rfl, hp, hc⟩ := hJ; rcases m with _ | m3
                   · cases (show none = some r from hp)
                   rw [law21_AdmitActs.L3] at hp; refine Wseq (Wseq (Wreg ?_)); refine au 2 rfl <| sz (ln rfl U42) <| au 1 rfl <| rn (qn ?_); refine Wif hp (fun _ h => ?_) fun _ h => ?_
                   · replace hp := h; clear h; refine Wexit (qx (qx (be (qn ?_)))); refine Wseqm (rg [6, 1, 19, 4, 200, 21]) [] (fun vs w' => ∃ j37 : S_ref21_Desk, vs = [] ∧ law21_AdmitActs.J4 j37 = some r ∧ Ctx w' (S_ref21_Desk.hp b29 j37 :: P2 :: Fr)) ?_ ?_
                     · refine Wblk ?_; refine Wloop (rg [6, 1, 19, 4, 200, 21]) [] (fun m vs w' => ∃ j38 : S_ref21_Desk, ∃ j39 : S_admit_Desk, vs = [] ∧ law21_AdmitActs.L5 N m j38 j39 = some r ∧ Ctx w' (S_ref21_Desk.hp b29 j38 :: S_admit_Desk.hp b26 j39 :: P2 :: Fr)) N ?_ ?_
                       · exact ⟨j32, j33, rfl, hp, hc⟩
                       · clear hp hc; intro m vs u w40 hJ; obtain ⟨j38, j39, rfl, hp, hc⟩ := hJ; rcases m with _ | m5
                         · cases (show none = some r from hp)
                         rw [law21_AdmitActs.L5] at hp; refine Wseq (Wseq (Wreg ?_)); refine au 1 rfl ?_; replace hp := bind_some hp; obtain ⟨r41, hr41, hp⟩ := hp; replace hc := hc.m [2]; refine kz C14 ?_; refine admit_Desk_Len_any hc hr41 ?_; clear hc; intro w42 hc; refine au 1 rfl <| rn (qn ?_); refine Wif hp (fun _ h => ?_) fun _ h => ?_
                         · replace hp := h; clear h; refine Wexit (qx (qx (be (qn ?_)))); replace hc := hc.m [1]; exact ⟨⟨j38, rfl, hp, hc⟩, (kl rfl (km rfl (kl rfl kb)))⟩
                         · replace hp := h; clear h; refine Wskip (qn (Wblk (Wseq (Wreg ?_)))); refine au 1 rfl ?_; replace hp := bind_some hp; obtain ⟨r44, hr44, hp⟩ := hp; refine kz C12 ?_; refine admit_Desk_Take_any hc hr44 ?_; clear hc; intro a45 n46 q47 w48 hc; obtain rfl := hc.rz 0 reads_ro; refine au 3 rfl ?_; refine rsE (Ctx.allocOp (cs := [.int .i64 0, .int .i64 0, .slice none 0 0]) hc V24 rfl) rfl ?_; clear hc; rintro _ w52 ⟨b50, rfl, hc⟩; refine pa hc 0 Z24 ?_; clear hc; rintro w53 hc; refine au 1 rfl <| rn (qn (Wseq (Wreg ?_))); refine au 1 rfl ?_; replace hp := bind_some hp; obtain ⟨r54, hr54, hp⟩ := hp; replace hc := hc.m [6]; refine kz C17 ?_; refine ref21_Desk_Take_any hc hr54 ?_; clear hc; intro a55 n56 q57 w58 hc; obtain rfl := hc.rz 0 reads_ro; refine au 3 rfl ?_; refine rsE (Ctx.allocOp (cs := [.int .i64 0, .int .i64 0, .slice none 0 0]) hc V24 rfl) rfl ?_; clear hc; rintro _ w62 ⟨b60, rfl, hc⟩; refine pa hc 0 Z24 ?_; clear hc; rintro w63 hc; refine au 1 rfl <| rn (qn (Wseq (Wreg ?_))); refine au 1 rfl ?_; cases hb64 : r54.2.1
                           · replace hp := gneg hp (by rw [hb64]; exact Bool.false_ne_true); refine au 2 rfl ?_; (iterate 4 refine r0 rfl ?_); refine au 1 rfl <| rn (qn (Wct rfl (Wseq (Wreg ?_)))); refine au 1 rfl <| rn (qn (Wret (br (qr (br (qr ?_)))))); replace hc := hc.m [11, 9, 7, 5, 3, 1]; obtain rfl := sj hp; exact fz R4 M4 (k _ hc)
                           · replace hp := gpos hp hb64; refine au 2 rfl <| lg G24 Z24 hc 3 ?_; refine lg G24 Z24 hc 0 ?_; replace hc := hc.dz 4; replace hc := hc.dz 2; replace hp := bind_some hp; obtain ⟨r65, hr65, hp⟩ := hp; replace hc := hc.m [2]; refine kz C18 ?_; refine law21_same_any (x0 := r44.1) (x1 := r54.1) hc hr65 ?_; clear hc; intro w66 hc; cases hb67 : r65
                             · replace hp := gneg hp (by rw [hb67]; exact Bool.false_ne_true); subst hb67; refine au 2 rfl <| rn (qn (Wct rfl (Wseq (Wreg ?_)))); refine au 1 rfl <| rn (qn (Wret (br (qr (br (qr ?_)))))); replace hc := hc.m [11, 9, 7, 5, 3, 1]; obtain rfl := sj hp; exact fz R4 M4 (k _ hc)
                             · replace hp := gpos hp hb67; subst hb67; refine au 2 rfl <| rn (qn (Wcf rfl (Wskip (bn (qn ?_))))); replace hc := hc.m [9, 7, 3, 1]; exact ⟨m5, Nat.lt_succ_self _, ⟨r54.2.2, r44.2.2, rfl, hp, hc⟩, (kl rfl k0)⟩
                     · clear hp hc; intro vs u w68 hJ; obtain ⟨j37, rfl, hp, hc⟩ := hJ; unfold law21_AdmitActs.J4 at hp; refine Wseq (Wreg ?_); refine au 2 rfl <| sz (v := pt b29 7) (fax 7 rfl U47 rfl Z45 rfl rfl rfl) ?_; replace hc := S_ref21_Desk.uf hc; obtain ⟨a69, q70, a71, q72, hc⟩ := hc; refine sz (ld rfl G45 (Ctx.cell hc (k := 0) rfl rfl rfl)) <| sz (ln rfl U45) <| au 2 rfl <| rn (qn (Wret ?_)); replace hc := hc.m [5, 3, 1]; obtain rfl := sj hp; exact fz R4 M4 (k _ hc)
                   · replace hp := h; clear h; refine Wskip (qn (Wseq (Wblk (Wseq (Wreg ?_))))); refine au 2 rfl ?_; replace hp := bind_some hp; obtain ⟨y73, hy73, hp⟩ := hp; obtain ⟨b76, o77, rfl, hi74, hi75⟩ := hc.ra 2 hrd2 hy73; refine sz (ixx rfl rfl U42 Z49 hi74 hi75 rfl) ?_; replace hc := Ctx.rdCell hc (k := 2) rfl rfl hrd2 hy73; obtain ⟨cs79, hc, hcell80⟩ := hc; replace hc := S_law21_Act.op hc; obtain ⟨a82, q83, u81, hc⟩ := hc; subst u81; refine sz (v := .agg (S_law21_Act.cz y73 a82 q83).toArray) (ldg rfl G49 Z49 rfl (elCells hcell80 0 (vs := (S_law21_Act.cz y73 a82 q83)) rfl)) ?_; refine rsE (Ctx.allocOp (cs := [.int .i64 0, .int .i64 0, .int .i64 0, .slice none 0 0]) hc V49 rfl) rfl ?_; clear hc; rintro _ w86 ⟨b84, rfl, hc⟩; refine pa hc 0 Z49 ?_; clear hc; rintro w87 hc; refine rn (qn (Wseq (Wseq (Wreg ?_)))); refine sz (v := pt b84 1) (fax 1 rfl U49 rfl Z24 rfl rfl rfl) ?_; refine fq 2 U24 Z22 G22 hc 0 ?_; refine sz (ln rfl U22) <| au 1 rfl <| rn (qn ?_); refine Wif hp (fun _ h => ?_) fun _ h => ?_
                     · replace hp := h; clear h; refine Wskip (qn ?_); refine Wseqm (rg [6, 1, 12, 7, 83, 90]) [] (fun vs w' => ∃ j89 : S_ref21_Desk, ∃ j90 : S_admit_Desk, vs = [] ∧ law21_AdmitActs.J6 N x1 j34 y73 (law21_AdmitActs.L3 N x1 x2 m3) j89 j90 = some r ∧ Ctx w' (B b84 (S_law21_Act.cz y73 a82 q83) 49 :: hR .i64 a82 q83 y73.R.Prompt :: S_ref21_Desk.hp b29 j89 :: S_admit_Desk.hp b26 j90 :: P2 :: Fr)) ?_ ?_
                       · refine Wseq (Wreg ?_); refine fq 0 U49 Z3 G3 hc 0 ?_; refine rn (qn (Wblk (Wseq (Wreg ?_)))); refine au 2 rfl <| rn (qn ?_); cases hb91 : (decide (y73.Kind = 0))
                         · replace hp := gneg hp (of_decide_eq_false hb91); refine Wcf rfl (Wseq (Wreg ?_)); refine au 2 rfl <| rn (qn ?_); refine Wif hp (fun _ h => ?_) fun _ h => ?_
                           · replace hp := h; clear h; refine Wseq (Wreg ?_); refine au 2 rfl <| rn (qn ?_); refine Wif hp (fun _ h => ?_) fun _ h => ?_
                             · replace hp := h; clear h; refine Wseq (Wreg ?_); refine au 2 rfl <| rn (qn ?_); refine Wif hp (fun _ h => ?_) fun _ h => ?_
                               · replace hp := h; clear h; refine Wskip (bn (qn ?_)); exact ⟨⟨j32, j33, rfl, hp, hc⟩, (kl rfl kb)⟩
                               · replace hp := h; clear h; refine Wseq ?_; replace hc := hc.drew; refine Wdrw (fun j w' => (j = 6 → ∀ j v, ((S_api_Request.cz y73.R a82 q83) : List Value)[j]? = some v → w'.cell? ((⟨b84, 1, none⟩ : Addr).add j) = some v) ∧ True) [0, 0, 2, 7, 0, 0, 32, 127, 255] 0 4 rfl (by kernel_rfl) (fun j hj => ⟨fun _ => Ctx.cells hc (k := 0) rfl rfl 1 (vs := (S_api_Request.cz y73.R a82 q83)) rfl, trivial⟩) ?_; generalize hw : World.drew w87 = w95 at *; clear hw; refine ad_ 1 rfl <| ds (v := pt b84 1) rfl (fun w' hF => fax 1 rfl U49 rfl Z24 rfl rfl rfl) rfl <| dx (v := .agg (S_api_Request.cz y73.R a82 q83).toArray) rfl (ldg rfl G24 Z24 rfl (Ctx.cells hc (k := 0) rfl rfl 1 (vs := (S_api_Request.cz y73.R a82 q83)) rfl)) rfl rfl ?_; replace hc := hc.dz 1; replace hp := bind_some hp; obtain ⟨r96, hr96, hp⟩ := hp; replace hc := hc.m [8]; refine dc (cl C11 rfl rfl) rfl rfl ?_; refine admit_Desk_Judge_any (x1 := y73.R) hc hr96 ?_; clear hc; intro w97 hc; refine ⟨fun j hj hb => ⟨fun _ => Ctx.cells hc (k := 1) rfl rfl 1 (vs := (S_api_Request.cz y73.R a82 q83)) rfl, trivial⟩, ?_⟩; refine ad_ 1 rfl <| ds (v := pt b84 1) rfl (fun w' hF => fax 1 rfl U49 rfl Z24 rfl rfl rfl) rfl <| ds (v := .agg (S_api_Request.cz y73.R a82 q83).toArray) rfl (fun w' hF => ldg rfl G24 Z24 rfl (hF.1 rfl)) rfl ?_; replace hc := hc.dz 2; replace hp := bind_some hp; obtain ⟨r98, hr98, hp⟩ := hp; replace hc := hc.m [8]; refine dc (cl C21 rfl rfl) rfl rfl ?_; refine ref21_Desk_Judge_any (x1 := y73.R) hc hr98 ?_; clear hc; intro w99 hc; refine ⟨fun j hj hb => ⟨fun e => nja hj e, trivial⟩, ?_⟩; refine ad_ 1 rfl <| dn (qn ?_); refine Wif hp (fun _ h => ?_) fun _ h => ?_
                                 · replace hp := h; clear h; refine Wskip (bn (qn ?_)); replace hc := hc.m [8, 4, 4, 8, 8]; exact ⟨⟨j32, j33, rfl, hp, hc⟩, (kl rfl kb)⟩
                                 · replace hp := h; clear h; refine Wseq (Wreg ?_); refine au 1 rfl <| rn (qn (Wret (br (qr (br (qr (qr (br (qr ?_))))))))); replace hc := hc.m [7, 5, 3, 1]; obtain rfl := sj hp; exact fz R4 M4 (k _ hc)
                             · replace hp := h; clear h; refine Wseq ?_; replace hc := hc.drew; refine Wdrw (fun j w' => (j = 9 → w'.cell? ⟨b84, 1, none⟩ = some (.int .i64 y73.R.ID)) ∧ True) [0, 0, 2, 6, 14, 31, 0, 0, 128, 384, 1023, 2047] 0 8 rfl (by kernel_rfl) (fun j hj => ⟨fun _ => hc.cell (k := 0) rfl rfl rfl, trivial⟩) ?_; generalize hw : World.drew w87 = w101 at *; clear hw; refine ad_ 1 rfl <| ds (v := pt b84 1) rfl (fun w' hF => fax 1 rfl U49 rfl Z24 rfl rfl rfl) rfl <| ds (v := pt b84 1) rfl (fun w' hF => fax 0 rfl U24 rfl Z3 rfl rfl rfl) rfl <| dx rfl (ld rfl G3 (Ctx.cell hc (k := 0) rfl rfl rfl)) rfl rfl ?_; refine deE (oneI hc U22 Z3 V3) rfl rfl ?_; clear hc; rintro _ w103 ⟨a102, rfl, hc⟩; refine ⟨fun j hj hb => ⟨fun _ => hc.cell (k := 1) rfl rfl rfl, trivial⟩, ?_⟩; replace hp := bind_some hp; obtain ⟨r104, hr104, hp⟩ := hp; replace hc := hc.m [8]; refine dc (cl C19 rfl rfl) rfl rfl ?_; refine admit_Desk_Cancel_any reads_own hc hr104 ?_; clear hc; intro w105 hc; refine ⟨fun j hj hb => ⟨fun _ => hc.cell (k := 2) rfl rfl rfl, trivial⟩, ?_⟩; refine ad_ 1 rfl <| ds (v := pt b84 1) rfl (fun w' hF => fax 1 rfl U49 rfl Z24 rfl rfl rfl) rfl <| ds (v := pt b84 1) rfl (fun w' hF => fax 0 rfl U24 rfl Z3 rfl rfl rfl) rfl <| ds rfl (fun w' hF => ld rfl G3 ((hF.1 rfl))) rfl ?_; replace hp := bind_some hp; obtain ⟨r106, hr106, hp⟩ := hp; replace hc := hc.m [8]; refine dc (cl C20 rfl rfl) rfl rfl ?_; refine ref21_Desk_Cancel_any hc hr106 ?_; clear hc; intro w107 hc; refine ⟨fun j hj hb => ⟨fun e => nja hj e, trivial⟩, ?_⟩; refine ad_ 1 rfl <| dn (qn ?_); refine Wif hp (fun _ h => ?_) fun _ h => ?_
                               · replace hp := h; clear h; refine Wskip (bn (qn ?_)); replace hc := hc.m [5, 8, 4, 4, 8, 8]; exact ⟨⟨r106.2, r104.2, rfl, hp, hc⟩, (kl rfl kb)⟩
                               · replace hp := h; clear h; refine Wseq (Wreg ?_); refine au 1 rfl <| rn (qn (Wret (br (qr (br (qr (qr (br (qr ?_))))))))); replace hc := hc.m [9, 7, 5, 3, 1]; obtain rfl := sj hp; exact fz R4 M4 (k _ hc)
                           · replace hp := h; clear h; refine Wseq (Wreg ?_); refine au 1 rfl ?_; replace hp := bind_some hp; obtain ⟨r109, hr109, hp⟩ := hp; replace hc := hc.m [6]; refine kz C12 ?_; refine admit_Desk_Take_any hc hr109 ?_; clear hc; intro a110 n111 q112 w113 hc; obtain rfl := hc.rz 0 reads_ro; refine au 3 rfl ?_; refine rsE (Ctx.allocOp (cs := [.int .i64 0, .int .i64 0, .slice none 0 0]) hc V24 rfl) rfl ?_; clear hc; rintro _ w117 ⟨b115, rfl, hc⟩; refine pa hc 0 Z24 ?_; clear hc; rintro w118 hc; refine au 1 rfl <| rn (qn (Wseq (Wreg ?_))); refine au 1 rfl ?_; replace hp := bind_some hp; obtain ⟨r119, hr119, hp⟩ := hp; replace hc := hc.m [10]; refine kz C17 ?_; refine ref21_Desk_Take_any hc hr119 ?_; clear hc; intro a120 n121 q122 w123 hc; obtain rfl := hc.rz 0 reads_ro; refine au 3 rfl ?_; refine rsE (Ctx.allocOp (cs := [.int .i64 0, .int .i64 0, .slice none 0 0]) hc V24 rfl) rfl ?_; clear hc; rintro _ w127 ⟨b125, rfl, hc⟩; refine pa hc 0 Z24 ?_; clear hc; rintro w128 hc; refine au 1 rfl <| rn (qn (Wseq (Wreg ?_))); refine au 2 rfl <| sz (v := .bool (!(r109.2.1 == r119.2.1))) (neb U4 rfl rfl) <| au 1 rfl ?_; cases hb129 : (!(r109.2.1 == r119.2.1))
                             · replace hp := gneg hp (by rw [hb129]; exact Bool.false_ne_true); refine lg G24 Z24 hc 3 ?_; refine lg G24 Z24 hc 0 ?_; replace hc := hc.dz 4; replace hc := hc.dz 2; replace hp := bind_some hp; obtain ⟨r130, hr130, hp⟩ := hp; replace hc := hc.m [2]; refine kz C18 ?_; refine law21_same_any (x0 := r109.1) (x1 := r119.1) hc hr130 ?_; clear hc; intro w131 hc; cases hb132 : r130
                               · replace hp := gneg hp (by rw [hb132]; exact Bool.false_ne_true); subst hb132; refine au 2 rfl <| rn (qn (Wct rfl (Wseq (Wreg ?_)))); refine au 1 rfl <| rn (qn (Wret (br (qr (br (qr (qr (br (qr ?_))))))))); replace hc := hc.m [15, 13, 11, 9, 7, 5, 3, 1]; obtain rfl := sj hp; exact fz R4 M4 (k _ hc)
                               · replace hp := gpos hp hb132; subst hb132; refine au 2 rfl <| rn (qn (Wcf rfl (Wskip (bn (qn ?_))))); replace hc := hc.m [9, 7, 3, 1, 8, 4, 4, 8, 8]; exact ⟨⟨r119.2.2, r109.2.2, rfl, hp, hc⟩, (kl rfl kb)⟩
                             · replace hp := gpos hp hb129; (iterate 4 refine r0 rfl ?_); refine au 1 rfl <| rn (qn (Wct rfl (Wseq (Wreg ?_)))); refine au 1 rfl <| rn (qn (Wret (br (qr (br (qr (qr (br (qr ?_))))))))); replace hc := hc.m [15, 13, 11, 9, 7, 5, 3, 1]; obtain rfl := sj hp; exact fz R4 M4 (k _ hc)
                         · replace hp := gpos hp (of_decide_eq_true hb91); refine Wct rfl ?_; refine Wseqm (rg [12, 1, 87, 12]) [12] (fun vs w' => ∃ j134 : (List Int), ∃ b133 : Nat, ∃ a135 n136 q137, vs = [pt b133 0] ∧ law21_AdmitActs.J7 N x1 j32 j33 j34 y73 (law21_AdmitActs.L3 N x1 x2 m3) j134 = some r ∧ Ctx w' (B b84 (S_law21_Act.cz y73 a82 q83) 49 :: hR .i64 a82 q83 y73.R.Prompt :: S_ref21_Desk.hp b29 j32 :: S_admit_Desk.hp b26 j33 :: P2 :: Own (pInt .i64) 3 (.slice a135 n136 q137) j134 :: B b133 [.int .i64 y73.R.ID, .int .i64 y73.R.Most, .slice a135 n136 q137] 24 :: Fr)) ?_ ?_
                           · replace hp := bind_some hp; obtain ⟨z100055, hz100055, hp⟩ := hp; refine Wrg rfl ?_; refine RGsplit 6 12 rfl ?_ ?_
                             · refine RGsplit 10 12 rfl ?_ ?_
                               · replace hc := hc.drew; refine RGleaf [0, 1, 2, 3, 4, 5, 6, 7, 8, 9, 10, 11, 12, 13] (fun j w' => (j = 2 → w'.cell? ⟨b84, 1, none⟩ = some (.int .i64 y73.R.ID)) ∧ (j = 5 → w'.cell? ⟨b84, 2, none⟩ = some (.int .i64 y73.R.Most)) ∧ (j = 9 → w'.cell? ⟨b84, 3, none⟩ = some (.slice a82 y73.R.Prompt.length q83)) ∧ True) [0, 1, 3, 0, 8, 24, 0, 0, 128, 384, 960, 2047, 1984, 8191] 0 0 (by kernel_rfl) (by kernel_rfl) (fun j hj => ⟨fun _ => hc.cell (k := 0) rfl rfl rfl, fun _ => hc.cell (k := 0) rfl rfl rfl, fun _ => hc.cell (k := 0) rfl rfl rfl, trivial⟩) ?_; generalize hw : World.drew w87 = w138 at *; clear hw; refine ds (v := pt b84 1) rfl (fun w' hF => fax 1 rfl U49 rfl Z24 rfl rfl rfl) rfl <| ds (v := pt b84 1) rfl (fun w' hF => fax 0 rfl U24 rfl Z3 rfl rfl rfl) rfl <| ds rfl (fun w' hF => ld rfl G3 ((hF.1 rfl))) rfl <| ds (v := pt b84 1) rfl (fun w' hF => fax 1 rfl U49 rfl Z24 rfl rfl rfl) rfl <| ds (v := pt b84 2) rfl (fun w' hF => fax 1 rfl U24 rfl Z3 rfl rfl rfl) rfl <| ds rfl (fun w' hF => ld rfl G3 ((hF.2.1 rfl))) rfl ?_; refine deE (Ctx.builtOp (css := []) (xs := ([] : List Int)) (E := (pInt .i64)) hc U22 Z3 V3 rfl rfl rfl rfl rfl rfl rfl rfl) rfl rfl ?_; clear hc; rintro _ w140 ⟨a139, rfl, hc⟩; refine ⟨fun j hj hb => ⟨fun _ => hc.cell (k := 1) rfl rfl rfl, fun _ => hc.cell (k := 1) rfl rfl rfl, fun _ => hc.cell (k := 1) rfl rfl rfl, trivial⟩, ?_⟩; refine ds (v := pt b84 1) rfl (fun w' hF => fax 1 rfl U49 rfl Z24 rfl rfl rfl) rfl <| ds (v := pt b84 3) rfl (fun w' hF => fax 2 rfl U24 rfl Z22 rfl rfl rfl) rfl <| ds rfl (fun w' hF => ld rfl G22 ((hF.2.2.1 rfl))) rfl ?_; obtain ⟨hg141, e142⟩ := app_some hz100055; refine deE (hc.ap 0 2 reads_ro U22 Try.t3 hg141) rfl rfl ?_; clear hc; rintro _ w145 ⟨a143, q144, rfl, hc⟩; rw [← e142] at hc ⊢; replace hc := Ctx.n0 hc; refine ⟨fun j hj hb => ⟨fun _ => hc.cell (k := 1) rfl rfl rfl, fun _ => hc.cell (k := 1) rfl rfl rfl, fun e => nja hj e, trivial⟩, ?_⟩; refine ds (v := .agg #[.int .i64 y73.R.ID, .int .i64 y73.R.Most, .slice a143 z100055.length q144]) rfl (fun w' hF => bd_24_0_1_2 rfl rfl rfl) rfl ?_; refine deE (Ctx.allocOp (cs := [.int .i64 0, .int .i64 0, .slice none 0 0]) hc V24 rfl) rfl rfl ?_; clear hc; rintro _ w148 ⟨b146, rfl, hc⟩; refine ⟨fun j hj hb => ⟨fun _ => hc.cell (k := 2) rfl rfl rfl, fun _ => hc.cell (k := 2) rfl rfl rfl, fun e => nja hj e, trivial⟩, ?_⟩; refine pad hc 0 Z24 ?_; clear hc; rintro w149 hc; refine ⟨fun j hj hb => ⟨fun e => nja hj e, fun e => nja hj e, fun e => nja hj e, trivial⟩, ?_⟩; refine dn (qn ?_); replace hc := hc.m [2, 12, 12, 12, 12, 12]; exact ⟨⟨z100055, b146, a143, z100055.length, q144, rfl, hp, hc⟩, (kl rfl kb)⟩
                               · replace hc := hc.drew; refine RGleaf [0, 1, 2, 3, 4, 5, 6, 7, 8, 9, 12, 10, 11, 13] (fun j w' => (j = 2 → w'.cell? ⟨b84, 1, none⟩ = some (.int .i64 y73.R.ID)) ∧ (j = 5 → w'.cell? ⟨b84, 2, none⟩ = some (.int .i64 y73.R.Most)) ∧ (j = 9 → w'.cell? ⟨b84, 3, none⟩ = some (.slice a82 y73.R.Prompt.length q83)) ∧ True) [0, 1, 3, 0, 8, 24, 0, 0, 128, 384, 64, 1984, 4095, 8191] 0 0 (by kernel_rfl) (by kernel_rfl) (fun j hj => ⟨fun _ => hc.cell (k := 0) rfl rfl rfl, fun _ => hc.cell (k := 0) rfl rfl rfl, fun _ => hc.cell (k := 0) rfl rfl rfl, trivial⟩) ?_; generalize hw : World.drew w87 = w150 at *; clear hw; refine ds (v := pt b84 1) rfl (fun w' hF => fax 1 rfl U49 rfl Z24 rfl rfl rfl) rfl <| ds (v := pt b84 1) rfl (fun w' hF => fax 0 rfl U24 rfl Z3 rfl rfl rfl) rfl <| ds rfl (fun w' hF => ld rfl G3 ((hF.1 rfl))) rfl <| ds (v := pt b84 1) rfl (fun w' hF => fax 1 rfl U49 rfl Z24 rfl rfl rfl) rfl <| ds (v := pt b84 2) rfl (fun w' hF => fax 1 rfl U24 rfl Z3 rfl rfl rfl) rfl <| ds rfl (fun w' hF => ld rfl G3 ((hF.2.1 rfl))) rfl ?_; refine deE (Ctx.builtOp (css := []) (xs := ([] : List Int)) (E := (pInt .i64)) hc U22 Z3 V3 rfl rfl rfl rfl rfl rfl rfl rfl) rfl rfl ?_; clear hc; rintro _ w152 ⟨a151, rfl, hc⟩; refine ⟨fun j hj hb => ⟨fun _ => hc.cell (k := 1) rfl rfl rfl, fun _ => hc.cell (k := 1) rfl rfl rfl, fun _ => hc.cell (k := 1) rfl rfl rfl, trivial⟩, ?_⟩; refine ds (v := pt b84 1) rfl (fun w' hF => fax 1 rfl U49 rfl Z24 rfl rfl rfl) rfl <| ds (v := pt b84 3) rfl (fun w' hF => fax 2 rfl U24 rfl Z22 rfl rfl rfl) rfl <| ds rfl (fun w' hF => ld rfl G22 ((hF.2.2.1 rfl))) rfl ?_; refine deE (Ctx.allocOp (cs := [.int .i64 0, .int .i64 0, .slice none 0 0]) hc V24 rfl) rfl rfl ?_; clear hc; rintro _ w155 ⟨b153, rfl, hc⟩; refine ⟨fun j hj hb => ⟨fun _ => hc.cell (k := 2) rfl rfl rfl, fun _ => hc.cell (k := 2) rfl rfl rfl, fun _ => hc.cell (k := 2) rfl rfl rfl, trivial⟩, ?_⟩; obtain ⟨hg156, e157⟩ := app_some hz100055; refine deE (hc.ap 1 3 reads_ro U22 Try.t3 hg156) rfl rfl ?_; clear hc; rintro _ w160 ⟨a158, q159, rfl, hc⟩; rw [← e157] at hc ⊢; replace hc := Ctx.n1 hc; refine ⟨fun j hj hb => ⟨fun _ => hc.cell (k := 2) rfl rfl rfl, fun _ => hc.cell (k := 2) rfl rfl rfl, fun e => nja hj e, trivial⟩, ?_⟩; refine ds (v := .agg #[.int .i64 y73.R.ID, .int .i64 y73.R.Most, .slice a158 z100055.length q159]) rfl (fun w' hF => bd_24_0_1_2 rfl rfl rfl) rfl ?_; refine pad hc 0 Z24 ?_; clear hc; rintro w161 hc; refine ⟨fun j hj hb => ⟨fun e => nja hj e, fun e => nja hj e, fun e => nja hj e, trivial⟩, ?_⟩; refine dn (qn ?_); replace hc := hc.m [2, 12, 12, 12, 12, 12]; exact ⟨⟨z100055, b153, a158, z100055.length, q159, rfl, hp, hc⟩, (kl rfl kb)⟩
                             · replace hc := hc.drew; refine RGleaf [0, 1, 2, 3, 4, 5, 7, 8, 9, 12, 6, 10, 11, 13] (fun j w' => (j = 2 → w'.cell? ⟨b84, 1, none⟩ = some (.int .i64 y73.R.ID)) ∧ (j = 5 → w'.cell? ⟨b84, 2, none⟩ = some (.int .i64 y73.R.Most)) ∧ (j = 8 → w'.cell? ⟨b84, 3, none⟩ = some (.slice a82 y73.R.Prompt.length q83)) ∧ True) [0, 1, 3, 0, 8, 24, 0, 64, 192, 0, 512, 1984, 4095, 8191] 0 0 (by kernel_rfl) (by kernel_rfl) (fun j hj => ⟨fun _ => hc.cell (k := 0) rfl rfl rfl, fun _ => hc.cell (k := 0) rfl rfl rfl, fun _ => hc.cell (k := 0) rfl rfl rfl, trivial⟩) ?_; generalize hw : World.drew w87 = w162 at *; clear hw; refine ds (v := pt b84 1) rfl (fun w' hF => fax 1 rfl U49 rfl Z24 rfl rfl rfl) rfl <| ds (v := pt b84 1) rfl (fun w' hF => fax 0 rfl U24 rfl Z3 rfl rfl rfl) rfl <| ds rfl (fun w' hF => ld rfl G3 ((hF.1 rfl))) rfl <| ds (v := pt b84 1) rfl (fun w' hF => fax 1 rfl U49 rfl Z24 rfl rfl rfl) rfl <| ds (v := pt b84 2) rfl (fun w' hF => fax 1 rfl U24 rfl Z3 rfl rfl rfl) rfl <| ds rfl (fun w' hF => ld rfl G3 ((hF.2.1 rfl))) rfl <| ds (v := pt b84 1) rfl (fun w' hF => fax 1 rfl U49 rfl Z24 rfl rfl rfl) rfl <| ds (v := pt b84 3) rfl (fun w' hF => fax 2 rfl U24 rfl Z22 rfl rfl rfl) rfl <| ds rfl (fun w' hF => ld rfl G22 ((hF.2.2.1 rfl))) rfl ?_; refine deE (Ctx.allocOp (cs := [.int .i64 0, .int .i64 0, .slice none 0 0]) hc V24 rfl) rfl rfl ?_; clear hc; rintro _ w165 ⟨b163, rfl, hc⟩; refine ⟨fun j hj hb => ⟨fun _ => hc.cell (k := 1) rfl rfl rfl, fun _ => hc.cell (k := 1) rfl rfl rfl, fun _ => hc.cell (k := 1) rfl rfl rfl, trivial⟩, ?_⟩; refine deE (Ctx.builtOp (css := []) (xs := ([] : List Int)) (E := (pInt .i64)) hc U22 Z3 V3 rfl rfl rfl rfl rfl rfl rfl rfl) rfl rfl ?_; clear hc; rintro _ w167 ⟨a166, rfl, hc⟩; refine ⟨fun j hj hb => ⟨fun _ => hc.cell (k := 2) rfl rfl rfl, fun _ => hc.cell (k := 2) rfl rfl rfl, fun _ => hc.cell (k := 2) rfl rfl rfl, trivial⟩, ?_⟩; obtain ⟨hg168, e169⟩ := app_some hz100055; refine deE (hc.ap 0 3 reads_ro U22 Try.t3 hg168) rfl rfl ?_; clear hc; rintro _ w172 ⟨a170, q171, rfl, hc⟩; rw [← e169] at hc ⊢; replace hc := Ctx.n0 hc; refine ⟨fun j hj hb => ⟨fun _ => hc.cell (k := 2) rfl rfl rfl, fun _ => hc.cell (k := 2) rfl rfl rfl, fun e => nja hj e, trivial⟩, ?_⟩; refine ds (v := .agg #[.int .i64 y73.R.ID, .int .i64 y73.R.Most, .slice a170 z100055.length q171]) rfl (fun w' hF => bd_24_0_1_2 rfl rfl rfl) rfl ?_; refine pad hc 1 Z24 ?_; clear hc; rintro w173 hc; refine ⟨fun j hj hb => ⟨fun e => nja hj e, fun e => nja hj e, fun e => nja hj e, trivial⟩, ?_⟩; refine dn (qn ?_); replace hc := hc.m [2, 2, 12, 12, 12, 12, 12]; exact ⟨⟨z100055, b163, a170, z100055.length, q171, rfl, hp, hc⟩, (kl rfl kb)⟩
                           · clear hp hc; intro vs u w174 hJ; obtain ⟨j134, b133, a135, n136, q137, rfl, hp, hc⟩ := hJ; obtain rfl := hc.rz 5 reads_own; unfold law21_AdmitActs.J7 at hp; refine Wseq (Wreg ?_); refine au 1 rfl <| lg G24 Z24 hc 6 ?_; replace hc := Ctx.anyB (m := 3) [.int .i64 y73.R.ID, .int .i64 y73.R.Most, .slice a135 j134.length q137] rfl rfl hc; refine rsE (Ctx.builtOp (css := [[.int .i64 y73.R.ID, .int .i64 y73.R.Most, .slice a135 j134.length q137]]) (xs := ([[.int .i64 y73.R.ID, .int .i64 y73.R.Most, .slice a135 j134.length q137]] : List (List Value))) (E := pAny 3) hc U45 Z24 V24 rfl rfl rfl rfl rfl rfl rfl rfl) rfl ?_; clear hc; rintro _ w177 ⟨a176, rfl, hc⟩; refine kz C9 ?_; refine Center (args := [pt b26 0, .slice a176 1 1]) (l := [(0, pt b26 0), (1, .slice a176 1 1)]) F9 M9 rfl rfl rfl ?_; refine Wseq (Wreg ?_); refine au 1 rfl <| rn (qn (Wseq (Wreg ?_))); refine au 1 rfl <| rn (qn (Wseq (Wseq (Wreg ?_)))); refine au 1 rfl <| sz (ln rfl U45) <| au 1 rfl <| rn (qn (Wblk ?_)); replace hc := hc.nilOwn (pInt .i64) 27; replace hc := hc.m [16, 16, 16, 16, 16, 16, 16, 16]; refine Wloop (rg [5, 1, 7, 2, 11, 35]) [5, 11] (fun m vs w' => ∃ j178 : S_admit_Desk, ∃ j179 : (List Int), ∃ j183 : Int, ∃ a180 n181 q182, vs = [.slice a180 n181 q182, .int .i64 j183] ∧ law21_AdmitActs.L8 N x1 j32 j34 y73 j134 (law21_AdmitActs.L3 N x1 x2 m3) m j178 j179 j183 = some r ∧ Ctx w' (Own (pAny 3) 24 (.slice a176 1 1) [[.int .i64 y73.R.ID, .int .i64 y73.R.Most, .slice a135 j134.length q137]] :: B b84 (S_law21_Act.cz y73 a82 q83) 49 :: hR .i64 a82 q83 y73.R.Prompt :: S_ref21_Desk.hp b29 j32 :: S_admit_Desk.hp b26 j178 :: P2 :: oR .i64 3 a135 q137 j134 :: B b133 [.int .i64 y73.R.ID, .int .i64 y73.R.Most, .slice a135 j134.length q137] 24 :: Own (pInt .i64) 27 (.slice a180 n181 q182) j179 :: Fr)) N ?_ ?_
                             · exact ⟨j33, [], 0, none, 0, 0, rfl, hp, hc⟩
                             · clear hp hc; intro m vs u w184 hJ; obtain ⟨j178, j179, j183, a180, n181, q182, rfl, hp, hc⟩ := hJ; obtain rfl := hc.rz 8 reads_own; rcases m with _ | m8
                               · cases (show none = some r from hp)
                               rw [law21_AdmitActs.L8] at hp; refine Wseq (Wreg ?_); refine au 1 rfl <| rn (qn (Wseq ?_)); refine Wif hp (fun _ h => ?_) fun _ h => ?_
                               · replace hp := h; clear h; refine Wexit (qx (qx (be (qn (Wseq (Wreg ?_)))))); refine au 2 rfl <| rn (qn (Wret ?_)); refine f1 (v := .slice a180 j179.length q182) R9 M9 rfl ?_; refine ⟨_, rfl, ?_⟩; refine au 1 rfl <| rn (qn (Wseq (Wseq ?_))); replace hc := hc.drew; refine Wdrw (fun j w' => (j = 6 → PinRow (pInt .i64) a180 j179 w') ∧ True) [0, 1, 3, 7, 15, 31, 63, 15, 15, 271, 911, 2047, 4095] 0 514 rfl (by kernel_rfl) (fun j hj => ⟨fun _ => PinRow.of hc (k := 8) rfl rfl reads_own (fun _ _ _ _ _ _ _ h1 h2 => h1.trans h2.symm), trivial⟩) ?_; generalize hw : World.drew w184 = w187 at *; clear hw; refine ad_ 1 rfl <| dx rfl (ln rfl U33) rfl rfl <| ad_ 2 rfl ?_; cases hb188 : (decide (((j179.length : Nat) : Int) ≠ 1))
                                 · replace hp := gneg hp (of_decide_eq_false hb188); refine ad_ 1 rfl ?_; replace hp := bind_some hp; obtain ⟨y189, hy189, hp⟩ := hp; obtain ⟨b192, o193, rfl, hi190, hi191⟩ := hc.ra 8 reads_own hy189; refine ds rfl (fun w' hF => ixx rfl rfl U33 Z27 hi190 hi191 rfl) rfl ?_; have hcell196 := hc.rv 8 reads_own hy189; refine ds rfl (fun w' hF => ld rfl G27 ((hF.1 rfl) _ _ _ _ hy189 rfl w' (fun _ => True) _ rfl 0 _ rfl)) rfl <| ad_ 1 rfl <| ds (v := pt b84 1) rfl (fun w' hF => fax 1 rfl U49 rfl Z24 rfl rfl rfl) rfl <| dx (v := .agg (S_api_Request.cz y73.R a82 q83).toArray) rfl (ldg rfl G24 Z24 rfl (Ctx.cells hc (k := 1) rfl rfl 1 (vs := (S_api_Request.cz y73.R a82 q83)) rfl)) rfl rfl ?_; replace hc := hc.dz 2; replace hp := bind_some hp; obtain ⟨r198, hr198, hp⟩ := hp; replace hc := hc.m [8]; refine dc (cl C16 rfl rfl) rfl rfl ?_; refine ref21_Desk_Submit_any (x1 := y73.R) hc hr198 ?_; clear hc; intro w199 hc; refine ⟨fun j hj hb => ⟨fun _ => PinRow.of hc (k := 8) rfl rfl reads_own (fun _ _ _ _ _ _ _ h1 h2 => h1.trans h2.symm), trivial⟩, ?_⟩; refine ad_ 2 rfl <| dn (qn ?_); refine Wif hp (fun _ h => ?_) fun _ h => ?_
                                   · replace hp := h; clear h; refine Wskip (qn (Wseq (Wreg ?_))); refine au 1 rfl <| rn (qn (Wblk ?_)); replace hc := hc.m [17, 3]; refine Wloop (rg [14, 1, 116, 11]) [14] (fun m vs w' => ∃ j201 : (List Int), ∃ j205 : Int, vs = [.int .i64 j205] ∧ law21_AdmitActs.L9 N x1 j34 y73 j134 j178 r198 (law21_AdmitActs.L3 N x1 x2 m3) m j201 j205 = some r ∧ Ctx w' (S_ref21_Desk.hp b29 r198.2 :: B b84 (S_law21_Act.cz y73 a82 q83) 49 :: hR .i64 a82 q83 y73.R.Prompt :: S_admit_Desk.hp b26 j178 :: P2 :: Own (pInt .i64) 3 (.slice a135 j134.length q137) j201 :: B b133 [.int .i64 y73.R.ID, .int .i64 y73.R.Most, .slice a135 j134.length q137] 24 :: Fr)) N ?_ ?_
                                     · exact ⟨j134, 0, rfl, hp, hc⟩
                                     · clear hp hc; intro m vs u w206 hJ; obtain ⟨j201, j205, rfl, hp, hc⟩ := hJ; rcases m with _ | m9
                                       · cases (show none = some r from hp)
                                       rw [law21_AdmitActs.L9] at hp; refine Wseq (Wseq (Wreg ?_)); refine au 1 rfl ?_; refine fq 2 U24 Z22 G22 hc 6 ?_; refine sz (ln rfl U22) <| au 1 rfl <| rn (qn ?_); refine Wif hp (fun _ h => ?_) fun _ h => ?_
                                       · replace hp := h; clear h; refine Wexit (qx (qx (be (bn (qn ?_))))); replace hc := hc.m [13, 11, 8, 8, 4, 8, 8]; exact ⟨⟨r198.2, j178, rfl, hp, hc⟩, (kl rfl (km rfl (kl rfl (km rfl (kl rfl kb)))))⟩
                                       · replace hp := h; clear h; refine Wskip (qn (Wseq (Wblk (Wreg ?_)))); refine fq 2 U24 Z22 G22 hc 6 ?_; refine au 1 rfl ?_; replace hp := bind_some hp; obtain ⟨y208, hy208, hp⟩ := hp; obtain ⟨b211, o212, rfl, hi209, hi210⟩ := hc.ra 5 reads_own hy208; refine sz (ixx rfl rfl U22 Z3 hi209 hi210 rfl) ?_; refine ruE (Ctx.ownPutOp hc (k := 5) rfl rfl (z := y208) (z' := (-1)) hy208 0 rfl (u := .int .i64 (-1)) rfl rfl rfl Z3 (fun _ _ _ h => by cases h; rfl) rfl) rfl ?_; clear hc; rintro w214 hc; replace hc := Ctx.n5 hc; refine rn (bn (qn (Wreg ?_))); refine au 3 rfl <| rn (qn ?_); exact ⟨m9, Nat.lt_succ_self _, ⟨(j201.set (j205).toNat (-1)), (IntKind.i64.wrap (j205 + 1)), rfl, hp, hc⟩, (kl rfl k0)⟩
                                   · replace hp := h; clear h; refine Wseq (Wreg ?_); refine au 1 rfl <| rn (qn (Wret (qr (br (qr (br (qr (qr (br (qr ?_)))))))))); replace hc := hc.m [17, 15, 13, 9, 7, 5, 3, 1]; obtain rfl := sj hp; exact fz R4 M4 (k _ hc)
                                 · replace hp := gpos hp (of_decide_eq_true hb188); (iterate 8 refine d0 rfl rfl ?_); refine ad_ 1 rfl <| dn (qn (Wct rfl (Wseq (Wreg ?_)))); refine au 1 rfl <| rn (qn (Wret (qr (br (qr (br (qr (qr (br (qr ?_)))))))))); replace hc := hc.m [17, 15, 13, 9, 7, 5, 3, 1]; obtain rfl := sj hp; exact fz R4 M4 (k _ hc)
                               · replace hp := h; clear h; refine Wskip (qn (Wseq (Wblk (Wseq (Wreg ?_))))); replace hp := bind_some hp; obtain ⟨y215, hy215, hp⟩ := hp; have ha216 := idx_one (h := ([.int .i64 y73.R.ID, .int .i64 y73.R.Most, .slice a135 j134.length q137] : List Value)) hy215; have hln := Ctx.rdLen hc (k := 0) rfl rfl reads_own; obtain ⟨b219, o220, u221, hi217, hi218⟩ := Ctx.rdAt hc (k := 0) rfl rfl reads_own ha216; clear hln; subst u221; refine sz (ixx rfl rfl U45 Z24 hi217 hi218 rfl) <| sz (v := .agg #[.int .i64 y73.R.ID, .int .i64 y73.R.Most, .slice a135 j134.length q137]) (ldg rfl G24 Z24 rfl (elCells (Ctx.rdAny hc (k := 0) rfl rfl ha216) 0 (vs := [.int .i64 y73.R.ID, .int .i64 y73.R.Most, .slice a135 j134.length q137]) rfl)) ?_; refine rsE (Ctx.allocOp (cs := [.int .i64 0, .int .i64 0, .slice none 0 0]) hc V24 rfl) rfl ?_; clear hc; rintro _ w224 ⟨b222, rfl, hc⟩; refine pa hc 0 Z24 ?_; clear hc; rintro w225 hc; refine rn (qn ?_); refine Wseqm [8, 15, 16, 17] [8] (fun vs w' => ∃ j226 : Int, vs = [.int .i64 j226] ∧ law21_AdmitActs.J10 y73 j134 j178 j179 j183 (law21_AdmitActs.L8 N x1 j32 j34 y73 j134 (law21_AdmitActs.L3 N x1 x2 m3) m8) j226 = some r ∧ Ctx w' (B b222 [.int .i64 y73.R.ID, .int .i64 y73.R.Most, .slice a135 j134.length q137] 24 :: Own (pAny 3) 24 (.slice (some ⟨b219, o220, none⟩) 1 1) [[.int .i64 y73.R.ID, .int .i64 y73.R.Most, .slice a135 j134.length q137]] :: B b84 (S_law21_Act.cz y73 a82 q83) 49 :: hR .i64 a82 q83 y73.R.Prompt :: S_ref21_Desk.hp b29 j32 :: S_admit_Desk.hp b26 j178 :: P2 :: oR .i64 3 a135 q137 j134 :: B b133 [.int .i64 y73.R.ID, .int .i64 y73.R.Most, .slice a135 j134.length q137] 24 :: oR .i64 27 a180 q182 j179 :: Fr)) ?_ ?_
                                 · refine Wreg <| au 1 rfl <| lg G24 Z24 hc 0 ?_; refine kz C11 ?_; refine Center (args := [pt b26 0, .agg #[.int .i64 y73.R.ID, .int .i64 y73.R.Most, .slice a135 j134.length q137]]) (l := [(0, pt b26 0), (1, .agg #[.int .i64 y73.R.ID, .int .i64 y73.R.Most, .slice a135 j134.length q137])]) F11 M11 rfl rfl rfl ?_; refine Wseq (Wreg ?_); refine rsE (Ctx.boxOp (cs := [.int .i64 y73.R.ID, .int .i64 y73.R.Most, .slice a135 j134.length q137]) (v := .agg #[.int .i64 y73.R.ID, .int .i64 y73.R.Most, .slice a135 j134.length q137]) hc rfl rfl) rfl ?_; clear hc; rintro _ w229 ⟨b227, rfl, hc⟩; refine au 1 rfl <| rn (qn (Wseq (Wblk (Wseq (Wreg ?_))))); refine fq 0 U24 Z3 G3 hc 0 ?_; refine au 2 rfl ?_; cases hb230 : (decide (y73.R.ID < 0))
                                   · replace hp := gneg hp (of_decide_eq_false hb230); refine fq 0 U24 Z3 G3 hc 0 ?_; refine au 3 rfl <| rn (qn ?_); refine Wif hp (fun _ h => ?_) fun _ h => ?_
                                     · replace hp := h; clear h; refine Wseq ?_; replace hc := hc.m [12]; replace hc := S_admit_Desk.uf hc; obtain ⟨a232, q233, v234, hc⟩ := hc; replace hc := hc.drew; refine Wdrw (fun _ w' => w' = World.drew w229) [0, 1, 3, 7, 0, 16, 63, 127] 0 0 rfl (by kernel_rfl) (fun _ _ => rfl) ?_; generalize hw : World.drew w229 = w235 at *; clear hw; refine ad_ 2 rfl <| dE (v := pt b26 8) (fax 8 rfl U59 rfl Z57 rfl rfl rfl) rfl rfl <| dE (ld rfl G57 (Ctx.cell hc (k := 0) rfl rfl rfl)) rfl rfl <| dE (v := pt b227 0) (fax 0 rfl U24 rfl Z3 rfl rfl rfl) rfl rfl <| dE (ld rfl G3 (Ctx.cell hc (k := 3) rfl rfl rfl)) rfl rfl <| dE (v := .bool ((mget j178.took y73.R.ID).getD false)) (Ctx.mpGetC (f := fun x => [.bool x]) (fun _ _ _ _ h => h) (keyL_int U3) hc (i := 2) rfl rfl U57 rfl rfl V4 rfl (fun _ _ => rfl) rfl) rfl rfl <| ad_ 1 rfl <| dn (qn ?_); cases hb236 : ((mget j178.took y73.R.ID).getD false)
                                       · replace hp := gneg hp (by rw [hb236]; exact Bool.false_ne_true); refine Wcf rfl (Wskip (bn (qn (Wseq (Wseq ?_))))); replace hc := hc.drew; refine Wdrw (fun j w' => True) [0, 1, 3, 7, 0, 16, 0, 64, 255, 511] 0 168 rfl (by kernel_rfl) (fun _ _ => trivial) ?_; generalize hw : World.drew w235 = w237 at *; clear hw; refine ad_ 2 rfl <| ds (v := pt b26 0) rfl (fun w' hF => fax 0 rfl U59 rfl Z31 rfl rfl rfl) rfl <| dx (v := .agg (S_api_Shape.cz j178.s).toArray) rfl (ldg rfl G31 Z31 rfl (Ctx.cells hc (k := 0) rfl rfl 0 (vs := (S_api_Shape.cz j178.s)) rfl)) rfl rfl <| ds (v := pt b227 2) rfl (fun w' hF => fax 2 rfl U24 rfl Z22 rfl rfl rfl) rfl <| dx rfl (ld rfl G22 (Ctx.cell hc (k := 3) rfl rfl rfl)) rfl rfl <| ds (v := pt b227 1) rfl (fun w' hF => fax 1 rfl U24 rfl Z3 rfl rfl rfl) rfl <| dx rfl (ld rfl G3 (Ctx.cell hc (k := 3) rfl rfl rfl)) rfl rfl ?_; replace hp := bind_some hp; obtain ⟨r238, hr238, hp⟩ := hp; replace hc := hc.m [20]; refine dc (cl C26 rfl rfl) rfl rfl ?_; refine gen_Check_any (x0 := j178.s) reads_own hc hr238 ?_; clear hc; intro w239 hc; refine ⟨fun j hj hb => trivial, ?_⟩; refine ad_ 1 rfl <| dn (qn (Wseq (Wreg ?_))); refine au 2 rfl <| rn (qn ?_); refine Wif hp (fun _ h => ?_) fun _ h => ?_
                                         · replace hp := h; clear h; refine Wskip (qn (Wseq (Wseq ?_))); replace hc := hc.drew; refine Wdrw (fun _ w' => w' = World.drew w239) [0, 1, 3, 7, 15, 0, 32, 96, 224, 511] 0 0 rfl (by kernel_rfl) (fun _ _ => rfl) ?_; generalize hw : World.drew w239 = w241 at *; clear hw; refine ad_ 2 rfl <| dE (v := pt b26 7) (fax 7 rfl U59 rfl Z45 rfl rfl rfl) rfl rfl <| dE (ld rfl G45 (Ctx.cell hc (k := 1) rfl rfl rfl)) rfl rfl <| dE (ln rfl U45) rfl rfl <| ad_ 2 rfl <| dE (v := pt b26 6) (fax 6 rfl U59 rfl Z3 rfl rfl rfl) rfl rfl <| dE (ld rfl G3 (Ctx.cell hc (k := 1) rfl rfl rfl)) rfl rfl <| ad_ 1 rfl <| dn (qn ?_); refine Wif hp (fun _ h => ?_) fun _ h => ?_
                                           · replace hp := h; clear h; refine Wskip (qn (Wseq (Wreg ?_))); refine au 1 rfl <| rn (qn (Wret ?_)); refine f1 (v := .int .i64 0) R11 M11 rfl ?_; refine ⟨_, rfl, ?_⟩; refine au 1 rfl <| rn (qn ?_); replace hc := hc.m [6, 6, 6]; replace hc := S_admit_Desk.fd (x := j178) hc; replace hc := hc.m [5, 18, 18, 6, 18, 8, 18, 18, 18, 18, 18]; exact ⟨⟨0, rfl, hp, hc⟩, (kl rfl kb)⟩
                                           · replace hp := h; clear h; refine Wseq (Wreg ?_); refine au 1 rfl <| rn (qn (Wret (qr ?_))); refine f1 (v := .int .i64 211) R11 M11 rfl ?_; refine ⟨_, rfl, ?_⟩; refine au 1 rfl <| rn (qn ?_); replace hc := hc.m [6, 6, 6]; replace hc := S_admit_Desk.fd (x := j178) hc; replace hc := hc.m [5, 18, 18, 6, 18, 8, 18, 18, 18, 18, 18]; exact ⟨⟨211, rfl, hp, hc⟩, (kl rfl kb)⟩
                                         · replace hp := h; clear h; refine Wseq (Wreg ?_); refine au 2 rfl <| rn (qn (Wret (qr ?_))); refine f1 (v := .int .i64 r238) R11 M11 rfl ?_; refine ⟨_, rfl, ?_⟩; refine au 1 rfl <| rn (qn ?_); replace hc := hc.m [6, 6, 6]; replace hc := S_admit_Desk.fd (x := j178) hc; replace hc := hc.m [5, 18, 18, 6, 18, 8, 18, 18, 18, 18, 18]; exact ⟨⟨r238, rfl, hp, hc⟩, (kl rfl kb)⟩
                                       · replace hp := gpos hp hb236; refine Wct rfl (Wseq (Wreg ?_)); refine au 1 rfl <| rn (qn (Wret (br (qr ?_)))); refine f1 (v := .int .i64 210) R11 M11 rfl ?_; refine ⟨_, rfl, ?_⟩; refine au 1 rfl <| rn (qn ?_); replace hc := hc.m [4, 4, 4]; replace hc := S_admit_Desk.fd (x := j178) hc; replace hc := hc.m [3, 18, 18, 18, 18, 8, 18, 18, 18, 18, 18]; exact ⟨⟨210, rfl, hp, hc⟩, (kl rfl kb)⟩
                                     · replace hp := h; clear h; refine Wseq (Wreg ?_); refine au 1 rfl <| rn (qn (Wret (br (qr ?_)))); refine f1 (v := .int .i64 2) R11 M11 rfl ?_; refine ⟨_, rfl, ?_⟩; refine au 1 rfl <| rn (qn ?_); replace hc := hc.m [1]; exact ⟨⟨2, rfl, hp, hc⟩, (kl rfl kb)⟩
                                   · replace hp := gpos hp (of_decide_eq_true hb230); (iterate 3 refine r0 rfl ?_); refine au 2 rfl <| rn (qn (Wct rfl (Wseq (Wreg ?_)))); refine au 1 rfl <| rn (qn (Wret (br (qr ?_)))); refine f1 (v := .int .i64 2) R11 M11 rfl ?_; refine ⟨_, rfl, ?_⟩; refine au 1 rfl <| rn (qn ?_); replace hc := hc.m [1]; exact ⟨⟨2, rfl, hp, hc⟩, (kl rfl kb)⟩
                                 · clear hp hc; intro vs u w243 hJ; obtain ⟨j226, rfl, hp, hc⟩ := hJ; unfold law21_AdmitActs.J10 at hp; refine Wseqm (rg [18, 23]) [] (fun vs w' => ∃ j244 : S_admit_Desk, vs = [] ∧ law21_AdmitActs.J11 j179 j183 j226 (law21_AdmitActs.L8 N x1 j32 j34 y73 j134 (law21_AdmitActs.L3 N x1 x2 m3) m8) j244 = some r ∧ Ctx w' (Own (pAny 3) 24 (.slice (some ⟨b219, o220, none⟩) 1 1) [[.int .i64 y73.R.ID, .int .i64 y73.R.Most, .slice a135 j134.length q137]] :: B b84 (S_law21_Act.cz y73 a82 q83) 49 :: hR .i64 a82 q83 y73.R.Prompt :: S_ref21_Desk.hp b29 j32 :: S_admit_Desk.hp b26 j244 :: P2 :: oR .i64 3 a135 q137 j134 :: B b133 [.int .i64 y73.R.ID, .int .i64 y73.R.Most, .slice a135 j134.length q137] 24 :: oR .i64 27 a180 q182 j179 :: Fr)) ?_ ?_
                                   · refine Wseq (Wreg ?_); refine au 2 rfl <| rn (qn ?_); refine Wif hp (fun _ h => ?_) fun _ h => ?_
                                     · replace hp := h; clear h; refine Wskip (qn ?_); replace hc := hc.m [1]; exact ⟨⟨j178, rfl, hp, hc⟩, (kl rfl kb)⟩
                                     · replace hp := h; clear h; refine Wseq (Wreg ?_); refine fq 2 U24 Z22 G22 hc 0 ?_; replace hp := bind_some hp; obtain ⟨r246, hr246, hp⟩ := hp; replace hc := hc.m [14]; refine kz C24 ?_; refine slices_Clone_s_int_int_any reads_own hc hr246 ?_; clear hc; intro a247 n248 q249 w250 hc; obtain rfl := hc.rz 0 reads_own; refine sz (v := pt b222 2) (fax 2 rfl U24 rfl Z22 rfl rfl rfl) <| po hc 2 Z22 ?_; clear hc; rintro w252 hc; refine rn (qn (Wseq ?_)); replace hc := hc.m [14]; replace hc := S_admit_Desk.uf hc; obtain ⟨a253, q254, v255, hc⟩ := hc; replace hc := hc.drew; refine Wdrw (fun j w' => (j = 4 → w'.cell? ⟨b26, 7, none⟩ = some (.slice a253 j178.row.length q254)) ∧ True) [0, 0, 2, 6, 14, 0, 32, 126, 255, 511, 1023] 0 32 rfl (by kernel_rfl) (fun j hj => ⟨fun _ => hc.cell (k := 0) rfl rfl rfl, trivial⟩) ?_; generalize hw : World.drew w252 = w256 at *; clear hw; refine ad_ 3 rfl <| ds (v := pt b26 7) rfl (fun w' hF => fax 7 rfl U59 rfl Z45 rfl rfl rfl) rfl <| ds rfl (fun w' hF => ld rfl G45 ((hF.1 rfl))) rfl <| dx (v := .agg #[.int .i64 y73.R.ID, .int .i64 y73.R.Most, .slice a247 r246.length q249]) rfl (ldg rfl G24 Z24 rfl (Ctx.cells hc (k := 5) rfl rfl 0 (vs := [.int .i64 y73.R.ID, .int .i64 y73.R.Most, .slice a247 r246.length q249]) rfl)) rfl rfl ?_; replace hc := hc.freeze (k := 3) rfl rfl rfl; replace hc := Ctx.n3 hc; replace hc := hc.dz 3; replace hc : Ctx w256 (Hold S_api_Request.pr [.int .i64 y73.R.ID, .int .i64 y73.R.Most, .slice a247 r246.length q249] (⟨y73.R.ID, y73.R.Most, r246⟩ : S_api_Request) :: B b26 [.int .i64 j178.s.Layers, .int .i64 j178.s.Width, .int .i64 j178.s.Heads, .int .i64 j178.s.Inner, .int .i64 j178.s.Vocab, .int .i64 j178.s.Places, .int .i64 j178.room, .slice a253 j178.row.length q254, .map (some v255)] 59 :: Own S_api_Request.pr 24 (.slice a253 j178.row.length q254) j178.row :: Mp (ekI .i64) (HV vf1 pBool) v255 j178.took :: hR .i64 a247 q249 r246 :: oR .i64 3 a135 q137 j134 :: B b222 [.int .i64 y73.R.ID, .int .i64 y73.R.Most, .slice a247 r246.length q249] 24 :: Own (pAny 3) 24 (.slice (some ⟨b219, o220, none⟩) 1 1) [[.int .i64 y73.R.ID, .int .i64 y73.R.Most, .slice a135 j134.length q137]] :: B b84 (S_law21_Act.cz y73 a82 q83) 49 :: hR .i64 a82 q83 y73.R.Prompt :: S_ref21_Desk.hp b29 j32 :: P2 :: B b133 [.int .i64 y73.R.ID, .int .i64 y73.R.Most, .slice a135 j134.length q137] 24 :: oR .i64 27 a180 q182 j179 :: Fr) := S_api_Request.cl hc; refine deE (Ctx.builtOp (css := [[.int .i64 y73.R.ID, .int .i64 y73.R.Most, .slice a247 r246.length q249]]) (xs := ([(⟨y73.R.ID, y73.R.Most, r246⟩ : S_api_Request)] : List S_api_Request)) (E := S_api_Request.pr) hc U45 Z24 V24 rfl rfl rfl rfl rfl rfl rfl rfl) rfl rfl ?_; clear hc; rintro _ w258 ⟨a257, rfl, hc⟩; refine ⟨fun j hj hb => ⟨fun _ => hc.cell (k := 1) rfl rfl rfl, trivial⟩, ?_⟩; replace hp := bind_some hp; obtain ⟨z259, hz259, hp⟩ := hp; obtain ⟨hg260, e261⟩ := app_some hz259; refine deE (hc.ap 2 0 reads_own U45 Try.t24 hg260) rfl rfl ?_; clear hc; rintro _ w264 ⟨a262, q263, rfl, hc⟩; rw [← e261] at hc ⊢; replace hc := Ctx.n2 hc; refine ⟨fun j hj hb => ⟨fun e => nja hj e, trivial⟩, ?_⟩; refine ad_ 1 rfl <| ds (v := pt b26 7) rfl (fun w' hF => fax 7 rfl U59 rfl Z45 rfl rfl rfl) rfl ?_; refine pod hc 1 Z45 ?_; clear hc; rintro w265 hc; refine ⟨fun j hj hb => ⟨fun e => nja hj e, trivial⟩, ?_⟩; refine dn (qn ?_); replace hc := hc.drew; refine Wdrw (fun j w' => True) [0, 1, 3, 7, 0, 16, 63] 0 40 rfl (by kernel_rfl) (fun _ _ => trivial) ?_; generalize hw : World.drew w265 = w266 at *; clear hw; refine ad_ 2 rfl <| ds (v := pt b26 8) rfl (fun w' hF => fax 8 rfl U59 rfl Z57 rfl rfl rfl) rfl <| dx rfl (ld rfl G57 (Ctx.cell hc (k := 1) rfl rfl rfl)) rfl rfl <| ds (v := pt b222 0) rfl (fun w' hF => fax 0 rfl U24 rfl Z3 rfl rfl rfl) rfl <| dx rfl (ld rfl G3 (Ctx.cell hc (k := 6) rfl rfl rfl)) rfl rfl ?_; replace hp := bind_some hp; obtain ⟨r267, hr267, hp⟩ := hp; replace hc := hc.m [6]; refine dc (cl C25 rfl rfl) rfl rfl ?_; refine admit_set_int_put_any hc hr267 ?_; clear hc; intro w268 hc; refine ⟨fun j hj hb => trivial, ?_⟩; refine dn (qn ?_); replace hc := hc.m [6, 6]; replace hc := S_admit_Desk.fd (x := (⟨j178.s, j178.room, z259, r267⟩ : S_admit_Desk)) hc; replace hc := hc.m [9, 5, 3, 16, 16, 6, 16, 8, 16, 16, 16, 16]; exact ⟨⟨(⟨j178.s, j178.room, z259, r267⟩ : S_admit_Desk), rfl, hp, hc⟩, (kl rfl kb)⟩
                                   · clear hp hc; intro vs u w269 hJ; obtain ⟨j244, rfl, hp, hc⟩ := hJ; unfold law21_AdmitActs.J11 at hp; refine Wreg <| au 2 rfl ?_; refine rsE (oneI hc U33 Z27 V27) rfl ?_; clear hc; rintro _ w271 ⟨a270, rfl, hc⟩; replace hp := bind_some hp; obtain ⟨z272, hz272, hp⟩ := hp; obtain ⟨hg273, e274⟩ := app_some hz272; refine rsE (hc.ap 9 0 reads_own U33 Try.t27 hg273) rfl ?_; clear hc; rintro _ w277 ⟨a275, q276, rfl, hc⟩; rw [← e274] at hc ⊢; replace hc := Ctx.n9 hc; refine au 1 rfl <| rn (bn (qn (Wreg ?_))); refine au 2 rfl <| rn (qn ?_); replace hc := hc.m [1]; exact ⟨m8, Nat.lt_succ_self _, ⟨j244, z272, (IntKind.i64.wrap (j183 + 1)), a275, z272.length, q276, rfl, hp, hc⟩, (kl rfl (km rfl (kl rfl (km rfl (kl rfl k0)))))⟩
                       · clear hp hc; intro vs u w278 hJ; obtain ⟨j89, j90, rfl, hp, hc⟩ := hJ; unfold law21_AdmitActs.J6 at hp; refine Wseq ?_; replace hc := hc.m [4]; replace hc := S_ref21_Desk.uf hc; obtain ⟨a279, q280, a281, q282, hc⟩ := hc; replace hc := hc.drew; refine Wdrw (fun j w' => (j = 5 → w'.cell? ⟨b29, 7, none⟩ = some (.slice a279 j89.L.length q280)) ∧ (j = 23 → w'.cell? ⟨b84, 1, none⟩ = some (.int .i64 y73.R.ID)) ∧ True) [0, 1, 0, 4, 12, 28, 60, 127, 255, 511, 1023, 511, 4095, 8191, 16383, 32767, 32767, 98303, 229375, 524287, 32767, 32767, 2129919, 6324223, 16777215, 33554431, 67108863] 1026 262144 rfl (by kernel_rfl) (fun j hj => ⟨fun _ => hc.cell (k := 0) rfl rfl rfl, fun e => (by subst e; exact absurd hj (by decide)), trivial⟩) ?_; generalize hw : World.drew w278 = w283 at *; clear hw; refine ad_ 1 rfl ?_; replace hp := bind_some hp; obtain ⟨r284, hr284, hp⟩ := hp; replace hc := hc.m [10]; refine dc (cl C14 rfl rfl) rfl rfl ?_; refine admit_Desk_Len_any hc hr284 ?_; clear hc; intro w285 hc; refine ⟨fun j hj hb => ⟨fun _ => hc.cell (k := 1) rfl rfl rfl, fun e => (by subst e; exact absurd hb (by decide)), trivial⟩, ?_⟩; refine ad_ 2 rfl <| ds (v := pt b29 7) rfl (fun w' hF => fax 7 rfl U47 rfl Z45 rfl rfl rfl) rfl <| ds rfl (fun w' hF => ld rfl G45 ((hF.1 rfl))) rfl <| ds rfl (fun w' hF => ln rfl U45) rfl <| ad_ 2 rfl ?_; cases hb286 : (decide (r284 ≠ ((j89.L.length : Nat) : Int)))
                         · replace hp := gneg hp (of_decide_eq_false hb286); refine ad_ 1 rfl ?_; replace hp := bind_some hp; obtain ⟨r287, hr287, hp⟩ := hp; refine dc (cl C14 rfl rfl) rfl rfl ?_; refine admit_Desk_Len_any hc hr287 ?_; clear hc; intro w288 hc; refine ⟨fun j hj hb => ⟨fun e => nja hj e, fun _ => hc.cell (k := 4) rfl rfl rfl, trivial⟩, ?_⟩; refine ad_ 4 rfl ?_; cases hb289 : (decide (r287 > x1))
                           · replace hp := gneg hp (of_decide_eq_false hb289); refine ad_ 1 rfl <| ds (v := pt b84 1) rfl (fun w' hF => fax 1 rfl U49 rfl Z24 rfl rfl rfl) rfl <| ds (v := pt b84 1) rfl (fun w' hF => fax 0 rfl U24 rfl Z3 rfl rfl rfl) rfl <| dx rfl (ld rfl G3 (Ctx.cell hc (k := 4) rfl rfl rfl)) rfl rfl ?_; replace hp := bind_some hp; obtain ⟨r290, hr290, hp⟩ := hp; refine dc (cl C13 rfl rfl) rfl rfl ?_; refine admit_Desk_Took_any hc hr290 ?_; clear hc; intro w291 hc; refine ⟨fun j hj hb => ⟨fun e => nja hj e, fun _ => hc.cell (k := 4) rfl rfl rfl, trivial⟩, ?_⟩; refine ad_ 1 rfl <| ds (v := pt b84 1) rfl (fun w' hF => fax 1 rfl U49 rfl Z24 rfl rfl rfl) rfl <| ds (v := pt b84 1) rfl (fun w' hF => fax 0 rfl U24 rfl Z3 rfl rfl rfl) rfl <| ds rfl (fun w' hF => ld rfl G3 ((hF.2.1 rfl))) rfl ?_; replace hc := hc.m [6, 6, 6]; replace hc := S_ref21_Desk.fd (x := j89) hc; replace hp := bind_some hp; obtain ⟨r292, hr292, hp⟩ := hp; refine dc (cl C22 rfl rfl) rfl rfl ?_; refine ref21_Desk_Took_any hc hr292 ?_; clear hc; intro w293 hc; replace hc := S_ref21_Desk.uf hc; obtain ⟨a294, q295, a296, q297, hc⟩ := hc; refine ⟨fun j hj hb => ⟨fun e => nja hj e, fun e => nja hj e, trivial⟩, ?_⟩; refine ds (v := .bool (!(r290 == r292))) rfl (fun w' hF => neb U4 rfl rfl) rfl <| ad_ 1 rfl <| dn (qn ?_); cases hb298 : (!(r290 == r292))
                             · replace hp := gneg hp (by rw [hb298]; exact Bool.false_ne_true); refine Wcf rfl (Wskip (bn (qn (Wreg ?_)))); refine au 3 rfl <| rn (qn ?_); replace hc := hc.m [4, 4, 4]; replace hc := S_ref21_Desk.fd (x := j89) hc; replace hc := hc.m [7, 5]; exact ⟨m3, Nat.lt_succ_self _, ⟨j89, j90, (IntKind.i64.wrap (j34 + 1)), rfl, hp, hc⟩, (kl rfl (km rfl (kl rfl k0)))⟩
                             · replace hp := gpos hp hb298; refine Wct rfl (Wseq (Wreg ?_)); refine au 1 rfl <| rn (qn (Wret (br (qr (qr (br (qr ?_))))))); replace hc := hc.m [11, 9, 7, 5, 3, 1]; obtain rfl := sj hp; exact fz R4 M4 (k _ hc)
                           · replace hp := gpos hp (of_decide_eq_true hb289); (iterate 11 refine d0 rfl rfl ?_); refine ad_ 1 rfl <| dn (qn (Wct rfl (Wseq (Wreg ?_)))); refine au 1 rfl <| rn (qn (Wret (br (qr (qr (br (qr ?_))))))); replace hc := hc.m [11, 9, 7, 5, 3, 1]; obtain rfl := sj hp; exact fz R4 M4 (k _ hc)
                         · replace hp := gpos hp (of_decide_eq_true hb286); refine d0 rfl rfl ?_; refine d0e rfl (fun j hj hb => ⟨fun e => nja hj e, fun _ => hc.cell (k := 4) rfl rfl rfl, trivial⟩) rfl ?_; (iterate 2 refine d0 rfl rfl ?_); refine ad_ 2 rfl ?_; (iterate 11 refine d0 rfl rfl ?_); refine ad_ 1 rfl <| dn (qn (Wct rfl (Wseq (Wreg ?_)))); refine au 1 rfl <| rn (qn (Wret (br (qr (qr (br (qr ?_))))))); replace hc := hc.m [11, 9, 7, 5, 3, 1]; obtain rfl := sj hp; exact fz R4 M4 (k _ hc)
                     · replace hp := h; clear h; refine Wseq (Wreg ?_); refine au 1 rfl <| rn (qn (Wret (qr (br (qr (qr (br (qr ?_)))))))); replace hc := hc.m [7, 5, 3, 1]; obtain rfl := sj hp; exact fz R4 M4 (k _ hc)
               · replace hp := h; clear h; refine Wseq (Wreg ?_); refine au 1 rfl <| rn (qn (Wret (qr ?_))); replace hc := hc.m [3, 1]; obtain rfl := sj hp; exact fz R4 M4 (k _ hc)
           · replace hp := gpos hp hb22; subst hb22; refine Wct rfl (Wseq (Wreg ?_)); refine au 1 rfl ?_; cases hb299 : r10.1
             · replace hp := optN hp hb299; rw [hb299] at hc; replace hc := Ctx.ptoN hc; obtain ⟨u301, hc⟩ := hc; subst u301; refine sz (v := .bool true) (ept U26 rfl rfl) <| au 5 rfl <| rn (qn (Wret (qr ?_))); replace hc := hc.m [1]; obtain rfl := sj hp; exact fz R4 M4 (k _ hc)
             · rename_i y300; replace hp := optS hp hb299; rw [hb299] at hc; replace hc := Ctx.ptoS hc; obtain ⟨b302, u303, hc⟩ := hc; subst u303; refine sz (v := .bool false) (epf U26 rfl rfl) <| au 1 rfl ?_; (iterate 2 refine r0 rfl ?_); refine au 2 rfl <| rn (qn (Wret (qr ?_))); replace hc := hc.m [3, 1]; obtain rfl := sj hp; exact fz R4 M4 (k _ hc)
       · replace hp := gpos hp hb18; subst hb18; refine Wct rfl (Wseq (Wreg ?_)); refine au 1 rfl ?_; cases hb304 : r10.1
         · replace hp := optN hp hb304; rw [hb304] at hc; replace hc := Ctx.ptoN hc; obtain ⟨u306, hc⟩ := hc; subst u306; refine sz (v := .bool true) (ept U26 rfl rfl) <| au 5 rfl <| rn (qn (Wret (qr ?_))); replace hc := hc.m [1]; obtain rfl := sj hp; exact fz R4 M4 (k _ hc)
         · rename_i y305; replace hp := optS hp hb304; rw [hb304] at hc; replace hc := Ctx.ptoS hc; obtain ⟨b307, u308, hc⟩ := hc; subst u308; refine sz (v := .bool false) (epf U26 rfl rfl) <| au 1 rfl ?_; (iterate 2 refine r0 rfl ?_); refine au 2 rfl <| rn (qn (Wret (qr ?_))); replace hc := hc.m [3, 1]; obtain rfl := sj hp; exact fz R4 M4 (k _ hc)
   · replace hp := h; clear h; refine Wseq (Wreg ?_); replace hp := bind_some hp; obtain ⟨r309, hr309, hp⟩ := hp; refine kz C6 ?_; refine law21_awake_any hc hr309 ?_; clear hc; intro w310 hc; refine au 1 rfl <| rn (qn (Wret (qr ?_))); replace hc := hc.m [1]; obtain rfl := sj hp; exact fz R4 M4 (k _ hc)

end Go.Proofs.Ytglllajndogcmaa
end
section
namespace Go.Hp
open Go
theorem W_in {x : Int} (h : -9223372036854775808 ≤ x ∧ x ≤ 9223372036854775807) : IntKind.i64.wrap x = x := IntWalk.i64_in x h
theorem W_succ (k : Nat) (h : k < 4611686018427387904) : IntKind.i64.wrap ((k : Int) + 1) = ((k + 1 : Nat) : Int) := by rw [W_in (by omega)]; rfl
theorem idx_nat {α : Type} (xs : List α) (k : Nat) : idx xs (k : Int) = xs[k]? := by simp [idx]
theorem idx_get {α : Type} (xs : List α) (k : Nat) (h : k < xs.length) : idx xs (k : Int) = some xs[k] := by rw [idx_nat, List.getElem?_eq_getElem h]
theorem app_ok {α : Type} (xs ys : List α) (h : xs.length + ys.length ≤ 4294967296) : app xs ys = some (xs ++ ys) := by unfold app; rw [if_pos h]
theorem chk_ok {α : Type} {p : Prop} [Decidable p] (x : Option α) (h : p) : chk p x = x := by unfold chk; rw [if_pos h]
end Go.Hp
namespace Go.Hp
end Go.Hp
end
section
namespace Go.Proofs.Ytglllajndogcmaa
open Go Go.Hp
set_option linter.unusedVariables false
set_option linter.unusedSimpArgs false
theorem awake21 : law21_awake 1000 = some true := by decide +kernel
def isIn (l : List (Int × Bool)) (y : Int) : Bool := (mget l y).getD false
theorem isIn_mset (l : List (Int × Bool)) (k y : Int) : isIn (mset l k true) y = (decide (y = k) || isIn l y) := by
  induction l with
  | nil =>
    simp only [mset, isIn, mget]
    by_cases e : k = y
    · rw [if_pos e]; simp [e]
    · have e' : ¬ y = k := fun h => e h.symm
      rw [if_neg e]; simp [e']
  | cons x l ih =>
    obtain ⟨k', x'⟩ := x
    simp only [mset, isIn] at ih ⊢
    by_cases e : k' = k
    · rw [if_pos e]
      subst e
      simp only [mget]
      by_cases e2 : k' = y
      · simp [e2]
      · have e' : ¬ y = k' := fun h => e2 h.symm
        simp [e2, e']
    · rw [if_neg e]
      simp only [mget]
      by_cases e2 : k' = y
      · subst e2; simp [e]
      · rw [if_neg e2, if_neg e2]; exact ih
theorem idxf_some (xs : List Int) (f : Int → Option Bool) (p : Int → Bool) (hf : ∀ y, f y = some (p y)) (hx : xs.length < 1000) : ∀ (d m k : Nat), k + d = xs.length → d < m → ∃ r, slices_IndexFunc_s_int_int.L1 xs f m (k : Int) = some r := by
  intro d
  induction d with
  | zero =>
    intro m k hk hm
    obtain ⟨m, rfl⟩ : ∃ q, m = q + 1 := ⟨m - 1, by omega⟩
    rw [slices_IndexFunc_s_int_int.L1, if_neg (by omega)]
    exact ⟨_, rfl⟩
  | succ d ih =>
    intro m k hk hm
    obtain ⟨m, rfl⟩ : ∃ q, m = q + 1 := ⟨m - 1, by omega⟩
    have hlt : k < xs.length := by omega
    rw [slices_IndexFunc_s_int_int.L1, if_pos (by omega), idx_get _ _ hlt]
    simp only [Option.bind_some, hf]
    split
    · exact ⟨_, rfl⟩
    · rw [W_succ k (by omega)]
      exact ih m (k + 1) (by omega) (by omega)
theorem check_some (s : S_api_Shape) (xs : List Int) (v : Int) (hx : xs.length < 1000) : ∃ c, gen_Check 1000 s xs v = some c := by
  rw [gen_Check]
  split
  · exact ⟨_, rfl⟩
  · obtain ⟨r, hr⟩ := idxf_some xs (fun y6 => if y6 < 0 then some true else some (decide (y6 ≥ s.Vocab))) (fun y6 => if y6 < 0 then true else decide (y6 ≥ s.Vocab)) (fun y => by split <;> rfl) hx xs.length 1000 0 (by omega) (by omega)
    have hr0 : slices_IndexFunc_s_int_int.L1 xs (fun y6 => if y6 < 0 then some true else some (decide (y6 ≥ s.Vocab))) 1000 0 = some r := hr
    rw [slices_ContainsFunc_s_int_int, slices_IndexFunc_s_int_int, hr0]
    simp only [Option.bind_some]
    split
    · exact ⟨_, rfl⟩
    · split
      · exact ⟨_, rfl⟩
      · split
        · exact ⟨_, rfl⟩
        · split
          · exact ⟨_, rfl⟩
          · exact ⟨_, rfl⟩
theorem judge_eq (d : S_admit_Desk) (r : S_api_Request) : admit_Desk_Judge 1000 d r = (if r.ID < 0 then some 2 else if r.ID ≥ 1099511627776 then some 2 else if isIn d.took r.ID = true then some 210 else (gen_Check 1000 d.s r.Prompt r.Most).bind fun c => if c ≠ 0 then some c else if ((d.row.length : Nat) : Int) ≥ d.room then some 211 else some 0) := rfl
theorem judge_some (d : S_admit_Desk) (r : S_api_Request) (h : r.Prompt.length < 1000) : ∃ c, admit_Desk_Judge 1000 d r = some c := by
  rw [judge_eq]
  obtain ⟨c, hc⟩ := check_some d.s r.Prompt r.Most h
  rw [hc]
  split
  · exact ⟨_, rfl⟩
  · split
    · exact ⟨_, rfl⟩
    · split
      · exact ⟨_, rfl⟩
      · simp only [Option.bind_some]
        split
        · exact ⟨_, rfl⟩
        · split <;> exact ⟨_, rfl⟩
theorem delete_eq (x : S_api_Request) (l : List S_api_Request) : slices_Delete_s_api_Request_api_Request (x :: l) 0 1 = some l := by
  rw [slices_Delete_s_api_Request_api_Request, chk_ok _ (by simp; omega), if_neg (by omega), chk_ok _ (by simp; omega), chk_ok _ (by simp; omega), chk_ok _ (by simp), chk_ok _ (by simp; omega)]
  simp
theorem take_eq (d : S_admit_Desk) (x : S_api_Request) (l : List S_api_Request) (h : d.row = x :: l) : admit_Desk_Take d = some (x, true, ⟨d.s, d.room, l, d.took⟩) := by
  rw [admit_Desk_Take, h, if_neg (by simp; omega), show (0 : Int) = ((0 : Nat) : Int) from rfl, idx_get _ _ (by simp)]
  simp only [Option.bind_some, List.getElem_cons_zero]
  rw [show ((0 : Nat) : Int) = 0 from rfl, delete_eq]
  rfl
end Go.Proofs.Ytglllajndogcmaa
end
section
namespace Go.Proofs.Ytglllajndogcmaa
open Go Go.Hp
set_option linter.unusedVariables false
set_option linter.unusedSimpArgs false
def oddP (s : S_api_Shape) (y : Int) : Bool := if y < 0 then true else decide (y ≥ s.Vocab)
theorem idxf_any (xs : List Int) (f : Int → Option Bool) (p : Int → Bool) (hf : ∀ y, f y = some (p y)) (hx : xs.length < 1000) : ∀ (d m k : Nat), k + d = xs.length → d < m → ∃ r, slices_IndexFunc_s_int_int.L1 xs f m (k : Int) = some r ∧ (0 ≤ r ↔ ∃ y ∈ xs.drop k, p y = true) := by
  intro d
  induction d with
  | zero =>
    intro m k hk hm
    obtain ⟨m, rfl⟩ : ∃ q, m = q + 1 := ⟨m - 1, by omega⟩
    rw [slices_IndexFunc_s_int_int.L1, if_neg (by omega), List.drop_of_length_le (by omega)]
    exact ⟨_, rfl, by simp⟩
  | succ d ih =>
    intro m k hk hm
    obtain ⟨m, rfl⟩ : ∃ q, m = q + 1 := ⟨m - 1, by omega⟩
    have hlt : k < xs.length := by omega
    obtain ⟨r, h1, h2⟩ := ih m (k + 1) (by omega) (by omega)
    rw [slices_IndexFunc_s_int_int.L1, if_pos (by omega), idx_get _ _ hlt, List.drop_eq_getElem_cons hlt]
    simp only [Option.bind_some, hf]
    by_cases e : p xs[k] = true
    · rw [if_pos e]; exact ⟨(k : Int), rfl, ⟨fun _ => ⟨_, List.mem_cons_self, e⟩, fun _ => by omega⟩⟩
    · rw [if_neg e, W_succ k (by omega)]
      refine ⟨r, h1, ?_⟩
      rw [h2]
      constructor
      · rintro ⟨y, hy, hp⟩; exact ⟨y, List.mem_cons_of_mem _ hy, hp⟩
      · rintro ⟨y, hy, hp⟩
        rcases List.mem_cons.1 hy with rfl | hy
        · exact absurd hp e
        · exact ⟨y, hy, hp⟩
theorem rcheck_loop (s : S_api_Shape) (xs : List Int) (v : Int) (hx : xs.length < 1000) : ∀ (d m k : Nat), k + d = xs.length → d < m → ref09_Check.L1 s xs v m (k : Int) = if ∃ y ∈ xs.drop k, oddP s y = true then some 2 else ref09_Check.L1 s xs v 1 (xs.length : Int) := by
  intro d
  induction d with
  | zero =>
    intro m k hk hm
    obtain ⟨m, rfl⟩ : ∃ q, m = q + 1 := ⟨m - 1, by omega⟩
    rw [List.drop_of_length_le (by omega), if_neg (by simp), show k = xs.length by omega, ref09_Check.L1, ref09_Check.L1, if_neg (Int.lt_irrefl ((xs.length : Nat) : Int)), if_neg (Int.lt_irrefl ((xs.length : Nat) : Int))]
  | succ d ih =>
    intro m k hk hm
    obtain ⟨m, rfl⟩ : ∃ q, m = q + 1 := ⟨m - 1, by omega⟩
    have hlt : k < xs.length := by omega
    rw [ref09_Check.L1, if_pos (by omega), idx_get _ _ hlt, List.drop_eq_getElem_cons hlt]
    simp only [Option.bind_some]
    by_cases e : oddP s xs[k] = true
    · refine Eq.trans ?_ (if_pos ⟨xs[k], List.mem_cons_self, e⟩).symm
      unfold oddP at e
      split at e
      · rename_i h; rw [if_pos h]
      · rename_i h; rw [if_neg h, if_pos (by simpa using e)]
    · have e0 := e
      unfold oddP at e
      split at e
      · exact absurd rfl e
      · rename_i h
        rw [if_neg h, if_neg (by simpa using e), W_succ k (by omega), ih m (k + 1) (by omega) (by omega)]
        congr 1
        apply propext
        constructor
        · rintro ⟨y, hy, hp⟩; exact ⟨y, List.mem_cons_of_mem _ hy, hp⟩
        · rintro ⟨y, hy, hp⟩
          rcases List.mem_cons.1 hy with rfl | hy
          · exact absurd hp e0
          · exact ⟨y, hy, hp⟩
theorem ridxf_loop (xs : List S_api_Request) (f : S_api_Request → Option Bool) (p : S_api_Request → Bool) (hf : ∀ y, f y = some (p y)) (hx : xs.length < 1000) : ∀ (d m k : Nat), k + d = xs.length → d < m → (∀ y ∈ xs.take k, p y = false) → ∃ r, slices_IndexFunc_s_api_Request_api_Request.L1 xs f m (k : Int) = some r ∧
    ((r = -1 ∧ ∀ y ∈ xs, p y = false) ∨ ∃ q : Nat, r = q ∧ ∃ h : q < xs.length, (∀ y ∈ xs.take q, p y = false) ∧ p xs[q] = true) := by
  intro d
  induction d with
  | zero =>
    intro m k hk hm ha
    obtain ⟨m, rfl⟩ : ∃ q, m = q + 1 := ⟨m - 1, by omega⟩
    rw [slices_IndexFunc_s_api_Request_api_Request.L1, if_neg (by omega)]
    rw [List.take_of_length_le (by omega)] at ha
    exact ⟨_, rfl, .inl ⟨rfl, ha⟩⟩
  | succ d ih =>
    intro m k hk hm ha
    obtain ⟨m, rfl⟩ : ∃ q, m = q + 1 := ⟨m - 1, by omega⟩
    have hlt : k < xs.length := by omega
    rw [slices_IndexFunc_s_api_Request_api_Request.L1, if_pos (by omega), idx_get _ _ hlt]
    simp only [Option.bind_some, hf]
    by_cases e : p xs[k] = true
    · rw [if_pos e]; exact ⟨_, rfl, .inr ⟨k, rfl, hlt, ha, e⟩⟩
    · rw [if_neg e, W_succ k (by omega)]
      refine ih m (k + 1) (by omega) (by omega) ?_
      intro y hy
      rw [List.take_succ_eq_append_getElem hlt, List.mem_append, List.mem_singleton] at hy
      rcases hy with hy | rfl
      · exact ha y hy
      · simpa using e
theorem rdel_loop (xs : List S_api_Request) (f : S_api_Request → Option Bool) (p : S_api_Request → Bool) (hf : ∀ y, f y = some (p y)) (hx : xs.length < 1000) : ∀ (d m k j : Nat) (l : List S_api_Request), k + d = xs.length → d < m → j ≤ k → l.length = xs.length → l.take j = (xs.take k).filter (fun y => !p y) → l.drop k = xs.drop k →
    slices_DeleteFunc_s_api_Request_api_Request.L1 xs f m l (j : Int) (k : Int) = some (xs.filter fun y => !p y) := by
  intro d
  induction d with
  | zero =>
    intro m k j l hk hm hj hl ht hd
    obtain ⟨m, rfl⟩ : ∃ q, m = q + 1 := ⟨m - 1, by omega⟩
    rw [slices_DeleteFunc_s_api_Request_api_Request.L1, if_neg (by omega), chk_ok _ (by omega), chk_ok _ (by omega)]
    rw [List.take_of_length_le (l := xs) (by omega)] at ht
    rw [Int.toNat_natCast, List.take_append_of_le_length (by simp; omega), List.take_take, Nat.min_self, ht]
  | succ d ih =>
    intro m k j l hk hm hj hl ht hd
    obtain ⟨m, rfl⟩ : ∃ q, m = q + 1 := ⟨m - 1, by omega⟩
    have hlt : k < xs.length := by omega
    have hlt' : k < l.length := by omega
    have he : l[k] = xs[k] := by
      rw [List.drop_eq_getElem_cons hlt, List.drop_eq_getElem_cons hlt'] at hd
      injection hd
    have hd' : l.drop (k + 1) = xs.drop (k + 1) := by rw [← List.drop_drop, hd, List.drop_drop]
    rw [slices_DeleteFunc_s_api_Request_api_Request.L1, if_pos (by omega), idx_get _ _ hlt']
    simp only [Option.bind_some, hf, he, slices_DeleteFunc_s_api_Request_api_Request.J3, slices_DeleteFunc_s_api_Request_api_Request.J2]
    rw [W_succ k (by omega), W_succ j (by omega)]
    by_cases e : p xs[k] = true
    · rw [if_pos e, if_neg (by simp)]
      refine ih m (k + 1) j l (by omega) (by omega) (by omega) hl ?_ hd'
      rw [List.take_succ_eq_append_getElem hlt, List.filter_append, ht]
      simp [e]
    · rw [if_neg e, if_pos trivial, idx_get _ _ (by omega : j < l.length)]
      simp only [Option.bind_some, Int.toNat_natCast]
      refine ih m (k + 1) (j + 1) _ (by omega) (by omega) (by omega) (by simpa using hl) ?_ ?_
      · rw [List.take_succ_eq_append_getElem hlt, List.filter_append, ← ht, List.take_succ_eq_append_getElem (by simp; omega)]
        simp [e, List.take_set]
        exact List.set_eq_of_length_le (by rw [List.length_take]; omega)
      · rw [List.drop_set_of_lt (by omega)]; exact hd'
theorem rdel_eq (xs : List S_api_Request) (f : S_api_Request → Option Bool) (p : S_api_Request → Bool) (hf : ∀ y, f y = some (p y)) (hx : xs.length < 1000) : slices_DeleteFunc_s_api_Request_api_Request 1000 xs f = some (xs.filter fun y => !p y) := by
  obtain ⟨r, h1, h2⟩ := ridxf_loop xs f p hf hx xs.length 1000 0 (by omega) (by omega) (by simp)
  rw [slices_DeleteFunc_s_api_Request_api_Request, slices_IndexFunc_s_api_Request_api_Request, show (0 : Int) = ((0 : Nat) : Int) from rfl, h1]
  simp only [Option.bind_some]
  rcases h2 with ⟨rfl, ha⟩ | ⟨q, rfl, hq, ha, hp⟩
  · rw [if_pos rfl]
    congr 1
    exact (List.filter_eq_self.2 (fun y hy => by simp [ha y hy])).symm
  · rw [if_neg (by omega), W_succ q (by omega)]
    refine rdel_loop xs f p hf hx (xs.length - (q + 1)) 1000 (q + 1) q xs (by omega) (by omega) (by omega) rfl ?_ rfl
    rw [List.take_succ_eq_append_getElem hq, List.filter_append]
    rw [List.filter_eq_self.2 (fun y hy => by simp [ha y hy])]
    simp [hp]
theorem has1 (y v : Int) : slices_Contains_s_int_int 1000 [v] y = some (decide (y = v)) := by
  rw [slices_Contains_s_int_int, slices_Index_s_int_int, show (1000 : Nat) = 998 + 1 + 1 from rfl, slices_Index_s_int_int.L1, if_pos (by simp), show (0 : Int) = ((0 : Nat) : Int) from rfl, idx_get _ _ (by simp)]
  simp only [Option.bind_some, List.getElem_cons_zero]
  by_cases e : y = v
  · rw [if_pos e]; simp [e]
  · rw [if_neg e, W_succ 0 (by omega), slices_Index_s_int_int.L1, if_neg (by simp)]
    simp [e]
def gone (l : List S_api_Request) (v : Int) : List S_api_Request := l.filter fun r => !decide (r.ID = v)
theorem cancel_eq (d : S_admit_Desk) (v : Int) (h : d.row.length < 1000) : admit_Desk_Cancel 1000 d [v] = some ((d.row.length : Int) - ((gone d.row v).length : Int), ⟨d.s, d.room, gone d.row v, d.took⟩) := by
  have hle : (gone d.row v).length ≤ d.row.length := List.length_filter_le _ _
  rw [admit_Desk_Cancel, rdel_eq d.row _ (fun r => decide (r.ID = v)) (fun r => by rw [has1]; rfl) h]
  simp only [Option.bind_some]
  rw [show (d.row.filter fun y => !decide (y.ID = v)) = gone d.row v from rfl, W_in (by omega)]
theorem rcancel_loop (q : S_ref21_Desk) (v : Int) (hl : q.L.length < 1000) : ∀ (d m k : Nat) (l : List S_api_Request), k + d = q.L.length → d < m → l.length ≤ k →
    ref21_Desk_Cancel.L1 q v m l (k : Int) = some ((q.L.length : Int) - ((l ++ gone (q.L.drop k) v).length : Int), ⟨q.S, q.Room, l ++ gone (q.L.drop k) v, q.Ids⟩) := by
  intro d
  induction d with
  | zero =>
    intro m k l hk hm hlk
    obtain ⟨m, rfl⟩ : ∃ q, m = q + 1 := ⟨m - 1, by omega⟩
    rw [ref21_Desk_Cancel.L1, if_neg (by omega), List.drop_of_length_le (by omega), W_in (by omega)]
    simp [gone]
  | succ d ih =>
    intro m k l hk hm hlk
    obtain ⟨m, rfl⟩ : ∃ q, m = q + 1 := ⟨m - 1, by omega⟩
    have hlt : k < q.L.length := by omega
    rw [ref21_Desk_Cancel.L1, if_pos (by omega), idx_get _ _ hlt, List.drop_eq_getElem_cons hlt]
    simp only [Option.bind_some, ref21_Desk_Cancel.J2]
    rw [app_ok _ _ (by simp; omega), W_succ k (by omega)]
    simp only [Option.bind_some]
    by_cases e : q.L[k].ID = v
    · rw [if_neg (by simpa using e), ih m (k + 1) l (by omega) (by omega) (by omega), show gone (q.L[k] :: q.L.drop (k + 1)) v = gone (q.L.drop (k + 1)) v from List.filter_cons_of_neg (by simp [e])]
    · rw [if_pos e, ih m (k + 1) _ (by omega) (by omega) (by simp; omega), show gone (q.L[k] :: q.L.drop (k + 1)) v = q.L[k] :: gone (q.L.drop (k + 1)) v from List.filter_cons_of_pos (by simp [e])]
      simp only [List.append_assoc, List.cons_append, List.nil_append]
theorem rcancel_eq (q : S_ref21_Desk) (v : Int) (hl : q.L.length < 1000) : ref21_Desk_Cancel 1000 q v = some ((q.L.length : Int) - ((gone q.L v).length : Int), ⟨q.S, q.Room, gone q.L v, q.Ids⟩) := by
  have := rcancel_loop q v hl q.L.length 1000 0 [] (by omega) (by omega) (by simp)
  simpa [ref21_Desk_Cancel] using this
end Go.Proofs.Ytglllajndogcmaa
end
section
namespace Go.Hp
open Go
set_option linter.unusedVariables false
set_option linter.unusedSimpArgs false
set_option linter.unusedSectionVars false
theorem optc_some {α β : Type} (x : α) (a : Option β) (f : α → Option β) : optc (some x) a f = f x := rfl
theorem optc_none {α β : Type} (a : Option β) (f : α → Option β) : optc none a f = a := rfl
section
variable {κ β : Type} [DecidableEq κ]
end
end Go.Hp
end
section
namespace Go.Hp
open Go
set_option linter.unusedVariables false
set_option linter.unusedSimpArgs false
theorem loop_c {σ ρ : Type} (F : Nat → σ → Int → ρ) (c : Nat → σ) (n : Nat) (r : ρ) (hs : ∀ m i, i < n → F (m + 1) (c i) (i : Int) = F m (c (i + 1)) ((i + 1 : Nat) : Int)) (he : ∀ m, F (m + 1) (c n) (n : Int) = r) : ∀ m, n < m → F m (c 0) 0 = r := by
  have key : ∀ d m i, i + d = n → d < m → F m (c i) (i : Int) = r := by
    intro d
    induction d with
    | zero =>
      intro m i hi hm
      obtain ⟨m, rfl⟩ : ∃ q, m = q + 1 := ⟨m - 1, by omega⟩
      obtain rfl : i = n := by omega
      exact he m
    | succ d ih =>
      intro m i hi hm
      obtain ⟨m, rfl⟩ : ∃ q, m = q + 1 := ⟨m - 1, by omega⟩
      rw [hs m i (by omega)]
      exact ih m (i + 1) (by omega) (by omega)
  intro m hm
  exact key n m 0 (by omega) hm
end Go.Hp
end
section
namespace Go.Hp
open Go
set_option linter.unusedVariables false
end Go.Hp
end
section
namespace Go.Proofs.Ytglllajndogcmaa
open Go Go.Hp
set_option linter.unusedVariables false
set_option linter.unusedSimpArgs false
theorem right_is (s : S_api_Shape) : ∃ b, weight_Right s = some b ∧ ref07_Right s = some b ∧ (b = true → 1 ≤ s.Places ∧ s.Places ≤ 256) := by
  have hw : ∀ x lo hi : Int, weight_in x lo hi = some (decide (lo ≤ x ∧ x ≤ hi)) := fun x lo hi => by
    unfold weight_in
    by_cases h : x ≥ lo
    · rw [if_pos h]; congr 1; exact decide_eq_decide.2 ⟨fun q => ⟨h, q⟩, fun q => q.2⟩
    · rw [if_neg h, decide_eq_false (fun q => h q.1)]
  unfold weight_Right ref07_Right
  simp only [hw, Option.bind_some, decide_eq_true_eq]
  by_cases a1 : 1 ≤ s.Layers ∧ s.Layers ≤ 16
  rotate_left
  · rw [if_neg a1]
    by_cases q : s.Layers < 1
    · rw [if_pos q]; exact ⟨false, rfl, rfl, by simp⟩
    · rw [if_neg q, if_pos (by omega)]; exact ⟨false, rfl, rfl, by simp⟩
  rw [if_pos a1, if_neg (show ¬ s.Layers < 1 by omega), if_neg (show ¬ s.Layers > 16 by omega)]
  by_cases a2 : 1 ≤ s.Heads ∧ s.Heads ≤ 16
  rotate_left
  · rw [if_neg a2]
    by_cases q : s.Heads < 1
    · rw [if_pos q]; exact ⟨false, rfl, rfl, by simp⟩
    · rw [if_neg q, if_pos (by omega)]; exact ⟨false, rfl, rfl, by simp⟩
  rw [if_pos a2, if_neg (show ¬ s.Heads < 1 by omega), if_neg (show ¬ s.Heads > 16 by omega)]
  by_cases a3 : 2 ≤ s.Width ∧ s.Width ≤ 128
  rotate_left
  · rw [if_neg a3]
    by_cases q : s.Width < 2
    · rw [if_pos q]; exact ⟨false, rfl, rfl, by simp⟩
    · rw [if_neg q, if_pos (by omega)]; exact ⟨false, rfl, rfl, by simp⟩
  have hz : IntKind.i64.wrap (2 * s.Heads) ≠ 0 := by rw [W_in (by omega)]; omega
  rw [if_pos a3, if_neg (show ¬ s.Width < 2 by omega), if_neg (show ¬ s.Width > 128 by omega), chk_ok _ hz, chk_ok _ hz]
  by_cases a4 : Int.tmod s.Width (IntKind.i64.wrap (2 * s.Heads)) = 0
  rotate_left
  · rw [if_neg a4, if_pos a4]; exact ⟨false, rfl, rfl, by simp⟩
  rw [if_pos a4, if_neg (show ¬ (Int.tmod s.Width (IntKind.i64.wrap (2 * s.Heads)) ≠ 0) from fun q => q a4)]
  by_cases a5 : 1 ≤ s.Inner ∧ s.Inner ≤ 256
  rotate_left
  · rw [if_neg a5]
    by_cases q : s.Inner ≥ 1
    · rw [if_pos q, if_neg (by omega)]; exact ⟨false, rfl, rfl, by simp⟩
    · rw [if_neg q]; exact ⟨false, rfl, rfl, by simp⟩
  rw [if_pos a5, if_pos (show s.Inner ≥ 1 from a5.1), if_pos a5.2]
  by_cases a6 : 1 ≤ s.Vocab ∧ s.Vocab ≤ 512
  rotate_left
  · rw [if_neg a6]
    by_cases q : s.Vocab ≥ 1
    · rw [if_pos q, if_neg (by omega)]; exact ⟨false, rfl, rfl, by simp⟩
    · rw [if_neg q]; exact ⟨false, rfl, rfl, by simp⟩
  rw [if_pos a6, if_pos (show s.Vocab ≥ 1 from a6.1), if_pos a6.2]
  refine ⟨_, rfl, ?_, fun h => by simpa using h⟩
  by_cases q : s.Places ≥ 1
  · rw [if_pos q]; congr 1; exact decide_eq_decide.2 ⟨fun z => ⟨q, z⟩, fun z => z.2⟩
  · rw [if_neg q, decide_eq_false (fun z => q z.1)]
theorem check_sames (s : S_api_Shape) (hs : 1 ≤ s.Places ∧ s.Places ≤ 256) (xs : List Int) (v : Int) (hx : xs.length ≤ 300) (hv : -9223372036854775808 ≤ v ∧ v ≤ 9223372036854775807) : gen_Check 1000 s xs v = ref09_Check 1000 s xs v := by
  rw [gen_Check, ref09_Check]
  by_cases h0 : ((xs.length : Nat) : Int) = 0
  · rw [if_pos h0, if_pos h0]
  · rw [if_neg h0, if_neg h0]
    obtain ⟨r, h1, h2⟩ := idxf_any xs (fun y6 => if y6 < 0 then some true else some (decide (y6 ≥ s.Vocab))) (oddP s) (fun y => by unfold oddP; split <;> rfl) (by omega) xs.length 1000 0 (by omega) (by omega)
    have h10 : slices_IndexFunc_s_int_int.L1 xs (fun y6 => if y6 < 0 then some true else some (decide (y6 ≥ s.Vocab))) 1000 0 = some r := h1
    have h3 := rcheck_loop s xs v (by omega) xs.length 1000 0 (by omega) (by omega)
    have h30 : ref09_Check.L1 s xs v 1000 0 = _ := h3
    rw [slices_ContainsFunc_s_int_int, slices_IndexFunc_s_int_int, h10, h30]
    simp only [Option.bind_some, decide_eq_true_eq, ge_iff_le, h2]
    by_cases e : ∃ y ∈ xs.drop 0, oddP s y = true
    · rw [if_pos e, if_pos e]
    · rw [if_neg e, if_neg e, ref09_Check.L1, if_neg (Int.lt_irrefl ((xs.length : Nat) : Int))]
      by_cases a1 : v < 1
      · rw [if_pos a1, if_pos a1]
      · rw [if_neg a1, if_neg a1]
        by_cases a2 : ((xs.length : Nat) : Int) > s.Places
        · rw [if_pos a2, if_pos a2]
        · rw [if_neg a2, if_neg a2, W_in (by omega), W_in (x := s.Places - _) (by omega), W_in (by omega)]
          by_cases a3 : v - 1 > s.Places - ((xs.length : Nat) : Int)
          · rw [if_pos a3, if_pos (by omega)]
          · rw [if_neg a3, if_neg (by omega)]
theorem rtook_loop (q : S_ref21_Desk) (v : Int) (hl : q.Ids.length < 1000) : ∀ (d f k : Nat), k + d = q.Ids.length → d < f → ref21_Desk_Took.L1 q v f (k : Int) = some (decide (v ∈ q.Ids.drop k)) := by
  intro d
  induction d with
  | zero =>
    intro f k hk hf
    obtain ⟨f, rfl⟩ : ∃ q, f = q + 1 := ⟨f - 1, by omega⟩
    rw [ref21_Desk_Took.L1, if_neg (by omega), List.drop_of_length_le (by omega)]; simp
  | succ d ih =>
    intro f k hk hf
    obtain ⟨f, rfl⟩ : ∃ q, f = q + 1 := ⟨f - 1, by omega⟩
    have hlt : k < q.Ids.length := by omega
    rw [ref21_Desk_Took.L1, if_pos (by omega), idx_get _ _ hlt, Option.bind_some, List.drop_eq_getElem_cons hlt]
    by_cases e : q.Ids[k] = v
    · rw [if_pos e, e, decide_eq_true List.mem_cons_self]
    · rw [if_neg e, W_succ k (by omega), ih f (k + 1) (by omega) (by omega)]
      congr 1
      refine decide_eq_decide.2 ⟨fun z => List.mem_cons_of_mem _ z, fun z => ?_⟩
      rcases List.mem_cons.1 z with z | z
      · exact absurd z.symm e
      · exact z
theorem rtook_is (q : S_ref21_Desk) (v : Int) (hl : q.Ids.length < 1000) : ref21_Desk_Took 1000 q v = some (decide (v ∈ q.Ids)) := by
  have := rtook_loop q v hl q.Ids.length 1000 0 (by omega) (by omega)
  rwa [List.drop_zero] at this
structure DI (s : S_api_Shape) (room : Int) (i : Nat) (d : S_admit_Desk) (q : S_ref21_Desk) : Prop where
  sd : d.s = s
  sq : q.S = s
  m : d.room = room
  m' : q.Room = room
  row : d.row = q.L
  tk : ∀ y, isIn d.took y = decide (y ∈ q.Ids)
  lenL : q.L.length ≤ i
  lenI : q.Ids.length ≤ i
  fit : ((q.L.length : Nat) : Int) ≤ room
  pl : ∀ r ∈ q.L, r.Prompt.length ≤ 300
theorem DI.mono {s : S_api_Shape} {room : Int} {i j : Nat} {d : S_admit_Desk} {q : S_ref21_Desk} (h : DI s room i d q) (hj : i ≤ j) : DI s room j d q := ⟨h.sd, h.sq, h.m, h.m', h.row, h.tk, Nat.le_trans h.lenL hj, Nat.le_trans h.lenI hj, h.fit, h.pl⟩
theorem DI.judge {s : S_api_Shape} (hs : 1 ≤ s.Places ∧ s.Places ≤ 256) {room : Int} {i : Nat} (hi : i < 900) {d : S_admit_Desk} {q : S_ref21_Desk} (h : DI s room i d q) (r : S_api_Request) (hp : r.Prompt.length ≤ 300) (hv : -9223372036854775808 ≤ r.Most ∧ r.Most ≤ 9223372036854775807) : ref21_Desk_Judge 1000 q r = admit_Desk_Judge 1000 d r := by
  have := h.lenI
  rw [judge_eq, h.sd, check_sames s hs _ _ hp hv, h.tk, h.row, h.m, ref21_Desk_Judge, rtook_is q _ (by omega), h.sq, h.m']
  rfl
theorem isIn_cons (tk : List (Int × Bool)) (l : List Int) (h : ∀ y, isIn tk y = decide (y ∈ l)) (k y : Int) : isIn (mset tk k true) y = decide (y ∈ l ++ [k]) := by
  rw [isIn_mset, h]
  by_cases e : y = k
  · simp [e]
  · simp [e]
theorem DI.put {s : S_api_Shape} {room : Int} {i : Nat} {d : S_admit_Desk} {q : S_ref21_Desk} (h : DI s room i d q) (r : S_api_Request) (hp : r.Prompt.length ≤ 300) (hf : ((q.L.length : Nat) : Int) < room) : DI s room (i + 1) ⟨d.s, d.room, d.row ++ [r], mset d.took r.ID true⟩ ⟨q.S, q.Room, q.L ++ [r], q.Ids ++ [r.ID]⟩ :=
  ⟨h.sd, h.sq, h.m, h.m', by show d.row ++ [r] = q.L ++ [r]; rw [h.row], isIn_cons _ _ h.tk _, by have := h.lenL; show (q.L ++ [r]).length ≤ i + 1; simp; omega, by have := h.lenI; show (q.Ids ++ [r.ID]).length ≤ i + 1; simp; omega, by show (((q.L ++ [r]).length : Nat) : Int) ≤ room; simp; omega, fun x hx => by
    rcases List.mem_append.1 hx with z | z
    · exact h.pl x z
    · rw [List.mem_singleton.1 z]; exact hp⟩
theorem judge_room (d : S_admit_Desk) (r : S_api_Request) (h : admit_Desk_Judge 1000 d r = some 0) : ((d.row.length : Nat) : Int) < d.room := by
  rw [judge_eq] at h
  by_cases a1 : r.ID < 0
  · rw [if_pos a1] at h; exact absurd h (by decide)
  rw [if_neg a1] at h
  by_cases a2 : r.ID ≥ 1099511627776
  · rw [if_pos a2] at h; exact absurd h (by decide)
  rw [if_neg a2] at h
  by_cases a3 : isIn d.took r.ID = true
  · rw [if_pos a3] at h; exact absurd h (by decide)
  rw [if_neg a3] at h
  cases hc : gen_Check 1000 d.s r.Prompt r.Most with
  | none => rw [hc] at h; cases h
  | some c =>
    rw [hc, Option.bind_some] at h
    by_cases a4 : c ≠ 0
    · rw [if_pos a4] at h; injection h with h; exact absurd h a4
    rw [if_neg a4] at h
    by_cases a5 : ((d.row.length : Nat) : Int) ≥ d.room
    · rw [if_pos a5] at h; exact absurd h (by decide)
    · omega
theorem L8_step (x1 : Int) (q : S_ref21_Desk) (j34 : Int) (y : S_law21_Act) (pr : List Int) (k3 : S_ref21_Desk → S_admit_Desk → Int → Option Bool) (f : Nat) (d : S_admit_Desk) (c : Int) (h : admit_Desk_Judge 1000 d ⟨y.R.ID, y.R.Most, pr⟩ = some c) :
    law21_AdmitActs.L8 1000 x1 q j34 y pr k3 (f + 1) d [] 0 = law21_AdmitActs.J10 y pr d [] 0 (law21_AdmitActs.L8 1000 x1 q j34 y pr k3 f) c := by
  rw [law21_AdmitActs.L8, if_pos (by decide), show idx [(⟨y.R.ID, y.R.Most, pr⟩ : S_api_Request)] 0 = some ⟨y.R.ID, y.R.Most, pr⟩ from rfl, Option.bind_some]
  rw [judge_eq] at h
  simp only at h
  by_cases a1 : y.R.ID < 0
  · rw [if_pos a1] at h ⊢; injection h with h; rw [h]
  rw [if_neg a1] at h ⊢
  by_cases a2 : y.R.ID ≥ 1099511627776
  · rw [if_pos a2] at h ⊢; injection h with h; rw [h]
  rw [if_neg a2] at h ⊢
  by_cases a3 : isIn d.took y.R.ID = true
  · rw [if_pos a3] at h; rw [if_pos (show (mget d.took y.R.ID).getD false = true from a3)]; injection h with h; rw [h]
  rw [if_neg a3] at h; rw [if_neg (show ¬ (mget d.took y.R.ID).getD false = true from a3)]
  cases hc : gen_Check 1000 d.s pr y.R.Most with
  | none => rw [hc] at h; cases h
  | some e =>
    rw [hc, Option.bind_some] at h
    rw [Option.bind_some]
    by_cases a4 : e ≠ 0
    · rw [if_pos a4] at h ⊢; injection h with h; rw [h]
    rw [if_neg a4] at h ⊢
    by_cases a5 : ((d.row.length : Nat) : Int) ≥ d.room
    · rw [if_pos a5] at h ⊢; injection h with h; rw [h]
    · rw [if_neg a5] at h ⊢; injection h with h; rw [h]
theorem ints_refl (xs : List Int) (hx : xs.length < 1000) : ref09_Ints 1000 xs xs = some true := by
  rw [ref09_Ints, if_neg (by simp)]
  refine loop_c (fun f (_ : Unit) j => ref09_Ints.L1 xs xs f j) (fun _ => ()) xs.length _ (fun f j hj => ?_) (fun f => ?_) 1000 hx
  · show ref09_Ints.L1 xs xs (f + 1) (j : Int) = ref09_Ints.L1 xs xs f _
    rw [ref09_Ints.L1, if_pos (by omega), idx_get _ _ hj, Option.bind_some, Option.bind_some, if_neg (fun q => q rfl), W_succ j (by omega)]
  · show ref09_Ints.L1 xs xs (f + 1) (xs.length : Int) = _
    rw [ref09_Ints.L1, if_neg (by omega)]
theorem same_refl (x : S_api_Request) (h : x.Prompt.length < 1000) : law21_same 1000 x x = some true := by
  rw [law21_same, if_pos rfl, if_pos rfl, ints_refl _ h]; rfl
theorem DI.take {s : S_api_Shape} {room : Int} {i : Nat} (hi : i < 900) {d : S_admit_Desk} {q : S_ref21_Desk} (h : DI s room i d q) : ∃ x b d' q', admit_Desk_Take d = some (x, b, d') ∧ ref21_Desk_Take q = some (x, b, q') ∧ DI s room i d' q' ∧ x.Prompt.length < 1000 ∧ (b = true ↔ q.L ≠ []) ∧ (q.L ≠ [] → q'.L.length + 1 = q.L.length) := by
  have hrow := h.row
  have hl := h.lenL
  cases e : q.L with
  | nil =>
    rw [e] at hrow
    exact ⟨⟨0, 0, []⟩, false, d, q, by rw [admit_Desk_Take, hrow]; rfl, by rw [ref21_Desk_Take, e]; rfl, h, by simp, by simp, by simp⟩
  | cons x l =>
    rw [e] at hrow hl
    have h1 := take_eq d x l hrow
    refine ⟨x, true, _, ⟨q.S, q.Room, l, q.Ids⟩, h1, ?_, ?_, ?_, by simp, by simp⟩
    · simp only [List.length_cons] at hl
      rw [ref21_Desk_Take, e, if_neg (by simp only [List.length_cons]; omega), show idx (x :: l) 0 = some x from rfl, Option.bind_some, chk_ok _ ⟨by omega, by simp only [List.length_cons]; omega, by omega⟩, Int.toNat_natCast, List.take_length, show (1 : Int).toNat = 1 from rfl, List.drop_one, List.tail_cons, app_ok [] _ (by simp; omega), Option.bind_some, List.nil_append]
    · have hf := h.fit
      rw [e] at hf
      simp only [List.length_cons] at hl hf
      exact ⟨h.sd, h.sq, h.m, h.m', rfl, h.tk, by show l.length ≤ i; omega, h.lenI, by show ((l.length : Nat) : Int) ≤ room; omega, fun r hr => h.pl r (by rw [e]; exact List.mem_cons_of_mem _ hr)⟩
    · have := h.pl x (by rw [e]; exact List.mem_cons_self); omega
theorem DI.J6 {s : S_api_Shape} {room : Int} {i : Nat} (hi : i < 900) {d : S_admit_Desk} {q : S_ref21_Desk} (h : DI s room i d q) (y : S_law21_Act) (j : Nat) (hj : j < 900) (k3 : S_ref21_Desk → S_admit_Desk → Int → Option Bool) : law21_AdmitActs.J6 1000 room (j : Int) y k3 q d = k3 q d ((j + 1 : Nat) : Int) := by
  have hl := h.lenI
  have hf := h.fit
  rw [law21_AdmitActs.J6, show admit_Desk_Len d = some ((d.row.length : Nat) : Int) from rfl, Option.bind_some, if_neg (by rw [h.row]; exact fun q => q rfl), Option.bind_some, if_neg (by rw [h.row]; omega), show admit_Desk_Took d y.R.ID = some (isIn d.took y.R.ID) from rfl, Option.bind_some, rtook_is q _ (by omega), Option.bind_some, h.tk, if_neg (by simp), W_succ j (by omega)]
theorem acts_L5 {s : S_api_Shape} {room : Int} {i : Nat} (hi : i < 900) : ∀ (n f : Nat) (d : S_admit_Desk) (q : S_ref21_Desk), q.L.length = n → n < f → DI s room i d q → law21_AdmitActs.L5 1000 f q d = some true := by
  intro n
  induction n with
  | zero =>
    intro f d q hn hf h
    obtain ⟨f, rfl⟩ : ∃ q, f = q + 1 := ⟨f - 1, by omega⟩
    rw [law21_AdmitActs.L5, show admit_Desk_Len d = some ((d.row.length : Nat) : Int) from rfl, Option.bind_some, if_neg (by rw [h.row]; omega), law21_AdmitActs.J4, hn]; rfl
  | succ n ih =>
    intro f d q hn hf h
    obtain ⟨f, rfl⟩ : ∃ q, f = q + 1 := ⟨f - 1, by omega⟩
    obtain ⟨x, b, d', q', t1, t2, t3, t4, t5, t6⟩ := h.take hi
    have hne : q.L ≠ [] := fun e => by rw [e] at hn; cases hn
    have hb := t5.2 hne
    subst hb
    rw [law21_AdmitActs.L5, show admit_Desk_Len d = some ((d.row.length : Nat) : Int) from rfl, Option.bind_some, if_pos (by rw [h.row]; omega), t1, t2, Option.bind_some, Option.bind_some, if_pos rfl]
    show (law21_same 1000 x x).bind _ = _
    rw [same_refl x t4, Option.bind_some, if_pos rfl]
    exact ih f d' q' (by have := t6 hne; omega) (by omega) t3
theorem rsubmit_is (q : S_ref21_Desk) (r : S_api_Request) (c : Int) (hj : ref21_Desk_Judge 1000 q r = some c) (hp : r.Prompt.length ≤ 300) (hl : q.L.length ≤ 900) (hi : q.Ids.length ≤ 900) : ref21_Desk_Submit 1000 q r = some (c, if c = 0 then ⟨q.S, q.Room, q.L ++ [r], q.Ids ++ [r.ID]⟩ else q) := by
  rw [ref21_Desk_Submit, hj]
  simp only [Option.bind_some]
  by_cases e : c = 0
  · rw [if_pos e, if_pos e, app_ok _ _ (by simp; omega)]
    simp only [Option.bind_some, List.nil_append]
    rw [app_ok _ _ (by simp; omega)]
    simp only [Option.bind_some]
    rw [app_ok _ _ (by simp; omega)]
    rfl
  · rw [if_neg e, if_neg e]
theorem L9_is (x1 : Int) (j34 : Int) (y : S_law21_Act) (pr : List Int) (hp : pr.length < 1000) (d : S_admit_Desk) (r : Int × S_ref21_Desk) (k3 : S_ref21_Desk → S_admit_Desk → Int → Option Bool) : ∀ (n f k : Nat) (l : List Int), l.length = pr.length → k + n = pr.length → n < f → law21_AdmitActs.L9 1000 x1 j34 y pr d r k3 f l (k : Int) = law21_AdmitActs.J6 1000 x1 j34 y k3 r.2 d := by
  intro n
  induction n with
  | zero =>
    intro f k l hl hk hf
    obtain ⟨f, rfl⟩ : ∃ q, f = q + 1 := ⟨f - 1, by omega⟩
    rw [law21_AdmitActs.L9, if_neg (by omega)]
  | succ n ih =>
    intro f k l hl hk hf
    obtain ⟨f, rfl⟩ : ∃ q, f = q + 1 := ⟨f - 1, by omega⟩
    rw [law21_AdmitActs.L9, if_pos (by omega), idx_get _ _ (show k < l.length by omega), Option.bind_some, W_succ k (by omega)]
    exact ih f (k + 1) _ (by simpa using hl) (by omega) (by omega)
theorem J7_is {s : S_api_Shape} (hs : 1 ≤ s.Places ∧ s.Places ≤ 256) {room : Int} {i : Nat} (hi : i < 800) {d : S_admit_Desk} {q : S_ref21_Desk} (h : DI s room i d q) (y : S_law21_Act) (hp : y.R.Prompt.length ≤ 300) (hv : -9223372036854775808 ≤ y.R.Most ∧ y.R.Most ≤ 9223372036854775807) (j : Nat) (hj : j < 800) (k3 : S_ref21_Desk → S_admit_Desk → Int → Option Bool) :
    ∃ d' q', DI s room (i + 1) d' q' ∧ law21_AdmitActs.J7 1000 room q d (j : Int) y k3 y.R.Prompt = k3 q' d' ((j + 1 : Nat) : Int) := by
  have hlL := h.lenL
  have hlI := h.lenI
  obtain ⟨c, hc⟩ := judge_some d y.R (by omega)
  have hq : ref21_Desk_Judge 1000 q y.R = some c := by rw [h.judge hs (by omega) y.R hp hv]; exact hc
  have hsub := rsubmit_is q y.R c hq hp (by omega) (by omega)
  have hend : ∀ dd : S_admit_Desk, DI s room (i + 1) dd (if c = 0 then ⟨q.S, q.Room, q.L ++ [y.R], q.Ids ++ [y.R.ID]⟩ else q) → law21_AdmitActs.J11 [] 0 c (law21_AdmitActs.L8 1000 room q (j : Int) y y.R.Prompt k3 999) dd = k3 (if c = 0 then ⟨q.S, q.Room, q.L ++ [y.R], q.Ids ++ [y.R.ID]⟩ else q) dd ((j + 1 : Nat) : Int) := fun dd hdd => by
    rw [law21_AdmitActs.J11, app_ok _ _ (by simp), Option.bind_some, List.nil_append, show IntKind.i64.wrap ((0 : Int) + 1) = 1 by decide, law21_AdmitActs.L8, if_neg (by decide), if_neg (by simp), show idx [c] 0 = some c from rfl, Option.bind_some]
    show (ref21_Desk_Submit 1000 q y.R).bind _ = _
    rw [hsub, Option.bind_some, if_neg (fun z => z rfl)]
    have h9 := L9_is room (j : Int) y y.R.Prompt (by omega) dd (c, if c = 0 then ⟨q.S, q.Room, q.L ++ [y.R], q.Ids ++ [y.R.ID]⟩ else q) k3 y.R.Prompt.length 1000 0 y.R.Prompt rfl (by omega) (by omega)
    refine Eq.trans h9 ?_
    exact hdd.J6 (by omega) y j (by omega) k3
  have h8 := L8_step room q (j : Int) y y.R.Prompt k3 999 d c hc
  by_cases e : c = 0
  · subst e
    have hroom := judge_room d y.R hc
    rw [h.row, h.m] at hroom
    have hput := h.put y.R hp hroom
    refine ⟨_, _, hput, ?_⟩
    unfold law21_AdmitActs.J7
    rw [h8, law21_AdmitActs.J10, if_pos rfl, show slices_Clone_s_int_int y.R.Prompt = some y.R.Prompt by unfold slices_Clone_s_int_int; rw [app_ok _ _ (by simp; omega)]; rfl, Option.bind_some, app_ok _ _ (by rw [h.row]; simp; omega), Option.bind_some, show admit_set_int_put d.took y.R.ID = some (mset d.took y.R.ID true) from rfl, Option.bind_some]
    have := hend _ (by rw [if_pos rfl]; exact hput)
    rw [if_pos rfl] at this
    exact this
  · refine ⟨d, q, h.mono (by omega), ?_⟩
    unfold law21_AdmitActs.J7
    rw [h8, law21_AdmitActs.J10, if_neg e]
    have := hend d (by rw [if_neg e]; exact h.mono (by omega))
    rw [if_neg e] at this
    exact this
theorem acts_L3 {s : S_api_Shape} (hs : 1 ≤ s.Places ∧ s.Places ≤ 256) {room : Int} (xs : List S_law21_Act) (hx : xs.length ≤ 80) (hw : ∀ a ∈ xs, -9223372036854775808 ≤ a.R.Most ∧ a.R.Most ≤ 9223372036854775807) : ∀ (n i f : Nat) (d : S_admit_Desk) (q : S_ref21_Desk), i + n = xs.length → n < f → DI s room i d q → law21_AdmitActs.L3 1000 room xs f q d (i : Int) = some true := by
  intro n
  induction n with
  | zero =>
    intro i f d q hi hf h
    obtain ⟨f, rfl⟩ : ∃ q, f = q + 1 := ⟨f - 1, by omega⟩
    rw [law21_AdmitActs.L3, if_neg (by omega)]
    exact acts_L5 (i := i) (by omega) q.L.length 1000 d q rfl (by have := h.lenL; omega) h
  | succ n ih =>
    intro i f d q hi hf h
    obtain ⟨f, rfl⟩ : ∃ q, f = q + 1 := ⟨f - 1, by omega⟩
    have hlt : i < xs.length := by omega
    have hwa := hw _ (List.getElem_mem hlt)
    have hlL := h.lenL
    rw [law21_AdmitActs.L3, if_pos (by omega), idx_get _ _ hlt, Option.bind_some]
    generalize xs[i] = y at hwa
    have go : ∀ d' q', DI s room (i + 1) d' q' → law21_AdmitActs.L3 1000 room xs f q' d' ((i + 1 : Nat) : Int) = some true := fun d' q' h' => ih (i + 1) f d' q' (by omega) (by omega) h'
    have g6 : ∀ d' q', DI s room (i + 1) d' q' → law21_AdmitActs.J6 1000 room (i : Int) y (law21_AdmitActs.L3 1000 room xs f) q' d' = some true := fun d' q' h' => by
      rw [h'.J6 (by omega) y i (by omega)]; exact go d' q' h'
    by_cases c1 : ((y.R.Prompt.length : Nat) : Int) > 300
    · rw [if_pos c1]
    rw [if_neg c1]
    by_cases k0 : y.Kind = 0
    · obtain ⟨d', q', h', e⟩ := J7_is hs (by omega) h y (by omega) hwa i (by omega) (law21_AdmitActs.L3 1000 room xs f)
      rw [if_pos k0, app_ok _ _ (by simp; omega), Option.bind_some, List.nil_append, e]
      exact go d' q' h'
    rw [if_neg k0]
    by_cases k1 : y.Kind = 1
    · obtain ⟨x, b, d', q', t1, t2, t3, t4, _, _⟩ := h.take (by omega)
      rw [if_pos k1, t1, t2, Option.bind_some, Option.bind_some, if_neg (by simp)]
      show (law21_same 1000 x x).bind _ = _
      rw [same_refl x t4, Option.bind_some, if_pos rfl]
      exact g6 d' q' (t3.mono (by omega))
    rw [if_neg k1]
    by_cases k2 : y.Kind = 2
    · have a1 := cancel_eq d y.R.ID (by rw [h.row]; omega)
      have a2 := rcancel_eq q y.R.ID (by omega)
      rw [if_pos k2, a1, a2, Option.bind_some, Option.bind_some, if_neg (by rw [h.row]; exact fun z => z rfl)]
      have hg := List.length_filter_le (fun r : S_api_Request => !decide (r.ID = y.R.ID)) q.L
      have hg : (gone q.L y.R.ID).length ≤ q.L.length := hg
      refine g6 _ _ ⟨h.sd, h.sq, h.m, h.m', by show gone d.row _ = gone q.L _; rw [h.row], h.tk, by show (gone q.L _).length ≤ i + 1; omega, by have := h.lenI; show q.Ids.length ≤ i + 1; omega, by have := h.fit; show (((gone q.L _).length : Nat) : Int) ≤ room; omega, fun r hr => h.pl r (List.mem_filter.1 hr).1⟩
    rw [if_neg k2]
    by_cases k3 : y.Kind = 3
    · obtain ⟨c, hc⟩ := judge_some d y.R (by omega)
      have hq := h.judge hs (by omega) y.R (by omega) hwa
      rw [if_pos k3]
      show (admit_Desk_Judge 1000 d y.R).bind (fun r96 => (ref21_Desk_Judge 1000 q y.R).bind _) = _
      rw [hq, hc, Option.bind_some, Option.bind_some, if_neg (fun z => z rfl)]
      exact g6 d q (h.mono (by omega))
    rw [if_neg k3]
    exact g6 d q (h.mono (by omega))
theorem admitActs (s : S_api_Shape) (room : Int) (xs : List S_law21_Act) (hw : ∀ a ∈ xs, -9223372036854775808 ≤ a.R.Most ∧ a.R.Most ≤ 9223372036854775807) : law21_AdmitActs 1000 s room xs = some true := by
  rw [law21_AdmitActs, awake21, Option.bind_some, if_pos rfl]
  by_cases h : ((xs.length : Nat) : Int) > 80
  · rw [if_pos h, Option.bind_some]
  obtain ⟨b, b1, b2, b3⟩ := right_is s
  have hN : admit_New s room = if b = true then (if room < 0 then some (none, 2) else if room > 4096 then some (none, 2) else some (some ⟨s, room, [], []⟩, 0)) else some (none, 30) := by
    rw [admit_New, b1, Option.bind_some]
  rw [if_neg h, b2]
  cases b with
  | false =>
    rw [if_neg (by simp)] at hN
    rw [hN, Option.bind_some, Option.bind_some, if_neg (by simp), law21_AdmitActs.J1, if_pos rfl, optc_none]
    rfl
  | true =>
    rw [if_pos rfl] at hN
    by_cases c1 : room < 0
    · rw [if_pos c1] at hN
      rw [hN, Option.bind_some, Option.bind_some, if_pos rfl, law21_AdmitActs.J1, if_neg (by simp), if_pos c1, law21_AdmitActs.J2, if_pos rfl, optc_none]; rfl
    rw [if_neg c1] at hN
    by_cases c2 : room > 4096
    · rw [if_pos c2] at hN
      rw [hN, Option.bind_some, Option.bind_some, if_pos rfl, law21_AdmitActs.J1, if_neg (by simp), if_neg c1, law21_AdmitActs.J2, if_pos (decide_eq_true c2), optc_none]; rfl
    rw [if_neg c2] at hN
    rw [hN, Option.bind_some, Option.bind_some, if_pos rfl, law21_AdmitActs.J1, if_neg (by simp), if_neg c1, law21_AdmitActs.J2, if_neg (by simpa using c2), optc_some, if_neg (fun q => q rfl)]
    exact acts_L3 (b3 rfl) xs (by omega) hw xs.length 0 1000 _ _ (by omega) (by omega) ⟨rfl, rfl, rfl, rfl, rfl, fun y => by simp [isIn, mget], by simp, by simp, by simp; omega, by simp⟩
theorem wf64_in {z : Int} (h : (Lit.int .i64 z).wf = true) : -9223372036854775808 ≤ z ∧ z ≤ 9223372036854775807 := by
  simp [Lit.wf] at h
  exact h
end Go.Proofs.Ytglllajndogcmaa
end
