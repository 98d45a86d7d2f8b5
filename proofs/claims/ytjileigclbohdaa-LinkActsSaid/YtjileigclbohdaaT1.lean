/- Functions of the program as plain functions, and the proofs that walks compute them. Printed by a program of this session. -/
import Derived.Test.YtjileigclbohdaaSl16
import Derived.Test.YtjileigclbohdaaProg
namespace Go.Proofs.Ytjileigclbohdaa
open Go Go.RowKit Go.Hp
set_option linter.unusedVariables false
set_option linter.unusedSimpArgs false
set_option maxRecDepth 100000

structure S_link_body where
  seq : Int
  at_ : Int
  b : (List Int)
  deriving DecidableEq

def S_link_body.pr : PR S_link_body 3 := pMap (fun x : S_link_body => (x.seq, x.at_, x.b)) (pSeq (pInt .i64) (pSeq (pInt .i64) (pRo (pInt .u8))))

theorem S_link_body.op {w : World} {l : List HP} {cs : List Value} {x : S_link_body} (h : Ctx w (Hold S_link_body.pr cs x :: l)) : ∃ a2 q2, cs = [.int .i64 x.seq, .int .i64 x.at_, .slice a2 x.b.length q2] ∧ Ctx w (Hold (pRo (pInt .u8)) [.slice a2 x.b.length q2] x.b :: l) := by
  obtain ⟨R, Ss, hc⟩ := h
  match Ss, hc with
  | S :: Ss, hc =>
    obtain ⟨⟨rfl, ⟨_, _, rfl, rfl, ⟨_, _, rfl, rfl, ⟨_, rfl, a2, q2, rfl, hc2, hr2⟩⟩⟩⟩, h3⟩ := hc.all
    exact ⟨a2, q2, rfl, R, [] :: Ss, ⟨⟨rfl, _, rfl, a2, q2, rfl, hc2, hr2⟩, h3⟩, by simpa using hc.nodup, by simpa using hc.own, hc.fz⟩
theorem S_link_body.cl {w : World} {l : List HP} {z0 : Int} {z1 : Int} {z2 : (List Int)} {v2 : Value} (h : Ctx w (Hold (pRo (pInt .u8)) [v2] z2 :: l)) : Ctx w (Hold S_link_body.pr [.int .i64 z0, .int .i64 z1, v2] (⟨z0, z1, z2⟩ : S_link_body) :: l) := by
  obtain ⟨R, Ss, hc⟩ := h
  match Ss, hc with
  | S2 :: Ss, hc =>
    obtain ⟨⟨rfl, _, e2, hr2⟩, h3⟩ := hc.all
    injection e2 with e2; subst e2
    exact ⟨R, [] :: Ss, ⟨⟨rfl, ⟨_, _, rfl, rfl, ⟨_, _, rfl, rfl, ⟨_, rfl, hr2⟩⟩⟩⟩, h3⟩, by simpa using hc.nodup, by simpa using hc.own, hc.fz⟩
  | [], hc => exact hc.all.elim

structure S_link_Link where
  window : Int
  span : Int
  room : Int
  epoch : Int
  now : Int
  next : Int
  acked : Int
  sent : Int
  out : (List S_link_body)
  got : Int
  early : (List (Int × (List Int)))
  owes : Bool
  deriving DecidableEq

def S_link_Link.hp (b : Nat) (x : S_link_Link) : HP := Ex fun v8 : Value => Ex fun v10 : Nat => Sep (Sep (B b [.int .i64 x.window, .int .i64 x.span, .int .i64 x.room, .int .i64 x.epoch, .int .i64 x.now, .int .i64 x.next, .int .i64 x.acked, .int .i64 x.sent, v8, .int .i64 x.got, .map (some v10), .bool x.owes] 77) (Own S_link_body.pr 82 v8 x.out)) (Mp (ekI .i64) (HV vf1 (pRo (pInt .u8))) v10 x.early)

def S_link_Link.vp : VP S_link_Link 12 := ⟨fun cs x => Ex fun v8 : Value => Ex fun v10 : Nat => Sep (Sep (Pu (cs = [.int .i64 x.window, .int .i64 x.span, .int .i64 x.room, .int .i64 x.epoch, .int .i64 x.now, .int .i64 x.next, .int .i64 x.acked, .int .i64 x.sent, v8, .int .i64 x.got, .map (some v10), .bool x.owes] ∧ ([.int .i64 x.window, .int .i64 x.span, .int .i64 x.room, .int .i64 x.epoch, .int .i64 x.now, .int .i64 x.next, .int .i64 x.acked, .int .i64 x.sent, v8, .int .i64 x.got, .map (some v10), .bool x.owes] : List Value).all (·.oneCell') = true)) (Own S_link_body.pr 82 v8 x.out)) (Mp (ekI .i64) (HV vf1 (pRo (pInt .u8))) v10 x.early),
  fun h => by obtain ⟨_, ⟨_, ⟨_, _, _, ⟨_, _, _, ⟨_, e, h1⟩, _⟩, _⟩⟩⟩ := h; rw [e]; rfl,
  fun h v hv => by obtain ⟨_, ⟨_, ⟨_, _, _, ⟨_, _, _, ⟨_, e, h1⟩, _⟩, _⟩⟩⟩ := h; rw [e] at hv; exact List.all_eq_true.1 h1 v hv⟩

structure S_api_Seg where
  Epoch : Int
  Seq : Int
  Ack : Int
  Body : (List Int)
  deriving DecidableEq

def S_api_Seg.pr : PR S_api_Seg 4 := pMap (fun x : S_api_Seg => (x.Epoch, x.Seq, x.Ack, x.Body)) (pSeq (pInt .i64) (pSeq (pInt .i64) (pSeq (pInt .i64) (pRo (pInt .u8)))))

theorem S_api_Seg.op {w : World} {l : List HP} {cs : List Value} {x : S_api_Seg} (h : Ctx w (Hold S_api_Seg.pr cs x :: l)) : ∃ a3 q3, cs = [.int .i64 x.Epoch, .int .i64 x.Seq, .int .i64 x.Ack, .slice a3 x.Body.length q3] ∧ Ctx w (Hold (pRo (pInt .u8)) [.slice a3 x.Body.length q3] x.Body :: l) := by
  obtain ⟨R, Ss, hc⟩ := h
  match Ss, hc with
  | S :: Ss, hc =>
    obtain ⟨⟨rfl, ⟨_, _, rfl, rfl, ⟨_, _, rfl, rfl, ⟨_, _, rfl, rfl, ⟨_, rfl, a3, q3, rfl, hc3, hr3⟩⟩⟩⟩⟩, h3⟩ := hc.all
    exact ⟨a3, q3, rfl, R, [] :: Ss, ⟨⟨rfl, _, rfl, a3, q3, rfl, hc3, hr3⟩, h3⟩, by simpa using hc.nodup, by simpa using hc.own, hc.fz⟩
theorem S_api_Seg.cl {w : World} {l : List HP} {z0 : Int} {z1 : Int} {z2 : Int} {z3 : (List Int)} {v3 : Value} (h : Ctx w (Hold (pRo (pInt .u8)) [v3] z3 :: l)) : Ctx w (Hold S_api_Seg.pr [.int .i64 z0, .int .i64 z1, .int .i64 z2, v3] (⟨z0, z1, z2, z3⟩ : S_api_Seg) :: l) := by
  obtain ⟨R, Ss, hc⟩ := h
  match Ss, hc with
  | S3 :: Ss, hc =>
    obtain ⟨⟨rfl, _, e3, hr3⟩, h3⟩ := hc.all
    injection e3 with e3; subst e3
    exact ⟨R, [] :: Ss, ⟨⟨rfl, ⟨_, _, rfl, rfl, ⟨_, _, rfl, rfl, ⟨_, _, rfl, rfl, ⟨_, rfl, hr3⟩⟩⟩⟩⟩, h3⟩, by simpa using hc.nodup, by simpa using hc.own, hc.fz⟩
  | [], hc => exact hc.all.elim

structure S_ref16_Body where
  Seq : Int
  Since : Int
  B : (List Int)
  deriving DecidableEq

def S_ref16_Body.pr : PR S_ref16_Body 3 := pMap (fun x : S_ref16_Body => (x.Seq, x.Since, x.B)) (pSeq (pInt .i64) (pSeq (pInt .i64) (pRo (pInt .u8))))

theorem S_ref16_Body.op {w : World} {l : List HP} {cs : List Value} {x : S_ref16_Body} (h : Ctx w (Hold S_ref16_Body.pr cs x :: l)) : ∃ a2 q2, cs = [.int .i64 x.Seq, .int .i64 x.Since, .slice a2 x.B.length q2] ∧ Ctx w (Hold (pRo (pInt .u8)) [.slice a2 x.B.length q2] x.B :: l) := by
  obtain ⟨R, Ss, hc⟩ := h
  match Ss, hc with
  | S :: Ss, hc =>
    obtain ⟨⟨rfl, ⟨_, _, rfl, rfl, ⟨_, _, rfl, rfl, ⟨_, rfl, a2, q2, rfl, hc2, hr2⟩⟩⟩⟩, h3⟩ := hc.all
    exact ⟨a2, q2, rfl, R, [] :: Ss, ⟨⟨rfl, _, rfl, a2, q2, rfl, hc2, hr2⟩, h3⟩, by simpa using hc.nodup, by simpa using hc.own, hc.fz⟩
theorem S_ref16_Body.cl {w : World} {l : List HP} {z0 : Int} {z1 : Int} {z2 : (List Int)} {v2 : Value} (h : Ctx w (Hold (pRo (pInt .u8)) [v2] z2 :: l)) : Ctx w (Hold S_ref16_Body.pr [.int .i64 z0, .int .i64 z1, v2] (⟨z0, z1, z2⟩ : S_ref16_Body) :: l) := by
  obtain ⟨R, Ss, hc⟩ := h
  match Ss, hc with
  | S2 :: Ss, hc =>
    obtain ⟨⟨rfl, _, e2, hr2⟩, h3⟩ := hc.all
    injection e2 with e2; subst e2
    exact ⟨R, [] :: Ss, ⟨⟨rfl, ⟨_, _, rfl, rfl, ⟨_, _, rfl, rfl, ⟨_, rfl, hr2⟩⟩⟩⟩, h3⟩, by simpa using hc.nodup, by simpa using hc.own, hc.fz⟩
  | [], hc => exact hc.all.elim

structure S_ref16_Early where
  Seq : Int
  B : (List Int)
  deriving DecidableEq

def S_ref16_Early.pr : PR S_ref16_Early 2 := pMap (fun x : S_ref16_Early => (x.Seq, x.B)) (pSeq (pInt .i64) (pRo (pInt .u8)))

theorem S_ref16_Early.op {w : World} {l : List HP} {cs : List Value} {x : S_ref16_Early} (h : Ctx w (Hold S_ref16_Early.pr cs x :: l)) : ∃ a1 q1, cs = [.int .i64 x.Seq, .slice a1 x.B.length q1] ∧ Ctx w (Hold (pRo (pInt .u8)) [.slice a1 x.B.length q1] x.B :: l) := by
  obtain ⟨R, Ss, hc⟩ := h
  match Ss, hc with
  | S :: Ss, hc =>
    obtain ⟨⟨rfl, ⟨_, _, rfl, rfl, ⟨_, rfl, a1, q1, rfl, hc1, hr1⟩⟩⟩, h3⟩ := hc.all
    exact ⟨a1, q1, rfl, R, [] :: Ss, ⟨⟨rfl, _, rfl, a1, q1, rfl, hc1, hr1⟩, h3⟩, by simpa using hc.nodup, by simpa using hc.own, hc.fz⟩
theorem S_ref16_Early.cl {w : World} {l : List HP} {z0 : Int} {z1 : (List Int)} {v1 : Value} (h : Ctx w (Hold (pRo (pInt .u8)) [v1] z1 :: l)) : Ctx w (Hold S_ref16_Early.pr [.int .i64 z0, v1] (⟨z0, z1⟩ : S_ref16_Early) :: l) := by
  obtain ⟨R, Ss, hc⟩ := h
  match Ss, hc with
  | S1 :: Ss, hc =>
    obtain ⟨⟨rfl, _, e1, hr1⟩, h3⟩ := hc.all
    injection e1 with e1; subst e1
    exact ⟨R, [] :: Ss, ⟨⟨rfl, ⟨_, _, rfl, rfl, ⟨_, rfl, hr1⟩⟩⟩, h3⟩, by simpa using hc.nodup, by simpa using hc.own, hc.fz⟩
  | [], hc => exact hc.all.elim

structure S_ref16_Link where
  Window : Int
  Span : Int
  Room : Int
  Epoch : Int
  Next : Int
  Acked : Int
  Sent : Int
  Got : Int
  Out : (List S_ref16_Body)
  Early : (List S_ref16_Early)
  Owes : Bool
  deriving DecidableEq

def S_ref16_Link.hp (b : Nat) (x : S_ref16_Link) : HP := Ex fun v8 : Value => Ex fun v9 : Value => Sep (Sep (B b [.int .i64 x.Window, .int .i64 x.Span, .int .i64 x.Room, .int .i64 x.Epoch, .int .i64 x.Next, .int .i64 x.Acked, .int .i64 x.Sent, .int .i64 x.Got, v8, v9, .bool x.Owes] 61) (Own S_ref16_Body.pr 88 v8 x.Out)) (Own S_ref16_Early.pr 91 v9 x.Early)

def S_ref16_Link.vp : VP S_ref16_Link 11 := ⟨fun cs x => Ex fun v8 : Value => Ex fun v9 : Value => Sep (Sep (Pu (cs = [.int .i64 x.Window, .int .i64 x.Span, .int .i64 x.Room, .int .i64 x.Epoch, .int .i64 x.Next, .int .i64 x.Acked, .int .i64 x.Sent, .int .i64 x.Got, v8, v9, .bool x.Owes] ∧ ([.int .i64 x.Window, .int .i64 x.Span, .int .i64 x.Room, .int .i64 x.Epoch, .int .i64 x.Next, .int .i64 x.Acked, .int .i64 x.Sent, .int .i64 x.Got, v8, v9, .bool x.Owes] : List Value).all (·.oneCell') = true)) (Own S_ref16_Body.pr 88 v8 x.Out)) (Own S_ref16_Early.pr 91 v9 x.Early),
  fun h => by obtain ⟨_, ⟨_, ⟨_, _, _, ⟨_, _, _, ⟨_, e, h1⟩, _⟩, _⟩⟩⟩ := h; rw [e]; rfl,
  fun h v hv => by obtain ⟨_, ⟨_, ⟨_, _, _, ⟨_, _, _, ⟨_, e, h1⟩, _⟩, _⟩⟩⟩ := h; rw [e] at hv; exact List.all_eq_true.1 h1 v hv⟩

structure S_law16_Act where
  Kind : Int
  N : Int
  Bodies : (List (List Int))
  S : S_api_Seg
  deriving DecidableEq

def S_law16_Act.pr : PR S_law16_Act 7 := pMap (fun x : S_law16_Act => (x.Kind, x.N, x.Bodies, x.S)) (pSeq (pInt .i64) (pSeq (pInt .i64) (pSeq (pRo (pRo (pInt .u8))) S_api_Seg.pr)))

theorem S_law16_Act.op {w : World} {l : List HP} {cs : List Value} {x : S_law16_Act} (h : Ctx w (Hold S_law16_Act.pr cs x :: l)) : ∃ a2 q2 a6 q6, cs = [.int .i64 x.Kind, .int .i64 x.N, .slice a2 x.Bodies.length q2, .int .i64 x.S.Epoch, .int .i64 x.S.Seq, .int .i64 x.S.Ack, .slice a6 x.S.Body.length q6] ∧ Ctx w (Hold (pRo (pRo (pInt .u8))) [.slice a2 x.Bodies.length q2] x.Bodies :: Hold (pRo (pInt .u8)) [.slice a6 x.S.Body.length q6] x.S.Body :: l) := by
  obtain ⟨R, Ss, hc⟩ := h
  match Ss, hc with
  | S :: Ss, hc =>
    obtain ⟨⟨rfl, ⟨_, _, rfl, rfl, ⟨_, _, rfl, rfl, ⟨_, _, rfl, ⟨_, rfl, a2, q2, rfl, hc2, hr2⟩, ⟨_, _, rfl, rfl, ⟨_, _, rfl, rfl, ⟨_, _, rfl, rfl, ⟨_, rfl, a6, q6, rfl, hc6, hr6⟩⟩⟩⟩⟩⟩⟩⟩, h3⟩ := hc.all
    exact ⟨a2, q2, a6, q6, rfl, R, [] :: [] :: Ss, ⟨⟨rfl, _, rfl, a2, q2, rfl, hc2, hr2⟩, ⟨rfl, _, rfl, a6, q6, rfl, hc6, hr6⟩, h3⟩, by simpa using hc.nodup, by simpa using hc.own, hc.fz⟩
theorem S_law16_Act.cl {w : World} {l : List HP} {z0 : Int} {z1 : Int} {z2 : (List (List Int))} {z3 : Int} {z4 : Int} {z5 : Int} {z6 : (List Int)} {v2 v6 : Value} (h : Ctx w (Hold (pRo (pRo (pInt .u8))) [v2] z2 :: Hold (pRo (pInt .u8)) [v6] z6 :: l)) : Ctx w (Hold S_law16_Act.pr [.int .i64 z0, .int .i64 z1, v2, .int .i64 z3, .int .i64 z4, .int .i64 z5, v6] (⟨z0, z1, z2, ⟨z3, z4, z5, z6⟩⟩ : S_law16_Act) :: l) := by
  obtain ⟨R, Ss, hc⟩ := h
  match Ss, hc with
  | S2 :: S6 :: Ss, hc =>
    obtain ⟨⟨rfl, _, e2, hr2⟩, ⟨rfl, _, e6, hr6⟩, h3⟩ := hc.all
    injection e2 with e2; subst e2
    injection e6 with e6; subst e6
    exact ⟨R, [] :: Ss, ⟨⟨rfl, ⟨_, _, rfl, rfl, ⟨_, _, rfl, rfl, ⟨_, _, rfl, ⟨_, rfl, hr2⟩, ⟨_, _, rfl, rfl, ⟨_, _, rfl, rfl, ⟨_, _, rfl, rfl, ⟨_, rfl, hr6⟩⟩⟩⟩⟩⟩⟩⟩, h3⟩, by simpa using hc.nodup, by simpa using hc.own, hc.fz⟩
  | [], hc => exact hc.all.elim
  | [_], hc => exact hc.all.2.elim

structure S_law16_Sides where
  Window : Int
  Span : Int
  Room : Int
  deriving DecidableEq

def S_law16_Sides.pr : PR S_law16_Sides 3 := pC (fun x => [.int .i64 x.Window, .int .i64 x.Span, .int .i64 x.Room]) (fun _ => rfl) (fun _ => rfl)

-- FN slices.IndexFunc[[][]byte,[]byte]
def slices_IndexFunc_s_s_byte_s_byte.L1 (x0 : (List (List Int))) (x1 : ((List Int) → Option Bool)) : Nat → Int → Option (Int)
  | 0, _ => none
  | m1 + 1, j1 =>
    if j1 < ((x0.length : Nat) : Int) then
      (idx x0 j1).bind fun y4 =>
      (x1 y4).bind fun r16 =>
      if r16 = true then
        some j1
      else
        (slices_IndexFunc_s_s_byte_s_byte.L1 x0 x1 m1) (IntKind.i64.wrap (j1 + 1))
    else
      some (-1)

def slices_IndexFunc_s_s_byte_s_byte (N : Nat) (x0 : (List (List Int))) (x1 : ((List Int) → Option Bool)) : Option (Int) :=
  slices_IndexFunc_s_s_byte_s_byte.L1 x0 x1 N 0

set_option maxHeartbeats 8000000 in
theorem slices_IndexFunc_s_s_byte_s_byte_any {N : Nat} {x0 : (List (List Int))} {ax0 : Option Addr} {nx0 : Nat} {qx0 : Nat} {P0 : HP} {x1 : ((List Int) → Option Bool)} {fid1 : FuncId} {cap1 : List Value} {Fr : List HP} {w : World} {r : Int} {K : Value → World → Prop} (hrd0 : Reads P0 (pRo (pInt .u8)) (.slice ax0 nx0 qx0) x0) (hcl1 : ∀ a w, (callFunc fid1 a).run Try.prog w = .ok (.enter fid1 a) w) (hf1 : ∀ (y0 : (List Int)) (a1 : Option Addr) (n2 : Nat) (q3 : Nat) (Qs : List HP) (w : World) (r : Bool) (K : Value → World → Prop), Ctx w (Hold (pRo (pInt .u8)) [.slice a1 n2 q3] y0 :: (Qs ++ Fr)) → x1 y0 = some r → (∀ w', Ctx w' (Qs ++ Fr) → K (.bool r) w') → Calls Try.prog fid1 (([.slice a1 n2 q3] : List Value) ++ cap1).toArray w (Ret K)) (hc : Ctx w (P0 :: Fr)) (hp : slices_IndexFunc_s_s_byte_s_byte N x0 x1 = some r)
    (k : ∀ w', Ctx w' (P0 :: Fr) → K (.int .i64 r) w') : Calls Try.prog 35 #[.slice ax0 nx0 qx0, .func (.func fid1) #[] cap1.toArray] w (Ret K) := by
 unfold slices_IndexFunc_s_s_byte_s_byte at hp
 refine Center (args := [.slice ax0 nx0 qx0, .func (.func fid1) #[] cap1.toArray]) (l := [(0, .slice ax0 nx0 qx0), (1, .func (.func fid1) #[] cap1.toArray)]) Try.func35 Try.ntmps35 rfl rfl rfl ?_
 obtain ⟨hn0, _⟩ := Ctx.rdLen hc (k := 0) rfl rfl hrd0; subst hn0
 refine Wseq ?_
 refine Wreg ?_
 refine rs (v := .int .i64 0) (av (v := .int .i64 0) rfl) rfl ?_
 refine rn ?_
 refine qn ?_
 refine Wseq ?_
 refine Wseq ?_
 refine Wreg ?_
 refine rs (v := .slice ax0 x0.length qx0) (mv (v := .slice ax0 x0.length qx0) rfl) rfl ?_
 refine rs (v := .int .i64 ((x0.length : Nat) : Int)) (ln rfl Try.underlying51) rfl ?_
 refine rs (v := .int .i64 0) (mv (v := .int .i64 0) rfl) rfl ?_
 refine rn ?_
 refine qn ?_
 refine Wblk ?_
 refine Wloop [4, 5, 8, 9, 10, 11, 12, 13, 14, 15, 16, 17, 18] [8] (fun m vs w' => ∃ j1 : Int, vs = [.int .i64 j1] ∧ slices_IndexFunc_s_s_byte_s_byte.L1 x0 x1 m j1 = some r ∧ Ctx w' (P0 :: Fr)) N ?_ ?_
 · exact ⟨0, rfl, hp, hc⟩
 · clear hp hc; intro m vs u w2 hJ
   obtain ⟨j1, rfl, hp, hc⟩ := hJ
   rcases m with _ | m1
   · cases (show none = some r from hp)
   rw [slices_IndexFunc_s_s_byte_s_byte.L1] at hp
   refine Wseq ?_
   refine Wreg ?_
   refine rs (v := .bool (decide (j1 < ((x0.length : Nat) : Int)))) (lt' rfl rfl) rfl ?_
   refine rn ?_
   refine qn ?_
   refine Wseq ?_
   cases hb3 : (decide (j1 < ((x0.length : Nat) : Int)))
   · replace hp := gneg hp (of_decide_eq_false hb3)
     refine Wcf rfl ?_
     refine Wexit ?_
     refine qx ?_
     refine qx ?_
     refine be ?_
     refine qn ?_
     refine Wseq ?_
     refine Wreg ?_
     refine rs (v := .int .i64 (-1)) (av (v := .int .i64 (-1)) rfl) rfl ?_
     refine rn ?_
     refine qn ?_
     refine Wret ?_
     injection hp with hp; subst hp
     refine f1 (v := .int .i64 (-1)) Try.results35 Try.ntmps35 rfl ?_
     exact ⟨_, rfl, k _ hc⟩
   · replace hp := gpos hp (of_decide_eq_true hb3)
     refine Wct rfl ?_
     refine Wskip ?_
     refine qn ?_
     refine Wseq ?_
     refine Wblk ?_
     refine Wseq ?_
     refine Wreg ?_
     refine rs (v := .int .i64 j1) (mv (v := .int .i64 j1) rfl) rfl ?_
     refine rs (v := .int .i64 j1) (av (v := .int .i64 j1) rfl) rfl ?_
     refine rn ?_
     refine qn ?_
     refine Wseq ?_
     refine Wreg ?_
     refine rs (v := .func (.func fid1) #[] cap1.toArray) (mv (v := .func (.func fid1) #[] cap1.toArray) rfl) rfl ?_
     refine rs (v := .slice ax0 x0.length qx0) (mv (v := .slice ax0 x0.length qx0) rfl) rfl ?_
     refine rs (v := .int .i64 j1) (mv (v := .int .i64 j1) rfl) rfl ?_
     replace hp := bind_some hp; obtain ⟨y4, hy4, hp⟩ := hp
     obtain ⟨b7, o8, u9, hi5, hi6⟩ := Ctx.rdAt hc (k := 0) rfl rfl hrd0 hy4
     subst u9
     refine rs (v := .pointer (some ⟨b7, o8 + (j1).toNat * 1, none⟩)) (ixx rfl rfl Try.underlying51 Try.sizeOf38 hi5 hi6 rfl) rfl ?_
     replace hc := Ctx.rdCell hc (k := 0) rfl rfl hrd0 hy4; obtain ⟨cs10, hc, hcell11⟩ := hc
     replace hc := Ctx.holdRo hc; obtain ⟨v15, u12, hc⟩ := hc; subst u12
     obtain ⟨a13, q14, u12⟩ := hc.rd (k := 0) rfl rfl reads_ro; subst u12
     refine rs (v := .slice a13 y4.length q14) (ld rfl Try.isAgg38 (hcell11 0 _ rfl)) rfl ?_
     replace hc := hc.dup (k := 0) rfl rfl
     replace hp := bind_some hp; obtain ⟨r16, hr16, hp⟩ := hp
     refine rc (cv (fi := []) (ca := cap1) (vs := ([.slice a13 y4.length q14] : List Value) ++ cap1) hcl1 rfl rfl) rfl ?_
     refine hf1 _ _ _ _ [Hold (pRo (pInt .u8)) [.slice a13 y4.length q14] y4, P0] _ _ _ hc hr16 ?_
     clear hc; intro w17 hc
     replace hc : Ctx w17 (Hold (pRo (pInt .u8)) [.slice a13 y4.length q14] y4 :: P0 :: Fr) := hc
     refine rn ?_
     refine qn ?_
     cases hb18 : r16
     · replace hp := gneg hp (by rw [hb18]; exact Bool.false_ne_true)
       subst hb18
       refine Wcf rfl ?_
       refine Wskip ?_
       refine bn ?_
       refine qn ?_
       refine Wreg ?_
       refine rs (v := .int .i64 (IntKind.i64.wrap (j1 + 1))) (adw rfl rfl) rfl ?_
       refine rs (v := .int .i64 (IntKind.i64.wrap (j1 + 1))) (mv (v := .int .i64 (IntKind.i64.wrap (j1 + 1))) rfl) rfl ?_
       refine rn ?_
       refine qn ?_
       replace hc := hc.rem 0 rfl rfl
       exact ⟨m1, Nat.lt_succ_self _, ⟨(IntKind.i64.wrap (j1 + 1)), rfl, hp, hc⟩, (kl rfl k0)⟩
     · replace hp := gpos hp hb18
       subst hb18
       refine Wct rfl ?_
       refine Wseq ?_
       refine Wreg ?_
       refine rs (v := .int .i64 j1) (mv (v := .int .i64 j1) rfl) rfl ?_
       refine rs (v := .int .i64 j1) (av (v := .int .i64 j1) rfl) rfl ?_
       refine rn ?_
       refine qn ?_
       refine Wret ?_
       refine br ?_
       refine qr ?_
       refine qr ?_
       refine br ?_
       refine qr ?_
       replace hc := hc.rem 0 rfl rfl
       injection hp with hp; subst hp
       refine f1 (v := .int .i64 j1) Try.results35 Try.ntmps35 rfl ?_
       exact ⟨_, rfl, k _ hc⟩

-- FN slices.ContainsFunc[[][]byte,[]byte]
def slices_ContainsFunc_s_s_byte_s_byte (N : Nat) (x0 : (List (List Int))) (x1 : ((List Int) → Option Bool)) : Option (Bool) :=
  (slices_IndexFunc_s_s_byte_s_byte N x0 x1).bind fun r2 =>
  some (decide (r2 ≥ 0))

set_option maxHeartbeats 8000000 in
theorem slices_ContainsFunc_s_s_byte_s_byte_any {N : Nat} {x0 : (List (List Int))} {ax0 : Option Addr} {nx0 : Nat} {qx0 : Nat} {P0 : HP} {x1 : ((List Int) → Option Bool)} {fid1 : FuncId} {cap1 : List Value} {Fr : List HP} {w : World} {r : Bool} {K : Value → World → Prop} (hrd0 : Reads P0 (pRo (pInt .u8)) (.slice ax0 nx0 qx0) x0) (hcl1 : ∀ a w, (callFunc fid1 a).run Try.prog w = .ok (.enter fid1 a) w) (hf1 : ∀ (y0 : (List Int)) (a1 : Option Addr) (n2 : Nat) (q3 : Nat) (Qs : List HP) (w : World) (r : Bool) (K : Value → World → Prop), Ctx w (Hold (pRo (pInt .u8)) [.slice a1 n2 q3] y0 :: (Qs ++ Fr)) → x1 y0 = some r → (∀ w', Ctx w' (Qs ++ Fr) → K (.bool r) w') → Calls Try.prog fid1 (([.slice a1 n2 q3] : List Value) ++ cap1).toArray w (Ret K)) (hc : Ctx w (P0 :: Fr)) (hp : slices_ContainsFunc_s_s_byte_s_byte N x0 x1 = some r)
    (k : ∀ w', Ctx w' (P0 :: Fr) → K (.bool r) w') : Calls Try.prog 28 #[.slice ax0 nx0 qx0, .func (.func fid1) #[] cap1.toArray] w (Ret K) := by
 unfold slices_ContainsFunc_s_s_byte_s_byte at hp
 refine Center (args := [.slice ax0 nx0 qx0, .func (.func fid1) #[] cap1.toArray]) (l := [(0, .slice ax0 nx0 qx0), (1, .func (.func fid1) #[] cap1.toArray)]) Try.func28 Try.ntmps28 rfl rfl rfl ?_
 obtain ⟨hn0, _⟩ := Ctx.rdLen hc (k := 0) rfl rfl hrd0; subst hn0
 refine Wseq ?_
 refine Wreg ?_
 refine rs (v := .bool false) (av (v := .bool false) rfl) rfl ?_
 refine rn ?_
 refine qn ?_
 refine Wseq ?_
 refine Wreg ?_
 refine rs (v := .slice ax0 x0.length qx0) (mv (v := .slice ax0 x0.length qx0) rfl) rfl ?_
 refine rs (v := .func (.func fid1) #[] cap1.toArray) (mv (v := .func (.func fid1) #[] cap1.toArray) rfl) rfl ?_
 have hf1 : ∀ (y0 : (List Int)) (a2 : Option Addr) (n3 : Nat) (q4 : Nat) (Qs : List HP) (w : World) (r : Bool) (K : Value → World → Prop), Ctx w (Hold (pRo (pInt .u8)) [.slice a2 n3 q4] y0 :: (Qs ++ (Fr))) → x1 y0 = some r → (∀ w', Ctx w' (Qs ++ (Fr)) → K (.bool r) w') → Calls Try.prog fid1 (([.slice a2 n3 q4] : List Value) ++ cap1).toArray w (Ret K) := by
   intro z0 z1 z2 z3 Qs w r K hc hp k
   refine hf1 z0 z1 z2 z3 (Qs ++ []) w r K (by rw [List.append_assoc]; exact hc) hp (fun w' hc' => k w' (by rw [List.append_assoc] at hc'; exact hc'))
 replace hp := bind_some hp; obtain ⟨r2, hr2, hp⟩ := hp
 refine rc (cl Try.call35 rfl rfl) rfl ?_
 refine slices_IndexFunc_s_s_byte_s_byte_any hrd0 hcl1 hf1 hc hr2 ?_
 clear hc; intro w3 hc
 refine rs (v := .bool (decide (r2 ≥ 0))) (ge' rfl rfl) rfl ?_
 refine rs (v := .bool (decide (r2 ≥ 0))) (av (v := .bool (decide (r2 ≥ 0))) rfl) rfl ?_
 refine rn ?_
 refine qn ?_
 refine Wret ?_
 injection hp with hp; subst hp
 refine f1 (v := .bool (decide (r2 ≥ 0))) Try.results28 Try.ntmps28 rfl ?_
 exact ⟨_, rfl, k _ hc⟩

-- FN slices.IndexFunc[[]peloton/link.body,peloton/link.body]
def slices_IndexFunc_s_link_body_link_body.L1 (x0 : (List S_link_body)) (x1 : (S_link_body → Option Bool)) : Nat → Int → Option (Int)
  | 0, _ => none
  | m1 + 1, j1 =>
    if j1 < ((x0.length : Nat) : Int) then
      (idx x0 j1).bind fun y4 =>
      (x1 y4).bind fun r15 =>
      if r15 = true then
        some j1
      else
        (slices_IndexFunc_s_link_body_link_body.L1 x0 x1 m1) (IntKind.i64.wrap (j1 + 1))
    else
      some (-1)

def slices_IndexFunc_s_link_body_link_body (N : Nat) (x0 : (List S_link_body)) (x1 : (S_link_body → Option Bool)) : Option (Int) :=
  slices_IndexFunc_s_link_body_link_body.L1 x0 x1 N 0

set_option maxHeartbeats 8000000 in
theorem slices_IndexFunc_s_link_body_link_body_any {N : Nat} {x0 : (List S_link_body)} {ax0 : Option Addr} {nx0 : Nat} {qx0 : Nat} {P0 : HP} {x1 : (S_link_body → Option Bool)} {fid1 : FuncId} {cap1 : List Value} {Fr : List HP} {w : World} {r : Int} {K : Value → World → Prop} (hrd0 : Reads P0 S_link_body.pr (.slice ax0 nx0 qx0) x0) (hcl1 : ∀ a w, (callFunc fid1 a).run Try.prog w = .ok (.enter fid1 a) w) (hf1 : ∀ (y0 : S_link_body) (a1 : Option Addr) (n2 : Nat) (q3 : Nat) (Qs : List HP) (w : World) (r : Bool) (K : Value → World → Prop), Ctx w (Hold (pRo (pInt .u8)) [.slice a1 n2 q3] y0.b :: (Qs ++ Fr)) → x1 y0 = some r → (∀ w', Ctx w' (Qs ++ Fr) → K (.bool r) w') → Calls Try.prog fid1 (([.agg #[.int .i64 y0.seq, .int .i64 y0.at_, .slice a1 n2 q3]] : List Value) ++ cap1).toArray w (Ret K)) (hc : Ctx w (P0 :: Fr)) (hp : slices_IndexFunc_s_link_body_link_body N x0 x1 = some r)
    (k : ∀ w', Ctx w' (P0 :: Fr) → K (.int .i64 r) w') : Calls Try.prog 36 #[.slice ax0 nx0 qx0, .func (.func fid1) #[] cap1.toArray] w (Ret K) := by
 unfold slices_IndexFunc_s_link_body_link_body at hp
 refine Center (args := [.slice ax0 nx0 qx0, .func (.func fid1) #[] cap1.toArray]) (l := [(0, .slice ax0 nx0 qx0), (1, .func (.func fid1) #[] cap1.toArray)]) Try.func36 Try.ntmps36 rfl rfl rfl ?_
 obtain ⟨hn0, _⟩ := Ctx.rdLen hc (k := 0) rfl rfl hrd0; subst hn0
 refine Wseq ?_
 refine Wreg ?_
 refine rs (v := .int .i64 0) (av (v := .int .i64 0) rfl) rfl ?_
 refine rn ?_
 refine qn ?_
 refine Wseq ?_
 refine Wseq ?_
 refine Wreg ?_
 refine rs (v := .slice ax0 x0.length qx0) (mv (v := .slice ax0 x0.length qx0) rfl) rfl ?_
 refine rs (v := .int .i64 ((x0.length : Nat) : Int)) (ln rfl Try.underlying75) rfl ?_
 refine rs (v := .int .i64 0) (mv (v := .int .i64 0) rfl) rfl ?_
 refine rn ?_
 refine qn ?_
 refine Wblk ?_
 refine Wloop [4, 5, 8, 9, 10, 11, 12, 13, 14, 15, 16, 17, 18] [8] (fun m vs w' => ∃ j1 : Int, vs = [.int .i64 j1] ∧ slices_IndexFunc_s_link_body_link_body.L1 x0 x1 m j1 = some r ∧ Ctx w' (P0 :: Fr)) N ?_ ?_
 · exact ⟨0, rfl, hp, hc⟩
 · clear hp hc; intro m vs u w2 hJ
   obtain ⟨j1, rfl, hp, hc⟩ := hJ
   rcases m with _ | m1
   · cases (show none = some r from hp)
   rw [slices_IndexFunc_s_link_body_link_body.L1] at hp
   refine Wseq ?_
   refine Wreg ?_
   refine rs (v := .bool (decide (j1 < ((x0.length : Nat) : Int)))) (lt' rfl rfl) rfl ?_
   refine rn ?_
   refine qn ?_
   refine Wseq ?_
   cases hb3 : (decide (j1 < ((x0.length : Nat) : Int)))
   · replace hp := gneg hp (of_decide_eq_false hb3)
     refine Wcf rfl ?_
     refine Wexit ?_
     refine qx ?_
     refine qx ?_
     refine be ?_
     refine qn ?_
     refine Wseq ?_
     refine Wreg ?_
     refine rs (v := .int .i64 (-1)) (av (v := .int .i64 (-1)) rfl) rfl ?_
     refine rn ?_
     refine qn ?_
     refine Wret ?_
     injection hp with hp; subst hp
     refine f1 (v := .int .i64 (-1)) Try.results36 Try.ntmps36 rfl ?_
     exact ⟨_, rfl, k _ hc⟩
   · replace hp := gpos hp (of_decide_eq_true hb3)
     refine Wct rfl ?_
     refine Wskip ?_
     refine qn ?_
     refine Wseq ?_
     refine Wblk ?_
     refine Wseq ?_
     refine Wreg ?_
     refine rs (v := .int .i64 j1) (mv (v := .int .i64 j1) rfl) rfl ?_
     refine rs (v := .int .i64 j1) (av (v := .int .i64 j1) rfl) rfl ?_
     refine rn ?_
     refine qn ?_
     refine Wseq ?_
     refine Wreg ?_
     refine rs (v := .func (.func fid1) #[] cap1.toArray) (mv (v := .func (.func fid1) #[] cap1.toArray) rfl) rfl ?_
     refine rs (v := .slice ax0 x0.length qx0) (mv (v := .slice ax0 x0.length qx0) rfl) rfl ?_
     refine rs (v := .int .i64 j1) (mv (v := .int .i64 j1) rfl) rfl ?_
     replace hp := bind_some hp; obtain ⟨y4, hy4, hp⟩ := hp
     obtain ⟨b7, o8, u9, hi5, hi6⟩ := Ctx.rdAt hc (k := 0) rfl rfl hrd0 hy4
     subst u9
     refine rs (v := .pointer (some ⟨b7, o8 + (j1).toNat * 3, none⟩)) (ixx rfl rfl Try.underlying75 Try.sizeOf82 hi5 hi6 rfl) rfl ?_
     replace hc := Ctx.rdCell hc (k := 0) rfl rfl hrd0 hy4; obtain ⟨cs10, hc, hcell11⟩ := hc
     replace hc := S_link_body.op hc; obtain ⟨a13, q14, u12, hc⟩ := hc; subst u12
     refine rs (v := .agg #[.int .i64 y4.seq, .int .i64 y4.at_, .slice a13 y4.b.length q14]) (ldg rfl Try.isAgg82 Try.sizeOf82 rfl (elCells hcell11 0 (vs := [.int .i64 y4.seq, .int .i64 y4.at_, .slice a13 y4.b.length q14]) rfl)) rfl ?_
     replace hc := hc.dup (k := 0) rfl rfl
     replace hp := bind_some hp; obtain ⟨r15, hr15, hp⟩ := hp
     refine rc (cv (fi := []) (ca := cap1) (vs := ([.agg #[.int .i64 y4.seq, .int .i64 y4.at_, .slice a13 y4.b.length q14]] : List Value) ++ cap1) hcl1 rfl rfl) rfl ?_
     refine hf1 _ _ _ _ [Hold (pRo (pInt .u8)) [.slice a13 y4.b.length q14] y4.b, P0] _ _ _ hc hr15 ?_
     clear hc; intro w16 hc
     replace hc : Ctx w16 (Hold (pRo (pInt .u8)) [.slice a13 y4.b.length q14] y4.b :: P0 :: Fr) := hc
     refine rn ?_
     refine qn ?_
     cases hb17 : r15
     · replace hp := gneg hp (by rw [hb17]; exact Bool.false_ne_true)
       subst hb17
       refine Wcf rfl ?_
       refine Wskip ?_
       refine bn ?_
       refine qn ?_
       refine Wreg ?_
       refine rs (v := .int .i64 (IntKind.i64.wrap (j1 + 1))) (adw rfl rfl) rfl ?_
       refine rs (v := .int .i64 (IntKind.i64.wrap (j1 + 1))) (mv (v := .int .i64 (IntKind.i64.wrap (j1 + 1))) rfl) rfl ?_
       refine rn ?_
       refine qn ?_
       replace hc := hc.rem 0 rfl rfl
       exact ⟨m1, Nat.lt_succ_self _, ⟨(IntKind.i64.wrap (j1 + 1)), rfl, hp, hc⟩, (kl rfl k0)⟩
     · replace hp := gpos hp hb17
       subst hb17
       refine Wct rfl ?_
       refine Wseq ?_
       refine Wreg ?_
       refine rs (v := .int .i64 j1) (mv (v := .int .i64 j1) rfl) rfl ?_
       refine rs (v := .int .i64 j1) (av (v := .int .i64 j1) rfl) rfl ?_
       refine rn ?_
       refine qn ?_
       refine Wret ?_
       refine br ?_
       refine qr ?_
       refine qr ?_
       refine br ?_
       refine qr ?_
       replace hc := hc.rem 0 rfl rfl
       injection hp with hp; subst hp
       refine f1 (v := .int .i64 j1) Try.results36 Try.ntmps36 rfl ?_
       exact ⟨_, rfl, k _ hc⟩

-- FN slices.DeleteFunc[[]peloton/link.body,peloton/link.body]
def slices_DeleteFunc_s_link_body_link_body.J2 (j10 : Int) (k1 : (List S_link_body) → Int → Int → Option ((List S_link_body))) (j22 : (List S_link_body)) (j26 : Int) : Option ((List S_link_body)) :=
  k1 j22 j26 (IntKind.i64.wrap (j10 + 1))

def slices_DeleteFunc_s_link_body_link_body.J3 (j5 : (List S_link_body)) (j9 : Int) (j10 : Int) (y27 : S_link_body) (k1 : (List S_link_body) → Int → Int → Option ((List S_link_body))) (j42 : Bool) : Option ((List S_link_body)) :=
  if j42 = true then
    (idx j5 j9).bind fun y48 =>
    slices_DeleteFunc_s_link_body_link_body.J2 j10 k1 (j5.set (j9).toNat (⟨y27.seq, y27.at_, y27.b⟩ : S_link_body)) (IntKind.i64.wrap (j9 + 1))
  else
    slices_DeleteFunc_s_link_body_link_body.J2 j10 k1 j5 j9

def slices_DeleteFunc_s_link_body_link_body.L1 (x0 : (List S_link_body)) (x1 : (S_link_body → Option Bool)) : Nat → (List S_link_body) → Int → Int → Option ((List S_link_body))
  | 0, _, _, _ => none
  | m1 + 1, j5, j9, j10 =>
    if j10 < ((x0.length : Nat) : Int) then
      (idx j5 j10).bind fun y27 =>
      (x1 (⟨y27.seq, y27.at_, y27.b⟩ : S_link_body)).bind fun r43 =>
      if r43 = true then
        slices_DeleteFunc_s_link_body_link_body.J3 j5 j9 j10 y27 (slices_DeleteFunc_s_link_body_link_body.L1 x0 x1 m1) false
      else
        slices_DeleteFunc_s_link_body_link_body.J3 j5 j9 j10 y27 (slices_DeleteFunc_s_link_body_link_body.L1 x0 x1 m1) true
    else
      chk (0 ≤ j9 ∧ j9 ≤ ((x0.length : Nat) : Int) ∧ ((x0.length : Nat) : Int) ≤ ((x0.length : Nat) : Int)) <|
      chk (0 ≤ j9 ∧ j9 ≤ ((x0.length : Nat) : Int)) <|
      some ((j5.take (j9).toNat ++ List.replicate (x0.length - (j9).toNat) (⟨0, 0, []⟩ : S_link_body)).take (j9).toNat)

def slices_DeleteFunc_s_link_body_link_body (N : Nat) (x0 : (List S_link_body)) (x1 : (S_link_body → Option Bool)) : Option ((List S_link_body)) :=
  (slices_IndexFunc_s_link_body_link_body N x0 x1).bind fun r2 =>
  if r2 = (-1) then
    some x0
  else
    slices_DeleteFunc_s_link_body_link_body.L1 x0 x1 N x0 r2 (IntKind.i64.wrap (r2 + 1))

set_option maxHeartbeats 8000000 in
theorem slices_DeleteFunc_s_link_body_link_body_any {N : Nat} {x0 : (List S_link_body)} {ax0 : Option Addr} {nx0 : Nat} {qx0 : Nat} {x1 : (S_link_body → Option Bool)} {fid1 : FuncId} {cap1 : List Value} {Fr : List HP} {w : World} {r : (List S_link_body)} {K : Value → World → Prop} (hcl1 : ∀ a w, (callFunc fid1 a).run Try.prog w = .ok (.enter fid1 a) w) (hf1 : ∀ (y0 : S_link_body) (a1 : Option Addr) (n2 : Nat) (q3 : Nat) (Qs : List HP) (w : World) (r : Bool) (K : Value → World → Prop), Ctx w (Hold (pRo (pInt .u8)) [.slice a1 n2 q3] y0.b :: (Qs ++ Fr)) → x1 y0 = some r → (∀ w', Ctx w' (Qs ++ Fr) → K (.bool r) w') → Calls Try.prog fid1 (([.agg #[.int .i64 y0.seq, .int .i64 y0.at_, .slice a1 n2 q3]] : List Value) ++ cap1).toArray w (Ret K)) (hc : Ctx w (Own S_link_body.pr 82 (.slice ax0 nx0 qx0) x0 :: Fr)) (hp : slices_DeleteFunc_s_link_body_link_body N x0 x1 = some r)
    (k : ∀ (a56 : Option Addr) (n57 : Nat) (q58 : Nat) w', Ctx w' (Own S_link_body.pr 82 (.slice a56 n57 q58) r :: Fr) → K (.slice a56 n57 q58) w') : Calls Try.prog 31 #[.slice ax0 nx0 qx0, .func (.func fid1) #[] cap1.toArray] w (Ret K) := by
 unfold slices_DeleteFunc_s_link_body_link_body at hp
 refine Center (args := [.slice ax0 nx0 qx0, .func (.func fid1) #[] cap1.toArray]) (l := [(0, .slice ax0 nx0 qx0), (1, .func (.func fid1) #[] cap1.toArray)]) Try.func31 Try.ntmps31 rfl rfl rfl ?_
 obtain ⟨hn0, _⟩ := Ctx.rdLen hc (k := 0) rfl rfl reads_own; subst hn0
 refine Wseq ?_
 refine Wreg ?_
 refine rs (v := .slice none 0 0) (av (v := .slice none 0 0) rfl) rfl ?_
 refine rn ?_
 refine qn ?_
 refine Wseq ?_
 refine Wreg ?_
 refine rs (v := .slice ax0 x0.length qx0) (mv (v := .slice ax0 x0.length qx0) rfl) rfl ?_
 refine rs (v := .func (.func fid1) #[] cap1.toArray) (mv (v := .func (.func fid1) #[] cap1.toArray) rfl) rfl ?_
 have hf1 : ∀ (y0 : S_link_body) (a2 : Option Addr) (n3 : Nat) (q4 : Nat) (Qs : List HP) (w : World) (r : Bool) (K : Value → World → Prop), Ctx w (Hold (pRo (pInt .u8)) [.slice a2 n3 q4] y0.b :: (Qs ++ (Fr))) → x1 y0 = some r → (∀ w', Ctx w' (Qs ++ (Fr)) → K (.bool r) w') → Calls Try.prog fid1 (([.agg #[.int .i64 y0.seq, .int .i64 y0.at_, .slice a2 n3 q4]] : List Value) ++ cap1).toArray w (Ret K) := by
   intro z0 z1 z2 z3 Qs w r K hc hp k
   refine hf1 z0 z1 z2 z3 (Qs ++ []) w r K (by rw [List.append_assoc]; exact hc) hp (fun w' hc' => k w' (by rw [List.append_assoc] at hc'; exact hc'))
 replace hp := bind_some hp; obtain ⟨r2, hr2, hp⟩ := hp
 refine rc (cl Try.call36 rfl rfl) rfl ?_
 refine slices_IndexFunc_s_link_body_link_body_any reads_own hcl1 hf1 hc hr2 ?_
 clear hc; intro w3 hc
 refine rs (v := .int .i64 r2) (av (v := .int .i64 r2) rfl) rfl ?_
 refine rn ?_
 refine qn ?_
 refine Wseq ?_
 refine Wseq ?_
 refine Wreg ?_
 refine rs (v := .int .i64 r2) (mv (v := .int .i64 r2) rfl) rfl ?_
 refine rs (v := .bool (decide (r2 = (-1)))) (eqd rfl rfl) rfl ?_
 refine rn ?_
 refine qn ?_
 cases hb4 : (decide (r2 = (-1)))
 · replace hp := gneg hp (of_decide_eq_false hb4)
   refine Wcf rfl ?_
   refine Wskip ?_
   refine qn ?_
   refine Wseq ?_
   refine Wseq ?_
   refine Wreg ?_
   refine rs (v := .int .i64 r2) (mv (v := .int .i64 r2) rfl) rfl ?_
   refine rs (v := .int .i64 (IntKind.i64.wrap (r2 + 1))) (adw rfl rfl) rfl ?_
   refine rs (v := .int .i64 (IntKind.i64.wrap (r2 + 1))) (av (v := .int .i64 (IntKind.i64.wrap (r2 + 1))) rfl) rfl ?_
   refine rn ?_
   refine qn ?_
   refine Wblk ?_
   refine Wloop [5, 6, 7, 16, 17, 18, 19, 20, 21, 22, 23, 24, 25, 26, 27, 28, 29, 30, 31, 32, 33, 34, 35] [5, 6] (fun m vs w' => ∃ j5 : (List S_link_body), ∃ j9 : Int, ∃ j10 : Int, vs = [.int .i64 j9, .int .i64 j10] ∧ slices_DeleteFunc_s_link_body_link_body.L1 x0 x1 m j5 j9 j10 = some r ∧ Ctx w' (Own S_link_body.pr 82 (.slice ax0 x0.length qx0) j5 :: Fr)) N ?_ ?_
   · exact ⟨x0, r2, (IntKind.i64.wrap (r2 + 1)), rfl, hp, hc⟩
   · clear hp hc; intro m vs u w11 hJ
     obtain ⟨j5, j9, j10, rfl, hp, hc⟩ := hJ
     rcases m with _ | m1
     · cases (show none = some r from hp)
     rw [slices_DeleteFunc_s_link_body_link_body.L1] at hp
     refine Wseq ?_
     refine Wseq ?_
     refine Wreg ?_
     refine rs (v := .int .i64 j10) (mv (v := .int .i64 j10) rfl) rfl ?_
     refine rs (v := .slice ax0 x0.length qx0) (mv (v := .slice ax0 x0.length qx0) rfl) rfl ?_
     refine rs (v := .int .i64 ((x0.length : Nat) : Int)) (ln rfl Try.underlying75) rfl ?_
     refine rs (v := .bool (decide (j10 < ((x0.length : Nat) : Int)))) (lt' rfl rfl) rfl ?_
     refine rn ?_
     refine qn ?_
     cases hb12 : (decide (j10 < ((x0.length : Nat) : Int)))
     · replace hp := gneg hp (of_decide_eq_false hb12)
       refine Wcf rfl ?_
       refine Wexit ?_
       refine qx ?_
       refine qx ?_
       refine be ?_
       refine qn ?_
       refine Wseq ?_
       refine Wreg ?_
       refine rs (v := .slice ax0 x0.length qx0) (mv (v := .slice ax0 x0.length qx0) rfl) rfl ?_
       refine rs (v := .int .i64 j9) (mv (v := .int .i64 j9) rfl) rfl ?_
       replace hp := chk_some hp; obtain ⟨hg13, hp⟩ := hp
       refine rsE (Ctx.subOp (li := some j9) (hi' := none) hc (k := 0) rfl rfl reads_own rfl ⟨_, rfl⟩ trivial Try.underlying75 Try.sizeOf82 hg13) rfl ?_
       rintro _ _ ⟨rfl, a14, q15, rfl, rd16, ea17, eq18⟩
       replace rd16 : Reads (Own S_link_body.pr 82 (.slice ax0 x0.length qx0) j5) S_link_body.pr (.slice a14 ((((x0.length : Nat) : Int)).toNat - (j9).toNat) q15) ((j5.take (((x0.length : Nat) : Int)).toNat).drop (j9).toNat) := rd16
       subst ea17 eq18
       refine rvE (Ctx.clearFrom (x0 := (⟨0, 0, []⟩ : S_link_body)) hc (k := 0) rfl rfl Try.underlying75 Try.zeroValue82 rfl rfl (fun _ _ => ⟨([.int .i64 0] : List Value), ([.int .i64 0, .slice none 0 0] : List Value), rfl, rfl, ⟨([.int .i64 0] : List Value), ([.slice none 0 0] : List Value), rfl, rfl, ⟨_, rfl, none, 0, rfl, Nat.le_refl _, fun i x hx => by simp at hx⟩⟩⟩) (j9).toNat (by omega) rfl) rfl ?_
       clear hc; intro w19 hc
       refine rn ?_
       refine qn ?_
       refine Wseq ?_
       refine Wreg ?_
       refine rs (v := .slice ax0 x0.length qx0) (mv (v := .slice ax0 x0.length qx0) rfl) rfl ?_
       refine rs (v := .int .i64 j9) (mv (v := .int .i64 j9) rfl) rfl ?_
       replace hp := chk_some hp; obtain ⟨hg20, hp⟩ := hp
       refine rsE (Ctx.subOp0 (hv := j9) hc (k := 0) rfl rfl reads_own rfl ⟨_, rfl⟩ Try.underlying75 Try.sizeOf82 hg20) rfl ?_
       rintro _ _ ⟨rfl, rfl, rd21⟩
       refine rs (v := .slice ax0 ((j9).toNat) qx0) (av (v := .slice ax0 ((j9).toNat) qx0) rfl) rfl ?_
       refine rn ?_
       refine qn ?_
       refine Wret ?_
       replace hc := hc.ownTake (k := 0) rfl rfl (j9).toNat (by omega) rfl
       injection hp with hp; subst hp
       refine f1 (v := .slice ax0 ((j9).toNat) qx0) Try.results31 Try.ntmps31 rfl ?_
       exact ⟨_, rfl, k _ _ _ _ hc⟩
     · replace hp := gpos hp (of_decide_eq_true hb12)
       refine Wct rfl ?_
       refine Wskip ?_
       refine qn ?_
       refine Wseqm [5, 7, 22, 23, 24, 25, 26, 27, 28, 29, 30, 31, 32, 33, 34, 35] [5] (fun vs w' => ∃ j22 : (List S_link_body), ∃ j26 : Int, vs = [.int .i64 j26] ∧ slices_DeleteFunc_s_link_body_link_body.J2 j10 (slices_DeleteFunc_s_link_body_link_body.L1 x0 x1 m1) j22 j26 = some r ∧ Ctx w' (Own S_link_body.pr 82 (.slice ax0 x0.length qx0) j22 :: Fr)) ?_ ?_
       · refine Wblk ?_
         refine Wseq ?_
         refine Wreg ?_
         refine rs (v := .slice ax0 x0.length qx0) (mv (v := .slice ax0 x0.length qx0) rfl) rfl ?_
         refine rs (v := .int .i64 j10) (mv (v := .int .i64 j10) rfl) rfl ?_
         replace hp := bind_some hp; obtain ⟨y27, hy27, hp⟩ := hp
         obtain ⟨b30, o31, u32, hi28, hi29⟩ := Ctx.rdAt hc (k := 0) rfl rfl reads_own hy27
         subst u32
         refine rs (v := .pointer (some ⟨b30, o31 + (j10).toNat * 3, none⟩)) (ixx rfl rfl Try.underlying75 Try.sizeOf82 hi28 hi29 rfl) rfl ?_
         replace hc := Ctx.rdCell hc (k := 0) rfl rfl reads_own hy27; obtain ⟨cs33, hc, hcell34⟩ := hc
         replace hc := S_link_body.op hc; obtain ⟨a36, q37, u35, hc⟩ := hc; subst u35
         refine rs (v := .agg #[.int .i64 y27.seq, .int .i64 y27.at_, .slice a36 y27.b.length q37]) (ldg rfl Try.isAgg82 Try.sizeOf82 rfl (elCells hcell34 0 (vs := [.int .i64 y27.seq, .int .i64 y27.at_, .slice a36 y27.b.length q37]) rfl)) rfl ?_
         refine rsE (Ctx.allocOp (cs := [.int .i64 0, .int .i64 0, .slice none 0 0]) hc Try.zeroValue82 rfl) rfl ?_
         clear hc; rintro _ w40 ⟨b38, rfl, hc⟩
         refine ruE (A := fun w' => Ctx w' (B b38 [.int .i64 y27.seq, .int .i64 y27.at_, .slice a36 y27.b.length q37] 82 :: Hold (pRo (pInt .u8)) [.slice a36 y27.b.length q37] y27.b :: Own S_link_body.pr 82 (.slice (some ⟨b30, o31, none⟩) x0.length qx0) j5 :: Fr)) (Ctx.putAgg hc (k := 0) rfl rfl (vs := [.int .i64 y27.seq, .int .i64 y27.at_, .slice a36 y27.b.length q37]) rfl rfl rfl Try.sizeOf82 rfl rfl rfl) rfl ?_
         clear hc; rintro w41 hc
         refine rn ?_
         refine qn ?_
         refine Wseqm [26, 27, 28, 29] [29] (fun vs w' => ∃ j42 : Bool, vs = [.bool j42] ∧ slices_DeleteFunc_s_link_body_link_body.J3 j5 j9 j10 y27 (slices_DeleteFunc_s_link_body_link_body.L1 x0 x1 m1) j42 = some r ∧ Ctx w' (B b38 [.int .i64 y27.seq, .int .i64 y27.at_, .slice a36 y27.b.length q37] 82 :: Hold (pRo (pInt .u8)) [.slice a36 y27.b.length q37] y27.b :: Own S_link_body.pr 82 (.slice (some ⟨b30, o31, none⟩) x0.length qx0) j5 :: Fr)) ?_ ?_
         · refine Wreg ?_
           refine rs (v := .func (.func fid1) #[] cap1.toArray) (mv (v := .func (.func fid1) #[] cap1.toArray) rfl) rfl ?_
           refine rs (v := .agg #[.int .i64 y27.seq, .int .i64 y27.at_, .slice a36 y27.b.length q37]) (ldg rfl Try.isAgg82 Try.sizeOf82 rfl (Ctx.cells hc (k := 0) rfl rfl 0 (vs := [.int .i64 y27.seq, .int .i64 y27.at_, .slice a36 y27.b.length q37]) rfl)) rfl ?_
           replace hc := hc.dup (k := 1) rfl rfl
           replace hp := bind_some hp; obtain ⟨r43, hr43, hp⟩ := hp
           refine rc (cv (fi := []) (ca := cap1) (vs := ([.agg #[.int .i64 y27.seq, .int .i64 y27.at_, .slice a36 y27.b.length q37]] : List Value) ++ cap1) hcl1 rfl rfl) rfl ?_
           refine hf1 _ _ _ _ [B b38 [.int .i64 y27.seq, .int .i64 y27.at_, .slice a36 y27.b.length q37] 82, Hold (pRo (pInt .u8)) [.slice a36 y27.b.length q37] y27.b, Own S_link_body.pr 82 (.slice (some ⟨b30, o31, none⟩) x0.length qx0) j5] _ _ _ hc hr43 ?_
           clear hc; intro w44 hc
           replace hc : Ctx w44 (B b38 [.int .i64 y27.seq, .int .i64 y27.at_, .slice a36 y27.b.length q37] 82 :: Hold (pRo (pInt .u8)) [.slice a36 y27.b.length q37] y27.b :: Own S_link_body.pr 82 (.slice (some ⟨b30, o31, none⟩) x0.length qx0) j5 :: Fr) := hc
           cases hb45 : r43
           · replace hp := gneg hp (by rw [hb45]; exact Bool.false_ne_true)
             subst hb45
             refine rs (v := .bool true) (ntf rfl) rfl ?_
             refine rn ?_
             refine qn ?_
             exact ⟨⟨true, rfl, hp, hc⟩, (kl rfl kb)⟩
           · replace hp := gpos hp hb45
             subst hb45
             refine rs (v := .bool false) (ntt rfl) rfl ?_
             refine rn ?_
             refine qn ?_
             exact ⟨⟨false, rfl, hp, hc⟩, (kl rfl kb)⟩
         · clear hp hc; intro vs u w46 hJ
           obtain ⟨j42, rfl, hp, hc⟩ := hJ
           unfold slices_DeleteFunc_s_link_body_link_body.J3 at hp
           cases hb47 : j42
           · replace hp := gneg hp (by rw [hb47]; exact Bool.false_ne_true)
             subst hb47
             refine Wcf rfl ?_
             refine Wskip ?_
             refine bn ?_
             refine qn ?_
             replace hc := hc.rem 1 rfl rfl
             replace hc := hc.rem 0 rfl rfl
             exact ⟨⟨j5, j9, rfl, hp, hc⟩, (kl rfl (km rfl (kl rfl kb)))⟩
           · replace hp := gpos hp hb47
             subst hb47
             refine Wct rfl ?_
             refine Wseq ?_
             refine Wreg ?_
             refine rs (v := .slice (some ⟨b30, o31, none⟩) x0.length qx0) (mv (v := .slice (some ⟨b30, o31, none⟩) x0.length qx0) rfl) rfl ?_
             refine rs (v := .int .i64 j9) (mv (v := .int .i64 j9) rfl) rfl ?_
             refine rs (v := .agg #[.int .i64 y27.seq, .int .i64 y27.at_, .slice a36 y27.b.length q37]) (ldg rfl Try.isAgg82 Try.sizeOf82 rfl (Ctx.cells hc (k := 0) rfl rfl 0 (vs := [.int .i64 y27.seq, .int .i64 y27.at_, .slice a36 y27.b.length q37]) rfl)) rfl ?_
             replace hp := bind_some hp; obtain ⟨y48, hy48, hp⟩ := hp
             obtain ⟨b51, o52, u53, hi49, hi50⟩ := Ctx.rdAt hc (k := 2) rfl rfl reads_own hy48
             clear u53
             refine rs (v := .pointer (some ⟨b30, o31 + (j9).toNat * 3, none⟩)) (ixx rfl rfl Try.underlying75 Try.sizeOf82 hi49 hi50 rfl) rfl ?_
             replace hc := hc.dup (k := 1) rfl rfl
             replace hc : Ctx w46 (Hold S_link_body.pr [.int .i64 y27.seq, .int .i64 y27.at_, .slice a36 y27.b.length q37] (⟨y27.seq, y27.at_, y27.b⟩ : S_link_body) :: B b38 [.int .i64 y27.seq, .int .i64 y27.at_, .slice a36 y27.b.length q37] 82 :: Hold (pRo (pInt .u8)) [.slice a36 y27.b.length q37] y27.b :: Own S_link_body.pr 82 (.slice (some ⟨b30, o31, none⟩) x0.length qx0) j5 :: Fr) := S_link_body.cl hc
             refine ruE (A := fun w' => Ctx w' (B b38 [.int .i64 y27.seq, .int .i64 y27.at_, .slice a36 y27.b.length q37] 82 :: Hold (pRo (pInt .u8)) [.slice a36 y27.b.length q37] y27.b :: Own S_link_body.pr 82 (.slice (some ⟨b30, o31, none⟩) x0.length qx0) (j5.set (j9).toNat (⟨y27.seq, y27.at_, y27.b⟩ : S_link_body)) :: Fr)) (Ctx.ownStore hc (k := 2) rfl rfl (x0 := y48) hy48 (vs := [.int .i64 y27.seq, .int .i64 y27.at_, .slice a36 y27.b.length q37]) rfl rfl Try.sizeOf82) rfl ?_
             clear hc; rintro w54 hc
             refine rn ?_
             refine qn ?_
             refine Wreg ?_
             refine rs (v := .int .i64 j9) (mv (v := .int .i64 j9) rfl) rfl ?_
             refine rs (v := .int .i64 (IntKind.i64.wrap (j9 + 1))) (adw rfl rfl) rfl ?_
             refine rs (v := .int .i64 (IntKind.i64.wrap (j9 + 1))) (av (v := .int .i64 (IntKind.i64.wrap (j9 + 1))) rfl) rfl ?_
             refine rn ?_
             refine bn ?_
             refine qn ?_
             replace hc := hc.rem 1 rfl rfl
             replace hc := hc.rem 0 rfl rfl
             exact ⟨⟨(j5.set (j9).toNat (⟨y27.seq, y27.at_, y27.b⟩ : S_link_body)), (IntKind.i64.wrap (j9 + 1)), rfl, hp, hc⟩, (kl rfl (km rfl (kl rfl kb)))⟩
       · clear hp hc; intro vs u w55 hJ
         obtain ⟨j22, j26, rfl, hp, hc⟩ := hJ
         unfold slices_DeleteFunc_s_link_body_link_body.J2 at hp
         refine Wreg ?_
         refine rs (v := .int .i64 j10) (mv (v := .int .i64 j10) rfl) rfl ?_
         refine rs (v := .int .i64 (IntKind.i64.wrap (j10 + 1))) (adw rfl rfl) rfl ?_
         refine rs (v := .int .i64 (IntKind.i64.wrap (j10 + 1))) (av (v := .int .i64 (IntKind.i64.wrap (j10 + 1))) rfl) rfl ?_
         refine rn ?_
         refine qn ?_
         exact ⟨m1, Nat.lt_succ_self _, ⟨j22, j26, (IntKind.i64.wrap (j10 + 1)), rfl, hp, hc⟩, (kl rfl (km rfl (kl rfl k0)))⟩
 · replace hp := gpos hp (of_decide_eq_true hb4)
   refine Wct rfl ?_
   refine Wseq ?_
   refine Wreg ?_
   refine rs (v := .slice ax0 x0.length qx0) (mv (v := .slice ax0 x0.length qx0) rfl) rfl ?_
   refine rs (v := .slice ax0 x0.length qx0) (av (v := .slice ax0 x0.length qx0) rfl) rfl ?_
   refine rn ?_
   refine qn ?_
   refine Wret ?_
   refine qr ?_
   injection hp with hp; subst hp
   refine f1 (v := .slice ax0 x0.length qx0) Try.results31 Try.ntmps31 rfl ?_
   exact ⟨_, rfl, k _ _ _ _ hc⟩

-- FN bytes.Clone
def bytes_Clone (x0 : (List Int)) : Option ((List Int)) :=
  (app ([]) x0).bind fun z3 =>
  some z3

set_option maxHeartbeats 8000000 in
theorem bytes_Clone_any {x0 : (List Int)} {ax0 : Option Addr} {nx0 : Nat} {qx0 : Nat} {P0 : HP} {Fr : List HP} {w : World} {r : (List Int)} {K : Value → World → Prop} (hrd0 : Reads P0 (pInt .u8) (.slice ax0 nx0 qx0) x0) (hc : Ctx w (P0 :: Fr)) (hp : bytes_Clone x0 = some r)
    (k : ∀ (a9 : Option Addr) (n10 : Nat) (q11 : Nat) w', Ctx w' (Own (pInt .u8) 5 (.slice a9 n10 q11) r :: P0 :: Fr) → K (.slice a9 n10 q11) w') : Calls Try.prog 30 #[.slice ax0 nx0 qx0] w (Ret K) := by
 unfold bytes_Clone at hp
 refine Center (args := [.slice ax0 nx0 qx0]) (l := [(0, .slice ax0 nx0 qx0)]) Try.func30 Try.ntmps30 rfl rfl rfl ?_
 obtain ⟨hn0, _⟩ := Ctx.rdLen hc (k := 0) rfl rfl hrd0; subst hn0
 rcases ax0 with _ | ax0
 · have hx := Ctx.nilRows hc (k := 0) rfl rfl hrd0; subst hx
   replace hp := bind_some hp; obtain ⟨z, hz, hp⟩ := hp
   injection hp with hp; subst hp; obtain ⟨_, hz⟩ := app_some hz; subst hz
   refine Wseq ?_
   refine Wreg ?_
   refine rs (v := .slice none 0 0) (av (v := .slice none 0 0) rfl) rfl ?_
   refine rn ?_
   refine qn ?_
   refine Wseq ?_
   refine Wseq ?_
   refine Wreg ?_
   refine rs (v := .slice none (([] : List Int).length) qx0) (mv (v := .slice none (([] : List Int).length) qx0) rfl) rfl ?_
   refine rs (v := .bool true) (esnT Try.underlying38 rfl rfl) rfl ?_
   refine rn ?_
   refine qn ?_
   refine Wct rfl ?_
   refine Wseq ?_
   refine Wreg ?_
   refine rs (v := .slice none 0 0) (av (v := .slice none 0 0) rfl) rfl ?_
   refine rn ?_
   refine qn ?_
   refine Wret ?_
   refine qr ?_
   replace hc := hc.nilOwn (pInt .u8) 5
   refine f1 (v := .slice none 0 0) Try.results30 Try.ntmps30 rfl ?_
   exact ⟨_, rfl, k _ _ _ _ hc⟩
 · refine Wseq ?_
   refine Wreg ?_
   refine rs (v := .slice none 0 0) (av (v := .slice none 0 0) rfl) rfl ?_
   refine rn ?_
   refine qn ?_
   refine Wseq ?_
   refine Wseq ?_
   refine Wreg ?_
   refine rs (v := .slice (some ax0) x0.length qx0) (mv (v := .slice (some ax0) x0.length qx0) rfl) rfl ?_
   refine rs (v := .bool false) (esnF Try.underlying38 rfl rfl) rfl ?_
   refine rn ?_
   refine qn ?_
   refine Wcf rfl ?_
   refine Wskip ?_
   refine qn ?_
   refine Wseq ?_
   refine Wreg ?_
   refine rsE (Ctx.builtOp (css := []) (xs := ([] : List Int)) (E := (pInt .u8)) hc Try.underlying38 Try.sizeOf5 Try.zeroValue5 rfl rfl rfl rfl rfl rfl rfl rfl) rfl ?_
   clear hc; rintro _ w2 ⟨a1, rfl, hc⟩
   refine rs (v := .slice (some ax0) x0.length qx0) (mv (v := .slice (some ax0) x0.length qx0) rfl) rfl ?_
   replace hp := bind_some hp; obtain ⟨z3, hz3, hp⟩ := hp
   obtain ⟨hg4, e5⟩ := app_some hz3
   refine rsE (Ctx.append hc (k := 0) rfl rfl (k2 := 1) rfl rfl hrd0 Try.underlying38 (i := Try.t5) rfl rfl rfl rfl rfl rfl rfl rfl hg4) rfl ?_
   clear hc; rintro _ w8 ⟨a6, q7, rfl, hc⟩
   rw [← e5] at hc ⊢
   refine rs (v := .slice a6 z3.length q7) (av (v := .slice a6 z3.length q7) rfl) rfl ?_
   refine rn ?_
   refine qn ?_
   refine Wret ?_
   injection hp with hp; subst hp
   refine f1 (v := .slice a6 z3.length q7) Try.results30 Try.ntmps30 rfl ?_
   exact ⟨_, rfl, k _ _ _ _ hc⟩

-- FN peloton/link.in
def link_in (x0 : Int) (x1 : Int) : Option (Bool) :=
  if x0 ≥ 1 then
    some (decide (x0 ≤ x1))
  else
    some false

set_option maxHeartbeats 8000000 in
theorem link_in_any {x0 : Int} {x1 : Int} {Fr : List HP} {w : World} {r : Bool} {K : Value → World → Prop}  (hc : Ctx w (Fr)) (hp : link_in x0 x1 = some r)
    (k : ∀ w', Ctx w' (Fr) → K (.bool r) w') : Calls Try.prog 27 #[.int .i64 x0, .int .i64 x1] w (Ret K) := by
 unfold link_in at hp
 refine Center (args := [.int .i64 x0, .int .i64 x1]) (l := [(0, .int .i64 x0), (1, .int .i64 x1)]) Try.func27 Try.ntmps27 rfl rfl rfl ?_
 refine Wseq ?_
 refine Wreg ?_
 refine rs (v := .bool false) (av (v := .bool false) rfl) rfl ?_
 refine rn ?_
 refine qn ?_
 refine Wseq ?_
 refine Wreg ?_
 refine rs (v := .int .i64 x0) (mv (v := .int .i64 x0) rfl) rfl ?_
 refine rs (v := .bool (decide (x0 ≥ 1))) (ge' rfl rfl) rfl ?_
 refine rs (v := .bool (decide (x0 ≥ 1))) (mv (v := .bool (decide (x0 ≥ 1))) rfl) rfl ?_
 cases hb1 : (decide (x0 ≥ 1))
 · replace hp := gneg hp (of_decide_eq_false hb1)
   refine r0 rfl ?_
   refine r0 rfl ?_
   refine r0 rfl ?_
   refine rs (v := .bool false) (pkf (v := .bool false) rfl rfl) rfl ?_
   refine rs (v := .bool false) (av (v := .bool false) rfl) rfl ?_
   refine rn ?_
   refine qn ?_
   refine Wret ?_
   injection hp with hp; subst hp
   refine f1 (v := .bool false) Try.results27 Try.ntmps27 rfl ?_
   exact ⟨_, rfl, k _ hc⟩
 · replace hp := gpos hp (of_decide_eq_true hb1)
   refine rs (v := .int .i64 x0) (mv (v := .int .i64 x0) rfl) rfl ?_
   refine rs (v := .int .i64 x1) (mv (v := .int .i64 x1) rfl) rfl ?_
   refine rs (v := .bool (decide (x0 ≤ x1))) (le' rfl rfl) rfl ?_
   refine rs (v := .bool (decide (x0 ≤ x1))) (pkt (v := .bool (decide (x0 ≤ x1))) rfl rfl) rfl ?_
   refine rs (v := .bool (decide (x0 ≤ x1))) (av (v := .bool (decide (x0 ≤ x1))) rfl) rfl ?_
   refine rn ?_
   refine qn ?_
   refine Wret ?_
   injection hp with hp; subst hp
   refine f1 (v := .bool (decide (x0 ≤ x1))) Try.results27 Try.ntmps27 rfl ?_
   exact ⟨_, rfl, k _ hc⟩

-- FN peloton/link.New
theorem bd_77_0_1_2_10 {ρ : Operand → Value} {w : World} {dst : Option Nat} {ty : TypeId} {pos : String} {after : Array Edge} {g : Option (Nat × Bool)} {x0 x1 x2 x10 : Operand} {k0 : IntKind} {a0 : Int} {k1 : IntKind} {a1 : Int} {k2 : IntKind} {a2 : Int} {a10 : Option Nat} (h0 : ρ x0 = (.int k0 a0)) (h1 : ρ x1 = (.int k1 a1)) (h2 : ρ x2 = (.int k2 a2)) (h10 : ρ x10 = (.map a10)) :
    (execOp ρ ⟨dst, .build 77 #[(0, x0), (1, x1), (2, x2), (10, x10)], ty, pos, after, g⟩).run Try.prog w = .ok (.value (.agg #[(.int k0 a0), (.int k1 a1), (.int k2 a2), (.int .i64 0), (.int .i64 0), (.int .i64 0), (.int .i64 0), (.int .i64 0), (.slice none 0 0), (.int .i64 0), (.map a10), (.bool false)])) w := by
  simp [execOp, Instr.build, Instr.fill, Try.zeroValue77, Try.runUnderlying77, Try.sizeOf3, Try.sizeOf4, Try.sizeOf74, Try.sizeOf75, h0, h1, h2, h10, Value.cells]

def link_New (x0 : Int) (x1 : Int) (x2 : Int) : Option ((Option S_link_Link) × Int) :=
  (link_in x0 64).bind fun r1 =>
  if r1 = true then
    (link_in x1 1000).bind fun r4 =>
    if r4 = true then
      (link_in x2 4096).bind fun r7 =>
      if r7 = true then
        some ((some (⟨x0, x1, x2, 0, 0, 0, 0, 0, [], 0, [], false⟩ : S_link_Link)), 0)
      else
        some (none, 2)
    else
      some (none, 2)
  else
    some (none, 2)

set_option maxHeartbeats 8000000 in
theorem link_New_any {x0 : Int} {x1 : Int} {x2 : Int} {Fr : List HP} {w : World} {r : (Option S_link_Link) × Int} {K : Value → World → Prop}  (hc : Ctx w (Fr)) (hp : link_New x0 x1 x2 = some r)
    (k : ∀ (v15 : Value) w', Ctx w' (PtO S_link_Link.hp v15 r.1 :: Fr) → K (.tuple #[v15, .int .i64 r.2]) w') : Calls Try.prog 8 #[.int .i64 x0, .int .i64 x1, .int .i64 x2] w (Ret K) := by
 unfold link_New at hp
 refine Center (args := [.int .i64 x0, .int .i64 x1, .int .i64 x2]) (l := [(0, .int .i64 x0), (1, .int .i64 x1), (2, .int .i64 x2)]) Try.func8 Try.ntmps8 rfl rfl rfl ?_
 refine Wseq ?_
 refine Wreg ?_
 refine rs (v := .pointer none) (av (v := .pointer none) rfl) rfl ?_
 refine rs (v := .int .i64 0) (av (v := .int .i64 0) rfl) rfl ?_
 refine rn ?_
 refine qn ?_
 refine Wseq ?_
 refine Wseq ?_
 refine Wreg ?_
 refine rs (v := .int .i64 x0) (mv (v := .int .i64 x0) rfl) rfl ?_
 replace hp := bind_some hp; obtain ⟨r1, hr1, hp⟩ := hp
 refine rc (cl Try.call27 rfl rfl) rfl ?_
 refine link_in_any hc hr1 ?_
 clear hc; intro w2 hc
 cases hb3 : r1
 · replace hp := gneg hp (by rw [hb3]; exact Bool.false_ne_true)
   subst hb3
   refine rs (v := .bool true) (ntf rfl) rfl ?_
   refine rs (v := .bool true) (mv (v := .bool true) rfl) rfl ?_
   refine r0 rfl ?_
   refine r0 rfl ?_
   refine r0 rfl ?_
   refine rs (v := .bool true) (pkt (v := .bool true) rfl rfl) rfl ?_
   refine rs (v := .bool true) (mv (v := .bool true) rfl) rfl ?_
   refine r0 rfl ?_
   refine r0 rfl ?_
   refine r0 rfl ?_
   refine rs (v := .bool true) (pkt (v := .bool true) rfl rfl) rfl ?_
   refine rn ?_
   refine qn ?_
   refine Wct rfl ?_
   refine Wseq ?_
   refine Wreg ?_
   refine rs (v := .pointer none) (av (v := .pointer none) rfl) rfl ?_
   refine rs (v := .int .i64 2) (av (v := .int .i64 2) rfl) rfl ?_
   refine rn ?_
   refine qn ?_
   refine Wret ?_
   refine qr ?_
   replace hc := Ctx.ptoNB S_link_Link.hp hc
   injection hp with hp; subst hp
   refine f2 (v := .pointer none) (u := .int .i64 2) Try.results8 Try.ntmps8 rfl rfl ?_
   exact ⟨_, rfl, k _ _ hc⟩
 · replace hp := gpos hp hb3
   subst hb3
   refine rs (v := .bool false) (ntt rfl) rfl ?_
   refine rs (v := .bool false) (mv (v := .bool false) rfl) rfl ?_
   refine rs (v := .int .i64 x1) (mv (v := .int .i64 x1) rfl) rfl ?_
   replace hp := bind_some hp; obtain ⟨r4, hr4, hp⟩ := hp
   refine rc (cl Try.call27 rfl rfl) rfl ?_
   refine link_in_any hc hr4 ?_
   clear hc; intro w5 hc
   cases hb6 : r4
   · replace hp := gneg hp (by rw [hb6]; exact Bool.false_ne_true)
     subst hb6
     refine rs (v := .bool true) (ntf rfl) rfl ?_
     refine rs (v := .bool true) (pkf (v := .bool true) rfl rfl) rfl ?_
     refine rs (v := .bool true) (mv (v := .bool true) rfl) rfl ?_
     refine r0 rfl ?_
     refine r0 rfl ?_
     refine r0 rfl ?_
     refine rs (v := .bool true) (pkt (v := .bool true) rfl rfl) rfl ?_
     refine rn ?_
     refine qn ?_
     refine Wct rfl ?_
     refine Wseq ?_
     refine Wreg ?_
     refine rs (v := .pointer none) (av (v := .pointer none) rfl) rfl ?_
     refine rs (v := .int .i64 2) (av (v := .int .i64 2) rfl) rfl ?_
     refine rn ?_
     refine qn ?_
     refine Wret ?_
     refine qr ?_
     replace hc := Ctx.ptoNB S_link_Link.hp hc
     injection hp with hp; subst hp
     refine f2 (v := .pointer none) (u := .int .i64 2) Try.results8 Try.ntmps8 rfl rfl ?_
     exact ⟨_, rfl, k _ _ hc⟩
   · replace hp := gpos hp hb6
     subst hb6
     refine rs (v := .bool false) (ntt rfl) rfl ?_
     refine rs (v := .bool false) (pkf (v := .bool false) rfl rfl) rfl ?_
     refine rs (v := .bool false) (mv (v := .bool false) rfl) rfl ?_
     refine rs (v := .int .i64 x2) (mv (v := .int .i64 x2) rfl) rfl ?_
     replace hp := bind_some hp; obtain ⟨r7, hr7, hp⟩ := hp
     refine rc (cl Try.call27 rfl rfl) rfl ?_
     refine link_in_any hc hr7 ?_
     clear hc; intro w8 hc
     cases hb9 : r7
     · replace hp := gneg hp (by rw [hb9]; exact Bool.false_ne_true)
       subst hb9
       refine rs (v := .bool true) (ntf rfl) rfl ?_
       refine rs (v := .bool true) (pkf (v := .bool true) rfl rfl) rfl ?_
       refine rn ?_
       refine qn ?_
       refine Wct rfl ?_
       refine Wseq ?_
       refine Wreg ?_
       refine rs (v := .pointer none) (av (v := .pointer none) rfl) rfl ?_
       refine rs (v := .int .i64 2) (av (v := .int .i64 2) rfl) rfl ?_
       refine rn ?_
       refine qn ?_
       refine Wret ?_
       refine qr ?_
       replace hc := Ctx.ptoNB S_link_Link.hp hc
       injection hp with hp; subst hp
       refine f2 (v := .pointer none) (u := .int .i64 2) Try.results8 Try.ntmps8 rfl rfl ?_
       exact ⟨_, rfl, k _ _ hc⟩
     · replace hp := gpos hp hb9
       subst hb9
       refine rs (v := .bool false) (ntt rfl) rfl ?_
       refine rs (v := .bool false) (pkf (v := .bool false) rfl rfl) rfl ?_
       refine rn ?_
       refine qn ?_
       refine Wcf rfl ?_
       refine Wskip ?_
       refine qn ?_
       refine Wseq ?_
       refine Wreg ?_
       refine rs (v := .int .i64 x0) (mv (v := .int .i64 x0) rfl) rfl ?_
       refine rs (v := .int .i64 x1) (mv (v := .int .i64 x1) rfl) rfl ?_
       refine rs (v := .int .i64 x2) (mv (v := .int .i64 x2) rfl) rfl ?_
       refine rsE (Ctx.mpMake (ekI .i64) (HV vf1 (pRo (pInt .u8))) hc) rfl ?_
       clear hc; rintro _ w11 ⟨b10, rfl, hc⟩
       refine rs (v := .agg #[.int .i64 x0, .int .i64 x1, .int .i64 x2, .int .i64 0, .int .i64 0, .int .i64 0, .int .i64 0, .int .i64 0, .slice none 0 0, .int .i64 0, .map (some b10), .bool false]) (bd_77_0_1_2_10 rfl rfl rfl rfl) rfl ?_
       refine rsE (Ctx.boxOp (cs := [.int .i64 x0, .int .i64 x1, .int .i64 x2, .int .i64 0, .int .i64 0, .int .i64 0, .int .i64 0, .int .i64 0, .slice none 0 0, .int .i64 0, .map (some b10), .bool false]) (v := .agg #[.int .i64 x0, .int .i64 x1, .int .i64 x2, .int .i64 0, .int .i64 0, .int .i64 0, .int .i64 0, .int .i64 0, .slice none 0 0, .int .i64 0, .map (some b10), .bool false]) hc rfl rfl) rfl ?_
       clear hc; rintro _ w14 ⟨b12, rfl, hc⟩
       refine rs (v := .pointer (some ⟨b12, 0, none⟩)) (av (v := .pointer (some ⟨b12, 0, none⟩)) rfl) rfl ?_
       refine rs (v := .int .i64 0) (av (v := .int .i64 0) rfl) rfl ?_
       refine rn ?_
       refine qn ?_
       refine Wret ?_
       replace hc := hc.nilOwn S_link_body.pr 82
       replace hc := hc.pull 2 rfl rfl
       replace hc := hc.pull 1 rfl rfl
       replace hc := hc.pull 2 rfl rfl
       replace hc : Ctx w14 (S_link_Link.hp b12 (⟨x0, x1, x2, 0, 0, 0, 0, 0, [], 0, [], false⟩ : S_link_Link) :: Fr) := Ctx.exB _ _ (Ctx.exB _ _ (Ctx.sepB (Ctx.sepB hc)))
       replace hc := Ctx.ptoSB S_link_Link.hp hc
       injection hp with hp; subst hp
       refine f2 (v := .pointer (some ⟨b12, 0, none⟩)) (u := .int .i64 0) Try.results8 Try.ntmps8 rfl rfl ?_
       exact ⟨_, rfl, k _ _ hc⟩

-- FN (*peloton/link.Link).Send
theorem bd_82_0_1_2 {ρ : Operand → Value} {w : World} {dst : Option Nat} {ty : TypeId} {pos : String} {after : Array Edge} {g : Option (Nat × Bool)} {x0 x1 x2 : Operand} {k0 : IntKind} {a0 : Int} {k1 : IntKind} {a1 : Int} {a2 : Option Addr} {l2 c2 : Nat} (h0 : ρ x0 = (.int k0 a0)) (h1 : ρ x1 = (.int k1 a1)) (h2 : ρ x2 = (.slice a2 l2 c2)) :
    (execOp ρ ⟨dst, .build 82 #[(0, x0), (1, x1), (2, x2)], ty, pos, after, g⟩).run Try.prog w = .ok (.value (.agg #[(.int k0 a0), (.int k1 a1), (.slice a2 l2 c2)])) w := by
  simp [execOp, Instr.build, Instr.fill, Try.zeroValue82, Try.runUnderlying82, Try.sizeOf3, Try.sizeOf38, h0, h1, h2, Value.cells]

def link_Link_Send.L1 (x1 : (List (List Int))) : Nat → S_link_Link → Int → Option (Int × S_link_Link)
  | 0, _, _ => none
  | m1 + 1, j17, j18 =>
    if j18 < ((x1.length : Nat) : Int) then
      (idx x1 j18).bind fun y21 =>
      (bytes_Clone y21).bind fun r40 =>
      (app j17.out ([(⟨(IntKind.i64.wrap (j17.next + 1)), (-1), r40⟩ : S_link_body)])).bind fun z48 =>
      (link_Link_Send.L1 x1 m1) (⟨j17.window, j17.span, j17.room, j17.epoch, j17.now, (IntKind.i64.wrap (j17.next + 1)), j17.acked, j17.sent, z48, j17.got, j17.early, j17.owes⟩ : S_link_Link) (IntKind.i64.wrap (j18 + 1))
    else
      some (0, j17)

def link_Link_Send (N : Nat) (x0 : S_link_Link) (x1 : (List (List Int))) : Option (Int × S_link_Link) :=
  (slices_ContainsFunc_s_s_byte_s_byte N x1 (fun (y2_ : (List Int)) =>
    some (decide (((y2_.length : Nat) : Int) > 65536)))).bind fun r7 =>
  if r7 = true then
    some (140, x0)
  else
    if ((x1.length : Nat) : Int) > (IntKind.i64.wrap (x0.room - ((x0.out.length : Nat) : Int))) then
      some (80, x0)
    else
      link_Link_Send.L1 x1 N x0 0

set_option maxHeartbeats 8000000 in
theorem link_Link_Send_any {N : Nat} {b0 : Nat} {x0 : S_link_Link} {x1 : (List (List Int))} {ax1 : Option Addr} {nx1 : Nat} {qx1 : Nat} {P1 : HP} {Fr : List HP} {w : World} {r : Int × S_link_Link} {K : Value → World → Prop} (hrd1 : Reads P1 (pRo (pInt .u8)) (.slice ax1 nx1 qx1) x1) (hc : Ctx w (S_link_Link.hp b0 x0 :: P1 :: Fr)) (hp : link_Link_Send N x0 x1 = some r)
    (k : ∀ w', Ctx w' (S_link_Link.hp b0 r.2 :: P1 :: Fr) → K (.int .i64 r.1) w') : Calls Try.prog 13 #[.pointer (some ⟨b0, 0, none⟩), .slice ax1 nx1 qx1] w (Ret K) := by
 unfold link_Link_Send at hp
 refine Center (args := [.pointer (some ⟨b0, 0, none⟩), .slice ax1 nx1 qx1]) (l := [(0, .pointer (some ⟨b0, 0, none⟩)), (1, .slice ax1 nx1 qx1)]) Try.func13 Try.ntmps13 rfl rfl rfl ?_
 obtain ⟨hn1, _⟩ := Ctx.rdLen hc (k := 1) rfl rfl hrd1; subst hn1
 refine Wseq ?_
 refine Wreg ?_
 refine rs (v := .int .i64 0) (av (v := .int .i64 0) rfl) rfl ?_
 refine rn ?_
 refine qn ?_
 refine Wseq ?_
 refine Wblk ?_
 refine Wseq ?_
 refine Wreg ?_
 refine rs (v := .slice ax1 x1.length qx1) (mv (v := .slice ax1 x1.length qx1) rfl) rfl ?_
 replace hc := hc.pull 1 rfl rfl
 have hf1 : ∀ (y0 : (List Int)) (a7 : Option Addr) (n8 : Nat) (q9 : Nat) (Qs : List HP) (w : World) (r : Bool) (K : Value → World → Prop), Ctx w (Hold (pRo (pInt .u8)) [.slice a7 n8 q9] y0 :: (Qs ++ (S_link_Link.hp b0 x0 :: Fr))) → (fun (y2_ : (List Int)) =>
          some (decide (((y2_.length : Nat) : Int) > 65536))) y0 = some r → (∀ w', Ctx w' (Qs ++ (S_link_Link.hp b0 x0 :: Fr)) → K (.bool r) w') → Calls Try.prog 29 (([.slice a7 n8 q9] : List Value) ++ ([] : List Value)).toArray w (Ret K) := by
  intro y2 a3 n4 q5 Qs w r K hc hp k
  replace hc : Ctx w (S_link_Link.hp b0 x0 :: Hold (pRo (pInt .u8)) [.slice a3 n4 q5] y2 :: (Qs ++ Fr)) := Ctx.front (As := [S_link_Link.hp b0 x0]) (Qs := Hold (pRo (pInt .u8)) [.slice a3 n4 q5] y2 :: Qs) hc
  refine Center (args := [.slice a3 n4 q5]) (l := [(0, .slice a3 n4 q5)]) Try.func29 Try.ntmps29 rfl rfl rfl ?_
  obtain ⟨u6, _⟩ := Ctx.rdLen hc (k := 1) rfl rfl reads_ro; subst u6
  refine Wseq ?_
  refine Wreg ?_
  refine rs (v := .bool false) (av (v := .bool false) rfl) rfl ?_
  refine rn ?_
  refine qn ?_
  refine Wseq ?_
  refine Wreg ?_
  refine rs (v := .slice a3 y2.length q5) (mv (v := .slice a3 y2.length q5) rfl) rfl ?_
  refine rs (v := .int .i64 ((y2.length : Nat) : Int)) (ln rfl Try.underlying38) rfl ?_
  refine rs (v := .bool (decide (((y2.length : Nat) : Int) > 65536))) (gt' rfl rfl) rfl ?_
  refine rs (v := .bool (decide (((y2.length : Nat) : Int) > 65536))) (av (v := .bool (decide (((y2.length : Nat) : Int) > 65536))) rfl) rfl ?_
  refine rn ?_
  refine qn ?_
  refine Wret ?_
  replace hc := hc.rem 1 rfl rfl
  injection hp with hp; subst hp
  replace hc : Ctx w (Qs ++ (S_link_Link.hp b0 x0 :: Fr)) := Ctx.front (Qs := [S_link_Link.hp b0 x0]) (As := Qs) hc
  refine f1 (v := .bool (decide (((y2.length : Nat) : Int) > 65536))) Try.results29 Try.ntmps29 rfl ?_
  exact ⟨_, rfl, k _ hc⟩
 replace hp := bind_some hp; obtain ⟨r7, hr7, hp⟩ := hp
 refine rc (cl Try.call28 rfl rfl) rfl ?_
 refine slices_ContainsFunc_s_s_byte_s_byte_any hrd1 Try.call29 hf1 hc hr7 ?_
 clear hc; intro w8 hc
 refine rs (v := .bool r7) (av (v := .bool r7) rfl) rfl ?_
 refine rn ?_
 refine qn ?_
 cases hb9 : r7
 · replace hp := gneg hp (by rw [hb9]; exact Bool.false_ne_true)
   subst hb9
   refine Wcf rfl ?_
   refine Wseq ?_
   replace hc := hc.pull 1 rfl rfl
   replace hc := Ctx.exF hc; obtain ⟨v10, hc⟩ := hc
   replace hc := Ctx.exF hc; obtain ⟨v11, hc⟩ := hc
   replace hc := Ctx.sepF hc
   replace hc := Ctx.sepF hc
   obtain ⟨a12, q13, u14⟩ := hc.rd (k := 1) rfl rfl reads_own; subst u14
   replace hc := hc.drew
   refine Wdrw (fun _ w' => w' = World.drew w8) [0, 1, 0, 4, 12, 28, 0, 64, 192, 448, 960, 2044, 4095, 8191] 0 0 rfl (by kernel_rfl) (fun _ _ => rfl) ?_
   generalize hw : World.drew w8 = w15 at *
   clear hw
   refine ds (v := .slice ax1 x1.length qx1) rfl (fun w' hF => by subst hF; exact mv (v := .slice ax1 x1.length qx1) rfl) rfl ?_
   refine ds (v := .int .i64 ((x1.length : Nat) : Int)) rfl (fun w' hF => by subst hF; exact ln rfl Try.underlying51) rfl ?_
   refine ds (v := .pointer (some ⟨b0, 0, none⟩)) rfl (fun w' hF => by subst hF; exact mv (v := .pointer (some ⟨b0, 0, none⟩)) rfl) rfl ?_
   refine ds (v := .pointer (some ⟨b0, 0, none⟩)) rfl (fun w' hF => by subst hF; exact nl rfl) rfl ?_
   refine ds (v := .pointer (some ⟨b0, 2, none⟩)) rfl (fun w' hF => by subst hF; exact fax 2 rfl Try.underlying77 rfl Try.sizeOf3 rfl rfl rfl) rfl ?_
   refine ds (v := .int .i64 x0.room) rfl (fun w' hF => by subst hF; exact ld rfl Try.isAgg3 (Ctx.cell hc (k := 0) rfl rfl rfl)) rfl ?_
   refine ds (v := .pointer (some ⟨b0, 0, none⟩)) rfl (fun w' hF => by subst hF; exact mv (v := .pointer (some ⟨b0, 0, none⟩)) rfl) rfl ?_
   refine ds (v := .pointer (some ⟨b0, 0, none⟩)) rfl (fun w' hF => by subst hF; exact nl rfl) rfl ?_
   refine ds (v := .pointer (some ⟨b0, 8, none⟩)) rfl (fun w' hF => by subst hF; exact fax 8 rfl Try.underlying77 rfl Try.sizeOf75 rfl rfl rfl) rfl ?_
   refine ds (v := .slice a12 x0.out.length q13) rfl (fun w' hF => by subst hF; exact ld rfl Try.isAgg75 (Ctx.cell hc (k := 0) rfl rfl rfl)) rfl ?_
   refine ds (v := .int .i64 ((x0.out.length : Nat) : Int)) rfl (fun w' hF => by subst hF; exact ln rfl Try.underlying75) rfl ?_
   refine ds (v := .int .i64 (IntKind.i64.wrap (x0.room - ((x0.out.length : Nat) : Int)))) rfl (fun w' hF => by subst hF; exact sbw rfl rfl) rfl ?_
   refine ds (v := .bool (decide (((x1.length : Nat) : Int) > (IntKind.i64.wrap (x0.room - ((x0.out.length : Nat) : Int)))))) rfl (fun w' hF => by subst hF; exact gt' rfl rfl) rfl ?_
   refine ds (v := .bool (decide (((x1.length : Nat) : Int) > (IntKind.i64.wrap (x0.room - ((x0.out.length : Nat) : Int)))))) rfl (fun w' hF => av (v := .bool (decide (((x1.length : Nat) : Int) > (IntKind.i64.wrap (x0.room - ((x0.out.length : Nat) : Int)))))) rfl) rfl ?_
   refine dn ?_
   refine qn ?_
   cases hb16 : (decide (((x1.length : Nat) : Int) > (IntKind.i64.wrap (x0.room - ((x0.out.length : Nat) : Int)))))
   · replace hp := gneg hp (of_decide_eq_false hb16)
     refine Wcf rfl ?_
     refine Wskip ?_
     refine bn ?_
     refine qn ?_
     refine Wseq ?_
     refine Wseq ?_
     refine Wreg ?_
     refine rs (v := .slice ax1 x1.length qx1) (mv (v := .slice ax1 x1.length qx1) rfl) rfl ?_
     refine rs (v := .int .i64 ((x1.length : Nat) : Int)) (ln rfl Try.underlying51) rfl ?_
     refine rs (v := .int .i64 0) (mv (v := .int .i64 0) rfl) rfl ?_
     refine rn ?_
     refine qn ?_
     refine Wblk ?_
     replace hc := hc.pull 2 rfl rfl
     replace hc := hc.pull 2 rfl rfl
     replace hc := hc.pull 2 rfl rfl
     replace hc : Ctx w15 (S_link_Link.hp b0 x0 :: P1 :: Fr) := Ctx.exB _ _ (Ctx.exB _ _ (Ctx.sepB (Ctx.sepB hc)))
     refine Wloop (6 :: 26 :: 27 :: 28 :: 29 :: 30 :: 31 :: 32 :: 33 :: 34 :: 35 :: 36 :: 37 :: 38 :: 39 :: 40 :: 41 :: 42 :: 43 :: 44 :: 45 :: 46 :: 47 :: 48 :: 49 :: 50 :: 51 :: 52 :: 53 :: []) [26] (fun m vs w' => ∃ j17 : S_link_Link, ∃ j18 : Int, vs = [.int .i64 j18] ∧ link_Link_Send.L1 x1 m j17 j18 = some r ∧ Ctx w' (S_link_Link.hp b0 j17 :: P1 :: Fr)) N ?_ ?_
     · exact ⟨x0, 0, rfl, hp, hc⟩
     · clear hp hc; intro m vs u w19 hJ
       obtain ⟨j17, j18, rfl, hp, hc⟩ := hJ
       rcases m with _ | m1
       · cases (show none = some r from hp)
       rw [link_Link_Send.L1] at hp
       refine Wseq ?_
       refine Wreg ?_
       refine rs (v := .bool (decide (j18 < ((x1.length : Nat) : Int)))) (lt' rfl rfl) rfl ?_
       refine rn ?_
       refine qn ?_
       refine Wseq ?_
       cases hb20 : (decide (j18 < ((x1.length : Nat) : Int)))
       · replace hp := gneg hp (of_decide_eq_false hb20)
         refine Wcf rfl ?_
         refine Wexit ?_
         refine qx ?_
         refine qx ?_
         refine be ?_
         refine qn ?_
         refine Wseq ?_
         refine Wreg ?_
         refine rs (v := .int .i64 0) (av (v := .int .i64 0) rfl) rfl ?_
         refine rn ?_
         refine qn ?_
         refine Wret ?_
         injection hp with hp; subst hp
         refine f1 (v := .int .i64 0) Try.results13 Try.ntmps13 rfl ?_
         exact ⟨_, rfl, k _ hc⟩
       · replace hp := gpos hp (of_decide_eq_true hb20)
         refine Wct rfl ?_
         refine Wskip ?_
         refine qn ?_
         refine Wseq ?_
         refine Wblk ?_
         refine Wseq ?_
         refine Wreg ?_
         replace hp := bind_some hp; obtain ⟨y21, hy21, hp⟩ := hp
         obtain ⟨b24, o25, u26, hi22, hi23⟩ := Ctx.rdAt hc (k := 1) rfl rfl hrd1 hy21
         subst u26
         refine rs (v := .pointer (some ⟨b24, o25 + (j18).toNat * 1, none⟩)) (ixx rfl rfl Try.underlying51 Try.sizeOf38 hi22 hi23 rfl) rfl ?_
         replace hc := Ctx.rdCell hc (k := 1) rfl rfl hrd1 hy21; obtain ⟨cs27, hc, hcell28⟩ := hc
         replace hc := Ctx.holdRo hc; obtain ⟨v32, u29, hc⟩ := hc; subst u29
         obtain ⟨a30, q31, u29⟩ := hc.rd (k := 0) rfl rfl reads_ro; subst u29
         refine rs (v := .slice a30 y21.length q31) (ld rfl Try.isAgg38 (hcell28 0 _ rfl)) rfl ?_
         refine rs (v := .slice a30 y21.length q31) (av (v := .slice a30 y21.length q31) rfl) rfl ?_
         refine rn ?_
         refine qn ?_
         refine Wseq ?_
         refine Wreg ?_
         refine rs (v := .pointer (some ⟨b0, 0, none⟩)) (mv (v := .pointer (some ⟨b0, 0, none⟩)) rfl) rfl ?_
         refine rs (v := .pointer (some ⟨b0, 0, none⟩)) (nl rfl) rfl ?_
         refine rs (v := .pointer (some ⟨b0, 5, none⟩)) (fax 5 rfl Try.underlying77 rfl Try.sizeOf3 rfl rfl rfl) rfl ?_
         replace hc := hc.pull 1 rfl rfl
         replace hc := Ctx.exF hc; obtain ⟨v33, hc⟩ := hc
         replace hc := Ctx.exF hc; obtain ⟨v34, hc⟩ := hc
         replace hc := Ctx.sepF hc
         replace hc := Ctx.sepF hc
         obtain ⟨a35, q36, u37⟩ := hc.rd (k := 1) rfl rfl reads_own; subst u37
         refine rs (v := .int .i64 j17.next) (ld rfl Try.isAgg3 (Ctx.cell hc (k := 0) rfl rfl rfl)) rfl ?_
         refine rs (v := .int .i64 (IntKind.i64.wrap (j17.next + 1))) (adw rfl rfl) rfl ?_
         refine rs (v := .pointer (some ⟨b0, 0, none⟩)) (nl rfl) rfl ?_
         refine rs (v := .pointer (some ⟨b0, 5, none⟩)) (fax 5 rfl Try.underlying77 rfl Try.sizeOf3 rfl rfl rfl) rfl ?_
         refine ruE (A := fun w' => Ctx w' (B b0 [.int .i64 j17.window, .int .i64 j17.span, .int .i64 j17.room, .int .i64 j17.epoch, .int .i64 j17.now, .int .i64 (IntKind.i64.wrap (j17.next + 1)), .int .i64 j17.acked, .int .i64 j17.sent, .slice a35 j17.out.length q36, .int .i64 j17.got, .map (some v34), .bool j17.owes] 77 :: Own S_link_body.pr 82 (.slice a35 j17.out.length q36) j17.out :: Mp (ekI .i64) (HV vf1 (pRo (pInt .u8))) v34 j17.early :: Hold (pRo (pInt .u8)) [.slice a30 y21.length q31] y21 :: P1 :: Fr)) (Ctx.putOp hc (k := 0) rfl rfl (v := .int .i64 (IntKind.i64.wrap (j17.next + 1))) rfl rfl rfl Try.sizeOf3 rfl rfl rfl) rfl ?_
         clear hc; rintro w38 hc
         refine rn ?_
         refine qn ?_
         replace hc := hc.drew
         have hF : ∀ j, free [0, 0, 2, 6, 14, 0, 32, 96, 224, 0, 512, 2016, 4064, 8190, 16383, 32767, 65535] 0 j = true → (fun j w' => (j = 4 → w'.cell? ⟨b0, 8, none⟩ = some (.slice a35 j17.out.length q36)) ∧ (j = 8 → w'.cell? ⟨b0, 5, none⟩ = some (.int .i64 (IntKind.i64.wrap (j17.next + 1)))) ∧ True) j (World.drew w38) := fun j hj => ⟨fun _ => hc.cell (k := 0) rfl rfl rfl, fun _ => hc.cell (k := 0) rfl rfl rfl, trivial⟩
         refine Wdrw (fun j w' => (j = 4 → w'.cell? ⟨b0, 8, none⟩ = some (.slice a35 j17.out.length q36)) ∧ (j = 8 → w'.cell? ⟨b0, 5, none⟩ = some (.int .i64 (IntKind.i64.wrap (j17.next + 1)))) ∧ True) [0, 0, 2, 6, 14, 0, 32, 96, 224, 0, 512, 2016, 4064, 8190, 16383, 32767, 65535] 0 0 rfl (by kernel_rfl) (hF) ?_
         generalize hw : World.drew w38 = w39 at *
         clear hw
         refine ds (v := .pointer (some ⟨b0, 0, none⟩)) rfl (fun w' hF => mv (v := .pointer (some ⟨b0, 0, none⟩)) rfl) rfl ?_
         refine ds (v := .pointer (some ⟨b0, 0, none⟩)) rfl (fun w' hF => mv (v := .pointer (some ⟨b0, 0, none⟩)) rfl) rfl ?_
         refine ds (v := .pointer (some ⟨b0, 0, none⟩)) rfl (fun w' hF => nl rfl) rfl ?_
         refine ds (v := .pointer (some ⟨b0, 8, none⟩)) rfl (fun w' hF => fax 8 rfl Try.underlying77 rfl Try.sizeOf75 rfl rfl rfl) rfl ?_
         refine ds (v := .slice a35 j17.out.length q36) rfl (fun w' hF => ld rfl Try.isAgg75 ((hF.1 rfl))) rfl ?_
         refine ds (v := .pointer (some ⟨b0, 0, none⟩)) rfl (fun w' hF => mv (v := .pointer (some ⟨b0, 0, none⟩)) rfl) rfl ?_
         refine ds (v := .pointer (some ⟨b0, 0, none⟩)) rfl (fun w' hF => nl rfl) rfl ?_
         refine ds (v := .pointer (some ⟨b0, 5, none⟩)) rfl (fun w' hF => fax 5 rfl Try.underlying77 rfl Try.sizeOf3 rfl rfl rfl) rfl ?_
         refine ds (v := .int .i64 (IntKind.i64.wrap (j17.next + 1))) rfl (fun w' hF => ld rfl Try.isAgg3 ((hF.2.1 rfl))) rfl ?_
         refine ds (v := .slice a30 y21.length q31) rfl (fun w' hF => mv (v := .slice a30 y21.length q31) rfl) rfl ?_
         replace hc := hc.dup (k := 3) rfl rfl
         replace hp := bind_some hp; obtain ⟨r40, hr40, hp⟩ := hp
         refine dc (cl Try.call30 rfl rfl) rfl rfl ?_
         refine bytes_Clone_any reads_ro hc hr40 ?_
         clear hc; intro a41 n42 q43 w44 hc
         obtain ⟨u45, _⟩ := Ctx.rdLen hc (k := 0) rfl rfl reads_own; subst u45
         refine ⟨fun j hj hb => ⟨fun _ => hc.cell (k := 2) rfl rfl rfl, fun _ => hc.cell (k := 2) rfl rfl rfl, trivial⟩, ?_⟩
         refine ds (v := .agg #[.int .i64 (IntKind.i64.wrap (j17.next + 1)), .int .i64 (-1), .slice a41 r40.length q43]) rfl (fun w' hF => bd_82_0_1_2 rfl rfl rfl) rfl ?_
         replace hc := hc.freeze (k := 0) rfl rfl rfl
         replace hc := hc.dup (k := 0) rfl rfl
         replace hc : Ctx w44 (Hold S_link_body.pr [.int .i64 (IntKind.i64.wrap (j17.next + 1)), .int .i64 (-1), .slice a41 r40.length q43] (⟨(IntKind.i64.wrap (j17.next + 1)), (-1), r40⟩ : S_link_body) :: Hold (pRo (pInt .u8)) [.slice a41 r40.length q43] r40 :: Hold (pRo (pInt .u8)) [.slice a30 y21.length q31] y21 :: B b0 [.int .i64 j17.window, .int .i64 j17.span, .int .i64 j17.room, .int .i64 j17.epoch, .int .i64 j17.now, .int .i64 (IntKind.i64.wrap (j17.next + 1)), .int .i64 j17.acked, .int .i64 j17.sent, .slice a35 j17.out.length q36, .int .i64 j17.got, .map (some v34), .bool j17.owes] 77 :: Own S_link_body.pr 82 (.slice a35 j17.out.length q36) j17.out :: Mp (ekI .i64) (HV vf1 (pRo (pInt .u8))) v34 j17.early :: Hold (pRo (pInt .u8)) [.slice a30 y21.length q31] y21 :: P1 :: Fr) := S_link_body.cl hc
         refine deE (Ctx.builtOp (css := [[.int .i64 (IntKind.i64.wrap (j17.next + 1)), .int .i64 (-1), .slice a41 r40.length q43]]) (xs := ([(⟨(IntKind.i64.wrap (j17.next + 1)), (-1), r40⟩ : S_link_body)] : List S_link_body)) (E := S_link_body.pr) hc Try.underlying75 Try.sizeOf82 Try.zeroValue82 rfl rfl rfl rfl rfl rfl rfl rfl) rfl rfl ?_
         clear hc; rintro _ w47 ⟨a46, rfl, hc⟩
         refine ⟨fun j hj hb => ⟨fun _ => hc.cell (k := 3) rfl rfl rfl, fun e => (by subst e; exact absurd hj (by decide)), trivial⟩, ?_⟩
         replace hp := bind_some hp; obtain ⟨z48, hz48, hp⟩ := hp
         obtain ⟨hg49, e50⟩ := app_some hz48
         refine deE (Ctx.append hc (k := 4) rfl rfl (k2 := 0) rfl rfl reads_own Try.underlying75 (i := Try.t82) rfl rfl rfl rfl rfl rfl rfl rfl hg49) rfl rfl ?_
         clear hc; rintro _ w53 ⟨a51, q52, rfl, hc⟩
         rw [← e50] at hc ⊢
         refine ⟨fun j hj hb => ⟨fun e => (by subst e; exact absurd hj (by decide)), fun e => (by subst e; exact absurd hj (by decide)), trivial⟩, ?_⟩
         refine ds (v := .pointer (some ⟨b0, 0, none⟩)) rfl (fun w' hF => nl rfl) rfl ?_
         refine ds (v := .pointer (some ⟨b0, 8, none⟩)) rfl (fun w' hF => fax 8 rfl Try.underlying77 rfl Try.sizeOf75 rfl rfl rfl) rfl ?_
         refine duE (A := fun w' => Ctx w' (Own S_link_body.pr 82 (.slice a46 1 1) ([(⟨(IntKind.i64.wrap (j17.next + 1)), (-1), r40⟩ : S_link_body)]) :: Hold (pRo (pInt .u8)) [.slice a41 r40.length q43] r40 :: Hold (pRo (pInt .u8)) [.slice a30 y21.length q31] y21 :: B b0 [.int .i64 j17.window, .int .i64 j17.span, .int .i64 j17.room, .int .i64 j17.epoch, .int .i64 j17.now, .int .i64 (IntKind.i64.wrap (j17.next + 1)), .int .i64 j17.acked, .int .i64 j17.sent, .slice a51 z48.length q52, .int .i64 j17.got, .map (some v34), .bool j17.owes] 77 :: Own S_link_body.pr 82 (.slice a51 z48.length q52) z48 :: Mp (ekI .i64) (HV vf1 (pRo (pInt .u8))) v34 j17.early :: Hold (pRo (pInt .u8)) [.slice a30 y21.length q31] y21 :: P1 :: Fr)) (Ctx.putOp hc (k := 3) rfl rfl (v := .slice a51 z48.length q52) rfl rfl rfl Try.sizeOf75 rfl rfl rfl) rfl rfl ?_
         clear hc; rintro w54 hc
         refine ⟨fun j hj hb => ⟨fun e => (by subst e; exact absurd hj (by decide)), fun e => (by subst e; exact absurd hj (by decide)), trivial⟩, ?_⟩
         refine dn ?_
         refine bn ?_
         refine qn ?_
         refine Wreg ?_
         refine rs (v := .int .i64 (IntKind.i64.wrap (j18 + 1))) (adw rfl rfl) rfl ?_
         refine rs (v := .int .i64 (IntKind.i64.wrap (j18 + 1))) (mv (v := .int .i64 (IntKind.i64.wrap (j18 + 1))) rfl) rfl ?_
         refine rn ?_
         refine qn ?_
         replace hc := hc.pull 5 rfl rfl
         replace hc := hc.pull 5 rfl rfl
         replace hc := hc.pull 5 rfl rfl
         replace hc : Ctx w54 (S_link_Link.hp b0 (⟨j17.window, j17.span, j17.room, j17.epoch, j17.now, (IntKind.i64.wrap (j17.next + 1)), j17.acked, j17.sent, z48, j17.got, j17.early, j17.owes⟩ : S_link_Link) :: Own S_link_body.pr 82 (.slice a46 1 1) ([(⟨(IntKind.i64.wrap (j17.next + 1)), (-1), r40⟩ : S_link_body)]) :: Hold (pRo (pInt .u8)) [.slice a41 r40.length q43] r40 :: Hold (pRo (pInt .u8)) [.slice a30 y21.length q31] y21 :: Hold (pRo (pInt .u8)) [.slice a30 y21.length q31] y21 :: P1 :: Fr) := Ctx.exB _ _ (Ctx.exB _ _ (Ctx.sepB (Ctx.sepB hc)))
         replace hc := hc.rem 4 rfl rfl
         replace hc := hc.rem 3 rfl rfl
         replace hc := hc.rem 2 rfl rfl
         replace hc := hc.rem 1 rfl rfl
         exact ⟨m1, Nat.lt_succ_self _, ⟨(⟨j17.window, j17.span, j17.room, j17.epoch, j17.now, (IntKind.i64.wrap (j17.next + 1)), j17.acked, j17.sent, z48, j17.got, j17.early, j17.owes⟩ : S_link_Link), (IntKind.i64.wrap (j18 + 1)), rfl, hp, hc⟩, (kl rfl k0)⟩
   · replace hp := gpos hp (of_decide_eq_true hb16)
     refine Wct rfl ?_
     refine Wseq ?_
     refine Wreg ?_
     refine rs (v := .int .i64 80) (av (v := .int .i64 80) rfl) rfl ?_
     refine rn ?_
     refine qn ?_
     refine Wret ?_
     refine br ?_
     refine qr ?_
     replace hc := hc.pull 2 rfl rfl
     replace hc := hc.pull 2 rfl rfl
     replace hc := hc.pull 2 rfl rfl
     replace hc : Ctx w15 (S_link_Link.hp b0 x0 :: P1 :: Fr) := Ctx.exB _ _ (Ctx.exB _ _ (Ctx.sepB (Ctx.sepB hc)))
     injection hp with hp; subst hp
     refine f1 (v := .int .i64 80) Try.results13 Try.ntmps13 rfl ?_
     exact ⟨_, rfl, k _ hc⟩
 · replace hp := gpos hp hb9
   subst hb9
   refine Wct rfl ?_
   refine Wseq ?_
   refine Wreg ?_
   refine rs (v := .int .i64 140) (av (v := .int .i64 140) rfl) rfl ?_
   refine rn ?_
   refine qn ?_
   refine Wret ?_
   refine br ?_
   refine qr ?_
   replace hc := hc.pull 1 rfl rfl
   injection hp with hp; subst hp
   refine f1 (v := .int .i64 140) Try.results13 Try.ntmps13 rfl ?_
   exact ⟨_, rfl, k _ hc⟩

-- FN (*peloton/link.Link).Tick
theorem bd_46_0_1_2_3 {ρ : Operand → Value} {w : World} {dst : Option Nat} {ty : TypeId} {pos : String} {after : Array Edge} {g : Option (Nat × Bool)} {x0 x1 x2 x3 : Operand} {k0 : IntKind} {a0 : Int} {k1 : IntKind} {a1 : Int} {k2 : IntKind} {a2 : Int} {a3 : Option Addr} {l3 c3 : Nat} (h0 : ρ x0 = (.int k0 a0)) (h1 : ρ x1 = (.int k1 a1)) (h2 : ρ x2 = (.int k2 a2)) (h3 : ρ x3 = (.slice a3 l3 c3)) :
    (execOp ρ ⟨dst, .build 46 #[(0, x0), (1, x1), (2, x2), (3, x3)], ty, pos, after, g⟩).run Try.prog w = .ok (.value (.agg #[(.int k0 a0), (.int k1 a1), (.int k2 a2), (.slice a3 l3 c3)])) w := by
  simp [execOp, Instr.build, Instr.fill, Try.zeroValue46, Try.runUnderlying46, Try.sizeOf3, Try.sizeOf38, h0, h1, h2, h3, Value.cells]

theorem bd_46_0_2 {ρ : Operand → Value} {w : World} {dst : Option Nat} {ty : TypeId} {pos : String} {after : Array Edge} {g : Option (Nat × Bool)} {x0 x2 : Operand} {k0 : IntKind} {a0 : Int} {k2 : IntKind} {a2 : Int} (h0 : ρ x0 = (.int k0 a0)) (h2 : ρ x2 = (.int k2 a2)) :
    (execOp ρ ⟨dst, .build 46 #[(0, x0), (2, x2)], ty, pos, after, g⟩).run Try.prog w = .ok (.value (.agg #[(.int k0 a0), (.int .i64 0), (.int k2 a2), (.slice none 0 0)])) w := by
  simp [execOp, Instr.build, Instr.fill, Try.zeroValue46, Try.runUnderlying46, Try.sizeOf3, Try.sizeOf38, h0, h2, Value.cells]

def link_Link_Tick.J5 (j7 : S_link_Link) (j8 : (List S_api_Seg)) (j91 : Bool) : Option ((List S_api_Seg) × S_link_Link) :=
  if j91 = true then
    (app j8 ([(⟨j7.epoch, 0, j7.got, []⟩ : S_api_Seg)])).bind fun z114 =>
    some (z114, (⟨j7.window, j7.span, j7.room, j7.epoch, j7.now, j7.next, j7.acked, j7.sent, j7.out, j7.got, j7.early, false⟩ : S_link_Link))
  else
    some (j8, (⟨j7.window, j7.span, j7.room, j7.epoch, j7.now, j7.next, j7.acked, j7.sent, j7.out, j7.got, j7.early, false⟩ : S_link_Link))

def link_Link_Tick.J1 (j7 : S_link_Link) (j8 : (List S_api_Seg)) : Option ((List S_api_Seg) × S_link_Link) :=
  if ((j8.length : Nat) : Int) = 0 then
    link_Link_Tick.J5 j7 j8 j7.owes
  else
    link_Link_Tick.J5 j7 j8 false

def link_Link_Tick.J3 (j17 : Int) (k2 : S_link_Link → (List S_api_Seg) → Int → Option ((List S_api_Seg) × S_link_Link)) (j21 : S_link_Link) (j22 : (List S_api_Seg)) : Option ((List S_api_Seg) × S_link_Link) :=
  k2 j21 j22 (IntKind.i64.wrap (j17 + 1))

def link_Link_Tick.J4 (j12 : S_link_Link) (j13 : (List S_api_Seg)) (j17 : Int) (y31 : S_link_body) (k2 : S_link_Link → (List S_api_Seg) → Int → Option ((List S_api_Seg) × S_link_Link)) (j44 : Bool) : Option ((List S_api_Seg) × S_link_Link) :=
  if j44 = true then
    (bytes_Clone (({ y31 with at_ := j12.now } : S_link_body).b)).bind fun r73 =>
    (app j13 ([(⟨j12.epoch, ({ y31 with at_ := j12.now } : S_link_body).seq, j12.got, r73⟩ : S_api_Seg)])).bind fun z81 =>
    link_Link_Tick.J3 j17 k2 (⟨j12.window, j12.span, j12.room, j12.epoch, j12.now, j12.next, j12.acked, (max j12.sent (({ y31 with at_ := j12.now } : S_link_body).seq)), (j12.out.set (j17).toNat ({ y31 with at_ := j12.now })), j12.got, j12.early, j12.owes⟩ : S_link_Link) z81
  else
    link_Link_Tick.J3 j17 k2 j12 j13

def link_Link_Tick.L2 (x0 : S_link_Link) : Nat → S_link_Link → (List S_api_Seg) → Int → Option ((List S_api_Seg) × S_link_Link)
  | 0, _, _, _ => none
  | m2 + 1, j12, j13, j17 =>
    if j17 < ((x0.out.length : Nat) : Int) then
      (idx j12.out j17).bind fun y31 =>
      if y31.seq > (IntKind.i64.wrap (j12.acked + j12.window)) then
        link_Link_Tick.J1 j12 j13
      else
        if y31.at_ < 0 then
          link_Link_Tick.J4 j12 j13 j17 y31 (link_Link_Tick.L2 x0 m2) true
        else
          link_Link_Tick.J4 j12 j13 j17 y31 (link_Link_Tick.L2 x0 m2) (decide ((IntKind.i64.wrap (j12.now - y31.at_)) ≥ j12.span))
    else
      link_Link_Tick.J1 j12 j13

def link_Link_Tick (N : Nat) (x0 : S_link_Link) : Option ((List S_api_Seg) × S_link_Link) :=
  link_Link_Tick.L2 x0 N (⟨x0.window, x0.span, x0.room, x0.epoch, (IntKind.i64.wrap (x0.now + 1)), x0.next, x0.acked, x0.sent, x0.out, x0.got, x0.early, x0.owes⟩ : S_link_Link) ([]) 0

set_option maxHeartbeats 8000000 in
theorem link_Link_Tick_any {N : Nat} {b0 : Nat} {x0 : S_link_Link} {Fr : List HP} {w : World} {r : (List S_api_Seg) × S_link_Link} {K : Value → World → Prop}  (hc : Ctx w (S_link_Link.hp b0 x0 :: Fr)) (hp : link_Link_Tick N x0 = some r)
    (k : ∀ (a121 : Option Addr) (n122 : Nat) (q123 : Nat) w', Ctx w' (Own S_api_Seg.pr 46 (.slice a121 n122 q123) r.1 :: S_link_Link.hp b0 r.2 :: Fr) → K (.slice a121 n122 q123) w') : Calls Try.prog 14 #[.pointer (some ⟨b0, 0, none⟩)] w (Ret K) := by
 unfold link_Link_Tick at hp
 refine Center (args := [.pointer (some ⟨b0, 0, none⟩)]) (l := [(0, .pointer (some ⟨b0, 0, none⟩))]) Try.func14 Try.ntmps14 rfl rfl rfl ?_
 refine Wseq ?_
 refine Wreg ?_
 refine rs (v := .slice none 0 0) (av (v := .slice none 0 0) rfl) rfl ?_
 refine rn ?_
 refine qn ?_
 refine Wseq ?_
 refine Wreg ?_
 refine rs (v := .pointer (some ⟨b0, 0, none⟩)) (mv (v := .pointer (some ⟨b0, 0, none⟩)) rfl) rfl ?_
 refine rs (v := .pointer (some ⟨b0, 0, none⟩)) (nl rfl) rfl ?_
 refine rs (v := .pointer (some ⟨b0, 4, none⟩)) (fax 4 rfl Try.underlying77 rfl Try.sizeOf3 rfl rfl rfl) rfl ?_
 replace hc := Ctx.exF hc; obtain ⟨v1, hc⟩ := hc
 replace hc := Ctx.exF hc; obtain ⟨v2, hc⟩ := hc
 replace hc := Ctx.sepF hc
 replace hc := Ctx.sepF hc
 obtain ⟨a3, q4, u5⟩ := hc.rd (k := 1) rfl rfl reads_own; subst u5
 refine rs (v := .int .i64 x0.now) (ld rfl Try.isAgg3 (Ctx.cell hc (k := 0) rfl rfl rfl)) rfl ?_
 refine rs (v := .int .i64 (IntKind.i64.wrap (x0.now + 1))) (adw rfl rfl) rfl ?_
 refine rs (v := .pointer (some ⟨b0, 0, none⟩)) (nl rfl) rfl ?_
 refine rs (v := .pointer (some ⟨b0, 4, none⟩)) (fax 4 rfl Try.underlying77 rfl Try.sizeOf3 rfl rfl rfl) rfl ?_
 refine ruE (A := fun w' => Ctx w' (B b0 [.int .i64 x0.window, .int .i64 x0.span, .int .i64 x0.room, .int .i64 x0.epoch, .int .i64 (IntKind.i64.wrap (x0.now + 1)), .int .i64 x0.next, .int .i64 x0.acked, .int .i64 x0.sent, .slice a3 x0.out.length q4, .int .i64 x0.got, .map (some v2), .bool x0.owes] 77 :: Own S_link_body.pr 82 (.slice a3 x0.out.length q4) x0.out :: Mp (ekI .i64) (HV vf1 (pRo (pInt .u8))) v2 x0.early :: Fr)) (Ctx.putOp hc (k := 0) rfl rfl (v := .int .i64 (IntKind.i64.wrap (x0.now + 1))) rfl rfl rfl Try.sizeOf3 rfl rfl rfl) rfl ?_
 clear hc; rintro w6 hc
 refine rn ?_
 refine qn ?_
 refine Wseq ?_
 refine Wreg ?_
 refine rs (v := .slice none 0 0) (av (v := .slice none 0 0) rfl) rfl ?_
 refine rn ?_
 refine qn ?_
 refine Wseqm (3 :: 4 :: 5 :: 13 :: 14 :: 15 :: 16 :: 17 :: 18 :: 19 :: 20 :: 21 :: 22 :: 23 :: 24 :: 25 :: 26 :: 27 :: 28 :: 29 :: 30 :: 31 :: 32 :: 33 :: 34 :: 35 :: 36 :: 37 :: 38 :: 39 :: 40 :: 41 :: 42 :: 43 :: 44 :: 45 :: 46 :: 47 :: 48 :: 49 :: 50 :: 51 :: 52 :: 53 :: 54 :: 55 :: 56 :: 57 :: 58 :: 59 :: 60 :: 61 :: 62 :: 63 :: 64 :: 65 :: 66 :: 67 :: 68 :: 69 :: 70 :: 71 :: 72 :: 73 :: 74 :: 75 :: 76 :: 77 :: 78 :: 79 :: 80 :: 81 :: 82 :: 83 :: 84 :: 85 :: 86 :: 87 :: 88 :: 89 :: 90 :: 91 :: 92 :: 93 :: 94 :: 95 :: 96 :: 97 :: 98 :: 99 :: 100 :: 101 :: 102 :: []) [3] (fun vs w' => ∃ j7 : S_link_Link, ∃ j8 : (List S_api_Seg), ∃ a9 : Option Addr, ∃ n10 : Nat, ∃ q11 : Nat, vs = [.slice a9 n10 q11] ∧ link_Link_Tick.J1 j7 j8 = some r ∧ Ctx w' (S_link_Link.hp b0 j7 :: Own S_api_Seg.pr 46 (.slice a9 n10 q11) j8 :: Fr)) ?_ ?_
 · refine Wseq ?_
   refine Wreg ?_
   refine rs (v := .pointer (some ⟨b0, 0, none⟩)) (mv (v := .pointer (some ⟨b0, 0, none⟩)) rfl) rfl ?_
   refine rs (v := .pointer (some ⟨b0, 0, none⟩)) (nl rfl) rfl ?_
   refine rs (v := .pointer (some ⟨b0, 8, none⟩)) (fax 8 rfl Try.underlying77 rfl Try.sizeOf75 rfl rfl rfl) rfl ?_
   refine rs (v := .slice a3 x0.out.length q4) (ld rfl Try.isAgg75 (Ctx.cell hc (k := 0) rfl rfl rfl)) rfl ?_
   refine rs (v := .int .i64 ((x0.out.length : Nat) : Int)) (ln rfl Try.underlying75) rfl ?_
   refine rs (v := .int .i64 0) (mv (v := .int .i64 0) rfl) rfl ?_
   refine rn ?_
   refine qn ?_
   refine Wblk ?_
   replace hc := hc.pull 2 rfl rfl
   replace hc := hc.pull 2 rfl rfl
   replace hc := hc.pull 2 rfl rfl
   replace hc : Ctx w6 (S_link_Link.hp b0 (⟨x0.window, x0.span, x0.room, x0.epoch, (IntKind.i64.wrap (x0.now + 1)), x0.next, x0.acked, x0.sent, x0.out, x0.got, x0.early, x0.owes⟩ : S_link_Link) :: Fr) := Ctx.exB _ _ (Ctx.exB _ _ (Ctx.sepB (Ctx.sepB hc)))
   replace hc := hc.nilOwn S_api_Seg.pr 46
   replace hc := hc.pull 1 rfl rfl
   refine Wloop (3 :: 4 :: 5 :: 18 :: 19 :: 20 :: 21 :: 22 :: 23 :: 24 :: 25 :: 26 :: 27 :: 28 :: 29 :: 30 :: 31 :: 32 :: 33 :: 34 :: 35 :: 36 :: 37 :: 38 :: 39 :: 40 :: 41 :: 42 :: 43 :: 44 :: 45 :: 46 :: 47 :: 48 :: 49 :: 50 :: 51 :: 52 :: 53 :: 54 :: 55 :: 56 :: 57 :: 58 :: 59 :: 60 :: 61 :: 62 :: 63 :: 64 :: 65 :: 66 :: 67 :: 68 :: 69 :: 70 :: 71 :: 72 :: 73 :: 74 :: 75 :: 76 :: 77 :: 78 :: 79 :: 80 :: 81 :: 82 :: 83 :: 84 :: 85 :: 86 :: 87 :: 88 :: 89 :: 90 :: 91 :: 92 :: 93 :: 94 :: 95 :: 96 :: 97 :: 98 :: 99 :: 100 :: 101 :: 102 :: []) [3, 18] (fun m vs w' => ∃ j12 : S_link_Link, ∃ j13 : (List S_api_Seg), ∃ j17 : Int, ∃ a14 : Option Addr, ∃ n15 : Nat, ∃ q16 : Nat, vs = [.slice a14 n15 q16, .int .i64 j17] ∧ link_Link_Tick.L2 x0 m j12 j13 j17 = some r ∧ Ctx w' (S_link_Link.hp b0 j12 :: Own S_api_Seg.pr 46 (.slice a14 n15 q16) j13 :: Fr)) N ?_ ?_
   · exact ⟨(⟨x0.window, x0.span, x0.room, x0.epoch, (IntKind.i64.wrap (x0.now + 1)), x0.next, x0.acked, x0.sent, x0.out, x0.got, x0.early, x0.owes⟩ : S_link_Link), [], 0, none, 0, 0, rfl, hp, hc⟩
   · clear hp hc; intro m vs u w18 hJ
     obtain ⟨j12, j13, j17, a14, n15, q16, rfl, hp, hc⟩ := hJ
     obtain ⟨u19, _⟩ := Ctx.rdLen hc (k := 1) rfl rfl reads_own; subst u19
     rcases m with _ | m2
     · cases (show none = some r from hp)
     rw [link_Link_Tick.L2] at hp
     refine Wseq ?_
     refine Wreg ?_
     refine rs (v := .bool (decide (j17 < ((x0.out.length : Nat) : Int)))) (lt' rfl rfl) rfl ?_
     refine rn ?_
     refine qn ?_
     refine Wseq ?_
     cases hb20 : (decide (j17 < ((x0.out.length : Nat) : Int)))
     · replace hp := gneg hp (of_decide_eq_false hb20)
       refine Wcf rfl ?_
       refine Wexit ?_
       refine qx ?_
       refine qx ?_
       refine be ?_
       refine qn ?_
       exact ⟨⟨j12, j13, a14, j13.length, q16, rfl, hp, hc⟩, (kl rfl (km rfl (kl rfl kb)))⟩
     · replace hp := gpos hp (of_decide_eq_true hb20)
       refine Wct rfl ?_
       refine Wskip ?_
       refine qn ?_
       refine Wseqm (3 :: 4 :: 5 :: 20 :: 21 :: 22 :: 23 :: 24 :: 25 :: 26 :: 27 :: 28 :: 29 :: 30 :: 31 :: 32 :: 33 :: 34 :: 35 :: 36 :: 37 :: 38 :: 39 :: 40 :: 41 :: 42 :: 43 :: 44 :: 45 :: 46 :: 47 :: 48 :: 49 :: 50 :: 51 :: 52 :: 53 :: 54 :: 55 :: 56 :: 57 :: 58 :: 59 :: 60 :: 61 :: 62 :: 63 :: 64 :: 65 :: 66 :: 67 :: 68 :: 69 :: 70 :: 71 :: 72 :: 73 :: 74 :: 75 :: 76 :: 77 :: 78 :: 79 :: 80 :: 81 :: 82 :: 83 :: 84 :: 85 :: 86 :: 87 :: 88 :: 89 :: 90 :: 91 :: 92 :: 93 :: 94 :: 95 :: 96 :: 97 :: 98 :: 99 :: 100 :: 101 :: []) [3] (fun vs w' => ∃ j21 : S_link_Link, ∃ j22 : (List S_api_Seg), ∃ a23 : Option Addr, ∃ n24 : Nat, ∃ q25 : Nat, vs = [.slice a23 n24 q25] ∧ link_Link_Tick.J3 j17 (link_Link_Tick.L2 x0 m2) j21 j22 = some r ∧ Ctx w' (S_link_Link.hp b0 j21 :: Own S_api_Seg.pr 46 (.slice a23 n24 q25) j22 :: Fr)) ?_ ?_
       · refine Wblk ?_
         refine Wseq ?_
         refine Wreg ?_
         refine rs (v := .int .i64 j17) (mv (v := .int .i64 j17) rfl) rfl ?_
         refine rs (v := .int .i64 j17) (av (v := .int .i64 j17) rfl) rfl ?_
         refine rn ?_
         refine qn ?_
         refine Wseq ?_
         refine Wreg ?_
         refine rs (v := .pointer (some ⟨b0, 0, none⟩)) (mv (v := .pointer (some ⟨b0, 0, none⟩)) rfl) rfl ?_
         refine rs (v := .pointer (some ⟨b0, 0, none⟩)) (nl rfl) rfl ?_
         refine rs (v := .pointer (some ⟨b0, 8, none⟩)) (fax 8 rfl Try.underlying77 rfl Try.sizeOf75 rfl rfl rfl) rfl ?_
         replace hc := Ctx.exF hc; obtain ⟨v26, hc⟩ := hc
         replace hc := Ctx.exF hc; obtain ⟨v27, hc⟩ := hc
         replace hc := Ctx.sepF hc
         replace hc := Ctx.sepF hc
         obtain ⟨a28, q29, u30⟩ := hc.rd (k := 1) rfl rfl reads_own; subst u30
         refine rs (v := .slice a28 j12.out.length q29) (ld rfl Try.isAgg75 (Ctx.cell hc (k := 0) rfl rfl rfl)) rfl ?_
         refine rs (v := .int .i64 j17) (mv (v := .int .i64 j17) rfl) rfl ?_
         replace hp := bind_some hp; obtain ⟨y31, hy31, hp⟩ := hp
         obtain ⟨b34, o35, u36, hi32, hi33⟩ := Ctx.rdAt hc (k := 1) rfl rfl reads_own hy31
         subst u36
         refine rs (v := .pointer (some ⟨b34, o35 + (j17).toNat * 3, none⟩)) (ixx rfl rfl Try.underlying75 Try.sizeOf82 hi32 hi33 rfl) rfl ?_
         refine rs (v := .pointer (some ⟨b34, o35 + (j17).toNat * 3, none⟩)) (av (v := .pointer (some ⟨b34, o35 + (j17).toNat * 3, none⟩)) rfl) rfl ?_
         refine rn ?_
         refine qn ?_
         refine Wseq ?_
         refine Wseq ?_
         replace hc := hc.drew
         refine Wdrw (fun _ w' => w' = World.drew w18) [0, 1, 3, 7, 0, 16, 48, 112, 0, 256, 768, 1792, 4080, 8191] 0 0 rfl (by kernel_rfl) (fun _ _ => rfl) ?_
         generalize hw : World.drew w18 = w37 at *
         clear hw
         refine ds (v := .pointer (some ⟨b34, o35 + (j17).toNat * 3, none⟩)) rfl (fun w' hF => by subst hF; exact mv (v := .pointer (some ⟨b34, o35 + (j17).toNat * 3, none⟩)) rfl) rfl ?_
         refine ds (v := .pointer (some ⟨b34, o35 + (j17).toNat * 3, none⟩)) rfl (fun w' hF => by subst hF; exact nl rfl) rfl ?_
         refine ds (v := .pointer (some ⟨b34, o35 + (j17).toNat * 3 + 0, none⟩)) rfl (fun w' hF => by subst hF; exact fax 0 rfl Try.underlying82 rfl Try.sizeOf3 rfl rfl rfl) rfl ?_
         replace hc := Ctx.rdCell hc (k := 1) rfl rfl reads_own hy31; obtain ⟨cs38, hc, hcell39⟩ := hc
         replace hc := S_link_body.op hc; obtain ⟨a41, q42, u40, hc⟩ := hc; subst u40
         refine ds (v := .int .i64 y31.seq) rfl (fun w' hF => by subst hF; exact ld rfl Try.isAgg3 (hcell39 0 _ rfl)) rfl ?_
         refine ds (v := .pointer (some ⟨b0, 0, none⟩)) rfl (fun w' hF => by subst hF; exact mv (v := .pointer (some ⟨b0, 0, none⟩)) rfl) rfl ?_
         refine ds (v := .pointer (some ⟨b0, 0, none⟩)) rfl (fun w' hF => by subst hF; exact nl rfl) rfl ?_
         refine ds (v := .pointer (some ⟨b0, 6, none⟩)) rfl (fun w' hF => by subst hF; exact fax 6 rfl Try.underlying77 rfl Try.sizeOf3 rfl rfl rfl) rfl ?_
         refine ds (v := .int .i64 j12.acked) rfl (fun w' hF => by subst hF; exact ld rfl Try.isAgg3 (Ctx.cell hc (k := 1) rfl rfl rfl)) rfl ?_
         refine ds (v := .pointer (some ⟨b0, 0, none⟩)) rfl (fun w' hF => by subst hF; exact mv (v := .pointer (some ⟨b0, 0, none⟩)) rfl) rfl ?_
         refine ds (v := .pointer (some ⟨b0, 0, none⟩)) rfl (fun w' hF => by subst hF; exact nl rfl) rfl ?_
         refine ds (v := .pointer (some ⟨b0, 0, none⟩)) rfl (fun w' hF => by subst hF; exact fax 0 rfl Try.underlying77 rfl Try.sizeOf3 rfl rfl rfl) rfl ?_
         refine ds (v := .int .i64 j12.window) rfl (fun w' hF => by subst hF; exact ld rfl Try.isAgg3 (Ctx.cell hc (k := 1) rfl rfl rfl)) rfl ?_
         refine ds (v := .int .i64 (IntKind.i64.wrap (j12.acked + j12.window))) rfl (fun w' hF => by subst hF; exact adw rfl rfl) rfl ?_
         refine ds (v := .bool (decide (y31.seq > (IntKind.i64.wrap (j12.acked + j12.window))))) rfl (fun w' hF => by subst hF; exact gt' rfl rfl) rfl ?_
         refine dn ?_
         refine qn ?_
         cases hb43 : (decide (y31.seq > (IntKind.i64.wrap (j12.acked + j12.window))))
         · replace hp := gneg hp (of_decide_eq_false hb43)
           refine Wcf rfl ?_
           refine Wskip ?_
           refine qn ?_
           refine Wseqm [41, 42, 43, 44, 45, 46, 47, 48, 49, 50, 51, 52, 53, 54, 55, 56, 57, 58, 59, 60, 61] [61] (fun vs w' => ∃ j44 : Bool, vs = [.bool j44] ∧ link_Link_Tick.J4 j12 j13 j17 y31 (link_Link_Tick.L2 x0 m2) j44 = some r ∧ Ctx w' (B b0 [.int .i64 j12.window, .int .i64 j12.span, .int .i64 j12.room, .int .i64 j12.epoch, .int .i64 j12.now, .int .i64 j12.next, .int .i64 j12.acked, .int .i64 j12.sent, .slice (some ⟨b34, o35, none⟩) j12.out.length q29, .int .i64 j12.got, .map (some v27), .bool j12.owes] 77 :: Own S_link_body.pr 82 (.slice (some ⟨b34, o35, none⟩) j12.out.length q29) j12.out :: Mp (ekI .i64) (HV vf1 (pRo (pInt .u8))) v27 j12.early :: Own S_api_Seg.pr 46 (.slice a14 j13.length q16) j13 :: Fr)) ?_ ?_
           · replace hc := hc.drew
             refine Wdrw (fun _ w' => w' = World.drew w37) [0, 1, 3, 7, 15, 31, 63, 127, 255, 511, 63, 1087, 3135, 7231, 16383, 63, 32831, 98367, 229439, 524287, 1048575] 0 0 rfl (by kernel_rfl) (fun _ _ => rfl) ?_
             generalize hw : World.drew w37 = w45 at *
             clear hw
             refine ds (v := .pointer (some ⟨b34, o35 + (j17).toNat * 3, none⟩)) rfl (fun w' hF => by subst hF; exact mv (v := .pointer (some ⟨b34, o35 + (j17).toNat * 3, none⟩)) rfl) rfl ?_
             refine ds (v := .pointer (some ⟨b34, o35 + (j17).toNat * 3, none⟩)) rfl (fun w' hF => by subst hF; exact nl rfl) rfl ?_
             refine ds (v := .pointer (some ⟨b34, o35 + (j17).toNat * 3 + 1, none⟩)) rfl (fun w' hF => by subst hF; exact fax 1 rfl Try.underlying82 rfl Try.sizeOf3 rfl rfl rfl) rfl ?_
             replace hc := Ctx.rdCell hc (k := 2) rfl rfl reads_own hy31; obtain ⟨cs46, hc, hcell47⟩ := hc
             replace hc := S_link_body.op hc; obtain ⟨a49, q50, u48, hc⟩ := hc; subst u48
             refine ds (v := .int .i64 y31.at_) rfl (fun w' hF => by subst hF; exact ld rfl Try.isAgg3 (hcell47 1 _ rfl)) rfl ?_
             refine ds (v := .bool (decide (y31.at_ < 0))) rfl (fun w' hF => by subst hF; exact lt' rfl rfl) rfl ?_
             refine ds (v := .bool (decide (y31.at_ < 0))) rfl (fun w' hF => by subst hF; exact mv (v := .bool (decide (y31.at_ < 0))) rfl) rfl ?_
             cases hb51 : (decide (y31.at_ < 0))
             · replace hp := gneg hp (of_decide_eq_false hb51)
               refine ds (v := .pointer (some ⟨b0, 0, none⟩)) rfl (fun w' hF => by subst hF; exact mv (v := .pointer (some ⟨b0, 0, none⟩)) rfl) rfl ?_
               refine ds (v := .pointer (some ⟨b0, 0, none⟩)) rfl (fun w' hF => by subst hF; exact nl rfl) rfl ?_
               refine ds (v := .pointer (some ⟨b0, 4, none⟩)) rfl (fun w' hF => by subst hF; exact fax 4 rfl Try.underlying77 rfl Try.sizeOf3 rfl rfl rfl) rfl ?_
               refine ds (v := .int .i64 j12.now) rfl (fun w' hF => by subst hF; exact ld rfl Try.isAgg3 (Ctx.cell hc (k := 2) rfl rfl rfl)) rfl ?_
               refine ds (v := .pointer (some ⟨b34, o35 + (j17).toNat * 3, none⟩)) rfl (fun w' hF => by subst hF; exact mv (v := .pointer (some ⟨b34, o35 + (j17).toNat * 3, none⟩)) rfl) rfl ?_
               refine ds (v := .pointer (some ⟨b34, o35 + (j17).toNat * 3, none⟩)) rfl (fun w' hF => by subst hF; exact nl rfl) rfl ?_
               refine ds (v := .pointer (some ⟨b34, o35 + (j17).toNat * 3 + 1, none⟩)) rfl (fun w' hF => by subst hF; exact fax 1 rfl Try.underlying82 rfl Try.sizeOf3 rfl rfl rfl) rfl ?_
               refine ds (v := .int .i64 y31.at_) rfl (fun w' hF => by subst hF; exact ld rfl Try.isAgg3 (hcell47 1 _ rfl)) rfl ?_
               refine ds (v := .int .i64 (IntKind.i64.wrap (j12.now - y31.at_))) rfl (fun w' hF => by subst hF; exact sbw rfl rfl) rfl ?_
               refine ds (v := .pointer (some ⟨b0, 0, none⟩)) rfl (fun w' hF => by subst hF; exact mv (v := .pointer (some ⟨b0, 0, none⟩)) rfl) rfl ?_
               refine ds (v := .pointer (some ⟨b0, 0, none⟩)) rfl (fun w' hF => by subst hF; exact nl rfl) rfl ?_
               refine ds (v := .pointer (some ⟨b0, 1, none⟩)) rfl (fun w' hF => by subst hF; exact fax 1 rfl Try.underlying77 rfl Try.sizeOf3 rfl rfl rfl) rfl ?_
               refine ds (v := .int .i64 j12.span) rfl (fun w' hF => by subst hF; exact ld rfl Try.isAgg3 (Ctx.cell hc (k := 2) rfl rfl rfl)) rfl ?_
               refine ds (v := .bool (decide ((IntKind.i64.wrap (j12.now - y31.at_)) ≥ j12.span))) rfl (fun w' hF => by subst hF; exact ge' rfl rfl) rfl ?_
               refine ds (v := .bool (decide ((IntKind.i64.wrap (j12.now - y31.at_)) ≥ j12.span))) rfl (fun w' hF => by subst hF; exact pkf (v := .bool (decide ((IntKind.i64.wrap (j12.now - y31.at_)) ≥ j12.span))) rfl rfl) rfl ?_
               refine dn ?_
               refine qn ?_
               replace hc := hc.rem 1 rfl rfl
               replace hc := hc.rem 0 rfl rfl
               exact ⟨⟨decide ((IntKind.i64.wrap (j12.now - y31.at_)) ≥ j12.span), rfl, hp, hc⟩, (kl rfl kb)⟩
             · replace hp := gpos hp (of_decide_eq_true hb51)
               refine d0 rfl rfl ?_
               refine d0 rfl rfl ?_
               refine d0 rfl rfl ?_
               refine d0 rfl rfl ?_
               refine d0 rfl rfl ?_
               refine d0 rfl rfl ?_
               refine d0 rfl rfl ?_
               refine d0 rfl rfl ?_
               refine d0 rfl rfl ?_
               refine d0 rfl rfl ?_
               refine d0 rfl rfl ?_
               refine d0 rfl rfl ?_
               refine d0 rfl rfl ?_
               refine d0 rfl rfl ?_
               refine ds (v := .bool true) rfl (fun w' hF => by subst hF; exact pkt (v := .bool true) rfl rfl) rfl ?_
               refine dn ?_
               refine qn ?_
               replace hc := hc.rem 1 rfl rfl
               replace hc := hc.rem 0 rfl rfl
               exact ⟨⟨true, rfl, hp, hc⟩, (kl rfl kb)⟩
           · clear hp hc; intro vs u w52 hJ
             obtain ⟨j44, rfl, hp, hc⟩ := hJ
             unfold link_Link_Tick.J4 at hp
             cases hb53 : j44
             · replace hp := gneg hp (by rw [hb53]; exact Bool.false_ne_true)
               subst hb53
               refine Wcf rfl ?_
               refine Wskip ?_
               refine bn ?_
               refine qn ?_
               replace hc := hc.pull 2 rfl rfl
               replace hc := hc.pull 2 rfl rfl
               replace hc := hc.pull 2 rfl rfl
               replace hc : Ctx w52 (S_link_Link.hp b0 j12 :: Own S_api_Seg.pr 46 (.slice a14 j13.length q16) j13 :: Fr) := Ctx.exB _ _ (Ctx.exB _ _ (Ctx.sepB (Ctx.sepB hc)))
               exact ⟨⟨j12, j13, a14, j13.length, q16, rfl, hp, hc⟩, (kl rfl (km rfl (kl rfl kb)))⟩
             · replace hp := gpos hp hb53
               subst hb53
               refine Wct rfl ?_
               refine Wseq ?_
               refine Wreg ?_
               refine rs (v := .pointer (some ⟨b34, o35 + (j17).toNat * 3, none⟩)) (mv (v := .pointer (some ⟨b34, o35 + (j17).toNat * 3, none⟩)) rfl) rfl ?_
               refine rs (v := .pointer (some ⟨b0, 0, none⟩)) (mv (v := .pointer (some ⟨b0, 0, none⟩)) rfl) rfl ?_
               refine rs (v := .pointer (some ⟨b0, 0, none⟩)) (nl rfl) rfl ?_
               refine rs (v := .pointer (some ⟨b0, 4, none⟩)) (fax 4 rfl Try.underlying77 rfl Try.sizeOf3 rfl rfl rfl) rfl ?_
               refine rs (v := .int .i64 j12.now) (ld rfl Try.isAgg3 (Ctx.cell hc (k := 0) rfl rfl rfl)) rfl ?_
               refine rs (v := .pointer (some ⟨b34, o35 + (j17).toNat * 3, none⟩)) (nl rfl) rfl ?_
               refine rs (v := .pointer (some ⟨b34, o35 + (j17).toNat * 3 + 1, none⟩)) (fax 1 rfl Try.underlying82 rfl Try.sizeOf3 rfl rfl rfl) rfl ?_
               refine ruE (A := fun w' => Ctx w' (B b0 [.int .i64 j12.window, .int .i64 j12.span, .int .i64 j12.room, .int .i64 j12.epoch, .int .i64 j12.now, .int .i64 j12.next, .int .i64 j12.acked, .int .i64 j12.sent, .slice (some ⟨b34, o35, none⟩) j12.out.length q29, .int .i64 j12.got, .map (some v27), .bool j12.owes] 77 :: Own S_link_body.pr 82 (.slice (some ⟨b34, o35, none⟩) j12.out.length q29) (j12.out.set (j17).toNat ({ y31 with at_ := j12.now })) :: Mp (ekI .i64) (HV vf1 (pRo (pInt .u8))) v27 j12.early :: Own S_api_Seg.pr 46 (.slice a14 j13.length q16) j13 :: Fr)) (Ctx.ownPutOp hc (k := 1) rfl rfl (z := y31) (z' := { y31 with at_ := j12.now }) hy31 1 rfl (u := .int .i64 j12.now) rfl rfl rfl Try.sizeOf3 (fun _ _ _ h => by obtain ⟨_, _, rfl, rfl, ⟨_, _, rfl, rfl, ⟨_, rfl, hs54⟩⟩⟩ := h; exact ⟨_, _, rfl, rfl, ⟨_, _, rfl, rfl, ⟨_, rfl, hs54⟩⟩⟩) rfl) rfl ?_
               clear hc; rintro w55 hc
               refine rn ?_
               refine qn ?_
               refine Wseq ?_
               replace hc := hc.drew
               refine Wdrw (fun j w' => True) [0, 0, 2, 6, 14, 0, 32, 96, 224, 510, 1023, 2047, 4095] 0 272 rfl (by kernel_rfl) (fun _ _ => trivial) ?_
               generalize hw : World.drew w55 = w56 at *
               clear hw
               refine ds (v := .pointer (some ⟨b0, 0, none⟩)) rfl (fun w' hF => mv (v := .pointer (some ⟨b0, 0, none⟩)) rfl) rfl ?_
               refine ds (v := .pointer (some ⟨b0, 0, none⟩)) rfl (fun w' hF => mv (v := .pointer (some ⟨b0, 0, none⟩)) rfl) rfl ?_
               refine ds (v := .pointer (some ⟨b0, 0, none⟩)) rfl (fun w' hF => nl rfl) rfl ?_
               refine ds (v := .pointer (some ⟨b0, 7, none⟩)) rfl (fun w' hF => fax 7 rfl Try.underlying77 rfl Try.sizeOf3 rfl rfl rfl) rfl ?_
               refine dx (v := .int .i64 j12.sent) rfl (ld rfl Try.isAgg3 (Ctx.cell hc (k := 0) rfl rfl rfl)) rfl rfl ?_
               refine ds (v := .pointer (some ⟨b34, o35 + (j17).toNat * 3, none⟩)) rfl (fun w' hF => mv (v := .pointer (some ⟨b34, o35 + (j17).toNat * 3, none⟩)) rfl) rfl ?_
               refine ds (v := .pointer (some ⟨b34, o35 + (j17).toNat * 3, none⟩)) rfl (fun w' hF => nl rfl) rfl ?_
               refine ds (v := .pointer (some ⟨b34, o35 + (j17).toNat * 3 + 0, none⟩)) rfl (fun w' hF => fax 0 rfl Try.underlying82 rfl Try.sizeOf3 rfl rfl rfl) rfl ?_
               replace hc := Ctx.rdCell hc (k := 1) rfl rfl reads_own (idx_set hy31 ({ y31 with at_ := j12.now })); obtain ⟨cs57, hc, hcell58⟩ := hc
               replace hc := S_link_body.op hc; obtain ⟨a60, q61, u59, hc⟩ := hc; subst u59
               refine dx (v := .int .i64 (({ y31 with at_ := j12.now } : S_link_body).seq)) rfl (ld rfl Try.isAgg3 (hcell58 0 _ rfl)) rfl rfl ?_
               refine ds (v := .int .i64 (max j12.sent (({ y31 with at_ := j12.now } : S_link_body).seq))) rfl (fun w' hF => bmx rfl rfl Try.underlying3) rfl ?_
               refine ds (v := .pointer (some ⟨b0, 0, none⟩)) rfl (fun w' hF => nl rfl) rfl ?_
               refine ds (v := .pointer (some ⟨b0, 7, none⟩)) rfl (fun w' hF => fax 7 rfl Try.underlying77 rfl Try.sizeOf3 rfl rfl rfl) rfl ?_
               refine duE (A := fun w' => Ctx w' (Hold (pRo (pInt .u8)) [.slice a60 (({ y31 with at_ := j12.now } : S_link_body).b.length) q61] (({ y31 with at_ := j12.now } : S_link_body).b) :: B b0 [.int .i64 j12.window, .int .i64 j12.span, .int .i64 j12.room, .int .i64 j12.epoch, .int .i64 j12.now, .int .i64 j12.next, .int .i64 j12.acked, .int .i64 (max j12.sent (({ y31 with at_ := j12.now } : S_link_body).seq)), .slice (some ⟨b34, o35, none⟩) j12.out.length q29, .int .i64 j12.got, .map (some v27), .bool j12.owes] 77 :: Own S_link_body.pr 82 (.slice (some ⟨b34, o35, none⟩) j12.out.length q29) (j12.out.set (j17).toNat ({ y31 with at_ := j12.now })) :: Mp (ekI .i64) (HV vf1 (pRo (pInt .u8))) v27 j12.early :: Own S_api_Seg.pr 46 (.slice a14 j13.length q16) j13 :: Fr)) (Ctx.putOp hc (k := 1) rfl rfl (v := .int .i64 (max j12.sent (({ y31 with at_ := j12.now } : S_link_body).seq))) rfl rfl rfl Try.sizeOf3 rfl rfl rfl) rfl rfl ?_
               clear hc; rintro w62 hc
               refine ⟨fun j hj hb => trivial, ?_⟩
               refine dn ?_
               refine qn ?_
               obtain ⟨b63, o64, u65, hi66, hi67⟩ := Ctx.rdAt hc (k := 2) rfl rfl reads_own (idx_set hy31 ({ y31 with at_ := j12.now }))
               clear u65
               replace hc := Ctx.pnAt hc (k := 2) rfl rfl reads_own (idx_set hy31 ({ y31 with at_ := j12.now })); obtain ⟨cs68, hc⟩ := hc
               replace hc := S_link_body.op hc; obtain ⟨a70, q71, u69, hc⟩ := hc; subst u69
               replace hc : Ctx w62 (Hold (pRo (pInt .u8)) [.slice a70 (({ y31 with at_ := j12.now } : S_link_body).b.length) q71] (({ y31 with at_ := j12.now } : S_link_body).b) :: Hold (pRo (pInt .u8)) [.slice a60 (({ y31 with at_ := j12.now } : S_link_body).b.length) q61] (({ y31 with at_ := j12.now } : S_link_body).b) :: B b0 [.int .i64 j12.window, .int .i64 j12.span, .int .i64 j12.room, .int .i64 j12.epoch, .int .i64 j12.now, .int .i64 j12.next, .int .i64 j12.acked, .int .i64 (max j12.sent (({ y31 with at_ := j12.now } : S_link_body).seq)), .slice (some ⟨b34, o35, none⟩) j12.out.length q29, .int .i64 j12.got, .map (some v27), .bool j12.owes] 77 :: Pn (Own S_link_body.pr 82 (.slice (some ⟨b34, o35, none⟩) j12.out.length q29) (j12.out.set (j17).toNat ({ y31 with at_ := j12.now }))) b34 (o35 + (j17).toNat * 3) [.int .i64 (({ y31 with at_ := j12.now } : S_link_body).seq), .int .i64 (({ y31 with at_ := j12.now } : S_link_body).at_), .slice a70 (({ y31 with at_ := j12.now } : S_link_body).b.length) q71] :: Mp (ekI .i64) (HV vf1 (pRo (pInt .u8))) v27 j12.early :: Own S_api_Seg.pr 46 (.slice a14 j13.length q16) j13 :: Fr) := hc
               replace hc := hc.drew
               have hF : ∀ j, free [0, 0, 2, 6, 14, 0, 32, 96, 224, 0, 512, 1536, 3584, 0, 8192, 24576, 57344, 122880, 262142, 524286, 1048575, 2097151] 0 j = true → (fun j w' => (j = 4 → w'.cell? ⟨b0, 3, none⟩ = some (.int .i64 j12.epoch)) ∧ (j = 8 → w'.cell? ⟨b34, o35 + (j17).toNat * 3 + 0, none⟩ = some (.int .i64 (({ y31 with at_ := j12.now } : S_link_body).seq))) ∧ (j = 12 → w'.cell? ⟨b0, 9, none⟩ = some (.int .i64 j12.got)) ∧ True) j (World.drew w62) := fun j hj => ⟨fun _ => hc.cell (k := 2) rfl rfl rfl, fun _ => Ctx.pnCell hc (k := 3) rfl rfl (fun _ _ _ h => h) 0 _ rfl, fun _ => hc.cell (k := 2) rfl rfl rfl, trivial⟩
               refine Wdrw (fun j w' => (j = 4 → w'.cell? ⟨b0, 3, none⟩ = some (.int .i64 j12.epoch)) ∧ (j = 8 → w'.cell? ⟨b34, o35 + (j17).toNat * 3 + 0, none⟩ = some (.int .i64 (({ y31 with at_ := j12.now } : S_link_body).seq))) ∧ (j = 12 → w'.cell? ⟨b0, 9, none⟩ = some (.int .i64 j12.got)) ∧ True) [0, 0, 2, 6, 14, 0, 32, 96, 224, 0, 512, 1536, 3584, 0, 8192, 24576, 57344, 122880, 262142, 524286, 1048575, 2097151] 0 65536 rfl (by kernel_rfl) (hF) ?_
               generalize hw : World.drew w62 = w72 at *
               clear hw
               refine ds (v := .slice a14 j13.length q16) rfl (fun w' hF => mv (v := .slice a14 j13.length q16) rfl) rfl ?_
               refine ds (v := .pointer (some ⟨b0, 0, none⟩)) rfl (fun w' hF => mv (v := .pointer (some ⟨b0, 0, none⟩)) rfl) rfl ?_
               refine ds (v := .pointer (some ⟨b0, 0, none⟩)) rfl (fun w' hF => nl rfl) rfl ?_
               refine ds (v := .pointer (some ⟨b0, 3, none⟩)) rfl (fun w' hF => fax 3 rfl Try.underlying77 rfl Try.sizeOf3 rfl rfl rfl) rfl ?_
               refine ds (v := .int .i64 j12.epoch) rfl (fun w' hF => ld rfl Try.isAgg3 ((hF.1 rfl))) rfl ?_
               refine ds (v := .pointer (some ⟨b34, o35 + (j17).toNat * 3, none⟩)) rfl (fun w' hF => mv (v := .pointer (some ⟨b34, o35 + (j17).toNat * 3, none⟩)) rfl) rfl ?_
               refine ds (v := .pointer (some ⟨b34, o35 + (j17).toNat * 3, none⟩)) rfl (fun w' hF => nl rfl) rfl ?_
               refine ds (v := .pointer (some ⟨b34, o35 + (j17).toNat * 3 + 0, none⟩)) rfl (fun w' hF => fax 0 rfl Try.underlying82 rfl Try.sizeOf3 rfl rfl rfl) rfl ?_
               refine ds (v := .int .i64 (({ y31 with at_ := j12.now } : S_link_body).seq)) rfl (fun w' hF => ld rfl Try.isAgg3 ((hF.2.1 rfl))) rfl ?_
               refine ds (v := .pointer (some ⟨b0, 0, none⟩)) rfl (fun w' hF => mv (v := .pointer (some ⟨b0, 0, none⟩)) rfl) rfl ?_
               refine ds (v := .pointer (some ⟨b0, 0, none⟩)) rfl (fun w' hF => nl rfl) rfl ?_
               refine ds (v := .pointer (some ⟨b0, 9, none⟩)) rfl (fun w' hF => fax 9 rfl Try.underlying77 rfl Try.sizeOf3 rfl rfl rfl) rfl ?_
               refine ds (v := .int .i64 j12.got) rfl (fun w' hF => ld rfl Try.isAgg3 ((hF.2.2.1 rfl))) rfl ?_
               refine ds (v := .pointer (some ⟨b34, o35 + (j17).toNat * 3, none⟩)) rfl (fun w' hF => mv (v := .pointer (some ⟨b34, o35 + (j17).toNat * 3, none⟩)) rfl) rfl ?_
               refine ds (v := .pointer (some ⟨b34, o35 + (j17).toNat * 3, none⟩)) rfl (fun w' hF => nl rfl) rfl ?_
               refine ds (v := .pointer (some ⟨b34, o35 + (j17).toNat * 3 + 2, none⟩)) rfl (fun w' hF => fax 2 rfl Try.underlying82 rfl Try.sizeOf38 rfl rfl rfl) rfl ?_
               refine dx (v := .slice a70 (({ y31 with at_ := j12.now } : S_link_body).b.length) q71) rfl (ld rfl Try.isAgg38 (Ctx.pnCell hc (k := 3) rfl rfl (fun _ _ _ h => h) 2 _ rfl)) rfl rfl ?_
               replace hc := hc.dup (k := 0) rfl rfl
               replace hp := bind_some hp; obtain ⟨r73, hr73, hp⟩ := hp
               refine dc (cl Try.call30 rfl rfl) rfl rfl ?_
               refine bytes_Clone_any reads_ro hc hr73 ?_
               clear hc; intro a74 n75 q76 w77 hc
               obtain ⟨u78, _⟩ := Ctx.rdLen hc (k := 0) rfl rfl reads_own; subst u78
               refine ⟨fun j hj hb => ⟨fun _ => hc.cell (k := 4) rfl rfl rfl, fun _ => Ctx.pnCell hc (k := 5) rfl rfl (fun _ _ _ h => h) 0 _ rfl, fun _ => hc.cell (k := 4) rfl rfl rfl, trivial⟩, ?_⟩
               refine ds (v := .agg #[.int .i64 j12.epoch, .int .i64 (({ y31 with at_ := j12.now } : S_link_body).seq), .int .i64 j12.got, .slice a74 r73.length q76]) rfl (fun w' hF => bd_46_0_1_2_3 rfl rfl rfl rfl) rfl ?_
               replace hc := hc.freeze (k := 0) rfl rfl rfl
               replace hc := hc.dup (k := 0) rfl rfl
               replace hc : Ctx w77 (Hold S_api_Seg.pr [.int .i64 j12.epoch, .int .i64 (({ y31 with at_ := j12.now } : S_link_body).seq), .int .i64 j12.got, .slice a74 r73.length q76] (⟨j12.epoch, ({ y31 with at_ := j12.now } : S_link_body).seq, j12.got, r73⟩ : S_api_Seg) :: Hold (pRo (pInt .u8)) [.slice a74 r73.length q76] r73 :: Hold (pRo (pInt .u8)) [.slice a70 (({ y31 with at_ := j12.now } : S_link_body).b.length) q71] (({ y31 with at_ := j12.now } : S_link_body).b) :: Hold (pRo (pInt .u8)) [.slice a70 (({ y31 with at_ := j12.now } : S_link_body).b.length) q71] (({ y31 with at_ := j12.now } : S_link_body).b) :: Hold (pRo (pInt .u8)) [.slice a60 (({ y31 with at_ := j12.now } : S_link_body).b.length) q61] (({ y31 with at_ := j12.now } : S_link_body).b) :: B b0 [.int .i64 j12.window, .int .i64 j12.span, .int .i64 j12.room, .int .i64 j12.epoch, .int .i64 j12.now, .int .i64 j12.next, .int .i64 j12.acked, .int .i64 (max j12.sent (({ y31 with at_ := j12.now } : S_link_body).seq)), .slice (some ⟨b34, o35, none⟩) j12.out.length q29, .int .i64 j12.got, .map (some v27), .bool j12.owes] 77 :: Pn (Own S_link_body.pr 82 (.slice (some ⟨b34, o35, none⟩) j12.out.length q29) (j12.out.set (j17).toNat ({ y31 with at_ := j12.now }))) b34 (o35 + (j17).toNat * 3) [.int .i64 (({ y31 with at_ := j12.now } : S_link_body).seq), .int .i64 (({ y31 with at_ := j12.now } : S_link_body).at_), .slice a70 (({ y31 with at_ := j12.now } : S_link_body).b.length) q71] :: Mp (ekI .i64) (HV vf1 (pRo (pInt .u8))) v27 j12.early :: Own S_api_Seg.pr 46 (.slice a14 j13.length q16) j13 :: Fr) := S_api_Seg.cl hc
               refine deE (Ctx.builtOp (css := [[.int .i64 j12.epoch, .int .i64 (({ y31 with at_ := j12.now } : S_link_body).seq), .int .i64 j12.got, .slice a74 r73.length q76]]) (xs := ([(⟨j12.epoch, ({ y31 with at_ := j12.now } : S_link_body).seq, j12.got, r73⟩ : S_api_Seg)] : List S_api_Seg)) (E := S_api_Seg.pr) hc Try.underlying29 Try.sizeOf46 Try.zeroValue46 rfl rfl rfl rfl rfl rfl rfl rfl) rfl rfl ?_
               clear hc; rintro _ w80 ⟨a79, rfl, hc⟩
               refine ⟨fun j hj hb => ⟨fun e => (by subst e; exact absurd hj (by decide)), fun e => (by subst e; exact absurd hj (by decide)), fun e => (by subst e; exact absurd hj (by decide)), trivial⟩, ?_⟩
               replace hp := bind_some hp; obtain ⟨z81, hz81, hp⟩ := hp
               obtain ⟨hg82, e83⟩ := app_some hz81
               refine deE (Ctx.append hc (k := 8) rfl rfl (k2 := 0) rfl rfl reads_own Try.underlying29 (i := Try.t46) rfl rfl rfl rfl rfl rfl rfl rfl hg82) rfl rfl ?_
               clear hc; rintro _ w86 ⟨a84, q85, rfl, hc⟩
               rw [← e83] at hc ⊢
               refine ⟨fun j hj hb => ⟨fun e => (by subst e; exact absurd hj (by decide)), fun e => (by subst e; exact absurd hj (by decide)), fun e => (by subst e; exact absurd hj (by decide)), trivial⟩, ?_⟩
               refine ds (v := .slice a84 z81.length q85) rfl (fun w' hF => av (v := .slice a84 z81.length q85) rfl) rfl ?_
               replace hc := Ctx.pnB hc (k := 6) rfl rfl rfl
               refine dn ?_
               refine bn ?_
               refine qn ?_
               replace hc := hc.pull 7 rfl rfl
               replace hc := hc.pull 7 rfl rfl
               replace hc := hc.pull 7 rfl rfl
               replace hc : Ctx w86 (S_link_Link.hp b0 (⟨j12.window, j12.span, j12.room, j12.epoch, j12.now, j12.next, j12.acked, (max j12.sent (({ y31 with at_ := j12.now } : S_link_body).seq)), (j12.out.set (j17).toNat ({ y31 with at_ := j12.now })), j12.got, j12.early, j12.owes⟩ : S_link_Link) :: Own S_api_Seg.pr 46 (.slice a79 1 1) ([(⟨j12.epoch, ({ y31 with at_ := j12.now } : S_link_body).seq, j12.got, r73⟩ : S_api_Seg)]) :: Hold (pRo (pInt .u8)) [.slice a74 r73.length q76] r73 :: Hold (pRo (pInt .u8)) [.slice a70 (({ y31 with at_ := j12.now } : S_link_body).b.length) q71] (({ y31 with at_ := j12.now } : S_link_body).b) :: Hold (pRo (pInt .u8)) [.slice a70 (({ y31 with at_ := j12.now } : S_link_body).b.length) q71] (({ y31 with at_ := j12.now } : S_link_body).b) :: Hold (pRo (pInt .u8)) [.slice a60 (({ y31 with at_ := j12.now } : S_link_body).b.length) q61] (({ y31 with at_ := j12.now } : S_link_body).b) :: Own S_api_Seg.pr 46 (.slice a84 z81.length q85) z81 :: Fr) := Ctx.exB _ _ (Ctx.exB _ _ (Ctx.sepB (Ctx.sepB hc)))
               replace hc := hc.rem 5 rfl rfl
               replace hc := hc.rem 4 rfl rfl
               replace hc := hc.rem 3 rfl rfl
               replace hc := hc.rem 2 rfl rfl
               replace hc := hc.rem 1 rfl rfl
               exact ⟨⟨(⟨j12.window, j12.span, j12.room, j12.epoch, j12.now, j12.next, j12.acked, (max j12.sent (({ y31 with at_ := j12.now } : S_link_body).seq)), (j12.out.set (j17).toNat ({ y31 with at_ := j12.now })), j12.got, j12.early, j12.owes⟩ : S_link_Link), z81, a84, z81.length, q85, rfl, hp, hc⟩, (kl rfl (km rfl (kl rfl kb)))⟩
         · replace hp := gpos hp (of_decide_eq_true hb43)
           refine Wct rfl ?_
           refine Wexit ?_
           refine qx ?_
           refine bx rfl ?_
           refine qx ?_
           refine qx ?_
           refine be ?_
           refine qn ?_
           replace hc := hc.pull 3 rfl rfl
           replace hc := hc.pull 3 rfl rfl
           replace hc := hc.pull 3 rfl rfl
           replace hc : Ctx w37 (S_link_Link.hp b0 j12 :: Hold (pRo (pInt .u8)) [.slice a41 y31.b.length q42] y31.b :: Own S_api_Seg.pr 46 (.slice a14 j13.length q16) j13 :: Fr) := Ctx.exB _ _ (Ctx.exB _ _ (Ctx.sepB (Ctx.sepB hc)))
           replace hc := hc.rem 1 rfl rfl
           exact ⟨⟨j12, j13, a14, j13.length, q16, rfl, hp, hc⟩, (by first | exact (kl rfl (kl rfl (km rfl (kl rfl kb)))) | exact (kl rfl (kn (kl rfl (km rfl (kl rfl kb))))))⟩
       · clear hp hc; intro vs u w87 hJ
         obtain ⟨j21, j22, a23, n24, q25, rfl, hp, hc⟩ := hJ
         obtain ⟨u88, _⟩ := Ctx.rdLen hc (k := 1) rfl rfl reads_own; subst u88
         unfold link_Link_Tick.J3 at hp
         refine Wreg ?_
         refine rs (v := .int .i64 (IntKind.i64.wrap (j17 + 1))) (adw rfl rfl) rfl ?_
         refine rs (v := .int .i64 (IntKind.i64.wrap (j17 + 1))) (mv (v := .int .i64 (IntKind.i64.wrap (j17 + 1))) rfl) rfl ?_
         refine rn ?_
         refine qn ?_
         exact ⟨m2, Nat.lt_succ_self _, ⟨j21, j22, (IntKind.i64.wrap (j17 + 1)), a23, j22.length, q25, rfl, hp, hc⟩, (kl rfl (km rfl (kl rfl k0)))⟩
 · clear hp hc; intro vs u w89 hJ
   obtain ⟨j7, j8, a9, n10, q11, rfl, hp, hc⟩ := hJ
   obtain ⟨u90, _⟩ := Ctx.rdLen hc (k := 1) rfl rfl reads_own; subst u90
   unfold link_Link_Tick.J1 at hp
   refine Wseq ?_
   refine Wseqm [103, 104, 105, 106, 107, 108, 109, 110, 111] [111] (fun vs w' => ∃ j91 : Bool, vs = [.bool j91] ∧ link_Link_Tick.J5 j7 j8 j91 = some r ∧ Ctx w' (S_link_Link.hp b0 j7 :: Own S_api_Seg.pr 46 (.slice a9 j8.length q11) j8 :: Fr)) ?_ ?_
   · refine Wreg ?_
     refine rs (v := .slice a9 j8.length q11) (mv (v := .slice a9 j8.length q11) rfl) rfl ?_
     refine rs (v := .int .i64 ((j8.length : Nat) : Int)) (ln rfl Try.underlying29) rfl ?_
     refine rs (v := .bool (decide (((j8.length : Nat) : Int) = 0))) (eqd rfl rfl) rfl ?_
     refine rs (v := .bool (decide (((j8.length : Nat) : Int) = 0))) (mv (v := .bool (decide (((j8.length : Nat) : Int) = 0))) rfl) rfl ?_
     cases hb92 : (decide (((j8.length : Nat) : Int) = 0))
     · replace hp := gneg hp (of_decide_eq_false hb92)
       refine r0 rfl ?_
       refine r0 rfl ?_
       refine r0 rfl ?_
       refine r0 rfl ?_
       refine rs (v := .bool false) (pkf (v := .bool false) rfl rfl) rfl ?_
       refine rn ?_
       refine qn ?_
       exact ⟨⟨false, rfl, hp, hc⟩, (kl rfl kb)⟩
     · replace hp := gpos hp (of_decide_eq_true hb92)
       refine rs (v := .pointer (some ⟨b0, 0, none⟩)) (mv (v := .pointer (some ⟨b0, 0, none⟩)) rfl) rfl ?_
       refine rs (v := .pointer (some ⟨b0, 0, none⟩)) (nl rfl) rfl ?_
       refine rs (v := .pointer (some ⟨b0, 11, none⟩)) (fax 11 rfl Try.underlying77 rfl Try.sizeOf4 rfl rfl rfl) rfl ?_
       replace hc := Ctx.exF hc; obtain ⟨v93, hc⟩ := hc
       replace hc := Ctx.exF hc; obtain ⟨v94, hc⟩ := hc
       replace hc := Ctx.sepF hc
       replace hc := Ctx.sepF hc
       obtain ⟨a95, q96, u97⟩ := hc.rd (k := 1) rfl rfl reads_own; subst u97
       refine rs (v := .bool j7.owes) (ld rfl Try.isAgg4 (Ctx.cell hc (k := 0) rfl rfl rfl)) rfl ?_
       refine rs (v := .bool j7.owes) (pkt (v := .bool j7.owes) rfl rfl) rfl ?_
       refine rn ?_
       refine qn ?_
       replace hc := hc.pull 2 rfl rfl
       replace hc := hc.pull 2 rfl rfl
       replace hc := hc.pull 2 rfl rfl
       replace hc : Ctx w89 (S_link_Link.hp b0 j7 :: Own S_api_Seg.pr 46 (.slice a9 j8.length q11) j8 :: Fr) := Ctx.exB _ _ (Ctx.exB _ _ (Ctx.sepB (Ctx.sepB hc)))
       exact ⟨⟨j7.owes, rfl, hp, hc⟩, (kl rfl kb)⟩
   · clear hp hc; intro vs u w98 hJ
     obtain ⟨j91, rfl, hp, hc⟩ := hJ
     unfold link_Link_Tick.J5 at hp
     cases hb99 : j91
     · replace hp := gneg hp (by rw [hb99]; exact Bool.false_ne_true)
       subst hb99
       refine Wcf rfl ?_
       refine Wskip ?_
       refine qn ?_
       refine Wseq ?_
       refine Wreg ?_
       refine rs (v := .pointer (some ⟨b0, 0, none⟩)) (mv (v := .pointer (some ⟨b0, 0, none⟩)) rfl) rfl ?_
       refine rs (v := .pointer (some ⟨b0, 0, none⟩)) (nl rfl) rfl ?_
       refine rs (v := .pointer (some ⟨b0, 11, none⟩)) (fax 11 rfl Try.underlying77 rfl Try.sizeOf4 rfl rfl rfl) rfl ?_
       replace hc := Ctx.exF hc; obtain ⟨v100, hc⟩ := hc
       replace hc := Ctx.exF hc; obtain ⟨v101, hc⟩ := hc
       replace hc := Ctx.sepF hc
       replace hc := Ctx.sepF hc
       obtain ⟨a102, q103, u104⟩ := hc.rd (k := 1) rfl rfl reads_own; subst u104
       refine ruE (A := fun w' => Ctx w' (B b0 [.int .i64 j7.window, .int .i64 j7.span, .int .i64 j7.room, .int .i64 j7.epoch, .int .i64 j7.now, .int .i64 j7.next, .int .i64 j7.acked, .int .i64 j7.sent, .slice a102 j7.out.length q103, .int .i64 j7.got, .map (some v101), .bool false] 77 :: Own S_link_body.pr 82 (.slice a102 j7.out.length q103) j7.out :: Mp (ekI .i64) (HV vf1 (pRo (pInt .u8))) v101 j7.early :: Own S_api_Seg.pr 46 (.slice a9 j8.length q11) j8 :: Fr)) (Ctx.putOp hc (k := 0) rfl rfl (v := .bool false) rfl rfl rfl Try.sizeOf4 rfl rfl rfl) rfl ?_
       clear hc; rintro w105 hc
       refine rn ?_
       refine qn ?_
       refine Wseq ?_
       refine Wreg ?_
       refine rs (v := .slice a9 j8.length q11) (mv (v := .slice a9 j8.length q11) rfl) rfl ?_
       refine rs (v := .slice a9 j8.length q11) (av (v := .slice a9 j8.length q11) rfl) rfl ?_
       refine rn ?_
       refine qn ?_
       refine Wret ?_
       replace hc := hc.pull 2 rfl rfl
       replace hc := hc.pull 2 rfl rfl
       replace hc := hc.pull 2 rfl rfl
       replace hc : Ctx w105 (S_link_Link.hp b0 (⟨j7.window, j7.span, j7.room, j7.epoch, j7.now, j7.next, j7.acked, j7.sent, j7.out, j7.got, j7.early, false⟩ : S_link_Link) :: Own S_api_Seg.pr 46 (.slice a9 j8.length q11) j8 :: Fr) := Ctx.exB _ _ (Ctx.exB _ _ (Ctx.sepB (Ctx.sepB hc)))
       replace hc := hc.pull 1 rfl rfl
       injection hp with hp; subst hp
       refine f1 (v := .slice a9 j8.length q11) Try.results14 Try.ntmps14 rfl ?_
       exact ⟨_, rfl, k _ _ _ _ hc⟩
     · replace hp := gpos hp hb99
       subst hb99
       refine Wct rfl ?_
       replace hc := Ctx.exF hc; obtain ⟨v106, hc⟩ := hc
       replace hc := Ctx.exF hc; obtain ⟨v107, hc⟩ := hc
       replace hc := Ctx.sepF hc
       replace hc := Ctx.sepF hc
       obtain ⟨a108, q109, u110⟩ := hc.rd (k := 1) rfl rfl reads_own; subst u110
       replace hc := hc.drew
       refine Wdrw (fun j w' => True) [0, 0, 2, 6, 14, 0, 32, 96, 224, 510, 1022, 2047, 4095] 0 272 rfl (by kernel_rfl) (fun _ _ => trivial) ?_
       generalize hw : World.drew w98 = w111 at *
       clear hw
       refine ds (v := .slice a9 j8.length q11) rfl (fun w' hF => mv (v := .slice a9 j8.length q11) rfl) rfl ?_
       refine ds (v := .pointer (some ⟨b0, 0, none⟩)) rfl (fun w' hF => mv (v := .pointer (some ⟨b0, 0, none⟩)) rfl) rfl ?_
       refine ds (v := .pointer (some ⟨b0, 0, none⟩)) rfl (fun w' hF => nl rfl) rfl ?_
       refine ds (v := .pointer (some ⟨b0, 3, none⟩)) rfl (fun w' hF => fax 3 rfl Try.underlying77 rfl Try.sizeOf3 rfl rfl rfl) rfl ?_
       refine dx (v := .int .i64 j7.epoch) rfl (ld rfl Try.isAgg3 (Ctx.cell hc (k := 0) rfl rfl rfl)) rfl rfl ?_
       refine ds (v := .pointer (some ⟨b0, 0, none⟩)) rfl (fun w' hF => mv (v := .pointer (some ⟨b0, 0, none⟩)) rfl) rfl ?_
       refine ds (v := .pointer (some ⟨b0, 0, none⟩)) rfl (fun w' hF => nl rfl) rfl ?_
       refine ds (v := .pointer (some ⟨b0, 9, none⟩)) rfl (fun w' hF => fax 9 rfl Try.underlying77 rfl Try.sizeOf3 rfl rfl rfl) rfl ?_
       refine dx (v := .int .i64 j7.got) rfl (ld rfl Try.isAgg3 (Ctx.cell hc (k := 0) rfl rfl rfl)) rfl rfl ?_
       refine ds (v := .agg #[.int .i64 j7.epoch, .int .i64 0, .int .i64 j7.got, .slice none 0 0]) rfl (fun w' hF => bd_46_0_2 rfl rfl) rfl ?_
       replace hc := hc.nilRo (pInt .u8)
       replace hc := hc.dup (k := 0) rfl rfl
       replace hc : Ctx w111 (Hold S_api_Seg.pr [.int .i64 j7.epoch, .int .i64 0, .int .i64 j7.got, .slice none 0 0] (⟨j7.epoch, 0, j7.got, []⟩ : S_api_Seg) :: Hold (pRo (pInt .u8)) [.slice none 0 0] ([]) :: B b0 [.int .i64 j7.window, .int .i64 j7.span, .int .i64 j7.room, .int .i64 j7.epoch, .int .i64 j7.now, .int .i64 j7.next, .int .i64 j7.acked, .int .i64 j7.sent, .slice a108 j7.out.length q109, .int .i64 j7.got, .map (some v107), .bool j7.owes] 77 :: Own S_link_body.pr 82 (.slice a108 j7.out.length q109) j7.out :: Mp (ekI .i64) (HV vf1 (pRo (pInt .u8))) v107 j7.early :: Own S_api_Seg.pr 46 (.slice a9 j8.length q11) j8 :: Fr) := S_api_Seg.cl hc
       refine deE (Ctx.builtOp (css := [[.int .i64 j7.epoch, .int .i64 0, .int .i64 j7.got, .slice none 0 0]]) (xs := ([(⟨j7.epoch, 0, j7.got, []⟩ : S_api_Seg)] : List S_api_Seg)) (E := S_api_Seg.pr) hc Try.underlying29 Try.sizeOf46 Try.zeroValue46 rfl rfl rfl rfl rfl rfl rfl rfl) rfl rfl ?_
       clear hc; rintro _ w113 ⟨a112, rfl, hc⟩
       refine ⟨fun j hj hb => trivial, ?_⟩
       replace hp := bind_some hp; obtain ⟨z114, hz114, hp⟩ := hp
       obtain ⟨hg115, e116⟩ := app_some hz114
       refine deE (Ctx.append hc (k := 5) rfl rfl (k2 := 0) rfl rfl reads_own Try.underlying29 (i := Try.t46) rfl rfl rfl rfl rfl rfl rfl rfl hg115) rfl rfl ?_
       clear hc; rintro _ w119 ⟨a117, q118, rfl, hc⟩
       rw [← e116] at hc ⊢
       refine ⟨fun j hj hb => trivial, ?_⟩
       refine ds (v := .slice a117 z114.length q118) rfl (fun w' hF => av (v := .slice a117 z114.length q118) rfl) rfl ?_
       refine dn ?_
       refine qn ?_
       refine Wseq ?_
       refine Wreg ?_
       refine rs (v := .pointer (some ⟨b0, 0, none⟩)) (mv (v := .pointer (some ⟨b0, 0, none⟩)) rfl) rfl ?_
       refine rs (v := .pointer (some ⟨b0, 0, none⟩)) (nl rfl) rfl ?_
       refine rs (v := .pointer (some ⟨b0, 11, none⟩)) (fax 11 rfl Try.underlying77 rfl Try.sizeOf4 rfl rfl rfl) rfl ?_
       refine ruE (A := fun w' => Ctx w' (Own S_api_Seg.pr 46 (.slice a112 1 1) ([(⟨j7.epoch, 0, j7.got, []⟩ : S_api_Seg)]) :: Hold (pRo (pInt .u8)) [.slice none 0 0] ([]) :: B b0 [.int .i64 j7.window, .int .i64 j7.span, .int .i64 j7.room, .int .i64 j7.epoch, .int .i64 j7.now, .int .i64 j7.next, .int .i64 j7.acked, .int .i64 j7.sent, .slice a108 j7.out.length q109, .int .i64 j7.got, .map (some v107), .bool false] 77 :: Own S_link_body.pr 82 (.slice a108 j7.out.length q109) j7.out :: Mp (ekI .i64) (HV vf1 (pRo (pInt .u8))) v107 j7.early :: Own S_api_Seg.pr 46 (.slice a117 z114.length q118) z114 :: Fr)) (Ctx.putOp hc (k := 2) rfl rfl (v := .bool false) rfl rfl rfl Try.sizeOf4 rfl rfl rfl) rfl ?_
       clear hc; rintro w120 hc
       refine rn ?_
       refine qn ?_
       refine Wseq ?_
       refine Wreg ?_
       refine rs (v := .slice a117 z114.length q118) (mv (v := .slice a117 z114.length q118) rfl) rfl ?_
       refine rs (v := .slice a117 z114.length q118) (av (v := .slice a117 z114.length q118) rfl) rfl ?_
       refine rn ?_
       refine qn ?_
       refine Wret ?_
       replace hc := hc.pull 4 rfl rfl
       replace hc := hc.pull 4 rfl rfl
       replace hc := hc.pull 4 rfl rfl
       replace hc : Ctx w120 (S_link_Link.hp b0 (⟨j7.window, j7.span, j7.room, j7.epoch, j7.now, j7.next, j7.acked, j7.sent, j7.out, j7.got, j7.early, false⟩ : S_link_Link) :: Own S_api_Seg.pr 46 (.slice a112 1 1) ([(⟨j7.epoch, 0, j7.got, []⟩ : S_api_Seg)]) :: Hold (pRo (pInt .u8)) [.slice none 0 0] ([]) :: Own S_api_Seg.pr 46 (.slice a117 z114.length q118) z114 :: Fr) := Ctx.exB _ _ (Ctx.exB _ _ (Ctx.sepB (Ctx.sepB hc)))
       replace hc := hc.rem 2 rfl rfl
       replace hc := hc.rem 1 rfl rfl
       replace hc := hc.pull 1 rfl rfl
       injection hp with hp; subst hp
       refine f1 (v := .slice a117 z114.length q118) Try.results14 Try.ntmps14 rfl ?_
       exact ⟨_, rfl, k _ _ _ _ hc⟩

-- FN (*peloton/link.Link).Hear
def link_Link_Hear.L4  : Nat → S_link_Link → (List (List Int)) → Option ((List (List Int)) × Int × S_link_Link)
  | 0, _, _ => none
  | m4 + 1, j84, j85 =>
    (some ((mget j84.early (IntKind.i64.wrap (j84.got + 1))).getD ([]))).bind fun y99 =>
    if (mget j84.early (IntKind.i64.wrap (j84.got + 1))).isSome = true then
      (app j85 ([y99])).bind fun z110 =>
      (link_Link_Hear.L4 m4) (⟨j84.window, j84.span, j84.room, j84.epoch, j84.now, j84.next, j84.acked, j84.sent, j84.out, (IntKind.i64.wrap (j84.got + 1)), (mdel j84.early (IntKind.i64.wrap (j84.got + 1))), j84.owes⟩ : S_link_Link) z110
    else
      some (j85, 0, j84)

def link_Link_Hear.J2 (N : Nat) (j53 : S_link_Link) : Option ((List (List Int)) × Int × S_link_Link) :=
  link_Link_Hear.L4 N j53 ([])

def link_Link_Hear.J3 (N : Nat) (x1 : S_api_Seg) (j62 : S_link_Link) (j63 : Bool) : Option ((List (List Int)) × Int × S_link_Link) :=
  if j63 = true then
    (bytes_Clone x1.Body).bind fun r76 =>
    link_Link_Hear.J2 N (⟨j62.window, j62.span, j62.room, j62.epoch, j62.now, j62.next, j62.acked, j62.sent, j62.out, j62.got, (mset j62.early x1.Seq r76), j62.owes⟩ : S_link_Link)
  else
    link_Link_Hear.J2 N j62

def link_Link_Hear.J1 (N : Nat) (x0 : S_link_Link) (x1 : S_api_Seg) (j18 : Bool) : Option ((List (List Int)) × Int × S_link_Link) :=
  if j18 = true then
    some ([], 150, x0)
  else
    (slices_DeleteFunc_s_link_body_link_body N x0.out (fun (y35_ : S_link_body) =>
      some (decide (y35_.seq ≤ (max x0.acked x1.Ack))))).bind fun r44 =>
    if x1.Seq = 0 then
      some ([], 0, (⟨x0.window, x0.span, x0.room, x0.epoch, x0.now, x0.next, (max x0.acked x1.Ack), x0.sent, r44, x0.got, x0.early, x0.owes⟩ : S_link_Link))
    else
      (some ((mget x0.early x1.Seq).getD ([]))).bind fun y57 =>
      if x1.Seq > x0.got then
        if x1.Seq ≤ (IntKind.i64.wrap (x0.got + x0.window)) then
          if (mget x0.early x1.Seq).isSome = true then
            link_Link_Hear.J3 N x1 (⟨x0.window, x0.span, x0.room, x0.epoch, x0.now, x0.next, (max x0.acked x1.Ack), x0.sent, r44, x0.got, x0.early, true⟩ : S_link_Link) false
          else
            link_Link_Hear.J3 N x1 (⟨x0.window, x0.span, x0.room, x0.epoch, x0.now, x0.next, (max x0.acked x1.Ack), x0.sent, r44, x0.got, x0.early, true⟩ : S_link_Link) true
        else
          link_Link_Hear.J3 N x1 (⟨x0.window, x0.span, x0.room, x0.epoch, x0.now, x0.next, (max x0.acked x1.Ack), x0.sent, r44, x0.got, x0.early, true⟩ : S_link_Link) false
      else
        link_Link_Hear.J3 N x1 (⟨x0.window, x0.span, x0.room, x0.epoch, x0.now, x0.next, (max x0.acked x1.Ack), x0.sent, r44, x0.got, x0.early, true⟩ : S_link_Link) false

def link_Link_Hear (N : Nat) (x0 : S_link_Link) (x1 : S_api_Seg) : Option ((List (List Int)) × Int × S_link_Link) :=
  if x1.Epoch ≠ x0.epoch then
    some ([], 160, x0)
  else
    if x1.Ack < 0 then
      link_Link_Hear.J1 N x0 x1 true
    else
      if x1.Ack > x0.sent then
        link_Link_Hear.J1 N x0 x1 true
      else
        if x1.Seq < 0 then
          link_Link_Hear.J1 N x0 x1 true
        else
          if x1.Seq = 0 then
            link_Link_Hear.J1 N x0 x1 (decide (((x1.Body.length : Nat) : Int) > 0))
          else
            link_Link_Hear.J1 N x0 x1 false

set_option maxHeartbeats 8000000 in
theorem link_Link_Hear_any {N : Nat} {b0 : Nat} {x0 : S_link_Link} {x1 : S_api_Seg} {a1 : Option Addr} {n2 : Nat} {q3 : Nat} {Fr : List HP} {w : World} {r : (List (List Int)) × Int × S_link_Link} {K : Value → World → Prop}  (hc : Ctx w (S_link_Link.hp b0 x0 :: Hold (pRo (pInt .u8)) [.slice a1 n2 q3] x1.Body :: Fr)) (hp : link_Link_Hear N x0 x1 = some r)
    (k : ∀ (a116 : Option Addr) (n117 : Nat) (q118 : Nat) w', Ctx w' (Own (pRo (pInt .u8)) 38 (.slice a116 n117 q118) r.1 :: S_link_Link.hp b0 r.2.2 :: Fr) → K (.tuple #[.slice a116 n117 q118, .int .i64 r.2.1]) w') : Calls Try.prog 15 #[.pointer (some ⟨b0, 0, none⟩), .agg #[.int .i64 x1.Epoch, .int .i64 x1.Seq, .int .i64 x1.Ack, .slice a1 n2 q3]] w (Ret K) := by
 unfold link_Link_Hear at hp
 refine Center (args := [.pointer (some ⟨b0, 0, none⟩), .agg #[.int .i64 x1.Epoch, .int .i64 x1.Seq, .int .i64 x1.Ack, .slice a1 n2 q3]]) (l := [(0, .pointer (some ⟨b0, 0, none⟩)), (1, .agg #[.int .i64 x1.Epoch, .int .i64 x1.Seq, .int .i64 x1.Ack, .slice a1 n2 q3])]) Try.func15 Try.ntmps15 rfl rfl rfl ?_
 obtain ⟨u4, _⟩ := Ctx.rdLen hc (k := 1) rfl rfl reads_ro; subst u4
 refine Wseq ?_
 refine Wreg ?_
 refine rsE (Ctx.boxOp (cs := [.pointer (some ⟨b0, 0, none⟩)]) (v := .pointer (some ⟨b0, 0, none⟩)) hc rfl rfl) rfl ?_
 clear hc; rintro _ w7 ⟨b5, rfl, hc⟩
 refine rsE (Ctx.boxOp (cs := [.int .i64 x1.Epoch, .int .i64 x1.Seq, .int .i64 x1.Ack, .slice a1 x1.Body.length q3]) (v := .agg #[.int .i64 x1.Epoch, .int .i64 x1.Seq, .int .i64 x1.Ack, .slice a1 x1.Body.length q3]) hc rfl rfl) rfl ?_
 clear hc; rintro _ w10 ⟨b8, rfl, hc⟩
 refine rs (v := .slice none 0 0) (av (v := .slice none 0 0) rfl) rfl ?_
 refine rs (v := .int .i64 0) (av (v := .int .i64 0) rfl) rfl ?_
 refine rn ?_
 refine qn ?_
 refine Wseq ?_
 refine Wblk ?_
 refine Wseq ?_
 replace hc := hc.pull 2 rfl rfl
 replace hc := Ctx.exF hc; obtain ⟨v11, hc⟩ := hc
 replace hc := Ctx.exF hc; obtain ⟨v12, hc⟩ := hc
 replace hc := Ctx.sepF hc
 replace hc := Ctx.sepF hc
 obtain ⟨a13, q14, u15⟩ := hc.rd (k := 1) rfl rfl reads_own; subst u15
 replace hc := hc.drew
 refine Wdrw (fun _ w' => w' = World.drew w10) [0, 1, 0, 4, 12, 28, 63, 127] 0 0 rfl (by kernel_rfl) (fun _ _ => rfl) ?_
 generalize hw : World.drew w10 = w16 at *
 clear hw
 refine ds (v := .pointer (some ⟨b8, 0, none⟩)) rfl (fun w' hF => by subst hF; exact fax 0 rfl Try.underlying46 rfl Try.sizeOf3 rfl rfl rfl) rfl ?_
 refine ds (v := .int .i64 x1.Epoch) rfl (fun w' hF => by subst hF; exact ld rfl Try.isAgg3 (Ctx.cell hc (k := 3) rfl rfl rfl)) rfl ?_
 refine ds (v := .pointer (some ⟨b0, 0, none⟩)) rfl (fun w' hF => by subst hF; exact ld rfl Try.isAgg27 (Ctx.cell hc (k := 4) rfl rfl rfl)) rfl ?_
 refine ds (v := .pointer (some ⟨b0, 0, none⟩)) rfl (fun w' hF => by subst hF; exact nl rfl) rfl ?_
 refine ds (v := .pointer (some ⟨b0, 3, none⟩)) rfl (fun w' hF => by subst hF; exact fax 3 rfl Try.underlying77 rfl Try.sizeOf3 rfl rfl rfl) rfl ?_
 refine ds (v := .int .i64 x0.epoch) rfl (fun w' hF => by subst hF; exact ld rfl Try.isAgg3 (Ctx.cell hc (k := 0) rfl rfl rfl)) rfl ?_
 refine ds (v := .bool (decide (x1.Epoch ≠ x0.epoch))) rfl (fun w' hF => by subst hF; exact ned rfl rfl) rfl ?_
 refine ds (v := .bool (decide (x1.Epoch ≠ x0.epoch))) rfl (fun w' hF => av (v := .bool (decide (x1.Epoch ≠ x0.epoch))) rfl) rfl ?_
 refine dn ?_
 refine qn ?_
 cases hb17 : (decide (x1.Epoch ≠ x0.epoch))
 · replace hp := gneg hp (of_decide_eq_false hb17)
   refine Wcf rfl ?_
   refine Wseqm (19 :: 20 :: 21 :: 22 :: 23 :: 24 :: 25 :: 26 :: 27 :: 28 :: 29 :: 30 :: 31 :: 32 :: 33 :: 34 :: 35 :: 36 :: 37 :: 38 :: 39 :: 40 :: 41 :: 42 :: 43 :: 44 :: 45 :: 46 :: 47 :: []) [19] (fun vs w' => ∃ j18 : Bool, vs = [.bool j18] ∧ link_Link_Hear.J1 N x0 x1 j18 = some r ∧ Ctx w' (S_link_Link.hp b0 x0 :: B b8 [.int .i64 x1.Epoch, .int .i64 x1.Seq, .int .i64 x1.Ack, .slice a1 x1.Body.length q3] 46 :: B b5 [.pointer (some ⟨b0, 0, none⟩)] 27 :: Hold (pRo (pInt .u8)) [.slice a1 x1.Body.length q3] x1.Body :: Fr)) ?_ ?_
   · replace hc := hc.drew
     refine Wdrw (fun _ w' => w' = World.drew w16) (0 :: 1 :: 3 :: 7 :: 15 :: 31 :: 15 :: 79 :: 207 :: 463 :: 1023 :: 2047 :: 4095 :: 8191 :: 16383 :: 32767 :: 65535 :: 131071 :: 262143 :: 524287 :: 1048575 :: 2097151 :: 4194303 :: 8388607 :: 16777215 :: 33554431 :: 67108863 :: 134217727 :: 268435455 :: []) 0 0 rfl (by kernel_rfl) (fun _ _ => rfl) ?_
     generalize hw : World.drew w16 = w19 at *
     clear hw
     refine ds (v := .pointer (some ⟨b8, 2, none⟩)) rfl (fun w' hF => by subst hF; exact fax 2 rfl Try.underlying46 rfl Try.sizeOf3 rfl rfl rfl) rfl ?_
     refine ds (v := .int .i64 x1.Ack) rfl (fun w' hF => by subst hF; exact ld rfl Try.isAgg3 (Ctx.cell hc (k := 3) rfl rfl rfl)) rfl ?_
     refine ds (v := .bool (decide (x1.Ack < 0))) rfl (fun w' hF => by subst hF; exact lt' rfl rfl) rfl ?_
     refine ds (v := .bool (decide (x1.Ack < 0))) rfl (fun w' hF => by subst hF; exact mv (v := .bool (decide (x1.Ack < 0))) rfl) rfl ?_
     cases hb20 : (decide (x1.Ack < 0))
     · replace hp := gneg hp (of_decide_eq_false hb20)
       refine ds (v := .pointer (some ⟨b8, 2, none⟩)) rfl (fun w' hF => by subst hF; exact fax 2 rfl Try.underlying46 rfl Try.sizeOf3 rfl rfl rfl) rfl ?_
       refine ds (v := .int .i64 x1.Ack) rfl (fun w' hF => by subst hF; exact ld rfl Try.isAgg3 (Ctx.cell hc (k := 3) rfl rfl rfl)) rfl ?_
       refine ds (v := .pointer (some ⟨b0, 0, none⟩)) rfl (fun w' hF => by subst hF; exact ld rfl Try.isAgg27 (Ctx.cell hc (k := 4) rfl rfl rfl)) rfl ?_
       refine ds (v := .pointer (some ⟨b0, 0, none⟩)) rfl (fun w' hF => by subst hF; exact nl rfl) rfl ?_
       refine ds (v := .pointer (some ⟨b0, 7, none⟩)) rfl (fun w' hF => by subst hF; exact fax 7 rfl Try.underlying77 rfl Try.sizeOf3 rfl rfl rfl) rfl ?_
       refine ds (v := .int .i64 x0.sent) rfl (fun w' hF => by subst hF; exact ld rfl Try.isAgg3 (Ctx.cell hc (k := 0) rfl rfl rfl)) rfl ?_
       refine ds (v := .bool (decide (x1.Ack > x0.sent))) rfl (fun w' hF => by subst hF; exact gt' rfl rfl) rfl ?_
       refine ds (v := .bool (decide (x1.Ack > x0.sent))) rfl (fun w' hF => by subst hF; exact pkf (v := .bool (decide (x1.Ack > x0.sent))) rfl rfl) rfl ?_
       refine ds (v := .bool (decide (x1.Ack > x0.sent))) rfl (fun w' hF => by subst hF; exact mv (v := .bool (decide (x1.Ack > x0.sent))) rfl) rfl ?_
       cases hb21 : (decide (x1.Ack > x0.sent))
       · replace hp := gneg hp (of_decide_eq_false hb21)
         refine ds (v := .pointer (some ⟨b8, 1, none⟩)) rfl (fun w' hF => by subst hF; exact fax 1 rfl Try.underlying46 rfl Try.sizeOf3 rfl rfl rfl) rfl ?_
         refine ds (v := .int .i64 x1.Seq) rfl (fun w' hF => by subst hF; exact ld rfl Try.isAgg3 (Ctx.cell hc (k := 3) rfl rfl rfl)) rfl ?_
         refine ds (v := .bool (decide (x1.Seq < 0))) rfl (fun w' hF => by subst hF; exact lt' rfl rfl) rfl ?_
         refine ds (v := .bool (decide (x1.Seq < 0))) rfl (fun w' hF => by subst hF; exact pkf (v := .bool (decide (x1.Seq < 0))) rfl rfl) rfl ?_
         refine ds (v := .bool (decide (x1.Seq < 0))) rfl (fun w' hF => by subst hF; exact mv (v := .bool (decide (x1.Seq < 0))) rfl) rfl ?_
         cases hb22 : (decide (x1.Seq < 0))
         · replace hp := gneg hp (of_decide_eq_false hb22)
           refine ds (v := .pointer (some ⟨b8, 1, none⟩)) rfl (fun w' hF => by subst hF; exact fax 1 rfl Try.underlying46 rfl Try.sizeOf3 rfl rfl rfl) rfl ?_
           refine ds (v := .int .i64 x1.Seq) rfl (fun w' hF => by subst hF; exact ld rfl Try.isAgg3 (Ctx.cell hc (k := 3) rfl rfl rfl)) rfl ?_
           refine ds (v := .bool (decide (x1.Seq = 0))) rfl (fun w' hF => by subst hF; exact eqd rfl rfl) rfl ?_
           refine ds (v := .bool (decide (x1.Seq = 0))) rfl (fun w' hF => by subst hF; exact mv (v := .bool (decide (x1.Seq = 0))) rfl) rfl ?_
           cases hb23 : (decide (x1.Seq = 0))
           · replace hp := gneg hp (of_decide_eq_false hb23)
             refine d0 rfl rfl ?_
             refine d0 rfl rfl ?_
             refine d0 rfl rfl ?_
             refine d0 rfl rfl ?_
             refine ds (v := .bool false) rfl (fun w' hF => by subst hF; exact pkf (v := .bool false) rfl rfl) rfl ?_
             refine ds (v := .bool false) rfl (fun w' hF => by subst hF; exact pkf (v := .bool false) rfl rfl) rfl ?_
             refine ds (v := .bool false) rfl (fun w' hF => av (v := .bool false) rfl) rfl ?_
             refine dn ?_
             refine qn ?_
             replace hc := hc.pull 2 rfl rfl
             replace hc := hc.pull 2 rfl rfl
             replace hc := hc.pull 2 rfl rfl
             replace hc : Ctx w19 (S_link_Link.hp b0 x0 :: B b8 [.int .i64 x1.Epoch, .int .i64 x1.Seq, .int .i64 x1.Ack, .slice a1 x1.Body.length q3] 46 :: B b5 [.pointer (some ⟨b0, 0, none⟩)] 27 :: Hold (pRo (pInt .u8)) [.slice a1 x1.Body.length q3] x1.Body :: Fr) := Ctx.exB _ _ (Ctx.exB _ _ (Ctx.sepB (Ctx.sepB hc)))
             exact ⟨⟨false, rfl, hp, hc⟩, (kl rfl kb)⟩
           · replace hp := gpos hp (of_decide_eq_true hb23)
             refine ds (v := .pointer (some ⟨b8, 3, none⟩)) rfl (fun w' hF => by subst hF; exact fax 3 rfl Try.underlying46 rfl Try.sizeOf38 rfl rfl rfl) rfl ?_
             refine ds (v := .slice a1 x1.Body.length q3) rfl (fun w' hF => by subst hF; exact ld rfl Try.isAgg38 (Ctx.cell hc (k := 3) rfl rfl rfl)) rfl ?_
             refine ds (v := .int .i64 ((x1.Body.length : Nat) : Int)) rfl (fun w' hF => by subst hF; exact ln rfl Try.underlying38) rfl ?_
             refine ds (v := .bool (decide (((x1.Body.length : Nat) : Int) > 0))) rfl (fun w' hF => by subst hF; exact gt' rfl rfl) rfl ?_
             refine ds (v := .bool (decide (((x1.Body.length : Nat) : Int) > 0))) rfl (fun w' hF => by subst hF; exact pkt (v := .bool (decide (((x1.Body.length : Nat) : Int) > 0))) rfl rfl) rfl ?_
             refine ds (v := .bool (decide (((x1.Body.length : Nat) : Int) > 0))) rfl (fun w' hF => by subst hF; exact pkf (v := .bool (decide (((x1.Body.length : Nat) : Int) > 0))) rfl rfl) rfl ?_
             refine ds (v := .bool (decide (((x1.Body.length : Nat) : Int) > 0))) rfl (fun w' hF => av (v := .bool (decide (((x1.Body.length : Nat) : Int) > 0))) rfl) rfl ?_
             refine dn ?_
             refine qn ?_
             replace hc := hc.pull 2 rfl rfl
             replace hc := hc.pull 2 rfl rfl
             replace hc := hc.pull 2 rfl rfl
             replace hc : Ctx w19 (S_link_Link.hp b0 x0 :: B b8 [.int .i64 x1.Epoch, .int .i64 x1.Seq, .int .i64 x1.Ack, .slice a1 x1.Body.length q3] 46 :: B b5 [.pointer (some ⟨b0, 0, none⟩)] 27 :: Hold (pRo (pInt .u8)) [.slice a1 x1.Body.length q3] x1.Body :: Fr) := Ctx.exB _ _ (Ctx.exB _ _ (Ctx.sepB (Ctx.sepB hc)))
             exact ⟨⟨decide (((x1.Body.length : Nat) : Int) > 0), rfl, hp, hc⟩, (kl rfl kb)⟩
         · replace hp := gpos hp (of_decide_eq_true hb22)
           refine d0 rfl rfl ?_
           refine d0 rfl rfl ?_
           refine d0 rfl rfl ?_
           refine d0 rfl rfl ?_
           refine d0 rfl rfl ?_
           refine d0 rfl rfl ?_
           refine d0 rfl rfl ?_
           refine d0 rfl rfl ?_
           refine d0 rfl rfl ?_
           refine ds (v := .bool true) rfl (fun w' hF => by subst hF; exact pkt (v := .bool true) rfl rfl) rfl ?_
           refine ds (v := .bool true) rfl (fun w' hF => av (v := .bool true) rfl) rfl ?_
           refine dn ?_
           refine qn ?_
           replace hc := hc.pull 2 rfl rfl
           replace hc := hc.pull 2 rfl rfl
           replace hc := hc.pull 2 rfl rfl
           replace hc : Ctx w19 (S_link_Link.hp b0 x0 :: B b8 [.int .i64 x1.Epoch, .int .i64 x1.Seq, .int .i64 x1.Ack, .slice a1 x1.Body.length q3] 46 :: B b5 [.pointer (some ⟨b0, 0, none⟩)] 27 :: Hold (pRo (pInt .u8)) [.slice a1 x1.Body.length q3] x1.Body :: Fr) := Ctx.exB _ _ (Ctx.exB _ _ (Ctx.sepB (Ctx.sepB hc)))
           exact ⟨⟨true, rfl, hp, hc⟩, (kl rfl kb)⟩
       · replace hp := gpos hp (of_decide_eq_true hb21)
         refine d0 rfl rfl ?_
         refine d0 rfl rfl ?_
         refine d0 rfl rfl ?_
         refine ds (v := .bool true) rfl (fun w' hF => by subst hF; exact pkt (v := .bool true) rfl rfl) rfl ?_
         refine ds (v := .bool true) rfl (fun w' hF => by subst hF; exact mv (v := .bool true) rfl) rfl ?_
         refine d0 rfl rfl ?_
         refine d0 rfl rfl ?_
         refine d0 rfl rfl ?_
         refine d0 rfl rfl ?_
         refine d0 rfl rfl ?_
         refine d0 rfl rfl ?_
         refine d0 rfl rfl ?_
         refine d0 rfl rfl ?_
         refine d0 rfl rfl ?_
         refine ds (v := .bool true) rfl (fun w' hF => by subst hF; exact pkt (v := .bool true) rfl rfl) rfl ?_
         refine ds (v := .bool true) rfl (fun w' hF => av (v := .bool true) rfl) rfl ?_
         refine dn ?_
         refine qn ?_
         replace hc := hc.pull 2 rfl rfl
         replace hc := hc.pull 2 rfl rfl
         replace hc := hc.pull 2 rfl rfl
         replace hc : Ctx w19 (S_link_Link.hp b0 x0 :: B b8 [.int .i64 x1.Epoch, .int .i64 x1.Seq, .int .i64 x1.Ack, .slice a1 x1.Body.length q3] 46 :: B b5 [.pointer (some ⟨b0, 0, none⟩)] 27 :: Hold (pRo (pInt .u8)) [.slice a1 x1.Body.length q3] x1.Body :: Fr) := Ctx.exB _ _ (Ctx.exB _ _ (Ctx.sepB (Ctx.sepB hc)))
         exact ⟨⟨true, rfl, hp, hc⟩, (kl rfl kb)⟩
     · replace hp := gpos hp (of_decide_eq_true hb20)
       refine d0 rfl rfl ?_
       refine d0 rfl rfl ?_
       refine d0 rfl rfl ?_
       refine d0 rfl rfl ?_
       refine d0 rfl rfl ?_
       refine d0 rfl rfl ?_
       refine d0 rfl rfl ?_
       refine ds (v := .bool true) rfl (fun w' hF => by subst hF; exact pkt (v := .bool true) rfl rfl) rfl ?_
       refine ds (v := .bool true) rfl (fun w' hF => by subst hF; exact mv (v := .bool true) rfl) rfl ?_
       refine d0 rfl rfl ?_
       refine d0 rfl rfl ?_
       refine d0 rfl rfl ?_
       refine ds (v := .bool true) rfl (fun w' hF => by subst hF; exact pkt (v := .bool true) rfl rfl) rfl ?_
       refine ds (v := .bool true) rfl (fun w' hF => by subst hF; exact mv (v := .bool true) rfl) rfl ?_
       refine d0 rfl rfl ?_
       refine d0 rfl rfl ?_
       refine d0 rfl rfl ?_
       refine d0 rfl rfl ?_
       refine d0 rfl rfl ?_
       refine d0 rfl rfl ?_
       refine d0 rfl rfl ?_
       refine d0 rfl rfl ?_
       refine d0 rfl rfl ?_
       refine ds (v := .bool true) rfl (fun w' hF => by subst hF; exact pkt (v := .bool true) rfl rfl) rfl ?_
       refine ds (v := .bool true) rfl (fun w' hF => av (v := .bool true) rfl) rfl ?_
       refine dn ?_
       refine qn ?_
       replace hc := hc.pull 2 rfl rfl
       replace hc := hc.pull 2 rfl rfl
       replace hc := hc.pull 2 rfl rfl
       replace hc : Ctx w19 (S_link_Link.hp b0 x0 :: B b8 [.int .i64 x1.Epoch, .int .i64 x1.Seq, .int .i64 x1.Ack, .slice a1 x1.Body.length q3] 46 :: B b5 [.pointer (some ⟨b0, 0, none⟩)] 27 :: Hold (pRo (pInt .u8)) [.slice a1 x1.Body.length q3] x1.Body :: Fr) := Ctx.exB _ _ (Ctx.exB _ _ (Ctx.sepB (Ctx.sepB hc)))
       exact ⟨⟨true, rfl, hp, hc⟩, (kl rfl kb)⟩
   · clear hp hc; intro vs u w24 hJ
     obtain ⟨j18, rfl, hp, hc⟩ := hJ
     unfold link_Link_Hear.J1 at hp
     cases hb25 : j18
     · replace hp := gneg hp (by rw [hb25]; exact Bool.false_ne_true)
       subst hb25
       refine Wcf rfl ?_
       refine Wskip ?_
       refine bn ?_
       refine qn ?_
       refine Wseq ?_
       replace hc := Ctx.exF hc; obtain ⟨v26, hc⟩ := hc
       replace hc := Ctx.exF hc; obtain ⟨v27, hc⟩ := hc
       replace hc := Ctx.sepF hc
       replace hc := Ctx.sepF hc
       obtain ⟨a28, q29, u30⟩ := hc.rd (k := 1) rfl rfl reads_own; subst u30
       replace hc := hc.drew
       refine Wdrw (fun j w' => True) [0, 0, 2, 6, 14, 0, 32, 126, 255, 511, 1023] 0 83 rfl (by kernel_rfl) (fun _ _ => trivial) ?_
       generalize hw : World.drew w24 = w31 at *
       clear hw
       refine dx (v := .pointer (some ⟨b0, 0, none⟩)) rfl (ld rfl Try.isAgg27 (Ctx.cell hc (k := 4) rfl rfl rfl)) rfl rfl ?_
       refine dx (v := .pointer (some ⟨b0, 0, none⟩)) rfl (ld rfl Try.isAgg27 (Ctx.cell hc (k := 4) rfl rfl rfl)) rfl rfl ?_
       refine ds (v := .pointer (some ⟨b0, 0, none⟩)) rfl (fun w' hF => nl rfl) rfl ?_
       refine ds (v := .pointer (some ⟨b0, 6, none⟩)) rfl (fun w' hF => fax 6 rfl Try.underlying77 rfl Try.sizeOf3 rfl rfl rfl) rfl ?_
       refine dx (v := .int .i64 x0.acked) rfl (ld rfl Try.isAgg3 (Ctx.cell hc (k := 0) rfl rfl rfl)) rfl rfl ?_
       refine ds (v := .pointer (some ⟨b8, 2, none⟩)) rfl (fun w' hF => fax 2 rfl Try.underlying46 rfl Try.sizeOf3 rfl rfl rfl) rfl ?_
       refine dx (v := .int .i64 x1.Ack) rfl (ld rfl Try.isAgg3 (Ctx.cell hc (k := 3) rfl rfl rfl)) rfl rfl ?_
       refine ds (v := .int .i64 (max x0.acked x1.Ack)) rfl (fun w' hF => bmx rfl rfl Try.underlying3) rfl ?_
       refine ds (v := .pointer (some ⟨b0, 0, none⟩)) rfl (fun w' hF => nl rfl) rfl ?_
       refine ds (v := .pointer (some ⟨b0, 6, none⟩)) rfl (fun w' hF => fax 6 rfl Try.underlying77 rfl Try.sizeOf3 rfl rfl rfl) rfl ?_
       refine duE (A := fun w' => Ctx w' (B b0 [.int .i64 x0.window, .int .i64 x0.span, .int .i64 x0.room, .int .i64 x0.epoch, .int .i64 x0.now, .int .i64 x0.next, .int .i64 (max x0.acked x1.Ack), .int .i64 x0.sent, .slice a28 x0.out.length q29, .int .i64 x0.got, .map (some v27), .bool x0.owes] 77 :: Own S_link_body.pr 82 (.slice a28 x0.out.length q29) x0.out :: Mp (ekI .i64) (HV vf1 (pRo (pInt .u8))) v27 x0.early :: B b8 [.int .i64 x1.Epoch, .int .i64 x1.Seq, .int .i64 x1.Ack, .slice a1 x1.Body.length q3] 46 :: B b5 [.pointer (some ⟨b0, 0, none⟩)] 27 :: Hold (pRo (pInt .u8)) [.slice a1 x1.Body.length q3] x1.Body :: Fr)) (Ctx.putOp hc (k := 0) rfl rfl (v := .int .i64 (max x0.acked x1.Ack)) rfl rfl rfl Try.sizeOf3 rfl rfl rfl) rfl rfl ?_
       clear hc; rintro w32 hc
       refine ⟨fun j hj hb => trivial, ?_⟩
       refine dn ?_
       refine qn ?_
       refine Wseq ?_
       replace hc := hc.drew
       have hF : ∀ j, free [0, 0, 2, 6, 14, 0, 62, 127, 255, 511] 0 j = true → (fun j w' => (j = 0 → w'.cell? ⟨b5, 0, none⟩ = some (.pointer (some ⟨b0, 0, none⟩))) ∧ True) j (World.drew w32) := fun j hj => ⟨fun _ => hc.cell (k := 4) rfl rfl rfl, trivial⟩
       refine Wdrw (fun j w' => (j = 0 → w'.cell? ⟨b5, 0, none⟩ = some (.pointer (some ⟨b0, 0, none⟩))) ∧ True) [0, 0, 2, 6, 14, 0, 62, 127, 255, 511] 0 18 rfl (by kernel_rfl) (hF) ?_
       generalize hw : World.drew w32 = w33 at *
       clear hw
       refine ds (v := .pointer (some ⟨b0, 0, none⟩)) rfl (fun w' hF => ld rfl Try.isAgg27 ((hF.1 rfl))) rfl ?_
       refine dx (v := .pointer (some ⟨b0, 0, none⟩)) rfl (ld rfl Try.isAgg27 (Ctx.cell hc (k := 4) rfl rfl rfl)) rfl rfl ?_
       refine ds (v := .pointer (some ⟨b0, 0, none⟩)) rfl (fun w' hF => nl rfl) rfl ?_
       refine ds (v := .pointer (some ⟨b0, 8, none⟩)) rfl (fun w' hF => fax 8 rfl Try.underlying77 rfl Try.sizeOf75 rfl rfl rfl) rfl ?_
       refine dx (v := .slice a28 x0.out.length q29) rfl (ld rfl Try.isAgg75 (Ctx.cell hc (k := 0) rfl rfl rfl)) rfl rfl ?_
       refine ds (v := .func (.func 32) #[] #[.pointer (some ⟨b5, 0, none⟩)]) rfl (fun w' hF => mkf rfl rfl) rfl ?_
       replace hc := hc.pull 1 rfl rfl
       have hf34 : ∀ (y0 : S_link_body) (a44 : Option Addr) (n45 : Nat) (q46 : Nat) (Qs : List HP) (w : World) (r : Bool) (K : Value → World → Prop), Ctx w (Hold (pRo (pInt .u8)) [.slice a44 n45 q46] y0.b :: (Qs ++ (B b0 [.int .i64 x0.window, .int .i64 x0.span, .int .i64 x0.room, .int .i64 x0.epoch, .int .i64 x0.now, .int .i64 x0.next, .int .i64 (max x0.acked x1.Ack), .int .i64 x0.sent, .slice a28 x0.out.length q29, .int .i64 x0.got, .map (some v27), .bool x0.owes] 77 :: Mp (ekI .i64) (HV vf1 (pRo (pInt .u8))) v27 x0.early :: B b8 [.int .i64 x1.Epoch, .int .i64 x1.Seq, .int .i64 x1.Ack, .slice a1 x1.Body.length q3] 46 :: B b5 [.pointer (some ⟨b0, 0, none⟩)] 27 :: Hold (pRo (pInt .u8)) [.slice a1 x1.Body.length q3] x1.Body :: Fr))) → (fun (y35_ : S_link_body) =>
        some (decide (y35_.seq ≤ (max x0.acked x1.Ack)))) y0 = some r → (∀ w', Ctx w' (Qs ++ (B b0 [.int .i64 x0.window, .int .i64 x0.span, .int .i64 x0.room, .int .i64 x0.epoch, .int .i64 x0.now, .int .i64 x0.next, .int .i64 (max x0.acked x1.Ack), .int .i64 x0.sent, .slice a28 x0.out.length q29, .int .i64 x0.got, .map (some v27), .bool x0.owes] 77 :: Mp (ekI .i64) (HV vf1 (pRo (pInt .u8))) v27 x0.early :: B b8 [.int .i64 x1.Epoch, .int .i64 x1.Seq, .int .i64 x1.Ack, .slice a1 x1.Body.length q3] 46 :: B b5 [.pointer (some ⟨b0, 0, none⟩)] 27 :: Hold (pRo (pInt .u8)) [.slice a1 x1.Body.length q3] x1.Body :: Fr)) → K (.bool r) w') → Calls Try.prog 32 (([.agg #[.int .i64 y0.seq, .int .i64 y0.at_, .slice a44 n45 q46]] : List Value) ++ ([.pointer (some ⟨b5, 0, none⟩)] : List Value)).toArray w (Ret K) := by
        intro y35 a36 n37 q38 Qs w r K hc hp k
        replace hc : Ctx w (B b0 [.int .i64 x0.window, .int .i64 x0.span, .int .i64 x0.room, .int .i64 x0.epoch, .int .i64 x0.now, .int .i64 x0.next, .int .i64 (max x0.acked x1.Ack), .int .i64 x0.sent, .slice a28 x0.out.length q29, .int .i64 x0.got, .map (some v27), .bool x0.owes] 77 :: Mp (ekI .i64) (HV vf1 (pRo (pInt .u8))) v27 x0.early :: B b8 [.int .i64 x1.Epoch, .int .i64 x1.Seq, .int .i64 x1.Ack, .slice a1 x1.Body.length q3] 46 :: B b5 [.pointer (some ⟨b0, 0, none⟩)] 27 :: Hold (pRo (pInt .u8)) [.slice a1 x1.Body.length q3] x1.Body :: Hold (pRo (pInt .u8)) [.slice a36 n37 q38] y35.b :: (Qs ++ Fr)) := Ctx.front (As := [B b0 [.int .i64 x0.window, .int .i64 x0.span, .int .i64 x0.room, .int .i64 x0.epoch, .int .i64 x0.now, .int .i64 x0.next, .int .i64 (max x0.acked x1.Ack), .int .i64 x0.sent, .slice a28 x0.out.length q29, .int .i64 x0.got, .map (some v27), .bool x0.owes] 77, Mp (ekI .i64) (HV vf1 (pRo (pInt .u8))) v27 x0.early, B b8 [.int .i64 x1.Epoch, .int .i64 x1.Seq, .int .i64 x1.Ack, .slice a1 x1.Body.length q3] 46, B b5 [.pointer (some ⟨b0, 0, none⟩)] 27, Hold (pRo (pInt .u8)) [.slice a1 x1.Body.length q3] x1.Body]) (Qs := Hold (pRo (pInt .u8)) [.slice a36 n37 q38] y35.b :: Qs) hc
        refine Center (args := [.agg #[.int .i64 y35.seq, .int .i64 y35.at_, .slice a36 n37 q38], .pointer (some ⟨b5, 0, none⟩)]) (l := [(0, .agg #[.int .i64 y35.seq, .int .i64 y35.at_, .slice a36 n37 q38]), (1, .pointer (some ⟨b5, 0, none⟩))]) Try.func32 Try.ntmps32 rfl rfl rfl ?_
        obtain ⟨u39, _⟩ := Ctx.rdLen hc (k := 5) rfl rfl reads_ro; subst u39
        refine Wseq ?_
        refine Wreg ?_
        refine rsE (Ctx.boxOp (cs := [.int .i64 y35.seq, .int .i64 y35.at_, .slice a36 y35.b.length q38]) (v := .agg #[.int .i64 y35.seq, .int .i64 y35.at_, .slice a36 y35.b.length q38]) hc rfl rfl) rfl ?_
        clear hc; rintro _ w42 ⟨b40, rfl, hc⟩
        refine rs (v := .bool false) (av (v := .bool false) rfl) rfl ?_
        refine rn ?_
        refine qn ?_
        refine Wseq ?_
        replace hc := hc.drew
        refine Wdrw (fun _ w' => w' = World.drew w42) [0, 1, 0, 4, 12, 28, 63, 127] 0 0 rfl (by kernel_rfl) (fun _ _ => rfl) ?_
        generalize hw : World.drew w42 = w43 at *
        clear hw
        refine ds (v := .pointer (some ⟨b40, 0, none⟩)) rfl (fun w' hF => by subst hF; exact fax 0 rfl Try.underlying82 rfl Try.sizeOf3 rfl rfl rfl) rfl ?_
        refine ds (v := .int .i64 y35.seq) rfl (fun w' hF => by subst hF; exact ld rfl Try.isAgg3 (Ctx.cell hc (k := 0) rfl rfl rfl)) rfl ?_
        refine ds (v := .pointer (some ⟨b0, 0, none⟩)) rfl (fun w' hF => by subst hF; exact ld rfl Try.isAgg27 (Ctx.cell hc (k := 4) rfl rfl rfl)) rfl ?_
        refine ds (v := .pointer (some ⟨b0, 0, none⟩)) rfl (fun w' hF => by subst hF; exact nl rfl) rfl ?_
        refine ds (v := .pointer (some ⟨b0, 6, none⟩)) rfl (fun w' hF => by subst hF; exact fax 6 rfl Try.underlying77 rfl Try.sizeOf3 rfl rfl rfl) rfl ?_
        refine ds (v := .int .i64 (max x0.acked x1.Ack)) rfl (fun w' hF => by subst hF; exact ld rfl Try.isAgg3 (Ctx.cell hc (k := 1) rfl rfl rfl)) rfl ?_
        refine ds (v := .bool (decide (y35.seq ≤ (max x0.acked x1.Ack)))) rfl (fun w' hF => by subst hF; exact le' rfl rfl) rfl ?_
        refine ds (v := .bool (decide (y35.seq ≤ (max x0.acked x1.Ack)))) rfl (fun w' hF => av (v := .bool (decide (y35.seq ≤ (max x0.acked x1.Ack)))) rfl) rfl ?_
        refine dn ?_
        refine qn ?_
        refine Wret ?_
        replace hc := hc.rem 6 rfl rfl
        replace hc := hc.rem 0 rfl rfl
        injection hp with hp; subst hp
        replace hc : Ctx w43 (Qs ++ (B b0 [.int .i64 x0.window, .int .i64 x0.span, .int .i64 x0.room, .int .i64 x0.epoch, .int .i64 x0.now, .int .i64 x0.next, .int .i64 (max x0.acked x1.Ack), .int .i64 x0.sent, .slice a28 x0.out.length q29, .int .i64 x0.got, .map (some v27), .bool x0.owes] 77 :: Mp (ekI .i64) (HV vf1 (pRo (pInt .u8))) v27 x0.early :: B b8 [.int .i64 x1.Epoch, .int .i64 x1.Seq, .int .i64 x1.Ack, .slice a1 x1.Body.length q3] 46 :: B b5 [.pointer (some ⟨b0, 0, none⟩)] 27 :: Hold (pRo (pInt .u8)) [.slice a1 x1.Body.length q3] x1.Body :: Fr)) := Ctx.front (Qs := [B b0 [.int .i64 x0.window, .int .i64 x0.span, .int .i64 x0.room, .int .i64 x0.epoch, .int .i64 x0.now, .int .i64 x0.next, .int .i64 (max x0.acked x1.Ack), .int .i64 x0.sent, .slice a28 x0.out.length q29, .int .i64 x0.got, .map (some v27), .bool x0.owes] 77, Mp (ekI .i64) (HV vf1 (pRo (pInt .u8))) v27 x0.early, B b8 [.int .i64 x1.Epoch, .int .i64 x1.Seq, .int .i64 x1.Ack, .slice a1 x1.Body.length q3] 46, B b5 [.pointer (some ⟨b0, 0, none⟩)] 27, Hold (pRo (pInt .u8)) [.slice a1 x1.Body.length q3] x1.Body]) (As := Qs) hc
        refine f1 (v := .bool (decide (y35.seq ≤ (max x0.acked x1.Ack)))) Try.results32 Try.ntmps32 rfl ?_
        exact ⟨_, rfl, k _ hc⟩
       replace hp := bind_some hp; obtain ⟨r44, hr44, hp⟩ := hp
       refine dc (cl Try.call31 rfl rfl) rfl rfl ?_
       refine slices_DeleteFunc_s_link_body_link_body_any Try.call32 hf34 hc hr44 ?_
       clear hc; intro a45 n46 q47 w48 hc
       obtain ⟨u49, _⟩ := Ctx.rdLen hc (k := 0) rfl rfl reads_own; subst u49
       refine ⟨fun j hj hb => ⟨fun _ => hc.cell (k := 4) rfl rfl rfl, trivial⟩, ?_⟩
       refine ds (v := .pointer (some ⟨b0, 0, none⟩)) rfl (fun w' hF => nl rfl) rfl ?_
       refine ds (v := .pointer (some ⟨b0, 8, none⟩)) rfl (fun w' hF => fax 8 rfl Try.underlying77 rfl Try.sizeOf75 rfl rfl rfl) rfl ?_
       refine duE (A := fun w' => Ctx w' (Own S_link_body.pr 82 (.slice a45 r44.length q47) r44 :: B b0 [.int .i64 x0.window, .int .i64 x0.span, .int .i64 x0.room, .int .i64 x0.epoch, .int .i64 x0.now, .int .i64 x0.next, .int .i64 (max x0.acked x1.Ack), .int .i64 x0.sent, .slice a45 r44.length q47, .int .i64 x0.got, .map (some v27), .bool x0.owes] 77 :: Mp (ekI .i64) (HV vf1 (pRo (pInt .u8))) v27 x0.early :: B b8 [.int .i64 x1.Epoch, .int .i64 x1.Seq, .int .i64 x1.Ack, .slice a1 x1.Body.length q3] 46 :: B b5 [.pointer (some ⟨b0, 0, none⟩)] 27 :: Hold (pRo (pInt .u8)) [.slice a1 x1.Body.length q3] x1.Body :: Fr)) (Ctx.putOp hc (k := 1) rfl rfl (v := .slice a45 r44.length q47) rfl rfl rfl Try.sizeOf75 rfl rfl rfl) rfl rfl ?_
       clear hc; rintro w50 hc
       refine ⟨fun j hj hb => ⟨fun e => (by subst e; exact absurd hj (by decide)), trivial⟩, ?_⟩
       refine dn ?_
       refine qn ?_
       refine Wseq ?_
       refine Wseq ?_
       refine Wreg ?_
       refine rs (v := .pointer (some ⟨b8, 1, none⟩)) (fax 1 rfl Try.underlying46 rfl Try.sizeOf3 rfl rfl rfl) rfl ?_
       refine rs (v := .int .i64 x1.Seq) (ld rfl Try.isAgg3 (Ctx.cell hc (k := 3) rfl rfl rfl)) rfl ?_
       refine rs (v := .bool (decide (x1.Seq = 0))) (eqd rfl rfl) rfl ?_
       refine rn ?_
       refine qn ?_
       cases hb51 : (decide (x1.Seq = 0))
       · replace hp := gneg hp (of_decide_eq_false hb51)
         refine Wcf rfl ?_
         refine Wskip ?_
         refine qn ?_
         refine Wseq ?_
         refine Wreg ?_
         refine rs (v := .pointer (some ⟨b0, 0, none⟩)) (ld rfl Try.isAgg27 (Ctx.cell hc (k := 4) rfl rfl rfl)) rfl ?_
         refine rs (v := .pointer (some ⟨b0, 0, none⟩)) (nl rfl) rfl ?_
         refine rs (v := .pointer (some ⟨b0, 11, none⟩)) (fax 11 rfl Try.underlying77 rfl Try.sizeOf4 rfl rfl rfl) rfl ?_
         refine ruE (A := fun w' => Ctx w' (Own S_link_body.pr 82 (.slice a45 r44.length q47) r44 :: B b0 [.int .i64 x0.window, .int .i64 x0.span, .int .i64 x0.room, .int .i64 x0.epoch, .int .i64 x0.now, .int .i64 x0.next, .int .i64 (max x0.acked x1.Ack), .int .i64 x0.sent, .slice a45 r44.length q47, .int .i64 x0.got, .map (some v27), .bool true] 77 :: Mp (ekI .i64) (HV vf1 (pRo (pInt .u8))) v27 x0.early :: B b8 [.int .i64 x1.Epoch, .int .i64 x1.Seq, .int .i64 x1.Ack, .slice a1 x1.Body.length q3] 46 :: B b5 [.pointer (some ⟨b0, 0, none⟩)] 27 :: Hold (pRo (pInt .u8)) [.slice a1 x1.Body.length q3] x1.Body :: Fr)) (Ctx.putOp hc (k := 1) rfl rfl (v := .bool true) rfl rfl rfl Try.sizeOf4 rfl rfl rfl) rfl ?_
         clear hc; rintro w52 hc
         refine rn ?_
         refine qn ?_
         refine Wseqm (6 :: 7 :: 73 :: 74 :: 75 :: 76 :: 77 :: 78 :: 79 :: 80 :: 81 :: 82 :: 83 :: 84 :: 85 :: 86 :: 87 :: 88 :: 89 :: 90 :: 91 :: 92 :: 93 :: 94 :: 95 :: 96 :: 97 :: 98 :: 99 :: 100 :: 101 :: 102 :: 103 :: 104 :: 105 :: 106 :: 107 :: 108 :: 109 :: 110 :: 111 :: 112 :: 113 :: 114 :: 115 :: 116 :: []) [] (fun vs w' => ∃ j53 : S_link_Link, vs = [] ∧ link_Link_Hear.J2 N j53 = some r ∧ Ctx w' (S_link_Link.hp b0 j53 :: B b5 [.pointer (some ⟨b0, 0, none⟩)] 27 :: Fr)) ?_ ?_
         · refine Wseq ?_
           replace hc := hc.drew
           refine Wdrw (fun _ w' => w' = World.drew w52) [0, 1, 3, 7, 0, 16, 63, 127, 255, 255, 511, 2047] 0 0 rfl (by kernel_rfl) (fun _ _ => rfl) ?_
           generalize hw : World.drew w52 = w54 at *
           clear hw
           refine ds (v := .pointer (some ⟨b0, 0, none⟩)) rfl (fun w' hF => by subst hF; exact ld rfl Try.isAgg27 (Ctx.cell hc (k := 4) rfl rfl rfl)) rfl ?_
           refine ds (v := .pointer (some ⟨b0, 0, none⟩)) rfl (fun w' hF => by subst hF; exact nl rfl) rfl ?_
           refine ds (v := .pointer (some ⟨b0, 10, none⟩)) rfl (fun w' hF => by subst hF; exact fax 10 rfl Try.underlying77 rfl Try.sizeOf74 rfl rfl rfl) rfl ?_
           refine ds (v := .map (some v27)) rfl (fun w' hF => by subst hF; exact ld rfl Try.isAgg74 (Ctx.cell hc (k := 1) rfl rfl rfl)) rfl ?_
           refine ds (v := .pointer (some ⟨b8, 1, none⟩)) rfl (fun w' hF => by subst hF; exact fax 1 rfl Try.underlying46 rfl Try.sizeOf3 rfl rfl rfl) rfl ?_
           refine ds (v := .int .i64 x1.Seq) rfl (fun w' hF => by subst hF; exact ld rfl Try.isAgg3 (Ctx.cell hc (k := 3) rfl rfl rfl)) rfl ?_
           replace hc := Ctx.mpFact true (keyL_int Try.underlying3) hc (i := 2) rfl rfl x1.Seq Try.underlying74 Try.zeroValue38 (zcs := [.slice none 0 0]) (x0 := []) rfl (fun _ _ => ⟨_, rfl, none, 0, rfl, Nat.le_refl _, fun i x hx => by simp at hx⟩); obtain ⟨cs55, hc, hr56⟩ := hc
           replace hp := bind_some hp; obtain ⟨y57, hy57, hp⟩ := hp
           injection hy57 with hy57
           rw [hy57] at hc
           replace hc := Ctx.holdRo hc; obtain ⟨v61, u58, hc⟩ := hc; subst u58
           obtain ⟨a59, q60, u58⟩ := hc.rd (k := 0) rfl rfl reads_ro; subst u58
           refine ds (v := .tuple #[.slice a59 y57.length q60, .bool ((mget x0.early x1.Seq).isSome)]) rfl (fun w' hF => by subst hF; exact hr56 rfl rfl) rfl ?_
           refine ds (v := .tuple #[.slice a59 y57.length q60, .bool ((mget x0.early x1.Seq).isSome)]) rfl (fun w' hF => by subst hF; exact mv (v := .tuple #[.slice a59 y57.length q60, .bool ((mget x0.early x1.Seq).isSome)]) rfl) rfl ?_
           refine ds (v := .slice a59 y57.length q60) rfl (fun w' hF => by subst hF; exact ext (v := .slice a59 y57.length q60) rfl rfl) rfl ?_
           refine ds (v := .bool ((mget x0.early x1.Seq).isSome)) rfl (fun w' hF => by subst hF; exact ext (v := .bool ((mget x0.early x1.Seq).isSome)) rfl rfl) rfl ?_
           refine ds (v := .slice a59 y57.length q60) rfl (fun w' hF => av (v := .slice a59 y57.length q60) rfl) rfl ?_
           refine ds (v := .bool ((mget x0.early x1.Seq).isSome)) rfl (fun w' hF => av (v := .bool ((mget x0.early x1.Seq).isSome)) rfl) rfl ?_
           refine dn ?_
           refine qn ?_
           refine Wseqm [83, 84, 85, 86, 87, 88, 89, 90, 91, 92, 93, 94, 95, 96, 97, 98, 99, 100, 101, 102, 103, 104, 105, 106, 107] [107] (fun vs w' => ∃ j62 : S_link_Link, ∃ j63 : Bool, vs = [.bool j63] ∧ link_Link_Hear.J3 N x1 j62 j63 = some r ∧ Ctx w' (S_link_Link.hp b0 j62 :: B b8 [.int .i64 x1.Epoch, .int .i64 x1.Seq, .int .i64 x1.Ack, .slice a1 x1.Body.length q3] 46 :: B b5 [.pointer (some ⟨b0, 0, none⟩)] 27 :: Hold (pRo (pInt .u8)) [.slice a1 x1.Body.length q3] x1.Body :: Fr)) ?_ ?_
           · replace hc := hc.drew
             refine Wdrw (fun _ w' => w' = World.drew w54) [0, 1, 0, 4, 12, 28, 63, 127, 255, 511, 255, 1279, 3327, 7423, 255, 16639, 49407, 114943, 261375, 524287, 1048575, 2097151, 4194303, 8388607, 16777215] 0 0 rfl (by kernel_rfl) (fun _ _ => rfl) ?_
             generalize hw : World.drew w54 = w64 at *
             clear hw
             refine ds (v := .pointer (some ⟨b8, 1, none⟩)) rfl (fun w' hF => by subst hF; exact fax 1 rfl Try.underlying46 rfl Try.sizeOf3 rfl rfl rfl) rfl ?_
             refine ds (v := .int .i64 x1.Seq) rfl (fun w' hF => by subst hF; exact ld rfl Try.isAgg3 (Ctx.cell hc (k := 4) rfl rfl rfl)) rfl ?_
             refine ds (v := .pointer (some ⟨b0, 0, none⟩)) rfl (fun w' hF => by subst hF; exact ld rfl Try.isAgg27 (Ctx.cell hc (k := 5) rfl rfl rfl)) rfl ?_
             refine ds (v := .pointer (some ⟨b0, 0, none⟩)) rfl (fun w' hF => by subst hF; exact nl rfl) rfl ?_
             refine ds (v := .pointer (some ⟨b0, 9, none⟩)) rfl (fun w' hF => by subst hF; exact fax 9 rfl Try.underlying77 rfl Try.sizeOf3 rfl rfl rfl) rfl ?_
             refine ds (v := .int .i64 x0.got) rfl (fun w' hF => by subst hF; exact ld rfl Try.isAgg3 (Ctx.cell hc (k := 2) rfl rfl rfl)) rfl ?_
             refine ds (v := .bool (decide (x1.Seq > x0.got))) rfl (fun w' hF => by subst hF; exact gt' rfl rfl) rfl ?_
             refine ds (v := .bool (decide (x1.Seq > x0.got))) rfl (fun w' hF => by subst hF; exact mv (v := .bool (decide (x1.Seq > x0.got))) rfl) rfl ?_
             cases hb65 : (decide (x1.Seq > x0.got))
             · replace hp := gneg hp (of_decide_eq_false hb65)
               refine d0 rfl rfl ?_
               refine d0 rfl rfl ?_
               refine d0 rfl rfl ?_
               refine d0 rfl rfl ?_
               refine d0 rfl rfl ?_
               refine d0 rfl rfl ?_
               refine d0 rfl rfl ?_
               refine d0 rfl rfl ?_
               refine d0 rfl rfl ?_
               refine d0 rfl rfl ?_
               refine d0 rfl rfl ?_
               refine d0 rfl rfl ?_
               refine ds (v := .bool false) rfl (fun w' hF => by subst hF; exact pkf (v := .bool false) rfl rfl) rfl ?_
               refine ds (v := .bool false) rfl (fun w' hF => by subst hF; exact mv (v := .bool false) rfl) rfl ?_
               refine d0 rfl rfl ?_
               refine d0 rfl rfl ?_
               refine ds (v := .bool false) rfl (fun w' hF => by subst hF; exact pkf (v := .bool false) rfl rfl) rfl ?_
               refine dn ?_
               refine qn ?_
               replace hc := hc.pull 3 rfl rfl
               replace hc := hc.pull 2 rfl rfl
               replace hc := hc.pull 3 rfl rfl
               replace hc : Ctx w64 (S_link_Link.hp b0 (⟨x0.window, x0.span, x0.room, x0.epoch, x0.now, x0.next, (max x0.acked x1.Ack), x0.sent, r44, x0.got, x0.early, true⟩ : S_link_Link) :: Hold (pRo (pInt .u8)) [.slice a59 y57.length q60] y57 :: B b8 [.int .i64 x1.Epoch, .int .i64 x1.Seq, .int .i64 x1.Ack, .slice a1 x1.Body.length q3] 46 :: B b5 [.pointer (some ⟨b0, 0, none⟩)] 27 :: Hold (pRo (pInt .u8)) [.slice a1 x1.Body.length q3] x1.Body :: Fr) := Ctx.exB _ _ (Ctx.exB _ _ (Ctx.sepB (Ctx.sepB hc)))
               replace hc := hc.rem 1 rfl rfl
               exact ⟨⟨(⟨x0.window, x0.span, x0.room, x0.epoch, x0.now, x0.next, (max x0.acked x1.Ack), x0.sent, r44, x0.got, x0.early, true⟩ : S_link_Link), false, rfl, hp, hc⟩, (kl rfl kb)⟩
             · replace hp := gpos hp (of_decide_eq_true hb65)
               refine ds (v := .pointer (some ⟨b8, 1, none⟩)) rfl (fun w' hF => by subst hF; exact fax 1 rfl Try.underlying46 rfl Try.sizeOf3 rfl rfl rfl) rfl ?_
               refine ds (v := .int .i64 x1.Seq) rfl (fun w' hF => by subst hF; exact ld rfl Try.isAgg3 (Ctx.cell hc (k := 4) rfl rfl rfl)) rfl ?_
               refine ds (v := .pointer (some ⟨b0, 0, none⟩)) rfl (fun w' hF => by subst hF; exact ld rfl Try.isAgg27 (Ctx.cell hc (k := 5) rfl rfl rfl)) rfl ?_
               refine ds (v := .pointer (some ⟨b0, 0, none⟩)) rfl (fun w' hF => by subst hF; exact nl rfl) rfl ?_
               refine ds (v := .pointer (some ⟨b0, 9, none⟩)) rfl (fun w' hF => by subst hF; exact fax 9 rfl Try.underlying77 rfl Try.sizeOf3 rfl rfl rfl) rfl ?_
               refine ds (v := .int .i64 x0.got) rfl (fun w' hF => by subst hF; exact ld rfl Try.isAgg3 (Ctx.cell hc (k := 2) rfl rfl rfl)) rfl ?_
               refine ds (v := .pointer (some ⟨b0, 0, none⟩)) rfl (fun w' hF => by subst hF; exact ld rfl Try.isAgg27 (Ctx.cell hc (k := 5) rfl rfl rfl)) rfl ?_
               refine ds (v := .pointer (some ⟨b0, 0, none⟩)) rfl (fun w' hF => by subst hF; exact nl rfl) rfl ?_
               refine ds (v := .pointer (some ⟨b0, 0, none⟩)) rfl (fun w' hF => by subst hF; exact fax 0 rfl Try.underlying77 rfl Try.sizeOf3 rfl rfl rfl) rfl ?_
               refine ds (v := .int .i64 x0.window) rfl (fun w' hF => by subst hF; exact ld rfl Try.isAgg3 (Ctx.cell hc (k := 2) rfl rfl rfl)) rfl ?_
               refine ds (v := .int .i64 (IntKind.i64.wrap (x0.got + x0.window))) rfl (fun w' hF => by subst hF; exact adw rfl rfl) rfl ?_
               refine ds (v := .bool (decide (x1.Seq ≤ (IntKind.i64.wrap (x0.got + x0.window))))) rfl (fun w' hF => by subst hF; exact le' rfl rfl) rfl ?_
               refine ds (v := .bool (decide (x1.Seq ≤ (IntKind.i64.wrap (x0.got + x0.window))))) rfl (fun w' hF => by subst hF; exact pkt (v := .bool (decide (x1.Seq ≤ (IntKind.i64.wrap (x0.got + x0.window))))) rfl rfl) rfl ?_
               refine ds (v := .bool (decide (x1.Seq ≤ (IntKind.i64.wrap (x0.got + x0.window))))) rfl (fun w' hF => by subst hF; exact mv (v := .bool (decide (x1.Seq ≤ (IntKind.i64.wrap (x0.got + x0.window))))) rfl) rfl ?_
               cases hb66 : (decide (x1.Seq ≤ (IntKind.i64.wrap (x0.got + x0.window))))
               · replace hp := gneg hp (of_decide_eq_false hb66)
                 refine d0 rfl rfl ?_
                 refine d0 rfl rfl ?_
                 refine ds (v := .bool false) rfl (fun w' hF => by subst hF; exact pkf (v := .bool false) rfl rfl) rfl ?_
                 refine dn ?_
                 refine qn ?_
                 replace hc := hc.pull 3 rfl rfl
                 replace hc := hc.pull 2 rfl rfl
                 replace hc := hc.pull 3 rfl rfl
                 replace hc : Ctx w64 (S_link_Link.hp b0 (⟨x0.window, x0.span, x0.room, x0.epoch, x0.now, x0.next, (max x0.acked x1.Ack), x0.sent, r44, x0.got, x0.early, true⟩ : S_link_Link) :: Hold (pRo (pInt .u8)) [.slice a59 y57.length q60] y57 :: B b8 [.int .i64 x1.Epoch, .int .i64 x1.Seq, .int .i64 x1.Ack, .slice a1 x1.Body.length q3] 46 :: B b5 [.pointer (some ⟨b0, 0, none⟩)] 27 :: Hold (pRo (pInt .u8)) [.slice a1 x1.Body.length q3] x1.Body :: Fr) := Ctx.exB _ _ (Ctx.exB _ _ (Ctx.sepB (Ctx.sepB hc)))
                 replace hc := hc.rem 1 rfl rfl
                 exact ⟨⟨(⟨x0.window, x0.span, x0.room, x0.epoch, x0.now, x0.next, (max x0.acked x1.Ack), x0.sent, r44, x0.got, x0.early, true⟩ : S_link_Link), false, rfl, hp, hc⟩, (kl rfl kb)⟩
               · replace hp := gpos hp (of_decide_eq_true hb66)
                 refine ds (v := .bool ((mget x0.early x1.Seq).isSome)) rfl (fun w' hF => by subst hF; exact mv (v := .bool ((mget x0.early x1.Seq).isSome)) rfl) rfl ?_
                 cases hb67 : ((mget x0.early x1.Seq).isSome)
                 · replace hp := gneg hp (by rw [hb67]; exact Bool.false_ne_true)
                   refine ds (v := .bool true) rfl (fun w' hF => by subst hF; exact ntf rfl) rfl ?_
                   refine ds (v := .bool true) rfl (fun w' hF => by subst hF; exact pkt (v := .bool true) rfl rfl) rfl ?_
                   refine dn ?_
                   refine qn ?_
                   replace hc := hc.pull 3 rfl rfl
                   replace hc := hc.pull 2 rfl rfl
                   replace hc := hc.pull 3 rfl rfl
                   replace hc : Ctx w64 (S_link_Link.hp b0 (⟨x0.window, x0.span, x0.room, x0.epoch, x0.now, x0.next, (max x0.acked x1.Ack), x0.sent, r44, x0.got, x0.early, true⟩ : S_link_Link) :: Hold (pRo (pInt .u8)) [.slice a59 y57.length q60] y57 :: B b8 [.int .i64 x1.Epoch, .int .i64 x1.Seq, .int .i64 x1.Ack, .slice a1 x1.Body.length q3] 46 :: B b5 [.pointer (some ⟨b0, 0, none⟩)] 27 :: Hold (pRo (pInt .u8)) [.slice a1 x1.Body.length q3] x1.Body :: Fr) := Ctx.exB _ _ (Ctx.exB _ _ (Ctx.sepB (Ctx.sepB hc)))
                   replace hc := hc.rem 1 rfl rfl
                   exact ⟨⟨(⟨x0.window, x0.span, x0.room, x0.epoch, x0.now, x0.next, (max x0.acked x1.Ack), x0.sent, r44, x0.got, x0.early, true⟩ : S_link_Link), true, rfl, hp, hc⟩, (kl rfl kb)⟩
                 · replace hp := gpos hp hb67
                   refine ds (v := .bool false) rfl (fun w' hF => by subst hF; exact ntt rfl) rfl ?_
                   refine ds (v := .bool false) rfl (fun w' hF => by subst hF; exact pkt (v := .bool false) rfl rfl) rfl ?_
                   refine dn ?_
                   refine qn ?_
                   replace hc := hc.pull 3 rfl rfl
                   replace hc := hc.pull 2 rfl rfl
                   replace hc := hc.pull 3 rfl rfl
                   replace hc : Ctx w64 (S_link_Link.hp b0 (⟨x0.window, x0.span, x0.room, x0.epoch, x0.now, x0.next, (max x0.acked x1.Ack), x0.sent, r44, x0.got, x0.early, true⟩ : S_link_Link) :: Hold (pRo (pInt .u8)) [.slice a59 y57.length q60] y57 :: B b8 [.int .i64 x1.Epoch, .int .i64 x1.Seq, .int .i64 x1.Ack, .slice a1 x1.Body.length q3] 46 :: B b5 [.pointer (some ⟨b0, 0, none⟩)] 27 :: Hold (pRo (pInt .u8)) [.slice a1 x1.Body.length q3] x1.Body :: Fr) := Ctx.exB _ _ (Ctx.exB _ _ (Ctx.sepB (Ctx.sepB hc)))
                   replace hc := hc.rem 1 rfl rfl
                   exact ⟨⟨(⟨x0.window, x0.span, x0.room, x0.epoch, x0.now, x0.next, (max x0.acked x1.Ack), x0.sent, r44, x0.got, x0.early, true⟩ : S_link_Link), false, rfl, hp, hc⟩, (kl rfl kb)⟩
           · clear hp hc; intro vs u w68 hJ
             obtain ⟨j62, j63, rfl, hp, hc⟩ := hJ
             unfold link_Link_Hear.J3 at hp
             cases hb69 : j63
             · replace hp := gneg hp (by rw [hb69]; exact Bool.false_ne_true)
               subst hb69
               refine Wcf rfl ?_
               refine Wskip ?_
               refine qn ?_
               replace hc := hc.rem 3 rfl rfl
               replace hc := hc.rem 1 rfl rfl
               exact ⟨⟨j62, rfl, hp, hc⟩, (kl rfl (km rfl (kl rfl kb)))⟩
             · replace hp := gpos hp hb69
               subst hb69
               refine Wct rfl ?_
               replace hc := Ctx.exF hc; obtain ⟨v70, hc⟩ := hc
               replace hc := Ctx.exF hc; obtain ⟨v71, hc⟩ := hc
               replace hc := Ctx.sepF hc
               replace hc := Ctx.sepF hc
               obtain ⟨a72, q73, u74⟩ := hc.rd (k := 1) rfl rfl reads_own; subst u74
               replace hc := hc.drew
               have hF : ∀ j, free [0, 1, 3, 7, 0, 16, 0, 64, 192, 511] 0 j = true → (fun j w' => (j = 0 → w'.cell? ⟨b5, 0, none⟩ = some (.pointer (some ⟨b0, 0, none⟩))) ∧ (j = 3 → w'.cell? ⟨b0, 10, none⟩ = some (.map (some v71))) ∧ (j = 5 → w'.cell? ⟨b8, 1, none⟩ = some (.int .i64 x1.Seq)) ∧ True) j (World.drew w68) := fun j hj => ⟨fun _ => hc.cell (k := 4) rfl rfl rfl, fun _ => hc.cell (k := 0) rfl rfl rfl, fun _ => hc.cell (k := 3) rfl rfl rfl, trivial⟩
               refine Wdrw (fun j w' => (j = 0 → w'.cell? ⟨b5, 0, none⟩ = some (.pointer (some ⟨b0, 0, none⟩))) ∧ (j = 3 → w'.cell? ⟨b0, 10, none⟩ = some (.map (some v71))) ∧ (j = 5 → w'.cell? ⟨b8, 1, none⟩ = some (.int .i64 x1.Seq)) ∧ True) [0, 1, 3, 7, 0, 16, 0, 64, 192, 511] 0 128 rfl (by kernel_rfl) (hF) ?_
               generalize hw : World.drew w68 = w75 at *
               clear hw
               refine ds (v := .pointer (some ⟨b0, 0, none⟩)) rfl (fun w' hF => ld rfl Try.isAgg27 ((hF.1 rfl))) rfl ?_
               refine ds (v := .pointer (some ⟨b0, 0, none⟩)) rfl (fun w' hF => nl rfl) rfl ?_
               refine ds (v := .pointer (some ⟨b0, 10, none⟩)) rfl (fun w' hF => fax 10 rfl Try.underlying77 rfl Try.sizeOf74 rfl rfl rfl) rfl ?_
               refine ds (v := .map (some v71)) rfl (fun w' hF => ld rfl Try.isAgg74 ((hF.2.1 rfl))) rfl ?_
               refine ds (v := .pointer (some ⟨b8, 1, none⟩)) rfl (fun w' hF => fax 1 rfl Try.underlying46 rfl Try.sizeOf3 rfl rfl rfl) rfl ?_
               refine ds (v := .int .i64 x1.Seq) rfl (fun w' hF => ld rfl Try.isAgg3 ((hF.2.2.1 rfl))) rfl ?_
               refine ds (v := .pointer (some ⟨b8, 3, none⟩)) rfl (fun w' hF => fax 3 rfl Try.underlying46 rfl Try.sizeOf38 rfl rfl rfl) rfl ?_
               refine dx (v := .slice a1 x1.Body.length q3) rfl (ld rfl Try.isAgg38 (Ctx.cell hc (k := 3) rfl rfl rfl)) rfl rfl ?_
               replace hc := hc.dup (k := 5) rfl rfl
               replace hp := bind_some hp; obtain ⟨r76, hr76, hp⟩ := hp
               refine dc (cl Try.call30 rfl rfl) rfl rfl ?_
               refine bytes_Clone_any reads_ro hc hr76 ?_
               clear hc; intro a77 n78 q79 w80 hc
               obtain ⟨u81, _⟩ := Ctx.rdLen hc (k := 0) rfl rfl reads_own; subst u81
               refine ⟨fun j hj hb => ⟨fun _ => hc.cell (k := 6) rfl rfl rfl, fun _ => hc.cell (k := 2) rfl rfl rfl, fun _ => hc.cell (k := 5) rfl rfl rfl, trivial⟩, ?_⟩
               replace hc := hc.freeze (k := 0) rfl rfl rfl
               replace hc := hc.dup (k := 0) rfl rfl
               refine duE (A := fun w' => Ctx w' (Hold (pRo (pInt .u8)) [.slice a77 r76.length q79] r76 :: Hold (pRo (pInt .u8)) [.slice a1 x1.Body.length q3] x1.Body :: B b0 [.int .i64 j62.window, .int .i64 j62.span, .int .i64 j62.room, .int .i64 j62.epoch, .int .i64 j62.now, .int .i64 j62.next, .int .i64 j62.acked, .int .i64 j62.sent, .slice a72 j62.out.length q73, .int .i64 j62.got, .map (some v71), .bool j62.owes] 77 :: Own S_link_body.pr 82 (.slice a72 j62.out.length q73) j62.out :: Mp (ekI .i64) (HV vf1 (pRo (pInt .u8))) v71 (mset j62.early x1.Seq r76) :: B b8 [.int .i64 x1.Epoch, .int .i64 x1.Seq, .int .i64 x1.Ack, .slice a1 x1.Body.length q3] 46 :: B b5 [.pointer (some ⟨b0, 0, none⟩)] 27 :: Hold (pRo (pInt .u8)) [.slice a1 x1.Body.length q3] x1.Body :: Fr)) (Ctx.mpSet (keyL_int Try.underlying3) hc (i := 4) rfl rfl Try.underlying74 rfl rfl rfl) rfl rfl ?_
               clear hc; rintro w82 hc
               refine ⟨fun j hj hb => ⟨fun e => (by subst e; exact absurd hj (by decide)), fun e => (by subst e; exact absurd hj (by decide)), fun e => (by subst e; exact absurd hj (by decide)), trivial⟩, ?_⟩
               refine dn ?_
               refine qn ?_
               replace hc := hc.pull 4 rfl rfl
               replace hc := hc.pull 4 rfl rfl
               replace hc := hc.pull 4 rfl rfl
               replace hc : Ctx w82 (S_link_Link.hp b0 (⟨j62.window, j62.span, j62.room, j62.epoch, j62.now, j62.next, j62.acked, j62.sent, j62.out, j62.got, (mset j62.early x1.Seq r76), j62.owes⟩ : S_link_Link) :: Hold (pRo (pInt .u8)) [.slice a77 r76.length q79] r76 :: Hold (pRo (pInt .u8)) [.slice a1 x1.Body.length q3] x1.Body :: B b8 [.int .i64 x1.Epoch, .int .i64 x1.Seq, .int .i64 x1.Ack, .slice a1 x1.Body.length q3] 46 :: B b5 [.pointer (some ⟨b0, 0, none⟩)] 27 :: Hold (pRo (pInt .u8)) [.slice a1 x1.Body.length q3] x1.Body :: Fr) := Ctx.exB _ _ (Ctx.exB _ _ (Ctx.sepB (Ctx.sepB hc)))
               replace hc := hc.rem 5 rfl rfl
               replace hc := hc.rem 3 rfl rfl
               replace hc := hc.rem 2 rfl rfl
               replace hc := hc.rem 1 rfl rfl
               exact ⟨⟨(⟨j62.window, j62.span, j62.room, j62.epoch, j62.now, j62.next, j62.acked, j62.sent, j62.out, j62.got, (mset j62.early x1.Seq r76), j62.owes⟩ : S_link_Link), rfl, hp, hc⟩, (kl rfl (km rfl (kl rfl kb)))⟩
         · clear hp hc; intro vs u w83 hJ
           obtain ⟨j53, rfl, hp, hc⟩ := hJ
           unfold link_Link_Hear.J2 at hp
           refine Wseq ?_
           refine Wreg ?_
           refine rs (v := .slice none 0 0) (av (v := .slice none 0 0) rfl) rfl ?_
           refine rn ?_
           refine qn ?_
           refine Wblk ?_
           replace hc := hc.nilOwn (pRo (pInt .u8)) 38
           replace hc := hc.pull 2 rfl rfl
           replace hc := hc.pull 2 rfl rfl
           refine Wloop (4 :: 5 :: 8 :: 9 :: 10 :: 117 :: 118 :: 119 :: 120 :: 121 :: 122 :: 123 :: 124 :: 125 :: 126 :: 127 :: 128 :: 129 :: 130 :: 131 :: 132 :: 133 :: 134 :: 135 :: 136 :: 137 :: 138 :: 139 :: 140 :: 141 :: 142 :: 143 :: 144 :: 145 :: 146 :: 147 :: 148 :: 149 :: 150 :: 151 :: []) [8] (fun m vs w' => ∃ j84 : S_link_Link, ∃ j85 : (List (List Int)), ∃ a86 : Option Addr, ∃ n87 : Nat, ∃ q88 : Nat, vs = [.slice a86 n87 q88] ∧ link_Link_Hear.L4 m j84 j85 = some r ∧ Ctx w' (S_link_Link.hp b0 j84 :: B b5 [.pointer (some ⟨b0, 0, none⟩)] 27 :: Own (pRo (pInt .u8)) 38 (.slice a86 n87 q88) j85 :: Fr)) N ?_ ?_
           · exact ⟨j53, [], none, 0, 0, rfl, hp, hc⟩
           · clear hp hc; intro m vs u w89 hJ
             obtain ⟨j84, j85, a86, n87, q88, rfl, hp, hc⟩ := hJ
             obtain ⟨u90, _⟩ := Ctx.rdLen hc (k := 2) rfl rfl reads_own; subst u90
             rcases m with _ | m4
             · cases (show none = some r from hp)
             rw [link_Link_Hear.L4] at hp
             refine Wblk ?_
             refine Wseq ?_
             replace hc := Ctx.exF hc; obtain ⟨v91, hc⟩ := hc
             replace hc := Ctx.exF hc; obtain ⟨v92, hc⟩ := hc
             replace hc := Ctx.sepF hc
             replace hc := Ctx.sepF hc
             obtain ⟨a93, q94, u95⟩ := hc.rd (k := 1) rfl rfl reads_own; subst u95
             replace hc := hc.drew
             refine Wdrw (fun _ w' => w' = World.drew w89) [0, 1, 3, 7, 0, 16, 48, 112, 240, 511, 1023, 2047, 2047, 4095, 16383] 0 0 rfl (by kernel_rfl) (fun _ _ => rfl) ?_
             generalize hw : World.drew w89 = w96 at *
             clear hw
             refine ds (v := .pointer (some ⟨b0, 0, none⟩)) rfl (fun w' hF => by subst hF; exact ld rfl Try.isAgg27 (Ctx.cell hc (k := 3) rfl rfl rfl)) rfl ?_
             refine ds (v := .pointer (some ⟨b0, 0, none⟩)) rfl (fun w' hF => by subst hF; exact nl rfl) rfl ?_
             refine ds (v := .pointer (some ⟨b0, 10, none⟩)) rfl (fun w' hF => by subst hF; exact fax 10 rfl Try.underlying77 rfl Try.sizeOf74 rfl rfl rfl) rfl ?_
             refine ds (v := .map (some v92)) rfl (fun w' hF => by subst hF; exact ld rfl Try.isAgg74 (Ctx.cell hc (k := 0) rfl rfl rfl)) rfl ?_
             refine ds (v := .pointer (some ⟨b0, 0, none⟩)) rfl (fun w' hF => by subst hF; exact ld rfl Try.isAgg27 (Ctx.cell hc (k := 3) rfl rfl rfl)) rfl ?_
             refine ds (v := .pointer (some ⟨b0, 0, none⟩)) rfl (fun w' hF => by subst hF; exact nl rfl) rfl ?_
             refine ds (v := .pointer (some ⟨b0, 9, none⟩)) rfl (fun w' hF => by subst hF; exact fax 9 rfl Try.underlying77 rfl Try.sizeOf3 rfl rfl rfl) rfl ?_
             refine ds (v := .int .i64 j84.got) rfl (fun w' hF => by subst hF; exact ld rfl Try.isAgg3 (Ctx.cell hc (k := 0) rfl rfl rfl)) rfl ?_
             refine ds (v := .int .i64 (IntKind.i64.wrap (j84.got + 1))) rfl (fun w' hF => by subst hF; exact adw rfl rfl) rfl ?_
             replace hc := Ctx.mpFact true (keyL_int Try.underlying3) hc (i := 2) rfl rfl (IntKind.i64.wrap (j84.got + 1)) Try.underlying74 Try.zeroValue38 (zcs := [.slice none 0 0]) (x0 := []) rfl (fun _ _ => ⟨_, rfl, none, 0, rfl, Nat.le_refl _, fun i x hx => by simp at hx⟩); obtain ⟨cs97, hc, hr98⟩ := hc
             replace hp := bind_some hp; obtain ⟨y99, hy99, hp⟩ := hp
             injection hy99 with hy99
             rw [hy99] at hc
             replace hc := Ctx.holdRo hc; obtain ⟨v103, u100, hc⟩ := hc; subst u100
             obtain ⟨a101, q102, u100⟩ := hc.rd (k := 0) rfl rfl reads_ro; subst u100
             refine ds (v := .tuple #[.slice a101 y99.length q102, .bool ((mget j84.early (IntKind.i64.wrap (j84.got + 1))).isSome)]) rfl (fun w' hF => by subst hF; exact hr98 rfl rfl) rfl ?_
             refine ds (v := .tuple #[.slice a101 y99.length q102, .bool ((mget j84.early (IntKind.i64.wrap (j84.got + 1))).isSome)]) rfl (fun w' hF => by subst hF; exact mv (v := .tuple #[.slice a101 y99.length q102, .bool ((mget j84.early (IntKind.i64.wrap (j84.got + 1))).isSome)]) rfl) rfl ?_
             refine ds (v := .slice a101 y99.length q102) rfl (fun w' hF => by subst hF; exact ext (v := .slice a101 y99.length q102) rfl rfl) rfl ?_
             refine ds (v := .bool ((mget j84.early (IntKind.i64.wrap (j84.got + 1))).isSome)) rfl (fun w' hF => by subst hF; exact ext (v := .bool ((mget j84.early (IntKind.i64.wrap (j84.got + 1))).isSome)) rfl rfl) rfl ?_
             refine ds (v := .slice a101 y99.length q102) rfl (fun w' hF => av (v := .slice a101 y99.length q102) rfl) rfl ?_
             refine ds (v := .bool ((mget j84.early (IntKind.i64.wrap (j84.got + 1))).isSome)) rfl (fun w' hF => av (v := .bool ((mget j84.early (IntKind.i64.wrap (j84.got + 1))).isSome)) rfl) rfl ?_
             refine dn ?_
             refine qn ?_
             refine Wseq ?_
             refine Wseq ?_
             refine Wreg ?_
             refine rs (v := .bool ((mget j84.early (IntKind.i64.wrap (j84.got + 1))).isSome)) (mv (v := .bool ((mget j84.early (IntKind.i64.wrap (j84.got + 1))).isSome)) rfl) rfl ?_
             cases hb104 : ((mget j84.early (IntKind.i64.wrap (j84.got + 1))).isSome)
             · replace hp := gneg hp (by rw [hb104]; exact Bool.false_ne_true)
               refine rs (v := .bool true) (ntf rfl) rfl ?_
               refine rn ?_
               refine qn ?_
               refine Wct rfl ?_
               refine Wseq ?_
               refine Wreg ?_
               refine rs (v := .slice a86 j85.length q88) (mv (v := .slice a86 j85.length q88) rfl) rfl ?_
               refine rs (v := .slice a86 j85.length q88) (av (v := .slice a86 j85.length q88) rfl) rfl ?_
               refine rs (v := .int .i64 0) (av (v := .int .i64 0) rfl) rfl ?_
               refine rn ?_
               refine qn ?_
               refine Wret ?_
               refine qr ?_
               refine br ?_
               refine qr ?_
               refine br ?_
               replace hc := hc.pull 3 rfl rfl
               replace hc := hc.pull 3 rfl rfl
               replace hc := hc.pull 3 rfl rfl
               replace hc : Ctx w96 (S_link_Link.hp b0 j84 :: Hold (pRo (pInt .u8)) [.slice a101 y99.length q102] y99 :: B b5 [.pointer (some ⟨b0, 0, none⟩)] 27 :: Own (pRo (pInt .u8)) 38 (.slice a86 j85.length q88) j85 :: Fr) := Ctx.exB _ _ (Ctx.exB _ _ (Ctx.sepB (Ctx.sepB hc)))
               replace hc := hc.rem 2 rfl rfl
               replace hc := hc.rem 1 rfl rfl
               replace hc := hc.pull 1 rfl rfl
               injection hp with hp; subst hp
               refine f2 (v := .slice a86 j85.length q88) (u := .int .i64 0) Try.results15 Try.ntmps15 rfl rfl ?_
               exact ⟨_, rfl, k _ _ _ _ hc⟩
             · replace hp := gpos hp hb104
               refine rs (v := .bool false) (ntt rfl) rfl ?_
               refine rn ?_
               refine qn ?_
               refine Wcf rfl ?_
               refine Wskip ?_
               refine qn ?_
               refine Wseq ?_
               refine Wreg ?_
               refine rs (v := .pointer (some ⟨b0, 0, none⟩)) (ld rfl Try.isAgg27 (Ctx.cell hc (k := 4) rfl rfl rfl)) rfl ?_
               refine rs (v := .pointer (some ⟨b0, 0, none⟩)) (nl rfl) rfl ?_
               refine rs (v := .pointer (some ⟨b0, 9, none⟩)) (fax 9 rfl Try.underlying77 rfl Try.sizeOf3 rfl rfl rfl) rfl ?_
               refine rs (v := .int .i64 j84.got) (ld rfl Try.isAgg3 (Ctx.cell hc (k := 1) rfl rfl rfl)) rfl ?_
               refine rs (v := .int .i64 (IntKind.i64.wrap (j84.got + 1))) (adw rfl rfl) rfl ?_
               refine rs (v := .pointer (some ⟨b0, 0, none⟩)) (nl rfl) rfl ?_
               refine rs (v := .pointer (some ⟨b0, 9, none⟩)) (fax 9 rfl Try.underlying77 rfl Try.sizeOf3 rfl rfl rfl) rfl ?_
               refine ruE (A := fun w' => Ctx w' (Hold (pRo (pInt .u8)) [.slice a101 y99.length q102] y99 :: B b0 [.int .i64 j84.window, .int .i64 j84.span, .int .i64 j84.room, .int .i64 j84.epoch, .int .i64 j84.now, .int .i64 j84.next, .int .i64 j84.acked, .int .i64 j84.sent, .slice a93 j84.out.length q94, .int .i64 (IntKind.i64.wrap (j84.got + 1)), .map (some v92), .bool j84.owes] 77 :: Own S_link_body.pr 82 (.slice a93 j84.out.length q94) j84.out :: Mp (ekI .i64) (HV vf1 (pRo (pInt .u8))) v92 j84.early :: B b5 [.pointer (some ⟨b0, 0, none⟩)] 27 :: Own (pRo (pInt .u8)) 38 (.slice a86 j85.length q88) j85 :: Fr)) (Ctx.putOp hc (k := 1) rfl rfl (v := .int .i64 (IntKind.i64.wrap (j84.got + 1))) rfl rfl rfl Try.sizeOf3 rfl rfl rfl) rfl ?_
               clear hc; rintro w105 hc
               refine rn ?_
               refine qn ?_
               refine Wseq ?_
               replace hc := hc.drew
               refine Wdrw (fun j w' => True) [0, 1, 3, 7, 0, 16, 48, 112, 255] 0 153 rfl (by kernel_rfl) (fun _ _ => trivial) ?_
               generalize hw : World.drew w105 = w106 at *
               clear hw
               refine dx (v := .pointer (some ⟨b0, 0, none⟩)) rfl (ld rfl Try.isAgg27 (Ctx.cell hc (k := 4) rfl rfl rfl)) rfl rfl ?_
               refine ds (v := .pointer (some ⟨b0, 0, none⟩)) rfl (fun w' hF => nl rfl) rfl ?_
               refine ds (v := .pointer (some ⟨b0, 10, none⟩)) rfl (fun w' hF => fax 10 rfl Try.underlying77 rfl Try.sizeOf74 rfl rfl rfl) rfl ?_
               refine dx (v := .map (some v92)) rfl (ld rfl Try.isAgg74 (Ctx.cell hc (k := 1) rfl rfl rfl)) rfl rfl ?_
               refine dx (v := .pointer (some ⟨b0, 0, none⟩)) rfl (ld rfl Try.isAgg27 (Ctx.cell hc (k := 4) rfl rfl rfl)) rfl rfl ?_
               refine ds (v := .pointer (some ⟨b0, 0, none⟩)) rfl (fun w' hF => nl rfl) rfl ?_
               refine ds (v := .pointer (some ⟨b0, 9, none⟩)) rfl (fun w' hF => fax 9 rfl Try.underlying77 rfl Try.sizeOf3 rfl rfl rfl) rfl ?_
               refine dx (v := .int .i64 (IntKind.i64.wrap (j84.got + 1))) rfl (ld rfl Try.isAgg3 (Ctx.cell hc (k := 1) rfl rfl rfl)) rfl rfl ?_
               refine dvE (Ctx.mpDel (keyL_int Try.underlying3) hc (i := 3) rfl rfl Try.underlying74 rfl rfl) rfl rfl ?_
               clear hc; intro w107 hc
               refine ⟨fun j hj hb => trivial, ?_⟩
               refine dn ?_
               refine qn ?_
               refine Wreg ?_
               refine rs (v := .slice a86 j85.length q88) (mv (v := .slice a86 j85.length q88) rfl) rfl ?_
               refine rs (v := .slice a101 y99.length q102) (mv (v := .slice a101 y99.length q102) rfl) rfl ?_
               replace hc := hc.dup (k := 0) rfl rfl
               refine rsE (Ctx.builtOp (css := [[.slice a101 y99.length q102]]) (xs := ([y99] : List (List Int))) (E := (pRo (pInt .u8))) hc Try.underlying51 Try.sizeOf38 Try.zeroValue38 rfl rfl rfl rfl rfl rfl rfl rfl) rfl ?_
               clear hc; rintro _ w109 ⟨a108, rfl, hc⟩
               replace hp := bind_some hp; obtain ⟨z110, hz110, hp⟩ := hp
               obtain ⟨hg111, e112⟩ := app_some hz110
               refine rsE (Ctx.append hc (k := 6) rfl rfl (k2 := 0) rfl rfl reads_own Try.underlying51 (i := Try.t38) rfl rfl rfl rfl rfl rfl rfl rfl hg111) rfl ?_
               clear hc; rintro _ w115 ⟨a113, q114, rfl, hc⟩
               rw [← e112] at hc ⊢
               refine rs (v := .slice a113 z110.length q114) (av (v := .slice a113 z110.length q114) rfl) rfl ?_
               refine rn ?_
               refine bn ?_
               refine qn ?_
               replace hc := hc.pull 4 rfl rfl
               replace hc := hc.pull 4 rfl rfl
               replace hc := hc.pull 4 rfl rfl
               replace hc : Ctx w115 (S_link_Link.hp b0 (⟨j84.window, j84.span, j84.room, j84.epoch, j84.now, j84.next, j84.acked, j84.sent, j84.out, (IntKind.i64.wrap (j84.got + 1)), (mdel j84.early (IntKind.i64.wrap (j84.got + 1))), j84.owes⟩ : S_link_Link) :: Own (pRo (pInt .u8)) 38 (.slice a108 1 1) ([y99]) :: Hold (pRo (pInt .u8)) [.slice a101 y99.length q102] y99 :: B b5 [.pointer (some ⟨b0, 0, none⟩)] 27 :: Own (pRo (pInt .u8)) 38 (.slice a113 z110.length q114) z110 :: Fr) := Ctx.exB _ _ (Ctx.exB _ _ (Ctx.sepB (Ctx.sepB hc)))
               replace hc := hc.rem 2 rfl rfl
               replace hc := hc.rem 1 rfl rfl
               exact ⟨m4, Nat.lt_succ_self _, ⟨(⟨j84.window, j84.span, j84.room, j84.epoch, j84.now, j84.next, j84.acked, j84.sent, j84.out, (IntKind.i64.wrap (j84.got + 1)), (mdel j84.early (IntKind.i64.wrap (j84.got + 1))), j84.owes⟩ : S_link_Link), z110, a113, z110.length, q114, rfl, hp, hc⟩, (kl rfl k0)⟩
       · replace hp := gpos hp (of_decide_eq_true hb51)
         refine Wct rfl ?_
         refine Wseq ?_
         refine Wreg ?_
         refine rs (v := .slice none 0 0) (av (v := .slice none 0 0) rfl) rfl ?_
         refine rs (v := .int .i64 0) (av (v := .int .i64 0) rfl) rfl ?_
         refine rn ?_
         refine qn ?_
         refine Wret ?_
         refine qr ?_
         replace hc := hc.nilOwn (pRo (pInt .u8)) 38
         replace hc := hc.pull 3 rfl rfl
         replace hc := hc.pull 2 rfl rfl
         replace hc := hc.pull 3 rfl rfl
         replace hc : Ctx w50 (S_link_Link.hp b0 (⟨x0.window, x0.span, x0.room, x0.epoch, x0.now, x0.next, (max x0.acked x1.Ack), x0.sent, r44, x0.got, x0.early, x0.owes⟩ : S_link_Link) :: Own (pRo (pInt .u8)) 38 (.slice none 0 0) ([]) :: B b8 [.int .i64 x1.Epoch, .int .i64 x1.Seq, .int .i64 x1.Ack, .slice a1 x1.Body.length q3] 46 :: B b5 [.pointer (some ⟨b0, 0, none⟩)] 27 :: Hold (pRo (pInt .u8)) [.slice a1 x1.Body.length q3] x1.Body :: Fr) := Ctx.exB _ _ (Ctx.exB _ _ (Ctx.sepB (Ctx.sepB hc)))
         replace hc := hc.rem 4 rfl rfl
         replace hc := hc.rem 3 rfl rfl
         replace hc := hc.rem 2 rfl rfl
         replace hc := hc.pull 1 rfl rfl
         injection hp with hp; subst hp
         refine f2 (v := .slice none 0 0) (u := .int .i64 0) Try.results15 Try.ntmps15 rfl rfl ?_
         exact ⟨_, rfl, k _ _ _ _ hc⟩
     · replace hp := gpos hp hb25
       subst hb25
       refine Wct rfl ?_
       refine Wseq ?_
       refine Wreg ?_
       refine rs (v := .slice none 0 0) (av (v := .slice none 0 0) rfl) rfl ?_
       refine rs (v := .int .i64 150) (av (v := .int .i64 150) rfl) rfl ?_
       refine rn ?_
       refine qn ?_
       refine Wret ?_
       refine br ?_
       refine qr ?_
       replace hc := hc.nilOwn (pRo (pInt .u8)) 38
       replace hc := hc.rem 4 rfl rfl
       replace hc := hc.rem 3 rfl rfl
       replace hc := hc.rem 2 rfl rfl
       injection hp with hp; subst hp
       refine f2 (v := .slice none 0 0) (u := .int .i64 150) Try.results15 Try.ntmps15 rfl rfl ?_
       exact ⟨_, rfl, k _ _ _ _ hc⟩
 · replace hp := gpos hp (of_decide_eq_true hb17)
   refine Wct rfl ?_
   refine Wseq ?_
   refine Wreg ?_
   refine rs (v := .slice none 0 0) (av (v := .slice none 0 0) rfl) rfl ?_
   refine rs (v := .int .i64 160) (av (v := .int .i64 160) rfl) rfl ?_
   refine rn ?_
   refine qn ?_
   refine Wret ?_
   refine br ?_
   refine qr ?_
   replace hc := hc.nilOwn (pRo (pInt .u8)) 38
   replace hc := hc.pull 3 rfl rfl
   replace hc := hc.pull 3 rfl rfl
   replace hc := hc.pull 3 rfl rfl
   replace hc : Ctx w16 (S_link_Link.hp b0 x0 :: Own (pRo (pInt .u8)) 38 (.slice none 0 0) ([]) :: B b8 [.int .i64 x1.Epoch, .int .i64 x1.Seq, .int .i64 x1.Ack, .slice a1 x1.Body.length q3] 46 :: B b5 [.pointer (some ⟨b0, 0, none⟩)] 27 :: Hold (pRo (pInt .u8)) [.slice a1 x1.Body.length q3] x1.Body :: Fr) := Ctx.exB _ _ (Ctx.exB _ _ (Ctx.sepB (Ctx.sepB hc)))
   replace hc := hc.rem 4 rfl rfl
   replace hc := hc.rem 3 rfl rfl
   replace hc := hc.rem 2 rfl rfl
   replace hc := hc.pull 1 rfl rfl
   injection hp with hp; subst hp
   refine f2 (v := .slice none 0 0) (u := .int .i64 160) Try.results15 Try.ntmps15 rfl rfl ?_
   exact ⟨_, rfl, k _ _ _ _ hc⟩

-- FN (*peloton/link.Link).Reset
def link_Link_Reset (x0 : S_link_Link) (x1 : Int) : Option (Int × S_link_Link) :=
  if x1 ≤ x0.epoch then
    some (160, x0)
  else
    if x1 ≥ 1099511627776 then
      some (160, x0)
    else
      (link_New x0.window x0.span x0.room).bind fun r9 =>
      (r9.1).bind fun y12 =>
      some (0, (⟨y12.window, y12.span, y12.room, x1, y12.now, y12.next, y12.acked, y12.sent, y12.out, y12.got, y12.early, y12.owes⟩ : S_link_Link))

set_option maxHeartbeats 8000000 in
theorem link_Link_Reset_any {b0 : Nat} {x0 : S_link_Link} {x1 : Int} {Fr : List HP} {w : World} {r : Int × S_link_Link} {K : Value → World → Prop}  (hc : Ctx w (S_link_Link.hp b0 x0 :: Fr)) (hp : link_Link_Reset x0 x1 = some r)
    (k : ∀ w', Ctx w' (S_link_Link.hp b0 r.2 :: Fr) → K (.int .i64 r.1) w') : Calls Try.prog 23 #[.pointer (some ⟨b0, 0, none⟩), .int .i64 x1] w (Ret K) := by
 unfold link_Link_Reset at hp
 refine Center (args := [.pointer (some ⟨b0, 0, none⟩), .int .i64 x1]) (l := [(0, .pointer (some ⟨b0, 0, none⟩)), (1, .int .i64 x1)]) Try.func23 Try.ntmps23 rfl rfl rfl ?_
 refine Wseq ?_
 refine Wreg ?_
 refine rs (v := .int .i64 0) (av (v := .int .i64 0) rfl) rfl ?_
 refine rn ?_
 refine qn ?_
 refine Wseq ?_
 refine Wseq ?_
 refine Wreg ?_
 refine rs (v := .int .i64 x1) (mv (v := .int .i64 x1) rfl) rfl ?_
 refine rs (v := .pointer (some ⟨b0, 0, none⟩)) (mv (v := .pointer (some ⟨b0, 0, none⟩)) rfl) rfl ?_
 refine rs (v := .pointer (some ⟨b0, 0, none⟩)) (nl rfl) rfl ?_
 refine rs (v := .pointer (some ⟨b0, 3, none⟩)) (fax 3 rfl Try.underlying77 rfl Try.sizeOf3 rfl rfl rfl) rfl ?_
 replace hc := Ctx.exF hc; obtain ⟨v1, hc⟩ := hc
 replace hc := Ctx.exF hc; obtain ⟨v2, hc⟩ := hc
 replace hc := Ctx.sepF hc
 replace hc := Ctx.sepF hc
 obtain ⟨a3, q4, u5⟩ := hc.rd (k := 1) rfl rfl reads_own; subst u5
 refine rs (v := .int .i64 x0.epoch) (ld rfl Try.isAgg3 (Ctx.cell hc (k := 0) rfl rfl rfl)) rfl ?_
 refine rs (v := .bool (decide (x1 ≤ x0.epoch))) (le' rfl rfl) rfl ?_
 refine rs (v := .bool (decide (x1 ≤ x0.epoch))) (mv (v := .bool (decide (x1 ≤ x0.epoch))) rfl) rfl ?_
 cases hb6 : (decide (x1 ≤ x0.epoch))
 · replace hp := gneg hp (of_decide_eq_false hb6)
   refine rs (v := .int .i64 x1) (mv (v := .int .i64 x1) rfl) rfl ?_
   refine rs (v := .bool (decide (x1 ≥ 1099511627776))) (ge' rfl rfl) rfl ?_
   refine rs (v := .bool (decide (x1 ≥ 1099511627776))) (pkf (v := .bool (decide (x1 ≥ 1099511627776))) rfl rfl) rfl ?_
   refine rn ?_
   refine qn ?_
   cases hb7 : (decide (x1 ≥ 1099511627776))
   · replace hp := gneg hp (of_decide_eq_false hb7)
     refine Wcf rfl ?_
     refine Wskip ?_
     refine qn ?_
     refine Wseq ?_
     replace hc := hc.drew
     refine Wdrw (fun j w' => True) [0, 1, 3, 7, 0, 16, 48, 112, 0, 256, 768, 1792, 4095, 8191, 16383, 16383, 32767, 131071] 0 2184 rfl (by kernel_rfl) (fun _ _ => trivial) ?_
     generalize hw : World.drew w = w8 at *
     clear hw
     refine ds (v := .pointer (some ⟨b0, 0, none⟩)) rfl (fun w' hF => mv (v := .pointer (some ⟨b0, 0, none⟩)) rfl) rfl ?_
     refine ds (v := .pointer (some ⟨b0, 0, none⟩)) rfl (fun w' hF => nl rfl) rfl ?_
     refine ds (v := .pointer (some ⟨b0, 0, none⟩)) rfl (fun w' hF => fax 0 rfl Try.underlying77 rfl Try.sizeOf3 rfl rfl rfl) rfl ?_
     refine dx (v := .int .i64 x0.window) rfl (ld rfl Try.isAgg3 (Ctx.cell hc (k := 0) rfl rfl rfl)) rfl rfl ?_
     refine ds (v := .pointer (some ⟨b0, 0, none⟩)) rfl (fun w' hF => mv (v := .pointer (some ⟨b0, 0, none⟩)) rfl) rfl ?_
     refine ds (v := .pointer (some ⟨b0, 0, none⟩)) rfl (fun w' hF => nl rfl) rfl ?_
     refine ds (v := .pointer (some ⟨b0, 1, none⟩)) rfl (fun w' hF => fax 1 rfl Try.underlying77 rfl Try.sizeOf3 rfl rfl rfl) rfl ?_
     refine dx (v := .int .i64 x0.span) rfl (ld rfl Try.isAgg3 (Ctx.cell hc (k := 0) rfl rfl rfl)) rfl rfl ?_
     refine ds (v := .pointer (some ⟨b0, 0, none⟩)) rfl (fun w' hF => mv (v := .pointer (some ⟨b0, 0, none⟩)) rfl) rfl ?_
     refine ds (v := .pointer (some ⟨b0, 0, none⟩)) rfl (fun w' hF => nl rfl) rfl ?_
     refine ds (v := .pointer (some ⟨b0, 2, none⟩)) rfl (fun w' hF => fax 2 rfl Try.underlying77 rfl Try.sizeOf3 rfl rfl rfl) rfl ?_
     refine dx (v := .int .i64 x0.room) rfl (ld rfl Try.isAgg3 (Ctx.cell hc (k := 0) rfl rfl rfl)) rfl rfl ?_
     replace hp := bind_some hp; obtain ⟨r9, hr9, hp⟩ := hp
     refine dc (cl Try.call8 rfl rfl) rfl rfl ?_
     refine link_New_any hc hr9 ?_
     clear hc; intro v10 w11 hc
     refine ⟨fun j hj hb => trivial, ?_⟩
     refine ds (v := .tuple #[v10, .int .i64 r9.2]) rfl (fun w' hF => mv (v := .tuple #[v10, .int .i64 r9.2]) rfl) rfl ?_
     refine ds (v := v10) rfl (fun w' hF => ext (v := v10) rfl rfl) rfl ?_
     refine ds (v := .int .i64 r9.2) rfl (fun w' hF => ext (v := .int .i64 r9.2) rfl rfl) rfl ?_
     refine ds (v := v10) rfl (fun w' hF => av (v := v10) rfl) rfl ?_
     refine ds (v := .int .i64 r9.2) rfl (fun w' hF => av (v := .int .i64 r9.2) rfl) rfl ?_
     refine dn ?_
     refine qn ?_
     refine Wseq ?_
     refine Wreg ?_
     refine rs (v := v10) (mv (v := v10) rfl) rfl ?_
     refine rs (v := .int .i64 x1) (mv (v := .int .i64 x1) rfl) rfl ?_
     replace hp := bind_some hp; obtain ⟨y12, hy12, hp⟩ := hp
     rw [hy12] at hc
     replace hc := Ctx.ptoS hc; obtain ⟨b13, u14, hc⟩ := hc; subst u14
     refine rs (v := .pointer (some ⟨b13, 0, none⟩)) (nl rfl) rfl ?_
     refine rs (v := .pointer (some ⟨b13, 3, none⟩)) (fax 3 rfl Try.underlying77 rfl Try.sizeOf3 rfl rfl rfl) rfl ?_
     replace hc := Ctx.exF hc; obtain ⟨v15, hc⟩ := hc
     replace hc := Ctx.exF hc; obtain ⟨v16, hc⟩ := hc
     replace hc := Ctx.sepF hc
     replace hc := Ctx.sepF hc
     obtain ⟨a17, q18, u19⟩ := hc.rd (k := 1) rfl rfl reads_own; subst u19
     refine ruE (A := fun w' => Ctx w' (B b13 [.int .i64 y12.window, .int .i64 y12.span, .int .i64 y12.room, .int .i64 x1, .int .i64 y12.now, .int .i64 y12.next, .int .i64 y12.acked, .int .i64 y12.sent, .slice a17 y12.out.length q18, .int .i64 y12.got, .map (some v16), .bool y12.owes] 77 :: Own S_link_body.pr 82 (.slice a17 y12.out.length q18) y12.out :: Mp (ekI .i64) (HV vf1 (pRo (pInt .u8))) v16 y12.early :: B b0 [.int .i64 x0.window, .int .i64 x0.span, .int .i64 x0.room, .int .i64 x0.epoch, .int .i64 x0.now, .int .i64 x0.next, .int .i64 x0.acked, .int .i64 x0.sent, .slice a3 x0.out.length q4, .int .i64 x0.got, .map (some v2), .bool x0.owes] 77 :: Own S_link_body.pr 82 (.slice a3 x0.out.length q4) x0.out :: Mp (ekI .i64) (HV vf1 (pRo (pInt .u8))) v2 x0.early :: Fr)) (Ctx.putOp hc (k := 0) rfl rfl (v := .int .i64 x1) rfl rfl rfl Try.sizeOf3 rfl rfl rfl) rfl ?_
     clear hc; rintro w20 hc
     refine rn ?_
     refine qn ?_
     refine Wseq ?_
     refine Wreg ?_
     refine rs (v := .pointer (some ⟨b0, 0, none⟩)) (mv (v := .pointer (some ⟨b0, 0, none⟩)) rfl) rfl ?_
     refine rs (v := .pointer (some ⟨b13, 0, none⟩)) (mv (v := .pointer (some ⟨b13, 0, none⟩)) rfl) rfl ?_
     refine rs (v := .pointer (some ⟨b13, 0, none⟩)) (nl rfl) rfl ?_
     refine rs (v := .agg #[.int .i64 y12.window, .int .i64 y12.span, .int .i64 y12.room, .int .i64 x1, .int .i64 y12.now, .int .i64 y12.next, .int .i64 y12.acked, .int .i64 y12.sent, .slice a17 y12.out.length q18, .int .i64 y12.got, .map (some v16), .bool y12.owes]) (ldg rfl Try.isAgg77 Try.sizeOf77 rfl (Ctx.cells hc (k := 0) rfl rfl 0 (vs := [.int .i64 y12.window, .int .i64 y12.span, .int .i64 y12.room, .int .i64 x1, .int .i64 y12.now, .int .i64 y12.next, .int .i64 y12.acked, .int .i64 y12.sent, .slice a17 y12.out.length q18, .int .i64 y12.got, .map (some v16), .bool y12.owes]) rfl)) rfl ?_
     refine rs (v := .pointer (some ⟨b0, 0, none⟩)) (nl rfl) rfl ?_
     refine ruE (A := fun w' => Ctx w' (B b13 [.int .i64 y12.window, .int .i64 y12.span, .int .i64 y12.room, .int .i64 x1, .int .i64 y12.now, .int .i64 y12.next, .int .i64 y12.acked, .int .i64 y12.sent, .slice a17 y12.out.length q18, .int .i64 y12.got, .map (some v16), .bool y12.owes] 77 :: Own S_link_body.pr 82 (.slice a17 y12.out.length q18) y12.out :: Mp (ekI .i64) (HV vf1 (pRo (pInt .u8))) v16 y12.early :: B b0 [.int .i64 y12.window, .int .i64 y12.span, .int .i64 y12.room, .int .i64 x1, .int .i64 y12.now, .int .i64 y12.next, .int .i64 y12.acked, .int .i64 y12.sent, .slice a17 y12.out.length q18, .int .i64 y12.got, .map (some v16), .bool y12.owes] 77 :: Own S_link_body.pr 82 (.slice a3 x0.out.length q4) x0.out :: Mp (ekI .i64) (HV vf1 (pRo (pInt .u8))) v2 x0.early :: Fr)) (Ctx.putAgg hc (k := 3) rfl rfl (vs := [.int .i64 y12.window, .int .i64 y12.span, .int .i64 y12.room, .int .i64 x1, .int .i64 y12.now, .int .i64 y12.next, .int .i64 y12.acked, .int .i64 y12.sent, .slice a17 y12.out.length q18, .int .i64 y12.got, .map (some v16), .bool y12.owes]) rfl rfl rfl Try.sizeOf77 rfl rfl rfl) rfl ?_
     clear hc; rintro w21 hc
     refine rn ?_
     refine qn ?_
     refine Wseq ?_
     refine Wreg ?_
     refine rs (v := .int .i64 0) (av (v := .int .i64 0) rfl) rfl ?_
     refine rn ?_
     refine qn ?_
     refine Wret ?_
     replace hc := hc.pull 2 rfl rfl
     replace hc := hc.pull 2 rfl rfl
     replace hc := hc.pull 3 rfl rfl
     replace hc : Ctx w21 (S_link_Link.hp b0 (⟨y12.window, y12.span, y12.room, x1, y12.now, y12.next, y12.acked, y12.sent, y12.out, y12.got, y12.early, y12.owes⟩ : S_link_Link) :: B b13 [.int .i64 y12.window, .int .i64 y12.span, .int .i64 y12.room, .int .i64 x1, .int .i64 y12.now, .int .i64 y12.next, .int .i64 y12.acked, .int .i64 y12.sent, .slice a17 y12.out.length q18, .int .i64 y12.got, .map (some v16), .bool y12.owes] 77 :: Own S_link_body.pr 82 (.slice a3 x0.out.length q4) x0.out :: Mp (ekI .i64) (HV vf1 (pRo (pInt .u8))) v2 x0.early :: Fr) := Ctx.exB _ _ (Ctx.exB _ _ (Ctx.sepB (Ctx.sepB hc)))
     replace hc := hc.rem 3 rfl rfl
     replace hc := hc.rem 2 rfl rfl
     replace hc := hc.rem 1 rfl rfl
     injection hp with hp; subst hp
     refine f1 (v := .int .i64 0) Try.results23 Try.ntmps23 rfl ?_
     exact ⟨_, rfl, k _ hc⟩
   · replace hp := gpos hp (of_decide_eq_true hb7)
     refine Wct rfl ?_
     refine Wseq ?_
     refine Wreg ?_
     refine rs (v := .int .i64 160) (av (v := .int .i64 160) rfl) rfl ?_
     refine rn ?_
     refine qn ?_
     refine Wret ?_
     refine qr ?_
     replace hc := hc.pull 2 rfl rfl
     replace hc := hc.pull 2 rfl rfl
     replace hc := hc.pull 2 rfl rfl
     replace hc : Ctx w (S_link_Link.hp b0 x0 :: Fr) := Ctx.exB _ _ (Ctx.exB _ _ (Ctx.sepB (Ctx.sepB hc)))
     injection hp with hp; subst hp
     refine f1 (v := .int .i64 160) Try.results23 Try.ntmps23 rfl ?_
     exact ⟨_, rfl, k _ hc⟩
 · replace hp := gpos hp (of_decide_eq_true hb6)
   refine r0 rfl ?_
   refine r0 rfl ?_
   refine rs (v := .bool true) (pkt (v := .bool true) rfl rfl) rfl ?_
   refine rn ?_
   refine qn ?_
   refine Wct rfl ?_
   refine Wseq ?_
   refine Wreg ?_
   refine rs (v := .int .i64 160) (av (v := .int .i64 160) rfl) rfl ?_
   refine rn ?_
   refine qn ?_
   refine Wret ?_
   refine qr ?_
   replace hc := hc.pull 2 rfl rfl
   replace hc := hc.pull 2 rfl rfl
   replace hc := hc.pull 2 rfl rfl
   replace hc : Ctx w (S_link_Link.hp b0 x0 :: Fr) := Ctx.exB _ _ (Ctx.exB _ _ (Ctx.sepB (Ctx.sepB hc)))
   injection hp with hp; subst hp
   refine f1 (v := .int .i64 160) Try.results23 Try.ntmps23 rfl ?_
   exact ⟨_, rfl, k _ hc⟩

-- FN (*peloton/link.Link).Left
def link_Link_Left (x0 : S_link_Link) : Option (Int) :=
  some ((x0.out.length : Nat) : Int)

set_option maxHeartbeats 8000000 in
theorem link_Link_Left_any {b0 : Nat} {x0 : S_link_Link} {Fr : List HP} {w : World} {r : Int} {K : Value → World → Prop}  (hc : Ctx w (S_link_Link.hp b0 x0 :: Fr)) (hp : link_Link_Left x0 = some r)
    (k : ∀ w', Ctx w' (S_link_Link.hp b0 x0 :: Fr) → K (.int .i64 r) w') : Calls Try.prog 10 #[.pointer (some ⟨b0, 0, none⟩)] w (Ret K) := by
 unfold link_Link_Left at hp
 refine Center (args := [.pointer (some ⟨b0, 0, none⟩)]) (l := [(0, .pointer (some ⟨b0, 0, none⟩))]) Try.func10 Try.ntmps10 rfl rfl rfl ?_
 refine Wseq ?_
 refine Wreg ?_
 refine rs (v := .int .i64 0) (av (v := .int .i64 0) rfl) rfl ?_
 refine rn ?_
 refine qn ?_
 refine Wseq ?_
 refine Wreg ?_
 refine rs (v := .pointer (some ⟨b0, 0, none⟩)) (mv (v := .pointer (some ⟨b0, 0, none⟩)) rfl) rfl ?_
 refine rs (v := .pointer (some ⟨b0, 0, none⟩)) (nl rfl) rfl ?_
 refine rs (v := .pointer (some ⟨b0, 8, none⟩)) (fax 8 rfl Try.underlying77 rfl Try.sizeOf75 rfl rfl rfl) rfl ?_
 replace hc := Ctx.exF hc; obtain ⟨v1, hc⟩ := hc
 replace hc := Ctx.exF hc; obtain ⟨v2, hc⟩ := hc
 replace hc := Ctx.sepF hc
 replace hc := Ctx.sepF hc
 obtain ⟨a3, q4, u5⟩ := hc.rd (k := 1) rfl rfl reads_own; subst u5
 refine rs (v := .slice a3 x0.out.length q4) (ld rfl Try.isAgg75 (Ctx.cell hc (k := 0) rfl rfl rfl)) rfl ?_
 refine rs (v := .int .i64 ((x0.out.length : Nat) : Int)) (ln rfl Try.underlying75) rfl ?_
 refine rs (v := .int .i64 ((x0.out.length : Nat) : Int)) (av (v := .int .i64 ((x0.out.length : Nat) : Int)) rfl) rfl ?_
 refine rn ?_
 refine qn ?_
 refine Wret ?_
 replace hc := hc.pull 2 rfl rfl
 replace hc := hc.pull 2 rfl rfl
 replace hc := hc.pull 2 rfl rfl
 replace hc : Ctx w (S_link_Link.hp b0 x0 :: Fr) := Ctx.exB _ _ (Ctx.exB _ _ (Ctx.sepB (Ctx.sepB hc)))
 injection hp with hp; subst hp
 refine f1 (v := .int .i64 ((x0.out.length : Nat) : Int)) Try.results10 Try.ntmps10 rfl ?_
 exact ⟨_, rfl, k _ hc⟩

-- FN (*peloton/link.Link).Got
def link_Link_Got (x0 : S_link_Link) : Option (Int) :=
  some x0.got

set_option maxHeartbeats 8000000 in
theorem link_Link_Got_any {b0 : Nat} {x0 : S_link_Link} {Fr : List HP} {w : World} {r : Int} {K : Value → World → Prop}  (hc : Ctx w (S_link_Link.hp b0 x0 :: Fr)) (hp : link_Link_Got x0 = some r)
    (k : ∀ w', Ctx w' (S_link_Link.hp b0 x0 :: Fr) → K (.int .i64 r) w') : Calls Try.prog 25 #[.pointer (some ⟨b0, 0, none⟩)] w (Ret K) := by
 unfold link_Link_Got at hp
 refine Center (args := [.pointer (some ⟨b0, 0, none⟩)]) (l := [(0, .pointer (some ⟨b0, 0, none⟩))]) Try.func25 Try.ntmps25 rfl rfl rfl ?_
 refine Wseq ?_
 refine Wreg ?_
 refine rs (v := .int .i64 0) (av (v := .int .i64 0) rfl) rfl ?_
 refine rn ?_
 refine qn ?_
 refine Wseq ?_
 refine Wreg ?_
 refine rs (v := .pointer (some ⟨b0, 0, none⟩)) (mv (v := .pointer (some ⟨b0, 0, none⟩)) rfl) rfl ?_
 refine rs (v := .pointer (some ⟨b0, 0, none⟩)) (nl rfl) rfl ?_
 refine rs (v := .pointer (some ⟨b0, 9, none⟩)) (fax 9 rfl Try.underlying77 rfl Try.sizeOf3 rfl rfl rfl) rfl ?_
 replace hc := Ctx.exF hc; obtain ⟨v1, hc⟩ := hc
 replace hc := Ctx.exF hc; obtain ⟨v2, hc⟩ := hc
 replace hc := Ctx.sepF hc
 replace hc := Ctx.sepF hc
 obtain ⟨a3, q4, u5⟩ := hc.rd (k := 1) rfl rfl reads_own; subst u5
 refine rs (v := .int .i64 x0.got) (ld rfl Try.isAgg3 (Ctx.cell hc (k := 0) rfl rfl rfl)) rfl ?_
 refine rs (v := .int .i64 x0.got) (av (v := .int .i64 x0.got) rfl) rfl ?_
 refine rn ?_
 refine qn ?_
 refine Wret ?_
 replace hc := hc.pull 2 rfl rfl
 replace hc := hc.pull 2 rfl rfl
 replace hc := hc.pull 2 rfl rfl
 replace hc : Ctx w (S_link_Link.hp b0 x0 :: Fr) := Ctx.exB _ _ (Ctx.exB _ _ (Ctx.sepB (Ctx.sepB hc)))
 injection hp with hp; subst hp
 refine f1 (v := .int .i64 x0.got) Try.results25 Try.ntmps25 rfl ?_
 exact ⟨_, rfl, k _ hc⟩

-- FN (*peloton/link.Link).Epoch
def link_Link_Epoch (x0 : S_link_Link) : Option (Int) :=
  some x0.epoch

set_option maxHeartbeats 8000000 in
theorem link_Link_Epoch_any {b0 : Nat} {x0 : S_link_Link} {Fr : List HP} {w : World} {r : Int} {K : Value → World → Prop}  (hc : Ctx w (S_link_Link.hp b0 x0 :: Fr)) (hp : link_Link_Epoch x0 = some r)
    (k : ∀ w', Ctx w' (S_link_Link.hp b0 x0 :: Fr) → K (.int .i64 r) w') : Calls Try.prog 26 #[.pointer (some ⟨b0, 0, none⟩)] w (Ret K) := by
 unfold link_Link_Epoch at hp
 refine Center (args := [.pointer (some ⟨b0, 0, none⟩)]) (l := [(0, .pointer (some ⟨b0, 0, none⟩))]) Try.func26 Try.ntmps26 rfl rfl rfl ?_
 refine Wseq ?_
 refine Wreg ?_
 refine rs (v := .int .i64 0) (av (v := .int .i64 0) rfl) rfl ?_
 refine rn ?_
 refine qn ?_
 refine Wseq ?_
 refine Wreg ?_
 refine rs (v := .pointer (some ⟨b0, 0, none⟩)) (mv (v := .pointer (some ⟨b0, 0, none⟩)) rfl) rfl ?_
 refine rs (v := .pointer (some ⟨b0, 0, none⟩)) (nl rfl) rfl ?_
 refine rs (v := .pointer (some ⟨b0, 3, none⟩)) (fax 3 rfl Try.underlying77 rfl Try.sizeOf3 rfl rfl rfl) rfl ?_
 replace hc := Ctx.exF hc; obtain ⟨v1, hc⟩ := hc
 replace hc := Ctx.exF hc; obtain ⟨v2, hc⟩ := hc
 replace hc := Ctx.sepF hc
 replace hc := Ctx.sepF hc
 obtain ⟨a3, q4, u5⟩ := hc.rd (k := 1) rfl rfl reads_own; subst u5
 refine rs (v := .int .i64 x0.epoch) (ld rfl Try.isAgg3 (Ctx.cell hc (k := 0) rfl rfl rfl)) rfl ?_
 refine rs (v := .int .i64 x0.epoch) (av (v := .int .i64 x0.epoch) rfl) rfl ?_
 refine rn ?_
 refine qn ?_
 refine Wret ?_
 replace hc := hc.pull 2 rfl rfl
 replace hc := hc.pull 2 rfl rfl
 replace hc := hc.pull 2 rfl rfl
 replace hc : Ctx w (S_link_Link.hp b0 x0 :: Fr) := Ctx.exB _ _ (Ctx.exB _ _ (Ctx.sepB (Ctx.sepB hc)))
 injection hp with hp; subst hp
 refine f1 (v := .int .i64 x0.epoch) Try.results26 Try.ntmps26 rfl ?_
 exact ⟨_, rfl, k _ hc⟩

-- FN peloton/pelotonref16.Right
def ref16_Right (x0 : Int) (x1 : Int) (x2 : Int) : Option (Bool) :=
  if x0 > 0 then
    if x0 < 65 then
      if x1 > 0 then
        if x1 < 1001 then
          if x2 > 0 then
            some (decide (x2 < 4097))
          else
            some false
        else
          some false
      else
        some false
    else
      some false
  else
    some false

set_option maxHeartbeats 8000000 in
theorem ref16_Right_any {x0 : Int} {x1 : Int} {x2 : Int} {Fr : List HP} {w : World} {r : Bool} {K : Value → World → Prop}  (hc : Ctx w (Fr)) (hp : ref16_Right x0 x1 x2 = some r)
    (k : ∀ w', Ctx w' (Fr) → K (.bool r) w') : Calls Try.prog 16 #[.int .i64 x0, .int .i64 x1, .int .i64 x2] w (Ret K) := by
 unfold ref16_Right at hp
 refine Center (args := [.int .i64 x0, .int .i64 x1, .int .i64 x2]) (l := [(0, .int .i64 x0), (1, .int .i64 x1), (2, .int .i64 x2)]) Try.func16 Try.ntmps16 rfl rfl rfl ?_
 refine Wseq ?_
 refine Wreg ?_
 refine rs (v := .bool false) (av (v := .bool false) rfl) rfl ?_
 refine rn ?_
 refine qn ?_
 refine Wseq ?_
 refine Wreg ?_
 refine rs (v := .int .i64 x0) (mv (v := .int .i64 x0) rfl) rfl ?_
 refine rs (v := .bool (decide (x0 > 0))) (gt' rfl rfl) rfl ?_
 refine rs (v := .bool (decide (x0 > 0))) (mv (v := .bool (decide (x0 > 0))) rfl) rfl ?_
 cases hb1 : (decide (x0 > 0))
 · replace hp := gneg hp (of_decide_eq_false hb1)
   refine r0 rfl ?_
   refine r0 rfl ?_
   refine rs (v := .bool false) (pkf (v := .bool false) rfl rfl) rfl ?_
   refine rs (v := .bool false) (mv (v := .bool false) rfl) rfl ?_
   refine r0 rfl ?_
   refine r0 rfl ?_
   refine rs (v := .bool false) (pkf (v := .bool false) rfl rfl) rfl ?_
   refine rs (v := .bool false) (mv (v := .bool false) rfl) rfl ?_
   refine r0 rfl ?_
   refine r0 rfl ?_
   refine rs (v := .bool false) (pkf (v := .bool false) rfl rfl) rfl ?_
   refine rs (v := .bool false) (mv (v := .bool false) rfl) rfl ?_
   refine r0 rfl ?_
   refine r0 rfl ?_
   refine rs (v := .bool false) (pkf (v := .bool false) rfl rfl) rfl ?_
   refine rs (v := .bool false) (mv (v := .bool false) rfl) rfl ?_
   refine r0 rfl ?_
   refine r0 rfl ?_
   refine rs (v := .bool false) (pkf (v := .bool false) rfl rfl) rfl ?_
   refine rs (v := .bool false) (av (v := .bool false) rfl) rfl ?_
   refine rn ?_
   refine qn ?_
   refine Wret ?_
   injection hp with hp; subst hp
   refine f1 (v := .bool false) Try.results16 Try.ntmps16 rfl ?_
   exact ⟨_, rfl, k _ hc⟩
 · replace hp := gpos hp (of_decide_eq_true hb1)
   refine rs (v := .int .i64 x0) (mv (v := .int .i64 x0) rfl) rfl ?_
   refine rs (v := .bool (decide (x0 < 65))) (lt' rfl rfl) rfl ?_
   refine rs (v := .bool (decide (x0 < 65))) (pkt (v := .bool (decide (x0 < 65))) rfl rfl) rfl ?_
   refine rs (v := .bool (decide (x0 < 65))) (mv (v := .bool (decide (x0 < 65))) rfl) rfl ?_
   cases hb2 : (decide (x0 < 65))
   · replace hp := gneg hp (of_decide_eq_false hb2)
     refine r0 rfl ?_
     refine r0 rfl ?_
     refine rs (v := .bool false) (pkf (v := .bool false) rfl rfl) rfl ?_
     refine rs (v := .bool false) (mv (v := .bool false) rfl) rfl ?_
     refine r0 rfl ?_
     refine r0 rfl ?_
     refine rs (v := .bool false) (pkf (v := .bool false) rfl rfl) rfl ?_
     refine rs (v := .bool false) (mv (v := .bool false) rfl) rfl ?_
     refine r0 rfl ?_
     refine r0 rfl ?_
     refine rs (v := .bool false) (pkf (v := .bool false) rfl rfl) rfl ?_
     refine rs (v := .bool false) (mv (v := .bool false) rfl) rfl ?_
     refine r0 rfl ?_
     refine r0 rfl ?_
     refine rs (v := .bool false) (pkf (v := .bool false) rfl rfl) rfl ?_
     refine rs (v := .bool false) (av (v := .bool false) rfl) rfl ?_
     refine rn ?_
     refine qn ?_
     refine Wret ?_
     injection hp with hp; subst hp
     refine f1 (v := .bool false) Try.results16 Try.ntmps16 rfl ?_
     exact ⟨_, rfl, k _ hc⟩
   · replace hp := gpos hp (of_decide_eq_true hb2)
     refine rs (v := .int .i64 x1) (mv (v := .int .i64 x1) rfl) rfl ?_
     refine rs (v := .bool (decide (x1 > 0))) (gt' rfl rfl) rfl ?_
     refine rs (v := .bool (decide (x1 > 0))) (pkt (v := .bool (decide (x1 > 0))) rfl rfl) rfl ?_
     refine rs (v := .bool (decide (x1 > 0))) (mv (v := .bool (decide (x1 > 0))) rfl) rfl ?_
     cases hb3 : (decide (x1 > 0))
     · replace hp := gneg hp (of_decide_eq_false hb3)
       refine r0 rfl ?_
       refine r0 rfl ?_
       refine rs (v := .bool false) (pkf (v := .bool false) rfl rfl) rfl ?_
       refine rs (v := .bool false) (mv (v := .bool false) rfl) rfl ?_
       refine r0 rfl ?_
       refine r0 rfl ?_
       refine rs (v := .bool false) (pkf (v := .bool false) rfl rfl) rfl ?_
       refine rs (v := .bool false) (mv (v := .bool false) rfl) rfl ?_
       refine r0 rfl ?_
       refine r0 rfl ?_
       refine rs (v := .bool false) (pkf (v := .bool false) rfl rfl) rfl ?_
       refine rs (v := .bool false) (av (v := .bool false) rfl) rfl ?_
       refine rn ?_
       refine qn ?_
       refine Wret ?_
       injection hp with hp; subst hp
       refine f1 (v := .bool false) Try.results16 Try.ntmps16 rfl ?_
       exact ⟨_, rfl, k _ hc⟩
     · replace hp := gpos hp (of_decide_eq_true hb3)
       refine rs (v := .int .i64 x1) (mv (v := .int .i64 x1) rfl) rfl ?_
       refine rs (v := .bool (decide (x1 < 1001))) (lt' rfl rfl) rfl ?_
       refine rs (v := .bool (decide (x1 < 1001))) (pkt (v := .bool (decide (x1 < 1001))) rfl rfl) rfl ?_
       refine rs (v := .bool (decide (x1 < 1001))) (mv (v := .bool (decide (x1 < 1001))) rfl) rfl ?_
       cases hb4 : (decide (x1 < 1001))
       · replace hp := gneg hp (of_decide_eq_false hb4)
         refine r0 rfl ?_
         refine r0 rfl ?_
         refine rs (v := .bool false) (pkf (v := .bool false) rfl rfl) rfl ?_
         refine rs (v := .bool false) (mv (v := .bool false) rfl) rfl ?_
         refine r0 rfl ?_
         refine r0 rfl ?_
         refine rs (v := .bool false) (pkf (v := .bool false) rfl rfl) rfl ?_
         refine rs (v := .bool false) (av (v := .bool false) rfl) rfl ?_
         refine rn ?_
         refine qn ?_
         refine Wret ?_
         injection hp with hp; subst hp
         refine f1 (v := .bool false) Try.results16 Try.ntmps16 rfl ?_
         exact ⟨_, rfl, k _ hc⟩
       · replace hp := gpos hp (of_decide_eq_true hb4)
         refine rs (v := .int .i64 x2) (mv (v := .int .i64 x2) rfl) rfl ?_
         refine rs (v := .bool (decide (x2 > 0))) (gt' rfl rfl) rfl ?_
         refine rs (v := .bool (decide (x2 > 0))) (pkt (v := .bool (decide (x2 > 0))) rfl rfl) rfl ?_
         refine rs (v := .bool (decide (x2 > 0))) (mv (v := .bool (decide (x2 > 0))) rfl) rfl ?_
         cases hb5 : (decide (x2 > 0))
         · replace hp := gneg hp (of_decide_eq_false hb5)
           refine r0 rfl ?_
           refine r0 rfl ?_
           refine rs (v := .bool false) (pkf (v := .bool false) rfl rfl) rfl ?_
           refine rs (v := .bool false) (av (v := .bool false) rfl) rfl ?_
           refine rn ?_
           refine qn ?_
           refine Wret ?_
           injection hp with hp; subst hp
           refine f1 (v := .bool false) Try.results16 Try.ntmps16 rfl ?_
           exact ⟨_, rfl, k _ hc⟩
         · replace hp := gpos hp (of_decide_eq_true hb5)
           refine rs (v := .int .i64 x2) (mv (v := .int .i64 x2) rfl) rfl ?_
           refine rs (v := .bool (decide (x2 < 4097))) (lt' rfl rfl) rfl ?_
           refine rs (v := .bool (decide (x2 < 4097))) (pkt (v := .bool (decide (x2 < 4097))) rfl rfl) rfl ?_
           refine rs (v := .bool (decide (x2 < 4097))) (av (v := .bool (decide (x2 < 4097))) rfl) rfl ?_
           refine rn ?_
           refine qn ?_
           refine Wret ?_
           injection hp with hp; subst hp
           refine f1 (v := .bool (decide (x2 < 4097))) Try.results16 Try.ntmps16 rfl ?_
           exact ⟨_, rfl, k _ hc⟩

end Go.Proofs.Ytjileigclbohdaa
