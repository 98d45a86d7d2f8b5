-- Written by a program of this session (a driver over the kit's print), with hand-proved parts.
import Derived.Test.YtbkmocebohdgnaaPCurveWholex0
import Derived.Test.YtbkmocebohdgnaaPCurveWholex1
import Derived.Test.YtbkmocebohdgnaaPCurveWholex2
namespace Go.Proofs.Ytbkmocebohdgnaa.PCurveWhole
open Go.RowKit Go.Proofs.YtbkmocebohdgnaaW.PrintWords Go.Proofs.YtbkmocebohdgnaaW.PrintLast Go.Proofs.YtbkmocebohdgnaaW.PrintMore
attribute [local go_sem] max2_int min2_int max_two min_two max_three min_three max_four min_four   -- for this text's walks alone
set_option linter.unusedVariables false
set_option linter.unusedSimpArgs false

/-! ### pelotonlaw02_CurveWhole: function 6 -/
mutual
def pelotonlaw02_CurveWhole.j0 : Nat → Int → List Int → Bool → Option (Bool)
  | 0, _, _, _ => none
  | k + 1, x0, x1, x15 => if x15 = true then ((pelotonlaw02_awake.f k).bind fun t134 => (some t134)) else ((curve_Shares.f k x0 x1).bind fun t135 => (if (t135.length : Int) = (x1.length : Int) then (pelotonlaw02_CurveWhole.l0 k x0 x1 t135 0 0 0) else (some false)))
def pelotonlaw02_CurveWhole.l0 : Nat → Int → List Int → List Int → Int → Int → Int → Option (Bool)
  | 0, _, _, _, _, _, _ => none
  | k + 1, x0, x1, x5, x6, x7, x8 => if x8 < (x5.length : Int) then (if 0 ≤ x8 then (if (rd x5 x8) < 0 then (pelotonlaw02_CurveWhole.j2 k x0 x1 x5 x6 x7 x8 true) else (if x8 < (x1.length : Int) then (if (rd x1 x8) ≤ 0 then (if (rd x5 x8) = 0 then (if x8 > 0 then (if 0 ≤ (wrap64 (x8 - 1)) then (if (wrap64 (x8 - 1)) < (x1.length : Int) then (if (rd x1 x8) = (rd x1 (wrap64 (x8 - 1))) then (if (wrap64 (x8 - 1)) < (x5.length : Int) then (pelotonlaw02_CurveWhole.j2 k x0 x1 x5 x6 x7 x8 ((rd x5 x8) != (rd x5 (wrap64 (x8 - 1))))) else (none)) else (pelotonlaw02_CurveWhole.j2 k x0 x1 x5 x6 x7 x8 false)) else (none)) else (none)) else (pelotonlaw02_CurveWhole.j2 k x0 x1 x5 x6 x7 x8 false)) else (pelotonlaw02_CurveWhole.j2 k x0 x1 x5 x6 x7 x8 true)) else (if x8 > 0 then (if 0 ≤ (wrap64 (x8 - 1)) then (if (wrap64 (x8 - 1)) < (x1.length : Int) then (if (rd x1 x8) = (rd x1 (wrap64 (x8 - 1))) then (if (wrap64 (x8 - 1)) < (x5.length : Int) then (pelotonlaw02_CurveWhole.j2 k x0 x1 x5 x6 x7 x8 ((rd x5 x8) != (rd x5 (wrap64 (x8 - 1))))) else (none)) else (pelotonlaw02_CurveWhole.j2 k x0 x1 x5 x6 x7 x8 false)) else (none)) else (none)) else (pelotonlaw02_CurveWhole.j2 k x0 x1 x5 x6 x7 x8 false))) else (none))) else (none)) else (if x7 = 0 then (some (x6 == 0)) else (if x0 ≤ 0 then (some (x6 == 0)) else (if x6 ≤ (wrap64 (x0)) then (some (decide ((wrap64 ((wrap64 (x0)) - x6)) < x7))) else (some false))))
def pelotonlaw02_CurveWhole.j2 : Nat → Int → List Int → List Int → Int → Int → Int → Bool → Option (Bool)
  | 0, _, _, _, _, _, _, _ => none
  | k + 1, x0, x1, x5, x6, x7, x8, x77 => if x77 = true then (some false) else (if 0 ≤ x8 then (if x8 < (x5.length : Int) then (if x8 < (x1.length : Int) then (if (rd x1 x8) > 0 then (pelotonlaw02_CurveWhole.l0 k x0 x1 x5 (wrap64 (x6 + (wrap64 (rd x5 x8)))) (wrap64 (x7 + 1)) (wrap64 (x8 + 1))) else (pelotonlaw02_CurveWhole.l0 k x0 x1 x5 (wrap64 (x6 + (wrap64 (rd x5 x8)))) x7 (wrap64 (x8 + 1)))) else (none)) else (none)) else (none))
end
def pelotonlaw02_CurveWhole.f (k : Nat) (a0 : Int) (l1 : List Int) : Option (Bool) := (pelotonlaw02_awake.f k).bind fun t133 => (if t133 = true then (pelotonlaw02_CurveWhole.j0 k a0 l1 (decide ((l1.length : Int) > 200))) else (pelotonlaw02_CurveWhole.j0 k a0 l1 true))
theorem pelotonlaw02_CurveWhole.mono_l : ∀ k, (∀ y0 y1 y2, LeO (pelotonlaw02_CurveWhole.j0 k y0 y1 y2) (pelotonlaw02_CurveWhole.j0 (k + 1) y0 y1 y2)) ∧ (∀ y0 y1 y2 y3 y4 y5, LeO (pelotonlaw02_CurveWhole.l0 k y0 y1 y2 y3 y4 y5) (pelotonlaw02_CurveWhole.l0 (k + 1) y0 y1 y2 y3 y4 y5)) ∧ (∀ y0 y1 y2 y3 y4 y5 y6, LeO (pelotonlaw02_CurveWhole.j2 k y0 y1 y2 y3 y4 y5 y6) (pelotonlaw02_CurveWhole.j2 (k + 1) y0 y1 y2 y3 y4 y5 y6))
  | 0 => ⟨fun _ _ _ r h => by simp [pelotonlaw02_CurveWhole.j0] at h, fun _ _ _ _ _ _ r h => by simp [pelotonlaw02_CurveWhole.l0] at h, fun _ _ _ _ _ _ _ r h => by simp [pelotonlaw02_CurveWhole.j2] at h⟩
  | k + 1 => by
    obtain ⟨ih0, ih1, ih2⟩ := pelotonlaw02_CurveWhole.mono_l k
    refine ⟨?_, ?_, ?_⟩
    · intro y0 y1 y2
      unfold pelotonlaw02_CurveWhole.j0
      repeat' first
      | (with_reducible exact ih0 _ _ _)
      | (with_reducible exact ih1 _ _ _ _ _ _)
      | (with_reducible exact ih2 _ _ _ _ _ _ _)
      | (with_reducible exact curve_Shares.mono _ _ _)
      | (with_reducible exact pelotonlaw02_awake.mono _)
      | (with_reducible exact LeO.refl _)
      | (with_reducible exact LeO.none _)
      | (with_reducible refine LeO.ite ?_ ?_)
      | (with_reducible refine LeO.bind ?_ (fun _ => ?_))
      | exact ih0 _ _ _
      | exact ih1 _ _ _ _ _ _
      | exact ih2 _ _ _ _ _ _ _
      | exact curve_Shares.mono _ _ _
      | exact pelotonlaw02_awake.mono _
      | exact LeO.none _
      | refine LeO.ite ?_ ?_
      | refine LeO.bind ?_ (fun _ => ?_)
    · intro y0 y1 y2 y3 y4 y5
      unfold pelotonlaw02_CurveWhole.l0
      repeat' first
      | (with_reducible exact ih0 _ _ _)
      | (with_reducible exact ih1 _ _ _ _ _ _)
      | (with_reducible exact ih2 _ _ _ _ _ _ _)
      | (with_reducible exact curve_Shares.mono _ _ _)
      | (with_reducible exact pelotonlaw02_awake.mono _)
      | (with_reducible exact LeO.refl _)
      | (with_reducible exact LeO.none _)
      | (with_reducible refine LeO.ite ?_ ?_)
      | (with_reducible refine LeO.bind ?_ (fun _ => ?_))
      | exact ih0 _ _ _
      | exact ih1 _ _ _ _ _ _
      | exact ih2 _ _ _ _ _ _ _
      | exact curve_Shares.mono _ _ _
      | exact pelotonlaw02_awake.mono _
      | exact LeO.none _
      | refine LeO.ite ?_ ?_
      | refine LeO.bind ?_ (fun _ => ?_)
    · intro y0 y1 y2 y3 y4 y5 y6
      unfold pelotonlaw02_CurveWhole.j2
      repeat' first
      | (with_reducible exact ih0 _ _ _)
      | (with_reducible exact ih1 _ _ _ _ _ _)
      | (with_reducible exact ih2 _ _ _ _ _ _ _)
      | (with_reducible exact curve_Shares.mono _ _ _)
      | (with_reducible exact pelotonlaw02_awake.mono _)
      | (with_reducible exact LeO.refl _)
      | (with_reducible exact LeO.none _)
      | (with_reducible refine LeO.ite ?_ ?_)
      | (with_reducible refine LeO.bind ?_ (fun _ => ?_))
      | exact ih0 _ _ _
      | exact ih1 _ _ _ _ _ _
      | exact ih2 _ _ _ _ _ _ _
      | exact curve_Shares.mono _ _ _
      | exact pelotonlaw02_awake.mono _
      | exact LeO.none _
      | refine LeO.ite ?_ ?_
      | refine LeO.bind ?_ (fun _ => ?_)
theorem pelotonlaw02_CurveWhole.mono : ∀ a0 a1 k, LeO (pelotonlaw02_CurveWhole.f k a0 a1) (pelotonlaw02_CurveWhole.f (k + 1) a0 a1) := by
  intro a0 a1 k
  obtain ⟨ih0, ih1, ih2⟩ := pelotonlaw02_CurveWhole.mono_l k
  unfold pelotonlaw02_CurveWhole.f
  repeat' first
      | (with_reducible exact ih0 _ _ _)
      | (with_reducible exact ih1 _ _ _ _ _ _)
      | (with_reducible exact ih2 _ _ _ _ _ _ _)
      | (with_reducible exact curve_Shares.mono _ _ _)
      | (with_reducible exact pelotonlaw02_awake.mono _)
      | (with_reducible exact LeO.refl _)
      | (with_reducible exact LeO.none _)
      | (with_reducible refine LeO.ite ?_ ?_)
      | (with_reducible refine LeO.bind ?_ (fun _ => ?_))
      | exact ih0 _ _ _
      | exact ih1 _ _ _ _ _ _
      | exact ih2 _ _ _ _ _ _ _
      | exact curve_Shares.mono _ _ _
      | exact pelotonlaw02_awake.mono _
      | exact LeO.none _
      | refine LeO.ite ?_ ?_
      | refine LeO.bind ?_ (fun _ => ?_)
set_option maxHeartbeats 8000000 in
set_option maxRecDepth 100000 in
theorem pelotonlaw02_CurveWhole.calls (k : Nat) (a0 : Int) (A1 : Option Addr) (c1 : Nat) (l1 : List Int) (r : Bool) (w : World) (hr1 : Kd.C (Kd.int .i32) w A1 l1.length l1) (hc1 : l1.length ≤ c1) (h : pelotonlaw02_CurveWhole.f k a0 l1 = some r) :
    Calls Try.prog 6 #[.int .i32 a0, .slice A1 l1.length c1] w fun e w' => e = .returned (.bool r) ∧ Below w.heap.size w w' := by
  have HR1 := Aside0.mk hr1
  have HC1 := Aside0.mk hc1
  clear hr1 hc1
  have HB := Aside0.mk (Below.refl w.heap.size w)
  have H : ((pelotonlaw02_awake.f k).bind fun t133 => (if t133 = true then (pelotonlaw02_CurveWhole.j0 k a0 l1 (decide ((l1.length : Int) > 200))) else (pelotonlaw02_CurveWhole.j0 k a0 l1 true))) = some r := h
  clear h
  have HC3 := Aside0.mk H
  clear H
  go_enter Try.func6, Try.ntmps6
  go_upto_region 1 with (fail)
  repeat (go_quiet (fail); go_upto_region 1 with (fail))
  go_cut [15] (fun v15 wc => ∃ (kq : Nat) (x15_2 : Bool), v15 = .bool x15_2 ∧ Aside0 (pelotonlaw02_CurveWhole.j0 kq a0 l1 x15_2 = some r) ∧ Aside0 (kq ≤ k) ∧ Aside0 (Below w.heap.size w wc))
  case first =>
    have H := HC3.out
    clear HC3
    replace H := Option.bind_eq_some_iff.mp H
    obtain ⟨t133, A40, H⟩ := H
    replace H : (if t133 = true then (pelotonlaw02_CurveWhole.j0 k a0 l1 (decide ((l1.length : Int) > 200))) else (pelotonlaw02_CurveWhole.j0 k a0 l1 true)) = some r := H
    have A4 := Aside0.mk A40
    clear A40
    by_cases c5 : t133 = true
    · subst c5
      have H1 : (pelotonlaw02_CurveWhole.j0 k a0 l1 (decide ((l1.length : Int) > 200))) = some r := by rw [if_pos rfl] at H; exact H
      clear H
      have H := H1
      clear H1
      have H' := Aside0.mk H
      clear H
      go_wp2_with (first | (go_at_call 10; (with_reducible refine (pelotonlaw02_awake.calls k  true _ A4.out).mono ?_); rintro e w6 ⟨rfl, hb⟩; have n0_ := Aside0.mk (below_step (by repeat (first | (with_reducible first | exact HB.out | apply below_alloc | apply pw_below_drewN | apply below_drew1) | exact HB.out)) hb); clear HB; have HB := n0_; clear n0_; (try clear hb); (try clear hb2); (try clear hk); (try clear hi)))
      repeat (go_quiet (first | (go_at_call 10; (with_reducible refine (pelotonlaw02_awake.calls k  true _ A4.out).mono ?_); rintro e w6 ⟨rfl, hb⟩; have n0_ := Aside0.mk (below_step (by repeat (first | (with_reducible first | exact HB.out | apply below_alloc | apply pw_below_drewN | apply below_drew1) | exact HB.out)) hb); clear HB; have HB := n0_; clear n0_; (try clear hb); (try clear hb2); (try clear hk); (try clear hi))); try go_wp2_with (first | (go_at_call 10; (with_reducible refine (pelotonlaw02_awake.calls k  true _ A4.out).mono ?_); rintro e w6 ⟨rfl, hb⟩; have n0_ := Aside0.mk (below_step (by repeat (first | (with_reducible first | exact HB.out | apply below_alloc | apply pw_below_drewN | apply below_drew1) | exact HB.out)) hb); clear HB; have HB := n0_; clear n0_; (try clear hb); (try clear hb2); (try clear hk); (try clear hi))))
      go_meet
      case rel => exact ⟨_, (decide ((l1.length : Int) > 200)), (by first | rfl | (simp; done) | (simp [*]; done)), H', ⟨by first | omega | exact Nat.le_refl _⟩, ⟨by repeat (first | (with_reducible first | exact HB.out | apply below_alloc | apply pw_below_drewN | apply below_drew1) | exact HB.out)⟩⟩
    · replace c5 := Bool.eq_false_iff.mpr c5
      subst c5
      have H1 : (pelotonlaw02_CurveWhole.j0 k a0 l1 true) = some r := by rw [if_neg (show ¬ (false = true) by decide)] at H; exact H
      clear H
      have H := H1
      clear H1
      have H' := Aside0.mk H
      clear H
      go_wp2_with (first | (go_at_call 10; (with_reducible refine (pelotonlaw02_awake.calls k  false _ A4.out).mono ?_); rintro e w7 ⟨rfl, hb⟩; have n0_ := Aside0.mk (below_step (by repeat (first | (with_reducible first | exact HB.out | apply below_alloc | apply pw_below_drewN | apply below_drew1) | exact HB.out)) hb); clear HB; have HB := n0_; clear n0_; (try clear hb); (try clear hb2); (try clear hk); (try clear hi)))
      repeat (go_quiet (first | (go_at_call 10; (with_reducible refine (pelotonlaw02_awake.calls k  false _ A4.out).mono ?_); rintro e w7 ⟨rfl, hb⟩; have n0_ := Aside0.mk (below_step (by repeat (first | (with_reducible first | exact HB.out | apply below_alloc | apply pw_below_drewN | apply below_drew1) | exact HB.out)) hb); clear HB; have HB := n0_; clear n0_; (try clear hb); (try clear hb2); (try clear hk); (try clear hi))); try go_wp2_with (first | (go_at_call 10; (with_reducible refine (pelotonlaw02_awake.calls k  false _ A4.out).mono ?_); rintro e w7 ⟨rfl, hb⟩; have n0_ := Aside0.mk (below_step (by repeat (first | (with_reducible first | exact HB.out | apply below_alloc | apply pw_below_drewN | apply below_drew1) | exact HB.out)) hb); clear HB; have HB := n0_; clear n0_; (try clear hb); (try clear hb2); (try clear hk); (try clear hi))))
      go_meet
      case rel => exact ⟨_, (true), (by first | rfl | (simp; done) | (simp [*]; done)), H', ⟨by first | omega | exact Nat.le_refl _⟩, ⟨by repeat (first | (with_reducible first | exact HB.out | apply below_alloc | apply pw_below_drewN | apply below_drew1) | exact HB.out)⟩⟩
  case rest =>
    clear HC3
    try clear c1
    try clear p2
    try clear c5
    try clear c6
    obtain ⟨kq, x15_2, rfl, HA, HJ2, HB⟩ := hcut
    cases kq with
    | zero => exact absurd HA.out (by simp [pelotonlaw02_CurveWhole.j0])
    | succ kj2 =>
      have H := HA.out
      clear HA
      simp only [pelotonlaw02_CurveWhole.j0] at H
      by_cases c8 : x15_2 = true
      · subst c8
        have H1 : ((pelotonlaw02_awake.f kj2).bind fun t134 => (some t134)) = some r := by rw [if_pos rfl] at H; exact H
        clear H
        have H := H1
        clear H1
        replace H := Option.bind_eq_some_iff.mp H
        obtain ⟨t134, A90, H⟩ := H
        replace H : (some t134) = some r := H
        have A9 := Aside0.mk A90
        clear A90
        obtain rfl := Option.some.inj H
        go_wp2_with (first | (go_at_call 10; (with_reducible refine (pelotonlaw02_awake.calls kj2  t134 _ A9.out).mono ?_); rintro e w10 ⟨rfl, hb⟩; have n0_ := Aside0.mk (below_step (by repeat (first | (with_reducible first | exact HB.out | apply below_alloc | apply pw_below_drewN | apply below_drew1) | exact HB.out)) hb); clear HB; have HB := n0_; clear n0_; (try clear hb); (try clear hb2); (try clear hk); (try clear hi)))
        repeat (go_quiet (first | (go_at_call 10; (with_reducible refine (pelotonlaw02_awake.calls kj2  t134 _ A9.out).mono ?_); rintro e w10 ⟨rfl, hb⟩; have n0_ := Aside0.mk (below_step (by repeat (first | (with_reducible first | exact HB.out | apply below_alloc | apply pw_below_drewN | apply below_drew1) | exact HB.out)) hb); clear HB; have HB := n0_; clear n0_; (try clear hb); (try clear hb2); (try clear hk); (try clear hi))); try go_wp2_with (first | (go_at_call 10; (with_reducible refine (pelotonlaw02_awake.calls kj2  t134 _ A9.out).mono ?_); rintro e w10 ⟨rfl, hb⟩; have n0_ := Aside0.mk (below_step (by repeat (first | (with_reducible first | exact HB.out | apply below_alloc | apply pw_below_drewN | apply below_drew1) | exact HB.out)) hb); clear HB; have HB := n0_; clear n0_; (try clear hb); (try clear hb2); (try clear hk); (try clear hi))))
        go_ret
        exact ⟨by first | rfl | (simp [errW_none, errW_some] <;> rfl) | (simp [*, errW_none, errW_some] <;> rfl), by repeat (first | (with_reducible first | exact HB.out | apply below_alloc | apply pw_below_drewN | apply below_drew1) | exact HB.out)⟩
      · replace c8 := Bool.eq_false_iff.mpr c8
        subst c8
        have H1 : ((curve_Shares.f kj2 a0 l1).bind fun t135 => (if (t135.length : Int) = (l1.length : Int) then (pelotonlaw02_CurveWhole.l0 kj2 a0 l1 t135 0 0 0) else (some false))) = some r := by rw [if_neg (show ¬ (false = true) by decide)] at H; exact H
        clear H
        have H := H1
        clear H1
        replace H := Option.bind_eq_some_iff.mp H
        obtain ⟨t135, A110, H⟩ := H
        replace H : (if (t135.length : Int) = (l1.length : Int) then (pelotonlaw02_CurveWhole.l0 kj2 a0 l1 t135 0 0 0) else (some false)) = some r := H
        have A11 := Aside0.mk A110
        clear A110
        by_cases c12 : (t135.length : Int) = (l1.length : Int)
        · rw [if_pos c12] at H
          have c12b0 : ((t135.length : Int) == (l1.length : Int)) = true := beq_iff_eq.mpr c12
          have c12b1 : ((t135.length : Int) != (l1.length : Int)) = false := bne_eq_false_iff_eq.mpr c12
          have c12b2 : (t135.length == l1.length) = true := by first | simpa using c12 | (simp at c12 ⊢; omega)
          clear c12
          have H' := Aside0.mk H
          clear H
          go_wp2_with (first | (go_at_call 16; (with_reducible refine (curve_Shares.calls kj2 a0 _ _ l1 t135 _ ?side1 ?side2 A11.out).mono ?_); (case side1 => repeat (first | exact (Kd.C_below HR1.out HB.out) | (with_reducible refine Kd.C_alloc ?_ _) | (with_reducible refine Kd.C_drewN ?_ _) | (with_reducible refine Kd.C_drew ?_))); (case side2 => exact HC1.out); rintro e w13 ⟨v136, rfl, ho0, hb⟩; have n0_ := Aside0.mk (Kd.R_lower ho0 (below_size (by repeat (first | (with_reducible first | exact HB.out | apply below_alloc | apply pw_below_drewN | apply below_drew1) | exact HB.out)))); have n1_ := Aside0.mk (below_step (by repeat (first | (with_reducible first | exact HB.out | apply below_alloc | apply pw_below_drewN | apply below_drew1) | exact HB.out)) hb); clear HB; have HO137 := n0_; have HB := n1_; clear n0_ n1_; (try clear hb); (try clear hb2); (try clear hk); (try clear hi); (try clear ho0); obtain ⟨Ao14, co14, eo14⟩ := Kd.R_slice HO137.out; subst eo14))
          repeat (go_quiet (first | (go_at_call 16; (with_reducible refine (curve_Shares.calls kj2 a0 _ _ l1 t135 _ ?side1 ?side2 A11.out).mono ?_); (case side1 => repeat (first | exact (Kd.C_below HR1.out HB.out) | (with_reducible refine Kd.C_alloc ?_ _) | (with_reducible refine Kd.C_drewN ?_ _) | (with_reducible refine Kd.C_drew ?_))); (case side2 => exact HC1.out); rintro e w13 ⟨v136, rfl, ho0, hb⟩; have n0_ := Aside0.mk (Kd.R_lower ho0 (below_size (by repeat (first | (with_reducible first | exact HB.out | apply below_alloc | apply pw_below_drewN | apply below_drew1) | exact HB.out)))); have n1_ := Aside0.mk (below_step (by repeat (first | (with_reducible first | exact HB.out | apply below_alloc | apply pw_below_drewN | apply below_drew1) | exact HB.out)) hb); clear HB; have HO137 := n0_; have HB := n1_; clear n0_ n1_; (try clear hb); (try clear hb2); (try clear hk); (try clear hi); (try clear ho0); obtain ⟨Ao14, co14, eo14⟩ := Kd.R_slice HO137.out; subst eo14)); try go_wp2_with (first | (go_at_call 16; (with_reducible refine (curve_Shares.calls kj2 a0 _ _ l1 t135 _ ?side1 ?side2 A11.out).mono ?_); (case side1 => repeat (first | exact (Kd.C_below HR1.out HB.out) | (with_reducible refine Kd.C_alloc ?_ _) | (with_reducible refine Kd.C_drewN ?_ _) | (with_reducible refine Kd.C_drew ?_))); (case side2 => exact HC1.out); rintro e w13 ⟨v136, rfl, ho0, hb⟩; have n0_ := Aside0.mk (Kd.R_lower ho0 (below_size (by repeat (first | (with_reducible first | exact HB.out | apply below_alloc | apply pw_below_drewN | apply below_drew1) | exact HB.out)))); have n1_ := Aside0.mk (below_step (by repeat (first | (with_reducible first | exact HB.out | apply below_alloc | apply pw_below_drewN | apply below_drew1) | exact HB.out)) hb); clear HB; have HO137 := n0_; have HB := n1_; clear n0_ n1_; (try clear hb); (try clear hb2); (try clear hk); (try clear hi); (try clear ho0); obtain ⟨Ao14, co14, eo14⟩ := Kd.R_slice HO137.out; subst eo14)))
          go_loopg [6, 7, 8] kj2 (fun kq v6 v7 v8 w' => ∃ (x6_2 : Int) (x7_2 : Int) (x8_2 : Int), v6 = .int .i64 x6_2 ∧ v7 = .int .i64 x7_2 ∧ v8 = .int .i64 x8_2 ∧ Aside0 (pelotonlaw02_CurveWhole.l0 kq a0 l1 t135 x6_2 x7_2 x8_2 = some r) ∧ Aside0 (kq ≤ kj2) ∧ Aside0 (Kd.R (Kd.int .i32) 21 w' w.heap.size (fun _ => True) (.slice Ao14 t135.length co14) t135) ∧ Aside0 (Below w.heap.size w w'))
          case atStart => exact ⟨(0), (0), (0), (by first | rfl | (simp; done) | (simp [*]; done)), (by first | rfl | (simp; done) | (simp [*]; done)), (by first | rfl | (simp; done) | (simp [*]; done)), H', ⟨Nat.le_refl _⟩, ⟨by (with_reducible repeat (first | apply Kd.R_alloc | apply Kd.R_drewN | apply Kd.R_drew)); exact HO137.out⟩, ⟨by repeat (first | (with_reducible first | exact HB.out | apply below_alloc | apply pw_below_drewN | apply below_drew1) | exact HB.out)⟩⟩
          case round =>
            clear H'
            try clear c1
            try clear p2
            try clear c5
            try clear c6
            try clear c8
            try clear c12
            try clear c12b0
            try clear c12b1
            try clear c12b2
            try clear p2
            obtain ⟨x6_2, x7_2, x8_2, rfl, rfl, rfl, HA, HK2, HO_5, HB⟩ := hrel
            cases gk with
            | zero => exact absurd HA.out (by simp [pelotonlaw02_CurveWhole.l0])
            | succ k2 =>
              have H := HA.out
              clear HA
              simp only [pelotonlaw02_CurveWhole.l0] at H
              by_cases c15 : x8_2 < (t135.length : Int)
              · rw [if_pos c15] at H
                have c15b0 : decide (x8_2 < (t135.length : Int)) = true := decide_eq_true c15
                clear c15
                have HC16 := Aside0.mk H
                clear H
                go_upto_region 10 with (fail)
                repeat (go_quiet (fail); go_upto_region 10 with (fail))
                go_cut [77] (fun v77 wc => ∃ (kq : Nat) (x77_15 : Bool), v77 = .bool x77_15 ∧ Aside0 (pelotonlaw02_CurveWhole.j2 kq a0 l1 t135 x6_2 x7_2 x8_2 x77_15 = some r) ∧ Aside0 (kq ≤ k2) ∧ Aside0 (Kd.R (Kd.int .i32) 21 wc w.heap.size (fun _ => True) (.slice Ao14 t135.length co14) t135) ∧ Aside0 (Below w.heap.size w wc))
                case first =>
                  have H := HC16.out
                  clear HC16
                  by_cases c17 : 0 ≤ x8_2
                  · rw [if_pos c17] at H
                    have c17b0 : decide (0 ≤ x8_2) = true := decide_eq_true c17
                    clear c17
                    (first | rw [c17b0] | (simp only [i64_w, i32_w]; rw [c17b0]) | skip)
                    by_cases c18 : (rd t135 x8_2) < 0
                    · rw [if_pos c18] at H
                      have c18b0 : decide ((rd t135 x8_2) < 0) = true := decide_eq_true c18
                      clear c18
                      have H' := Aside0.mk H
                      clear H
                      have p138 : 0 ≤ (x8_2 : Int) := of_decide_eq_true (by first | (with_reducible assumption) | assumption)
                      have q138 : x8_2 < (t135.length : Int) := of_decide_eq_true (by first | (with_reducible assumption) | assumption)
                      obtain ⟨ad138, e138, hx138_0⟩ := Kd.at_int (Kd.R_reads' HO_5.out).2.2 x8_2 p138 q138
                      cases e138
                      replace p138 := eq_true p138
                      replace q138 := eq_true q138
                      go_wp2
                      repeat (go_quiet (fail); try go_wp2)
                      go_meet
                      case rel => exact ⟨_, (true), (by first | rfl | (simp; done) | (simp [*]; done)), H', ⟨by have := HJ2.out; have := HK2.out; first | omega | exact Nat.le_refl _⟩, ⟨by (with_reducible repeat (first | apply Kd.R_alloc | apply Kd.R_drewN | apply Kd.R_drew)); exact HO_5.out⟩, ⟨by repeat (first | (with_reducible first | exact HB.out | apply below_alloc | apply pw_below_drewN | apply below_drew1) | exact HB.out)⟩⟩
                    · rw [if_neg c18] at H
                      have c18b0 : decide ((rd t135 x8_2) < 0) = false := decide_eq_false c18
                      clear c18
                      by_cases c19 : x8_2 < (l1.length : Int)
                      · rw [if_pos c19] at H
                        have c19b0 : decide (x8_2 < (l1.length : Int)) = true := decide_eq_true c19
                        clear c19
                        by_cases c20 : (rd l1 x8_2) ≤ 0
                        · rw [if_pos c20] at H
                          have c20b0 : decide ((rd l1 x8_2) ≤ 0) = true := decide_eq_true c20
                          clear c20
                          by_cases c21 : (rd t135 x8_2) = 0
                          · rw [if_pos c21] at H
                            have c21b0 : ((rd t135 x8_2) == 0) = true := beq_iff_eq.mpr c21
                            have c21b1 : ((rd t135 x8_2) != 0) = false := bne_eq_false_iff_eq.mpr c21
                            clear c21
                            by_cases c22 : x8_2 > 0
                            · rw [if_pos c22] at H
                              have c22b0 : decide (0 < x8_2) = true := decide_eq_true c22
                              clear c22
                              obtain ⟨ji23, hji23⟩ : ∃ j_ : Int, (wrap64 (x8_2 - 1)) = j_ := ⟨_, rfl⟩
                              replace H : (if 0 ≤ (ji23) then (if (ji23) < (l1.length : Int) then (if (rd l1 x8_2) = (rd l1 (ji23)) then (if (ji23) < (t135.length : Int) then (pelotonlaw02_CurveWhole.j2 k2 a0 l1 t135 x6_2 x7_2 x8_2 ((rd t135 x8_2) != (rd t135 (ji23)))) else (none)) else (pelotonlaw02_CurveWhole.j2 k2 a0 l1 t135 x6_2 x7_2 x8_2 false)) else (none)) else (none)) = some r := by first | (rw [hji23] at H; exact H) | (simp only [hji23] at H ⊢; exact H)
                              have hji23w : (IntKind.i64.wrap (x8_2 - 1)) = ji23 := (i64_w _).trans hji23
                              by_cases c24 : 0 ≤ (ji23)
                              · rw [if_pos c24] at H
                                have c24b0 : decide (0 ≤ (ji23)) = true := decide_eq_true c24
                                clear c24
                                by_cases c25 : (ji23) < (l1.length : Int)
                                · rw [if_pos c25] at H
                                  have c25b0 : decide ((ji23) < (l1.length : Int)) = true := decide_eq_true c25
                                  clear c25
                                  by_cases c26 : (rd l1 x8_2) = (rd l1 (ji23))
                                  · rw [if_pos c26] at H
                                    have c26b0 : ((rd l1 x8_2) == (rd l1 (ji23))) = true := beq_iff_eq.mpr c26
                                    have c26b1 : ((rd l1 x8_2) != (rd l1 (ji23))) = false := bne_eq_false_iff_eq.mpr c26
                                    clear c26
                                    by_cases c27 : (ji23) < (t135.length : Int)
                                    · rw [if_pos c27] at H
                                      have c27b0 : decide ((ji23) < (t135.length : Int)) = true := decide_eq_true c27
                                      clear c27
                                      have H' := Aside0.mk H
                                      clear H
                                      have p138 : 0 ≤ (x8_2 : Int) := of_decide_eq_true (by first | (with_reducible assumption) | assumption)
                                      have q138 : x8_2 < (t135.length : Int) := of_decide_eq_true (by first | (with_reducible assumption) | assumption)
                                      obtain ⟨ad138, e138, hx138_0⟩ := Kd.at_int (Kd.R_reads' HO_5.out).2.2 x8_2 p138 q138
                                      cases e138
                                      replace p138 := eq_true p138
                                      replace q138 := eq_true q138
                                      have p139 : 0 ≤ (x8_2 : Int) := of_decide_eq_true (by first | (with_reducible assumption) | assumption)
                                      have q139 : x8_2 < (l1.length : Int) := of_decide_eq_true (by first | (with_reducible assumption) | assumption)
                                      obtain ⟨ad139, e139, hx139_0⟩ := Kd.at_int HR1.out x8_2 p139 q139
                                      cases e139
                                      replace hx139_0 := (HB.out.cell (World.block_lt_of_cell? w _ hx139_0)).trans hx139_0
                                      replace p139 := eq_true p139
                                      replace q139 := eq_true q139
                                      have p140 : 0 ≤ (x8_2 : Int) := of_decide_eq_true (by first | (with_reducible assumption) | assumption)
                                      have q140 : x8_2 < (t135.length : Int) := of_decide_eq_true (by first | (with_reducible assumption) | assumption)
                                      obtain ⟨ad140, e140, hx140_0⟩ := Kd.at_int (Kd.R_reads' HO_5.out).2.2 x8_2 p140 q140
                                      obtain rfl : ad138 = ad140 := (by injection e140)
                                      replace p140 := eq_true p140
                                      replace q140 := eq_true q140
                                      have p141 : 0 ≤ (x8_2 : Int) := of_decide_eq_true (by first | (with_reducible assumption) | assumption)
                                      have q141 : x8_2 < (l1.length : Int) := of_decide_eq_true (by first | (with_reducible assumption) | assumption)
                                      obtain ⟨ad141, e141, hx141_0⟩ := Kd.at_int HR1.out x8_2 p141 q141
                                      obtain rfl : ad139 = ad141 := (by injection e141)
                                      replace hx141_0 := (HB.out.cell (World.block_lt_of_cell? w _ hx141_0)).trans hx141_0
                                      replace p141 := eq_true p141
                                      replace q141 := eq_true q141
                                      have p142 : 0 ≤ ((ji23) : Int) := of_decide_eq_true (by first | (with_reducible assumption) | assumption)
                                      have q142 : (ji23) < (l1.length : Int) := of_decide_eq_true (by first | (with_reducible assumption) | assumption)
                                      obtain ⟨ad142, e142, hx142_0⟩ := Kd.at_int HR1.out (ji23) p142 q142
                                      obtain rfl : ad139 = ad142 := (by injection e142)
                                      replace hx142_0 := (HB.out.cell (World.block_lt_of_cell? w _ hx142_0)).trans hx142_0
                                      replace p142 := eq_true p142
                                      replace q142 := eq_true q142
                                      have p143 : 0 ≤ (x8_2 : Int) := of_decide_eq_true (by first | (with_reducible assumption) | assumption)
                                      have q143 : x8_2 < (t135.length : Int) := of_decide_eq_true (by first | (with_reducible assumption) | assumption)
                                      obtain ⟨ad143, e143, hx143_0⟩ := Kd.at_int (Kd.R_reads' HO_5.out).2.2 x8_2 p143 q143
                                      obtain rfl : ad138 = ad143 := (by injection e143)
                                      replace p143 := eq_true p143
                                      replace q143 := eq_true q143
                                      have p144 : 0 ≤ ((ji23) : Int) := of_decide_eq_true (by first | (with_reducible assumption) | assumption)
                                      have q144 : (ji23) < (t135.length : Int) := of_decide_eq_true (by first | (with_reducible assumption) | assumption)
                                      obtain ⟨ad144, e144, hx144_0⟩ := Kd.at_int (Kd.R_reads' HO_5.out).2.2 (ji23) p144 q144
                                      obtain rfl : ad138 = ad144 := (by injection e144)
                                      replace p144 := eq_true p144
                                      replace q144 := eq_true q144
                                      go_wp2
                                      repeat (go_quiet (fail); try go_wp2)
                                      go_meet
                                      case rel => exact ⟨_, (((rd t135 x8_2) != (rd t135 (ji23)))), (by first | rfl | (simp; done) | (simp only [← hji23] <;> (first | rfl | simp)) | (simp [*]; done)), H', ⟨by have := HJ2.out; have := HK2.out; first | omega | exact Nat.le_refl _⟩, ⟨by (with_reducible repeat (first | apply Kd.R_alloc | apply Kd.R_drewN | apply Kd.R_drew)); exact HO_5.out⟩, ⟨by repeat (first | (with_reducible first | exact HB.out | apply below_alloc | apply pw_below_drewN | apply below_drew1) | exact HB.out)⟩⟩
                                    · rw [if_neg c27] at H
                                      exact absurd H (by simp)
                                  · rw [if_neg c26] at H
                                    have c26b0 : ((rd l1 x8_2) == (rd l1 (ji23))) = false := beq_eq_false_iff_ne.mpr c26
                                    have c26b1 : ((rd l1 x8_2) != (rd l1 (ji23))) = true := bne_iff_ne.mpr c26
                                    have H' := Aside0.mk H
                                    clear H
                                    have p138 : 0 ≤ (x8_2 : Int) := of_decide_eq_true (by first | (with_reducible assumption) | assumption)
                                    have q138 : x8_2 < (t135.length : Int) := of_decide_eq_true (by first | (with_reducible assumption) | assumption)
                                    obtain ⟨ad138, e138, hx138_0⟩ := Kd.at_int (Kd.R_reads' HO_5.out).2.2 x8_2 p138 q138
                                    cases e138
                                    replace p138 := eq_true p138
                                    replace q138 := eq_true q138
                                    have p139 : 0 ≤ (x8_2 : Int) := of_decide_eq_true (by first | (with_reducible assumption) | assumption)
                                    have q139 : x8_2 < (l1.length : Int) := of_decide_eq_true (by first | (with_reducible assumption) | assumption)
                                    obtain ⟨ad139, e139, hx139_0⟩ := Kd.at_int HR1.out x8_2 p139 q139
                                    cases e139
                                    replace hx139_0 := (HB.out.cell (World.block_lt_of_cell? w _ hx139_0)).trans hx139_0
                                    replace p139 := eq_true p139
                                    replace q139 := eq_true q139
                                    have p140 : 0 ≤ (x8_2 : Int) := of_decide_eq_true (by first | (with_reducible assumption) | assumption)
                                    have q140 : x8_2 < (t135.length : Int) := of_decide_eq_true (by first | (with_reducible assumption) | assumption)
                                    obtain ⟨ad140, e140, hx140_0⟩ := Kd.at_int (Kd.R_reads' HO_5.out).2.2 x8_2 p140 q140
                                    obtain rfl : ad138 = ad140 := (by injection e140)
                                    replace p140 := eq_true p140
                                    replace q140 := eq_true q140
                                    have p141 : 0 ≤ (x8_2 : Int) := of_decide_eq_true (by first | (with_reducible assumption) | assumption)
                                    have q141 : x8_2 < (l1.length : Int) := of_decide_eq_true (by first | (with_reducible assumption) | assumption)
                                    obtain ⟨ad141, e141, hx141_0⟩ := Kd.at_int HR1.out x8_2 p141 q141
                                    obtain rfl : ad139 = ad141 := (by injection e141)
                                    replace hx141_0 := (HB.out.cell (World.block_lt_of_cell? w _ hx141_0)).trans hx141_0
                                    replace p141 := eq_true p141
                                    replace q141 := eq_true q141
                                    have p142 : 0 ≤ ((ji23) : Int) := of_decide_eq_true (by first | (with_reducible assumption) | assumption)
                                    have q142 : (ji23) < (l1.length : Int) := of_decide_eq_true (by first | (with_reducible assumption) | assumption)
                                    obtain ⟨ad142, e142, hx142_0⟩ := Kd.at_int HR1.out (ji23) p142 q142
                                    obtain rfl : ad139 = ad142 := (by injection e142)
                                    replace hx142_0 := (HB.out.cell (World.block_lt_of_cell? w _ hx142_0)).trans hx142_0
                                    replace p142 := eq_true p142
                                    replace q142 := eq_true q142
                                    go_wp2
                                    repeat (go_quiet (fail); try go_wp2)
                                    go_meet
                                    case rel => exact ⟨_, (false), (by first | rfl | (simp; done) | (simp [*]; done)), H', ⟨by have := HJ2.out; have := HK2.out; first | omega | exact Nat.le_refl _⟩, ⟨by (with_reducible repeat (first | apply Kd.R_alloc | apply Kd.R_drewN | apply Kd.R_drew)); exact HO_5.out⟩, ⟨by repeat (first | (with_reducible first | exact HB.out | apply below_alloc | apply pw_below_drewN | apply below_drew1) | exact HB.out)⟩⟩
                                · rw [if_neg c25] at H
                                  exact absurd H (by simp)
                              · rw [if_neg c24] at H
                                exact absurd H (by simp)
                            · rw [if_neg c22] at H
                              have c22b0 : decide (0 < x8_2) = false := decide_eq_false c22
                              clear c22
                              have H' := Aside0.mk H
                              clear H
                              have p138 : 0 ≤ (x8_2 : Int) := of_decide_eq_true (by first | (with_reducible assumption) | assumption)
                              have q138 : x8_2 < (t135.length : Int) := of_decide_eq_true (by first | (with_reducible assumption) | assumption)
                              obtain ⟨ad138, e138, hx138_0⟩ := Kd.at_int (Kd.R_reads' HO_5.out).2.2 x8_2 p138 q138
                              cases e138
                              replace p138 := eq_true p138
                              replace q138 := eq_true q138
                              have p139 : 0 ≤ (x8_2 : Int) := of_decide_eq_true (by first | (with_reducible assumption) | assumption)
                              have q139 : x8_2 < (l1.length : Int) := of_decide_eq_true (by first | (with_reducible assumption) | assumption)
                              obtain ⟨ad139, e139, hx139_0⟩ := Kd.at_int HR1.out x8_2 p139 q139
                              cases e139
                              replace hx139_0 := (HB.out.cell (World.block_lt_of_cell? w _ hx139_0)).trans hx139_0
                              replace p139 := eq_true p139
                              replace q139 := eq_true q139
                              have p140 : 0 ≤ (x8_2 : Int) := of_decide_eq_true (by first | (with_reducible assumption) | assumption)
                              have q140 : x8_2 < (t135.length : Int) := of_decide_eq_true (by first | (with_reducible assumption) | assumption)
                              obtain ⟨ad140, e140, hx140_0⟩ := Kd.at_int (Kd.R_reads' HO_5.out).2.2 x8_2 p140 q140
                              obtain rfl : ad138 = ad140 := (by injection e140)
                              replace p140 := eq_true p140
                              replace q140 := eq_true q140
                              go_wp2
                              repeat (go_quiet (fail); try go_wp2)
                              go_meet
                              case rel => exact ⟨_, (false), (by first | rfl | (simp; done) | (simp [*]; done)), H', ⟨by have := HJ2.out; have := HK2.out; first | omega | exact Nat.le_refl _⟩, ⟨by (with_reducible repeat (first | apply Kd.R_alloc | apply Kd.R_drewN | apply Kd.R_drew)); exact HO_5.out⟩, ⟨by repeat (first | (with_reducible first | exact HB.out | apply below_alloc | apply pw_below_drewN | apply below_drew1) | exact HB.out)⟩⟩
                          · rw [if_neg c21] at H
                            have c21b0 : ((rd t135 x8_2) == 0) = false := beq_eq_false_iff_ne.mpr c21
                            have c21b1 : ((rd t135 x8_2) != 0) = true := bne_iff_ne.mpr c21
                            have H' := Aside0.mk H
                            clear H
                            have p138 : 0 ≤ (x8_2 : Int) := of_decide_eq_true (by first | (with_reducible assumption) | assumption)
                            have q138 : x8_2 < (t135.length : Int) := of_decide_eq_true (by first | (with_reducible assumption) | assumption)
                            obtain ⟨ad138, e138, hx138_0⟩ := Kd.at_int (Kd.R_reads' HO_5.out).2.2 x8_2 p138 q138
                            cases e138
                            replace p138 := eq_true p138
                            replace q138 := eq_true q138
                            have p139 : 0 ≤ (x8_2 : Int) := of_decide_eq_true (by first | (with_reducible assumption) | assumption)
                            have q139 : x8_2 < (l1.length : Int) := of_decide_eq_true (by first | (with_reducible assumption) | assumption)
                            obtain ⟨ad139, e139, hx139_0⟩ := Kd.at_int HR1.out x8_2 p139 q139
                            cases e139
                            replace hx139_0 := (HB.out.cell (World.block_lt_of_cell? w _ hx139_0)).trans hx139_0
                            replace p139 := eq_true p139
                            replace q139 := eq_true q139
                            have p140 : 0 ≤ (x8_2 : Int) := of_decide_eq_true (by first | (with_reducible assumption) | assumption)
                            have q140 : x8_2 < (t135.length : Int) := of_decide_eq_true (by first | (with_reducible assumption) | assumption)
                            obtain ⟨ad140, e140, hx140_0⟩ := Kd.at_int (Kd.R_reads' HO_5.out).2.2 x8_2 p140 q140
                            obtain rfl : ad138 = ad140 := (by injection e140)
                            replace p140 := eq_true p140
                            replace q140 := eq_true q140
                            go_wp2
                            repeat (go_quiet (fail); try go_wp2)
                            go_meet
                            case rel => exact ⟨_, (true), (by first | rfl | (simp; done) | (simp [*]; done)), H', ⟨by have := HJ2.out; have := HK2.out; first | omega | exact Nat.le_refl _⟩, ⟨by (with_reducible repeat (first | apply Kd.R_alloc | apply Kd.R_drewN | apply Kd.R_drew)); exact HO_5.out⟩, ⟨by repeat (first | (with_reducible first | exact HB.out | apply below_alloc | apply pw_below_drewN | apply below_drew1) | exact HB.out)⟩⟩
                        · rw [if_neg c20] at H
                          have c20b0 : decide ((rd l1 x8_2) ≤ 0) = false := decide_eq_false c20
                          clear c20
                          by_cases c28 : x8_2 > 0
                          · rw [if_pos c28] at H
                            have c28b0 : decide (0 < x8_2) = true := decide_eq_true c28
                            clear c28
                            obtain ⟨ji29, hji29⟩ : ∃ j_ : Int, (wrap64 (x8_2 - 1)) = j_ := ⟨_, rfl⟩
                            replace H : (if 0 ≤ (ji29) then (if (ji29) < (l1.length : Int) then (if (rd l1 x8_2) = (rd l1 (ji29)) then (if (ji29) < (t135.length : Int) then (pelotonlaw02_CurveWhole.j2 k2 a0 l1 t135 x6_2 x7_2 x8_2 ((rd t135 x8_2) != (rd t135 (ji29)))) else (none)) else (pelotonlaw02_CurveWhole.j2 k2 a0 l1 t135 x6_2 x7_2 x8_2 false)) else (none)) else (none)) = some r := by first | (rw [hji29] at H; exact H) | (simp only [hji29] at H ⊢; exact H)
                            have hji29w : (IntKind.i64.wrap (x8_2 - 1)) = ji29 := (i64_w _).trans hji29
                            by_cases c30 : 0 ≤ (ji29)
                            · rw [if_pos c30] at H
                              have c30b0 : decide (0 ≤ (ji29)) = true := decide_eq_true c30
                              clear c30
                              by_cases c31 : (ji29) < (l1.length : Int)
                              · rw [if_pos c31] at H
                                have c31b0 : decide ((ji29) < (l1.length : Int)) = true := decide_eq_true c31
                                clear c31
                                by_cases c32 : (rd l1 x8_2) = (rd l1 (ji29))
                                · rw [if_pos c32] at H
                                  have c32b0 : ((rd l1 x8_2) == (rd l1 (ji29))) = true := beq_iff_eq.mpr c32
                                  have c32b1 : ((rd l1 x8_2) != (rd l1 (ji29))) = false := bne_eq_false_iff_eq.mpr c32
                                  clear c32
                                  by_cases c33 : (ji29) < (t135.length : Int)
                                  · rw [if_pos c33] at H
                                    have c33b0 : decide ((ji29) < (t135.length : Int)) = true := decide_eq_true c33
                                    clear c33
                                    have H' := Aside0.mk H
                                    clear H
                                    have p138 : 0 ≤ (x8_2 : Int) := of_decide_eq_true (by first | (with_reducible assumption) | assumption)
                                    have q138 : x8_2 < (t135.length : Int) := of_decide_eq_true (by first | (with_reducible assumption) | assumption)
                                    obtain ⟨ad138, e138, hx138_0⟩ := Kd.at_int (Kd.R_reads' HO_5.out).2.2 x8_2 p138 q138
                                    cases e138
                                    replace p138 := eq_true p138
                                    replace q138 := eq_true q138
                                    have p139 : 0 ≤ (x8_2 : Int) := of_decide_eq_true (by first | (with_reducible assumption) | assumption)
                                    have q139 : x8_2 < (l1.length : Int) := of_decide_eq_true (by first | (with_reducible assumption) | assumption)
                                    obtain ⟨ad139, e139, hx139_0⟩ := Kd.at_int HR1.out x8_2 p139 q139
                                    cases e139
                                    replace hx139_0 := (HB.out.cell (World.block_lt_of_cell? w _ hx139_0)).trans hx139_0
                                    replace p139 := eq_true p139
                                    replace q139 := eq_true q139
                                    have p145 : 0 ≤ (x8_2 : Int) := of_decide_eq_true (by first | (with_reducible assumption) | assumption)
                                    have q145 : x8_2 < (l1.length : Int) := of_decide_eq_true (by first | (with_reducible assumption) | assumption)
                                    obtain ⟨ad145, e145, hx145_0⟩ := Kd.at_int HR1.out x8_2 p145 q145
                                    obtain rfl : ad139 = ad145 := (by injection e145)
                                    replace hx145_0 := (HB.out.cell (World.block_lt_of_cell? w _ hx145_0)).trans hx145_0
                                    replace p145 := eq_true p145
                                    replace q145 := eq_true q145
                                    have p146 : 0 ≤ ((ji29) : Int) := of_decide_eq_true (by first | (with_reducible assumption) | assumption)
                                    have q146 : (ji29) < (l1.length : Int) := of_decide_eq_true (by first | (with_reducible assumption) | assumption)
                                    obtain ⟨ad146, e146, hx146_0⟩ := Kd.at_int HR1.out (ji29) p146 q146
                                    obtain rfl : ad139 = ad146 := (by injection e146)
                                    replace hx146_0 := (HB.out.cell (World.block_lt_of_cell? w _ hx146_0)).trans hx146_0
                                    replace p146 := eq_true p146
                                    replace q146 := eq_true q146
                                    have p147 : 0 ≤ (x8_2 : Int) := of_decide_eq_true (by first | (with_reducible assumption) | assumption)
                                    have q147 : x8_2 < (t135.length : Int) := of_decide_eq_true (by first | (with_reducible assumption) | assumption)
                                    obtain ⟨ad147, e147, hx147_0⟩ := Kd.at_int (Kd.R_reads' HO_5.out).2.2 x8_2 p147 q147
                                    obtain rfl : ad138 = ad147 := (by injection e147)
                                    replace p147 := eq_true p147
                                    replace q147 := eq_true q147
                                    have p148 : 0 ≤ ((ji29) : Int) := of_decide_eq_true (by first | (with_reducible assumption) | assumption)
                                    have q148 : (ji29) < (t135.length : Int) := of_decide_eq_true (by first | (with_reducible assumption) | assumption)
                                    obtain ⟨ad148, e148, hx148_0⟩ := Kd.at_int (Kd.R_reads' HO_5.out).2.2 (ji29) p148 q148
                                    obtain rfl : ad138 = ad148 := (by injection e148)
                                    replace p148 := eq_true p148
                                    replace q148 := eq_true q148
                                    go_wp2
                                    repeat (go_quiet (fail); try go_wp2)
                                    go_meet
                                    case rel => exact ⟨_, (((rd t135 x8_2) != (rd t135 (ji29)))), (by first | rfl | (simp; done) | (simp only [← hji29] <;> (first | rfl | simp)) | (simp [*]; done)), H', ⟨by have := HJ2.out; have := HK2.out; first | omega | exact Nat.le_refl _⟩, ⟨by (with_reducible repeat (first | apply Kd.R_alloc | apply Kd.R_drewN | apply Kd.R_drew)); exact HO_5.out⟩, ⟨by repeat (first | (with_reducible first | exact HB.out | apply below_alloc | apply pw_below_drewN | apply below_drew1) | exact HB.out)⟩⟩
                                  · rw [if_neg c33] at H
                                    exact absurd H (by simp)
                                · rw [if_neg c32] at H
                                  have c32b0 : ((rd l1 x8_2) == (rd l1 (ji29))) = false := beq_eq_false_iff_ne.mpr c32
                                  have c32b1 : ((rd l1 x8_2) != (rd l1 (ji29))) = true := bne_iff_ne.mpr c32
                                  have H' := Aside0.mk H
                                  clear H
                                  have p138 : 0 ≤ (x8_2 : Int) := of_decide_eq_true (by first | (with_reducible assumption) | assumption)
                                  have q138 : x8_2 < (t135.length : Int) := of_decide_eq_true (by first | (with_reducible assumption) | assumption)
                                  obtain ⟨ad138, e138, hx138_0⟩ := Kd.at_int (Kd.R_reads' HO_5.out).2.2 x8_2 p138 q138
                                  cases e138
                                  replace p138 := eq_true p138
                                  replace q138 := eq_true q138
                                  have p139 : 0 ≤ (x8_2 : Int) := of_decide_eq_true (by first | (with_reducible assumption) | assumption)
                                  have q139 : x8_2 < (l1.length : Int) := of_decide_eq_true (by first | (with_reducible assumption) | assumption)
                                  obtain ⟨ad139, e139, hx139_0⟩ := Kd.at_int HR1.out x8_2 p139 q139
                                  cases e139
                                  replace hx139_0 := (HB.out.cell (World.block_lt_of_cell? w _ hx139_0)).trans hx139_0
                                  replace p139 := eq_true p139
                                  replace q139 := eq_true q139
                                  have p145 : 0 ≤ (x8_2 : Int) := of_decide_eq_true (by first | (with_reducible assumption) | assumption)
                                  have q145 : x8_2 < (l1.length : Int) := of_decide_eq_true (by first | (with_reducible assumption) | assumption)
                                  obtain ⟨ad145, e145, hx145_0⟩ := Kd.at_int HR1.out x8_2 p145 q145
                                  obtain rfl : ad139 = ad145 := (by injection e145)
                                  replace hx145_0 := (HB.out.cell (World.block_lt_of_cell? w _ hx145_0)).trans hx145_0
                                  replace p145 := eq_true p145
                                  replace q145 := eq_true q145
                                  have p146 : 0 ≤ ((ji29) : Int) := of_decide_eq_true (by first | (with_reducible assumption) | assumption)
                                  have q146 : (ji29) < (l1.length : Int) := of_decide_eq_true (by first | (with_reducible assumption) | assumption)
                                  obtain ⟨ad146, e146, hx146_0⟩ := Kd.at_int HR1.out (ji29) p146 q146
                                  obtain rfl : ad139 = ad146 := (by injection e146)
                                  replace hx146_0 := (HB.out.cell (World.block_lt_of_cell? w _ hx146_0)).trans hx146_0
                                  replace p146 := eq_true p146
                                  replace q146 := eq_true q146
                                  go_wp2
                                  repeat (go_quiet (fail); try go_wp2)
                                  go_meet
                                  case rel => exact ⟨_, (false), (by first | rfl | (simp; done) | (simp [*]; done)), H', ⟨by have := HJ2.out; have := HK2.out; first | omega | exact Nat.le_refl _⟩, ⟨by (with_reducible repeat (first | apply Kd.R_alloc | apply Kd.R_drewN | apply Kd.R_drew)); exact HO_5.out⟩, ⟨by repeat (first | (with_reducible first | exact HB.out | apply below_alloc | apply pw_below_drewN | apply below_drew1) | exact HB.out)⟩⟩
                              · rw [if_neg c31] at H
                                exact absurd H (by simp)
                            · rw [if_neg c30] at H
                              exact absurd H (by simp)
                          · rw [if_neg c28] at H
                            have c28b0 : decide (0 < x8_2) = false := decide_eq_false c28
                            clear c28
                            have H' := Aside0.mk H
                            clear H
                            have p138 : 0 ≤ (x8_2 : Int) := of_decide_eq_true (by first | (with_reducible assumption) | assumption)
                            have q138 : x8_2 < (t135.length : Int) := of_decide_eq_true (by first | (with_reducible assumption) | assumption)
                            obtain ⟨ad138, e138, hx138_0⟩ := Kd.at_int (Kd.R_reads' HO_5.out).2.2 x8_2 p138 q138
                            cases e138
                            replace p138 := eq_true p138
                            replace q138 := eq_true q138
                            have p139 : 0 ≤ (x8_2 : Int) := of_decide_eq_true (by first | (with_reducible assumption) | assumption)
                            have q139 : x8_2 < (l1.length : Int) := of_decide_eq_true (by first | (with_reducible assumption) | assumption)
                            obtain ⟨ad139, e139, hx139_0⟩ := Kd.at_int HR1.out x8_2 p139 q139
                            cases e139
                            replace hx139_0 := (HB.out.cell (World.block_lt_of_cell? w _ hx139_0)).trans hx139_0
                            replace p139 := eq_true p139
                            replace q139 := eq_true q139
                            go_wp2
                            repeat (go_quiet (fail); try go_wp2)
                            go_meet
                            case rel => exact ⟨_, (false), (by first | rfl | (simp; done) | (simp [*]; done)), H', ⟨by have := HJ2.out; have := HK2.out; first | omega | exact Nat.le_refl _⟩, ⟨by (with_reducible repeat (first | apply Kd.R_alloc | apply Kd.R_drewN | apply Kd.R_drew)); exact HO_5.out⟩, ⟨by repeat (first | (with_reducible first | exact HB.out | apply below_alloc | apply pw_below_drewN | apply below_drew1) | exact HB.out)⟩⟩
                      · rw [if_neg c19] at H
                        exact absurd H (by simp)
                  · rw [if_neg c17] at H
                    exact absurd H (by simp)
                case rest =>
                  clear HC16
                  try clear c1
                  try clear p1
                  try clear q1
                  try clear hx1
                  try clear c2
                  try clear p2
                  try clear c3
                  try clear c5
                  try clear c6
                  try clear p6
                  try clear c8
                  try clear c12
                  try clear c12b0
                  try clear c12b1
                  try clear c12b2
                  try clear p13
                  try clear q13
                  try clear hx13
                  try clear p14
                  try clear q14
                  try clear hx14
                  try clear c15
                  try clear c15b0
                  try clear c17
                  try clear c17b0
                  try clear c18
                  try clear c18b0
                  try clear c19
                  try clear c19b0
                  try clear c20
                  try clear c20b0
                  try clear c21
                  try clear c21b0
                  try clear c21b1
                  try clear c22
                  try clear c22b0
                  try clear c24
                  try clear c24b0
                  try clear c25
                  try clear c25b0
                  try clear c26
                  try clear c26b0
                  try clear c26b1
                  try clear c27
                  try clear c27b0
                  try clear c28
                  try clear c28b0
                  try clear c30
                  try clear c30b0
                  try clear c31
                  try clear c31b0
                  try clear c32
                  try clear c32b0
                  try clear c32b1
                  try clear c33
                  try clear c33b0
                  try clear hx138_0
                  try clear hx139_0
                  try clear hx140_0
                  try clear hx141_0
                  try clear hx142_0
                  try clear hx143_0
                  try clear hx144_0
                  try clear hx145_0
                  try clear hx146_0
                  try clear hx147_0
                  try clear hx148_0
                  try clear p138
                  try clear p139
                  try clear p140
                  try clear p141
                  try clear p142
                  try clear p143
                  try clear p144
                  try clear p145
                  try clear p146
                  try clear p147
                  try clear p148
                  try clear p2
                  try clear q138
                  try clear q139
                  try clear q140
                  try clear q141
                  try clear q142
                  try clear q143
                  try clear q144
                  try clear q145
                  try clear q146
                  try clear q147
                  try clear q148
                  obtain ⟨kq, x77_15, rfl, HA, HJ15, HO_5, HB⟩ := hcut
                  cases kq with
                  | zero => exact absurd HA.out (by simp [pelotonlaw02_CurveWhole.j2])
                  | succ kj15 =>
                    have H := HA.out
                    clear HA
                    simp only [pelotonlaw02_CurveWhole.j2] at H
                    by_cases c34 : x77_15 = true
                    · subst c34
                      have H1 : (some false) = some r := by rw [if_pos rfl] at H; exact H
                      clear H
                      have H := H1
                      clear H1
                      obtain rfl := Option.some.inj H
                      go_wp2
                      repeat (go_quiet (fail); try go_wp2)
                      go_ret
                      exact ⟨by first | rfl | (simp [errW_none, errW_some] <;> rfl) | (simp [*, errW_none, errW_some] <;> rfl), by repeat (first | (with_reducible first | exact HB.out | apply below_alloc | apply pw_below_drewN | apply below_drew1) | exact HB.out)⟩
                    · replace c34 := Bool.eq_false_iff.mpr c34
                      subst c34
                      have H1 : (if 0 ≤ x8_2 then (if x8_2 < (t135.length : Int) then (if x8_2 < (l1.length : Int) then (if (rd l1 x8_2) > 0 then (pelotonlaw02_CurveWhole.l0 kj15 a0 l1 t135 (wrap64 (x6_2 + (wrap64 (rd t135 x8_2)))) (wrap64 (x7_2 + 1)) (wrap64 (x8_2 + 1))) else (pelotonlaw02_CurveWhole.l0 kj15 a0 l1 t135 (wrap64 (x6_2 + (wrap64 (rd t135 x8_2)))) x7_2 (wrap64 (x8_2 + 1)))) else (none)) else (none)) else (none)) = some r := by rw [if_neg (show ¬ (false = true) by decide)] at H; exact H
                      clear H
                      have H := H1
                      clear H1
                      by_cases c35 : 0 ≤ x8_2
                      · rw [if_pos c35] at H
                        have c35b0 : decide (0 ≤ x8_2) = true := decide_eq_true c35
                        clear c35
                        by_cases c36 : x8_2 < (t135.length : Int)
                        · rw [if_pos c36] at H
                          have c36b0 : decide (x8_2 < (t135.length : Int)) = true := decide_eq_true c36
                          clear c36
                          by_cases c37 : x8_2 < (l1.length : Int)
                          · rw [if_pos c37] at H
                            have c37b0 : decide (x8_2 < (l1.length : Int)) = true := decide_eq_true c37
                            clear c37
                            by_cases c38 : (rd l1 x8_2) > 0
                            · rw [if_pos c38] at H
                              have c38b0 : decide (0 < (rd l1 x8_2)) = true := decide_eq_true c38
                              clear c38
                              have H' := Aside0.mk H
                              clear H
                              have p149 : 0 ≤ (x8_2 : Int) := of_decide_eq_true (by first | (with_reducible assumption) | assumption)
                              have q149 : x8_2 < (t135.length : Int) := of_decide_eq_true (by first | (with_reducible assumption) | assumption)
                              obtain ⟨ad149, e149, hx149_0⟩ := Kd.at_int (Kd.R_reads' HO_5.out).2.2 x8_2 p149 q149
                              cases e149
                              replace p149 := eq_true p149
                              replace q149 := eq_true q149
                              have p150 : 0 ≤ (x8_2 : Int) := of_decide_eq_true (by first | (with_reducible assumption) | assumption)
                              have q150 : x8_2 < (l1.length : Int) := of_decide_eq_true (by first | (with_reducible assumption) | assumption)
                              obtain ⟨ad150, e150, hx150_0⟩ := Kd.at_int HR1.out x8_2 p150 q150
                              cases e150
                              replace hx150_0 := (HB.out.cell (World.block_lt_of_cell? w _ hx150_0)).trans hx150_0
                              replace p150 := eq_true p150
                              replace q150 := eq_true q150
                              go_wp2
                              repeat (go_quiet (fail); try go_wp2)
                              go_roundg kj15
                              case measure => have := HJ2.out; have := HK2.out; have := HJ15.out; omega
                              case rel => exact ⟨(wrap64 (x6_2 + (wrap64 (rd t135 x8_2)))), (wrap64 (x7_2 + 1)), (wrap64 (x8_2 + 1)), (by first | rfl | (simp; done) | (simp [*]; done)), (by first | rfl | (simp; done) | (simp [*]; done)), (by first | rfl | (simp; done) | (simp [*]; done)), H', ⟨by have := HJ2.out; have := HK2.out; have := HJ15.out; omega⟩, ⟨by (with_reducible repeat (first | apply Kd.R_alloc | apply Kd.R_drewN | apply Kd.R_drew)); exact HO_5.out⟩, ⟨by repeat (first | (with_reducible first | exact HB.out | apply below_alloc | apply pw_below_drewN | apply below_drew1) | exact HB.out)⟩⟩
                            · rw [if_neg c38] at H
                              have c38b0 : decide (0 < (rd l1 x8_2)) = false := decide_eq_false c38
                              clear c38
                              have H' := Aside0.mk H
                              clear H
                              have p149 : 0 ≤ (x8_2 : Int) := of_decide_eq_true (by first | (with_reducible assumption) | assumption)
                              have q149 : x8_2 < (t135.length : Int) := of_decide_eq_true (by first | (with_reducible assumption) | assumption)
                              obtain ⟨ad149, e149, hx149_0⟩ := Kd.at_int (Kd.R_reads' HO_5.out).2.2 x8_2 p149 q149
                              cases e149
                              replace p149 := eq_true p149
                              replace q149 := eq_true q149
                              have p150 : 0 ≤ (x8_2 : Int) := of_decide_eq_true (by first | (with_reducible assumption) | assumption)
                              have q150 : x8_2 < (l1.length : Int) := of_decide_eq_true (by first | (with_reducible assumption) | assumption)
                              obtain ⟨ad150, e150, hx150_0⟩ := Kd.at_int HR1.out x8_2 p150 q150
                              cases e150
                              replace hx150_0 := (HB.out.cell (World.block_lt_of_cell? w _ hx150_0)).trans hx150_0
                              replace p150 := eq_true p150
                              replace q150 := eq_true q150
                              go_wp2
                              repeat (go_quiet (fail); try go_wp2)
                              go_roundg kj15
                              case measure => have := HJ2.out; have := HK2.out; have := HJ15.out; omega
                              case rel => exact ⟨(wrap64 (x6_2 + (wrap64 (rd t135 x8_2)))), (x7_2), (wrap64 (x8_2 + 1)), (by first | rfl | (simp; done) | (simp [*]; done)), (by first | rfl | (simp; done) | (simp [*]; done)), (by first | rfl | (simp; done) | (simp [*]; done)), H', ⟨by have := HJ2.out; have := HK2.out; have := HJ15.out; omega⟩, ⟨by (with_reducible repeat (first | apply Kd.R_alloc | apply Kd.R_drewN | apply Kd.R_drew)); exact HO_5.out⟩, ⟨by repeat (first | (with_reducible first | exact HB.out | apply below_alloc | apply pw_below_drewN | apply below_drew1) | exact HB.out)⟩⟩
                          · rw [if_neg c37] at H
                            exact absurd H (by simp)
                        · rw [if_neg c36] at H
                          exact absurd H (by simp)
                      · rw [if_neg c35] at H
                        exact absurd H (by simp)
              · rw [if_neg c15] at H
                have c15b0 : decide (x8_2 < (t135.length : Int)) = false := decide_eq_false c15
                clear c15
                by_cases c39 : x7_2 = 0
                · rw [if_pos c39] at H
                  have c39b0 : (x7_2 == 0) = true := beq_iff_eq.mpr c39
                  have c39b1 : (x7_2 != 0) = false := bne_eq_false_iff_eq.mpr c39
                  clear c39
                  obtain rfl := Option.some.inj H
                  go_wp2
                  repeat (go_quiet (fail); try go_wp2)
                  go_ret
                  exact ⟨by first | rfl | (simp [errW_none, errW_some] <;> rfl) | (simp [*, errW_none, errW_some] <;> rfl), by repeat (first | (with_reducible first | exact HB.out | apply below_alloc | apply pw_below_drewN | apply below_drew1) | exact HB.out)⟩
                · rw [if_neg c39] at H
                  have c39b0 : (x7_2 == 0) = false := beq_eq_false_iff_ne.mpr c39
                  have c39b1 : (x7_2 != 0) = true := bne_iff_ne.mpr c39
                  by_cases c40 : a0 ≤ 0
                  · rw [if_pos c40] at H
                    have c40b0 : decide (a0 ≤ 0) = true := decide_eq_true c40
                    clear c40
                    obtain rfl := Option.some.inj H
                    go_wp2
                    repeat (go_quiet (fail); try go_wp2)
                    go_ret
                    exact ⟨by first | rfl | (simp [errW_none, errW_some] <;> rfl) | (simp [*, errW_none, errW_some] <;> rfl), by repeat (first | (with_reducible first | exact HB.out | apply below_alloc | apply pw_below_drewN | apply below_drew1) | exact HB.out)⟩
                  · rw [if_neg c40] at H
                    have c40b0 : decide (a0 ≤ 0) = false := decide_eq_false c40
                    clear c40
                    by_cases c41 : x6_2 ≤ (wrap64 (a0))
                    · rw [if_pos c41] at H
                      have c41b0 : decide (x6_2 ≤ (wrap64 (a0))) = true := decide_eq_true c41
                      clear c41
                      obtain rfl := Option.some.inj H
                      go_wp2
                      repeat (go_quiet (fail); try go_wp2)
                      go_ret
                      exact ⟨by first | rfl | (simp [errW_none, errW_some] <;> rfl) | (simp [*, errW_none, errW_some] <;> rfl), by repeat (first | (with_reducible first | exact HB.out | apply below_alloc | apply pw_below_drewN | apply below_drew1) | exact HB.out)⟩
                    · rw [if_neg c41] at H
                      have c41b0 : decide (x6_2 ≤ (wrap64 (a0))) = false := decide_eq_false c41
                      clear c41
                      obtain rfl := Option.some.inj H
                      go_wp2
                      repeat (go_quiet (fail); try go_wp2)
                      go_ret
                      exact ⟨by first | rfl | (simp [errW_none, errW_some] <;> rfl) | (simp [*, errW_none, errW_some] <;> rfl), by repeat (first | (with_reducible first | exact HB.out | apply below_alloc | apply pw_below_drewN | apply below_drew1) | exact HB.out)⟩
        · rw [if_neg c12] at H
          have c12b0 : ((t135.length : Int) == (l1.length : Int)) = false := beq_eq_false_iff_ne.mpr c12
          have c12b1 : ((t135.length : Int) != (l1.length : Int)) = true := bne_iff_ne.mpr c12
          have c12b2 : (t135.length == l1.length) = false := by first | simpa using c12 | (simp at c12 ⊢; omega)
          obtain rfl := Option.some.inj H
          go_wp2_with (first | (go_at_call 16; (with_reducible refine (curve_Shares.calls kj2 a0 _ _ l1 t135 _ ?side1 ?side2 A11.out).mono ?_); (case side1 => repeat (first | exact (Kd.C_below HR1.out HB.out) | (with_reducible refine Kd.C_alloc ?_ _) | (with_reducible refine Kd.C_drewN ?_ _) | (with_reducible refine Kd.C_drew ?_))); (case side2 => exact HC1.out); rintro e w42 ⟨v136, rfl, ho0, hb⟩; have n0_ := Aside0.mk (Kd.R_lower ho0 (below_size (by repeat (first | (with_reducible first | exact HB.out | apply below_alloc | apply pw_below_drewN | apply below_drew1) | exact HB.out)))); have n1_ := Aside0.mk (below_step (by repeat (first | (with_reducible first | exact HB.out | apply below_alloc | apply pw_below_drewN | apply below_drew1) | exact HB.out)) hb); clear HB; have HO137 := n0_; have HB := n1_; clear n0_ n1_; (try clear hb); (try clear hb2); (try clear hk); (try clear hi); (try clear ho0); obtain ⟨Ao43, co43, eo43⟩ := Kd.R_slice HO137.out; subst eo43))
          repeat (go_quiet (first | (go_at_call 16; (with_reducible refine (curve_Shares.calls kj2 a0 _ _ l1 t135 _ ?side1 ?side2 A11.out).mono ?_); (case side1 => repeat (first | exact (Kd.C_below HR1.out HB.out) | (with_reducible refine Kd.C_alloc ?_ _) | (with_reducible refine Kd.C_drewN ?_ _) | (with_reducible refine Kd.C_drew ?_))); (case side2 => exact HC1.out); rintro e w42 ⟨v136, rfl, ho0, hb⟩; have n0_ := Aside0.mk (Kd.R_lower ho0 (below_size (by repeat (first | (with_reducible first | exact HB.out | apply below_alloc | apply pw_below_drewN | apply below_drew1) | exact HB.out)))); have n1_ := Aside0.mk (below_step (by repeat (first | (with_reducible first | exact HB.out | apply below_alloc | apply pw_below_drewN | apply below_drew1) | exact HB.out)) hb); clear HB; have HO137 := n0_; have HB := n1_; clear n0_ n1_; (try clear hb); (try clear hb2); (try clear hk); (try clear hi); (try clear ho0); obtain ⟨Ao43, co43, eo43⟩ := Kd.R_slice HO137.out; subst eo43)); try go_wp2_with (first | (go_at_call 16; (with_reducible refine (curve_Shares.calls kj2 a0 _ _ l1 t135 _ ?side1 ?side2 A11.out).mono ?_); (case side1 => repeat (first | exact (Kd.C_below HR1.out HB.out) | (with_reducible refine Kd.C_alloc ?_ _) | (with_reducible refine Kd.C_drewN ?_ _) | (with_reducible refine Kd.C_drew ?_))); (case side2 => exact HC1.out); rintro e w42 ⟨v136, rfl, ho0, hb⟩; have n0_ := Aside0.mk (Kd.R_lower ho0 (below_size (by repeat (first | (with_reducible first | exact HB.out | apply below_alloc | apply pw_below_drewN | apply below_drew1) | exact HB.out)))); have n1_ := Aside0.mk (below_step (by repeat (first | (with_reducible first | exact HB.out | apply below_alloc | apply pw_below_drewN | apply below_drew1) | exact HB.out)) hb); clear HB; have HO137 := n0_; have HB := n1_; clear n0_ n1_; (try clear hb); (try clear hb2); (try clear hk); (try clear hi); (try clear ho0); obtain ⟨Ao43, co43, eo43⟩ := Kd.R_slice HO137.out; subst eo43)))
          go_ret
          exact ⟨by first | rfl | (simp [errW_none, errW_some] <;> rfl) | (simp [*, errW_none, errW_some] <;> rfl), by repeat (first | (with_reducible first | exact HB.out | apply below_alloc | apply pw_below_drewN | apply below_drew1) | exact HB.out)⟩

/-- THE ONE PURE STATEMENT of pelotonlaw02_CurveWhole: yours. -/
def pelotonlaw02_CurveWhole.Pure : Prop := ∀ (a0 : Int) (l1 : List Int), (Lit.int .i32 a0).wf = true → l1.length ≤ maxLen → l1.length * 4 ≤ 140737488351232 → (∀ x ∈ l1, (Lit.int .i32 x).wf = true) → ∃ k, pelotonlaw02_CurveWhole.f k a0 l1 = some true
theorem pelotonlaw02_CurveWhole.walk (P : pelotonlaw02_CurveWhole.Pure) (a0 : Int) (a1 : Option Addr) (len1 cap1 : Nat) (z1 : List Int) (w : World) (w0 : (Lit.int .i32 a0).wf = true) (w1 : (a1 = none ∧ len1 = 0 ∧ cap1 = 0 ∧ z1 = []) ∨ ∃ x, a1 = some x ∧ len1 ≤ cap1 ∧ cap1 ≤ maxLen ∧ z1.length = cap1 ∧ (∀ i, i < z1.length → w.cell? (x.add i) = some (.int .i32 (z1.getD i 0))) ∧ ∀ n ∈ z1, (Lit.int .i32 n).wf = true) (y1 : len1 * 4 ≤ 140737488351232) :
    Calls Try.prog 6 #[.int .i32 a0, .slice a1 len1 cap1] w fun e w' => e = .returned (.bool true) ∧ Below w.heap.size w w' := by
  obtain ⟨l1, rfl, hr1, hm1, hw1, hc1⟩ := ReadsInt.ofRowC w1
  obtain ⟨k, h⟩ := P a0 l1 w0 hm1 y1 hw1
  refine (pelotonlaw02_CurveWhole.calls k a0 _ _ l1 true w (Kd.C_of_reads (d := (0 : Int)) (h1 := fun _ => rfl) hr1) hc1 h).mono ?_
  rintro e w' ⟨rfl, hd⟩
  exact ⟨rfl, hd⟩

end Go.Proofs.Ytbkmocebohdgnaa.PCurveWhole
