-- Written by a program of this session (a driver over the kit's print), with hand-proved parts.
import Derived.Test.YtmpdkjcobpghaaaPNormOrdersx0
import Derived.Test.YtmpdkjcobpghaaaPNormOrdersx3
import Derived.Test.YtmpdkjcobpghaaaPNormOrdersx5
namespace Go.Proofs.Ytmpdkjcobpghaaa.PNormOrders
open Go.RowKit Go.Proofs.YtmpdkjcobpghaaaW.PrintWords Go.Proofs.YtmpdkjcobpghaaaW.PrintLast Go.Proofs.YtmpdkjcobpghaaaW.PrintMore
attribute [local go_sem] max2_int min2_int max_two min_two max_three min_three max_four min_four   -- for this text's walks alone
set_option linter.unusedVariables false
set_option linter.unusedSimpArgs false

/-! ### pelotonlaw05_NormOrders: function 5 -/
mutual
def pelotonlaw05_NormOrders.j0 : Nat → Int → Int → List Int → Bool → Option (Bool)
  | 0, _, _, _, _ => none
  | k + 1, x0, x1, x2, x21 => if x21 = true then ((pelotonlaw05_awake.f k).bind fun t220 => (some t220)) else ((norm_Softmax.f k x0 x1 x2).bind fun t221 => (if (t221.length : Int) = (x2.length : Int) then (pelotonlaw05_NormOrders.l0 k x2 t221 0 0) else (some false)))
def pelotonlaw05_NormOrders.l0 : Nat → List Int → List Int → Int → Int → Option (Bool)
  | 0, _, _, _, _ => none
  | k + 1, x2, x7, x8, x9 => if x9 < (x7.length : Int) then (if 0 ≤ x9 then (if (rd x7 x9) < 0 then (some false) else (pelotonlaw05_NormOrders.l1 k x2 x7 (wrap64 (x8 + (wrap64 (rd x7 x9)))) x9 0)) else (none)) else (if x8 ≤ 65536 then (if (x2.length : Int) = 0 then (some true) else (some (decide (x8 > (wrap64 (65536 - (x2.length : Int))))))) else (some false))
def pelotonlaw05_NormOrders.l1 : Nat → List Int → List Int → Int → Int → Int → Option (Bool)
  | 0, _, _, _, _, _ => none
  | k + 1, x2, x7, x8, x9, x10 => if x10 < x9 then (if 0 ≤ x10 then (if x10 < (x2.length : Int) then (if 0 ≤ x9 then (if x9 < (x2.length : Int) then (if (rd x2 x10) > (rd x2 x9) then (if x10 < (x7.length : Int) then (if x9 < (x7.length : Int) then (if (rd x7 x10) < (rd x7 x9) then (some false) else (if (rd x2 x10) < (rd x2 x9) then (if (rd x7 x10) > (rd x7 x9) then (some false) else (if (rd x2 x10) = (rd x2 x9) then (if (rd x7 x10) = (rd x7 x9) then (pelotonlaw05_NormOrders.l1 k x2 x7 x8 x9 (wrap64 (x10 + 1))) else (some false)) else (pelotonlaw05_NormOrders.l1 k x2 x7 x8 x9 (wrap64 (x10 + 1))))) else (if (rd x2 x10) = (rd x2 x9) then (if (rd x7 x10) = (rd x7 x9) then (pelotonlaw05_NormOrders.l1 k x2 x7 x8 x9 (wrap64 (x10 + 1))) else (some false)) else (pelotonlaw05_NormOrders.l1 k x2 x7 x8 x9 (wrap64 (x10 + 1)))))) else (none)) else (none)) else (if (rd x2 x10) < (rd x2 x9) then (if x10 < (x7.length : Int) then (if x9 < (x7.length : Int) then (if (rd x7 x10) > (rd x7 x9) then (some false) else (if (rd x2 x10) = (rd x2 x9) then (if (rd x7 x10) = (rd x7 x9) then (pelotonlaw05_NormOrders.l1 k x2 x7 x8 x9 (wrap64 (x10 + 1))) else (some false)) else (pelotonlaw05_NormOrders.l1 k x2 x7 x8 x9 (wrap64 (x10 + 1))))) else (none)) else (none)) else (if (rd x2 x10) = (rd x2 x9) then (if x10 < (x7.length : Int) then (if x9 < (x7.length : Int) then (if (rd x7 x10) = (rd x7 x9) then (pelotonlaw05_NormOrders.l1 k x2 x7 x8 x9 (wrap64 (x10 + 1))) else (some false)) else (none)) else (none)) else (pelotonlaw05_NormOrders.l1 k x2 x7 x8 x9 (wrap64 (x10 + 1)))))) else (none)) else (none)) else (none)) else (none)) else (pelotonlaw05_NormOrders.l0 k x2 x7 x8 (wrap64 (x9 + 1)))
end
def pelotonlaw05_NormOrders.f (k : Nat) (a0 : Int) (a1 : Int) (l2 : List Int) : Option (Bool) := (pelotonlaw05_awake.f k).bind fun t219 => (if t219 = true then (if (l2.length : Int) > 200 then (pelotonlaw05_NormOrders.j0 k a0 a1 l2 true) else (pelotonlaw05_NormOrders.j0 k a0 a1 l2 (decide (a0 < 0)))) else (pelotonlaw05_NormOrders.j0 k a0 a1 l2 true))
theorem pelotonlaw05_NormOrders.mono_l : ∀ k, (∀ y0 y1 y2 y3, LeO (pelotonlaw05_NormOrders.j0 k y0 y1 y2 y3) (pelotonlaw05_NormOrders.j0 (k + 1) y0 y1 y2 y3)) ∧ (∀ y0 y1 y2 y3, LeO (pelotonlaw05_NormOrders.l0 k y0 y1 y2 y3) (pelotonlaw05_NormOrders.l0 (k + 1) y0 y1 y2 y3)) ∧ (∀ y0 y1 y2 y3 y4, LeO (pelotonlaw05_NormOrders.l1 k y0 y1 y2 y3 y4) (pelotonlaw05_NormOrders.l1 (k + 1) y0 y1 y2 y3 y4))
  | 0 => ⟨fun _ _ _ _ r h => by simp [pelotonlaw05_NormOrders.j0] at h, fun _ _ _ _ r h => by simp [pelotonlaw05_NormOrders.l0] at h, fun _ _ _ _ _ r h => by simp [pelotonlaw05_NormOrders.l1] at h⟩
  | k + 1 => by
    obtain ⟨ih0, ih1, ih2⟩ := pelotonlaw05_NormOrders.mono_l k
    refine ⟨?_, ?_, ?_⟩
    · intro y0 y1 y2 y3
      unfold pelotonlaw05_NormOrders.j0
      repeat' first
      | (with_reducible exact ih0 _ _ _ _)
      | (with_reducible exact ih1 _ _ _ _)
      | (with_reducible exact ih2 _ _ _ _ _)
      | (with_reducible exact norm_Softmax.mono _ _ _ _)
      | (with_reducible exact pelotonlaw05_awake.mono _)
      | (with_reducible exact LeO.refl _)
      | (with_reducible exact LeO.none _)
      | (with_reducible refine LeO.ite ?_ ?_)
      | (with_reducible refine LeO.bind ?_ (fun _ => ?_))
      | exact ih0 _ _ _ _
      | exact ih1 _ _ _ _
      | exact ih2 _ _ _ _ _
      | exact norm_Softmax.mono _ _ _ _
      | exact pelotonlaw05_awake.mono _
      | exact LeO.none _
      | refine LeO.ite ?_ ?_
      | refine LeO.bind ?_ (fun _ => ?_)
    · intro y0 y1 y2 y3
      unfold pelotonlaw05_NormOrders.l0
      repeat' first
      | (with_reducible exact ih0 _ _ _ _)
      | (with_reducible exact ih1 _ _ _ _)
      | (with_reducible exact ih2 _ _ _ _ _)
      | (with_reducible exact norm_Softmax.mono _ _ _ _)
      | (with_reducible exact pelotonlaw05_awake.mono _)
      | (with_reducible exact LeO.refl _)
      | (with_reducible exact LeO.none _)
      | (with_reducible refine LeO.ite ?_ ?_)
      | (with_reducible refine LeO.bind ?_ (fun _ => ?_))
      | exact ih0 _ _ _ _
      | exact ih1 _ _ _ _
      | exact ih2 _ _ _ _ _
      | exact norm_Softmax.mono _ _ _ _
      | exact pelotonlaw05_awake.mono _
      | exact LeO.none _
      | refine LeO.ite ?_ ?_
      | refine LeO.bind ?_ (fun _ => ?_)
    · intro y0 y1 y2 y3 y4
      unfold pelotonlaw05_NormOrders.l1
      repeat' first
      | (with_reducible exact ih0 _ _ _ _)
      | (with_reducible exact ih1 _ _ _ _)
      | (with_reducible exact ih2 _ _ _ _ _)
      | (with_reducible exact norm_Softmax.mono _ _ _ _)
      | (with_reducible exact pelotonlaw05_awake.mono _)
      | (with_reducible exact LeO.refl _)
      | (with_reducible exact LeO.none _)
      | (with_reducible refine LeO.ite ?_ ?_)
      | (with_reducible refine LeO.bind ?_ (fun _ => ?_))
      | exact ih0 _ _ _ _
      | exact ih1 _ _ _ _
      | exact ih2 _ _ _ _ _
      | exact norm_Softmax.mono _ _ _ _
      | exact pelotonlaw05_awake.mono _
      | exact LeO.none _
      | refine LeO.ite ?_ ?_
      | refine LeO.bind ?_ (fun _ => ?_)
theorem pelotonlaw05_NormOrders.mono : ∀ a0 a1 a2 k, LeO (pelotonlaw05_NormOrders.f k a0 a1 a2) (pelotonlaw05_NormOrders.f (k + 1) a0 a1 a2) := by
  intro a0 a1 a2 k
  obtain ⟨ih0, ih1, ih2⟩ := pelotonlaw05_NormOrders.mono_l k
  unfold pelotonlaw05_NormOrders.f
  repeat' first
      | (with_reducible exact ih0 _ _ _ _)
      | (with_reducible exact ih1 _ _ _ _)
      | (with_reducible exact ih2 _ _ _ _ _)
      | (with_reducible exact norm_Softmax.mono _ _ _ _)
      | (with_reducible exact pelotonlaw05_awake.mono _)
      | (with_reducible exact LeO.refl _)
      | (with_reducible exact LeO.none _)
      | (with_reducible refine LeO.ite ?_ ?_)
      | (with_reducible refine LeO.bind ?_ (fun _ => ?_))
      | exact ih0 _ _ _ _
      | exact ih1 _ _ _ _
      | exact ih2 _ _ _ _ _
      | exact norm_Softmax.mono _ _ _ _
      | exact pelotonlaw05_awake.mono _
      | exact LeO.none _
      | refine LeO.ite ?_ ?_
      | refine LeO.bind ?_ (fun _ => ?_)
set_option maxHeartbeats 8000000 in
set_option maxRecDepth 100000 in
theorem pelotonlaw05_NormOrders.calls (k : Nat) (a0 : Int) (a1 : Int) (A2 : Option Addr) (c2 : Nat) (l2 : List Int) (r : Bool) (w : World) (hr2 : Kd.C (Kd.int .i32) w A2 l2.length l2) (hc2 : l2.length ≤ c2) (h : pelotonlaw05_NormOrders.f k a0 a1 l2 = some r) :
    Calls Try.prog 5 #[.int .i32 a0, .int .i64 a1, .slice A2 l2.length c2] w fun e w' => e = .returned (.bool r) ∧ Below w.heap.size w w' := by
  have HR2 := Aside0.mk hr2
  have HC2 := Aside0.mk hc2
  clear hr2 hc2
  have HB := Aside0.mk (Below.refl w.heap.size w)
  have H : ((pelotonlaw05_awake.f k).bind fun t219 => (if t219 = true then (if (l2.length : Int) > 200 then (pelotonlaw05_NormOrders.j0 k a0 a1 l2 true) else (pelotonlaw05_NormOrders.j0 k a0 a1 l2 (decide (a0 < 0)))) else (pelotonlaw05_NormOrders.j0 k a0 a1 l2 true))) = some r := h
  clear h
  have HC4 := Aside0.mk H
  clear H
  go_enter Try.func5, Try.ntmps5
  go_upto_region 1 with (fail)
  repeat (go_quiet (fail); go_upto_region 1 with (fail))
  go_cut [21] (fun v21 wc => ∃ (kq : Nat) (x21_3 : Bool), v21 = .bool x21_3 ∧ Aside0 (pelotonlaw05_NormOrders.j0 kq a0 a1 l2 x21_3 = some r) ∧ Aside0 (kq ≤ k) ∧ Aside0 (Below w.heap.size w wc))
  case first =>
    have H := HC4.out
    clear HC4
    replace H := Option.bind_eq_some_iff.mp H
    obtain ⟨t219, A50, H⟩ := H
    replace H : (if t219 = true then (if (l2.length : Int) > 200 then (pelotonlaw05_NormOrders.j0 k a0 a1 l2 true) else (pelotonlaw05_NormOrders.j0 k a0 a1 l2 (decide (a0 < 0)))) else (pelotonlaw05_NormOrders.j0 k a0 a1 l2 true)) = some r := H
    have A5 := Aside0.mk A50
    clear A50
    by_cases c6 : t219 = true
    · subst c6
      have H1 : (if (l2.length : Int) > 200 then (pelotonlaw05_NormOrders.j0 k a0 a1 l2 true) else (pelotonlaw05_NormOrders.j0 k a0 a1 l2 (decide (a0 < 0)))) = some r := by rw [if_pos rfl] at H; exact H
      clear H
      have H := H1
      clear H1
      by_cases c7 : (l2.length : Int) > 200
      · rw [if_pos c7] at H
        have c7b0 : decide (200 < (l2.length : Int)) = true := decide_eq_true c7
        have c7b1 : decide (200 < l2.length) = true := decide_eq_true (by omega)
        clear c7
        (first | rw [c7b0] | (simp only [i64_w, i32_w]; rw [c7b0]) | skip)
        have H' := Aside0.mk H
        clear H
        go_wp2_with (first | (go_at_call 10; (with_reducible refine (pelotonlaw05_awake.calls k  true _ A5.out).mono ?_); rintro e w8 ⟨rfl, hb⟩; have n0_ := Aside0.mk (below_step (by repeat (first | (with_reducible first | exact HB.out | apply below_alloc | apply pw_below_drewN | apply below_drew1) | exact HB.out)) hb); clear HB; have HB := n0_; clear n0_; (try clear hb); (try clear hb2); (try clear hk); (try clear hi)))
        repeat (go_quiet (first | (go_at_call 10; (with_reducible refine (pelotonlaw05_awake.calls k  true _ A5.out).mono ?_); rintro e w8 ⟨rfl, hb⟩; have n0_ := Aside0.mk (below_step (by repeat (first | (with_reducible first | exact HB.out | apply below_alloc | apply pw_below_drewN | apply below_drew1) | exact HB.out)) hb); clear HB; have HB := n0_; clear n0_; (try clear hb); (try clear hb2); (try clear hk); (try clear hi))); try go_wp2_with (first | (go_at_call 10; (with_reducible refine (pelotonlaw05_awake.calls k  true _ A5.out).mono ?_); rintro e w8 ⟨rfl, hb⟩; have n0_ := Aside0.mk (below_step (by repeat (first | (with_reducible first | exact HB.out | apply below_alloc | apply pw_below_drewN | apply below_drew1) | exact HB.out)) hb); clear HB; have HB := n0_; clear n0_; (try clear hb); (try clear hb2); (try clear hk); (try clear hi))))
        go_meet
        case rel => exact ⟨_, (true), (by first | rfl | (simp; done) | (simp [*]; done)), H', ⟨by first | omega | exact Nat.le_refl _⟩, ⟨by repeat (first | (with_reducible first | exact HB.out | apply below_alloc | apply pw_below_drewN | apply below_drew1) | exact HB.out)⟩⟩
      · rw [if_neg c7] at H
        have c7b0 : decide (200 < (l2.length : Int)) = false := decide_eq_false c7
        have c7b1 : decide (200 < l2.length) = false := decide_eq_false (by omega)
        clear c7
        (first | rw [c7b0] | (simp only [i64_w, i32_w]; rw [c7b0]) | skip)
        have H' := Aside0.mk H
        clear H
        go_wp2_with (first | (go_at_call 10; (with_reducible refine (pelotonlaw05_awake.calls k  true _ A5.out).mono ?_); rintro e w9 ⟨rfl, hb⟩; have n0_ := Aside0.mk (below_step (by repeat (first | (with_reducible first | exact HB.out | apply below_alloc | apply pw_below_drewN | apply below_drew1) | exact HB.out)) hb); clear HB; have HB := n0_; clear n0_; (try clear hb); (try clear hb2); (try clear hk); (try clear hi)))
        repeat (go_quiet (first | (go_at_call 10; (with_reducible refine (pelotonlaw05_awake.calls k  true _ A5.out).mono ?_); rintro e w9 ⟨rfl, hb⟩; have n0_ := Aside0.mk (below_step (by repeat (first | (with_reducible first | exact HB.out | apply below_alloc | apply pw_below_drewN | apply below_drew1) | exact HB.out)) hb); clear HB; have HB := n0_; clear n0_; (try clear hb); (try clear hb2); (try clear hk); (try clear hi))); try go_wp2_with (first | (go_at_call 10; (with_reducible refine (pelotonlaw05_awake.calls k  true _ A5.out).mono ?_); rintro e w9 ⟨rfl, hb⟩; have n0_ := Aside0.mk (below_step (by repeat (first | (with_reducible first | exact HB.out | apply below_alloc | apply pw_below_drewN | apply below_drew1) | exact HB.out)) hb); clear HB; have HB := n0_; clear n0_; (try clear hb); (try clear hb2); (try clear hk); (try clear hi))))
        go_meet
        case rel => exact ⟨_, (decide (a0 < 0)), (by first | rfl | (simp; done) | (simp [*]; done)), H', ⟨by first | omega | exact Nat.le_refl _⟩, ⟨by repeat (first | (with_reducible first | exact HB.out | apply below_alloc | apply pw_below_drewN | apply below_drew1) | exact HB.out)⟩⟩
    · replace c6 := Bool.eq_false_iff.mpr c6
      subst c6
      have H1 : (pelotonlaw05_NormOrders.j0 k a0 a1 l2 true) = some r := by rw [if_neg (show ¬ (false = true) by decide)] at H; exact H
      clear H
      have H := H1
      clear H1
      have H' := Aside0.mk H
      clear H
      go_wp2_with (first | (go_at_call 10; (with_reducible refine (pelotonlaw05_awake.calls k  false _ A5.out).mono ?_); rintro e w10 ⟨rfl, hb⟩; have n0_ := Aside0.mk (below_step (by repeat (first | (with_reducible first | exact HB.out | apply below_alloc | apply pw_below_drewN | apply below_drew1) | exact HB.out)) hb); clear HB; have HB := n0_; clear n0_; (try clear hb); (try clear hb2); (try clear hk); (try clear hi)))
      repeat (go_quiet (first | (go_at_call 10; (with_reducible refine (pelotonlaw05_awake.calls k  false _ A5.out).mono ?_); rintro e w10 ⟨rfl, hb⟩; have n0_ := Aside0.mk (below_step (by repeat (first | (with_reducible first | exact HB.out | apply below_alloc | apply pw_below_drewN | apply below_drew1) | exact HB.out)) hb); clear HB; have HB := n0_; clear n0_; (try clear hb); (try clear hb2); (try clear hk); (try clear hi))); try go_wp2_with (first | (go_at_call 10; (with_reducible refine (pelotonlaw05_awake.calls k  false _ A5.out).mono ?_); rintro e w10 ⟨rfl, hb⟩; have n0_ := Aside0.mk (below_step (by repeat (first | (with_reducible first | exact HB.out | apply below_alloc | apply pw_below_drewN | apply below_drew1) | exact HB.out)) hb); clear HB; have HB := n0_; clear n0_; (try clear hb); (try clear hb2); (try clear hk); (try clear hi))))
      go_meet
      case rel => exact ⟨_, (true), (by first | rfl | (simp; done) | (simp [*]; done)), H', ⟨by first | omega | exact Nat.le_refl _⟩, ⟨by repeat (first | (with_reducible first | exact HB.out | apply below_alloc | apply pw_below_drewN | apply below_drew1) | exact HB.out)⟩⟩
  case rest =>
    clear HC4
    try clear c2
    try clear p2
    try clear c5
    try clear c6
    try clear c7
    try clear c7b0
    try clear c7b1
    obtain ⟨kq, x21_3, rfl, HA, HJ3, HB⟩ := hcut
    cases kq with
    | zero => exact absurd HA.out (by simp [pelotonlaw05_NormOrders.j0])
    | succ kj3 =>
      have H := HA.out
      clear HA
      simp only [pelotonlaw05_NormOrders.j0] at H
      by_cases c11 : x21_3 = true
      · subst c11
        have H1 : ((pelotonlaw05_awake.f kj3).bind fun t220 => (some t220)) = some r := by rw [if_pos rfl] at H; exact H
        clear H
        have H := H1
        clear H1
        replace H := Option.bind_eq_some_iff.mp H
        obtain ⟨t220, A120, H⟩ := H
        replace H : (some t220) = some r := H
        have A12 := Aside0.mk A120
        clear A120
        obtain rfl := Option.some.inj H
        go_wp2_with (first | (go_at_call 10; (with_reducible refine (pelotonlaw05_awake.calls kj3  t220 _ A12.out).mono ?_); rintro e w13 ⟨rfl, hb⟩; have n0_ := Aside0.mk (below_step (by repeat (first | (with_reducible first | exact HB.out | apply below_alloc | apply pw_below_drewN | apply below_drew1) | exact HB.out)) hb); clear HB; have HB := n0_; clear n0_; (try clear hb); (try clear hb2); (try clear hk); (try clear hi)))
        repeat (go_quiet (first | (go_at_call 10; (with_reducible refine (pelotonlaw05_awake.calls kj3  t220 _ A12.out).mono ?_); rintro e w13 ⟨rfl, hb⟩; have n0_ := Aside0.mk (below_step (by repeat (first | (with_reducible first | exact HB.out | apply below_alloc | apply pw_below_drewN | apply below_drew1) | exact HB.out)) hb); clear HB; have HB := n0_; clear n0_; (try clear hb); (try clear hb2); (try clear hk); (try clear hi))); try go_wp2_with (first | (go_at_call 10; (with_reducible refine (pelotonlaw05_awake.calls kj3  t220 _ A12.out).mono ?_); rintro e w13 ⟨rfl, hb⟩; have n0_ := Aside0.mk (below_step (by repeat (first | (with_reducible first | exact HB.out | apply below_alloc | apply pw_below_drewN | apply below_drew1) | exact HB.out)) hb); clear HB; have HB := n0_; clear n0_; (try clear hb); (try clear hb2); (try clear hk); (try clear hi))))
        go_ret
        exact ⟨by first | rfl | (simp [errW_none, errW_some] <;> rfl) | (simp [*, errW_none, errW_some] <;> rfl), by repeat (first | (with_reducible first | exact HB.out | apply below_alloc | apply pw_below_drewN | apply below_drew1) | exact HB.out)⟩
      · replace c11 := Bool.eq_false_iff.mpr c11
        subst c11
        have H1 : ((norm_Softmax.f kj3 a0 a1 l2).bind fun t221 => (if (t221.length : Int) = (l2.length : Int) then (pelotonlaw05_NormOrders.l0 kj3 l2 t221 0 0) else (some false))) = some r := by rw [if_neg (show ¬ (false = true) by decide)] at H; exact H
        clear H
        have H := H1
        clear H1
        replace H := Option.bind_eq_some_iff.mp H
        obtain ⟨t221, A140, H⟩ := H
        replace H : (if (t221.length : Int) = (l2.length : Int) then (pelotonlaw05_NormOrders.l0 kj3 l2 t221 0 0) else (some false)) = some r := H
        have A14 := Aside0.mk A140
        clear A140
        by_cases c15 : (t221.length : Int) = (l2.length : Int)
        · rw [if_pos c15] at H
          have c15b0 : ((t221.length : Int) == (l2.length : Int)) = true := beq_iff_eq.mpr c15
          have c15b1 : ((t221.length : Int) != (l2.length : Int)) = false := bne_eq_false_iff_eq.mpr c15
          have c15b2 : (t221.length == l2.length) = true := by first | simpa using c15 | (simp at c15 ⊢; omega)
          clear c15
          have H' := Aside0.mk H
          clear H
          go_wp2_with (first | (go_at_call 15; (with_reducible refine (norm_Softmax.calls kj3 a0 a1 _ _ l2 t221 _ ?side1 ?side2 A14.out).mono ?_); (case side1 => repeat (first | exact (Kd.C_below HR2.out HB.out) | (with_reducible refine Kd.C_alloc ?_ _) | (with_reducible refine Kd.C_drewN ?_ _) | (with_reducible refine Kd.C_drew ?_))); (case side2 => exact HC2.out); rintro e w16 ⟨v222, rfl, ho0, hb⟩; have n0_ := Aside0.mk (Kd.R_lower ho0 (below_size (by repeat (first | (with_reducible first | exact HB.out | apply below_alloc | apply pw_below_drewN | apply below_drew1) | exact HB.out)))); have n1_ := Aside0.mk (below_step (by repeat (first | (with_reducible first | exact HB.out | apply below_alloc | apply pw_below_drewN | apply below_drew1) | exact HB.out)) hb); clear HB; have HO223 := n0_; have HB := n1_; clear n0_ n1_; (try clear hb); (try clear hb2); (try clear hk); (try clear hi); (try clear ho0); obtain ⟨Ao17, co17, eo17⟩ := Kd.R_slice HO223.out; subst eo17))
          repeat (go_quiet (first | (go_at_call 15; (with_reducible refine (norm_Softmax.calls kj3 a0 a1 _ _ l2 t221 _ ?side1 ?side2 A14.out).mono ?_); (case side1 => repeat (first | exact (Kd.C_below HR2.out HB.out) | (with_reducible refine Kd.C_alloc ?_ _) | (with_reducible refine Kd.C_drewN ?_ _) | (with_reducible refine Kd.C_drew ?_))); (case side2 => exact HC2.out); rintro e w16 ⟨v222, rfl, ho0, hb⟩; have n0_ := Aside0.mk (Kd.R_lower ho0 (below_size (by repeat (first | (with_reducible first | exact HB.out | apply below_alloc | apply pw_below_drewN | apply below_drew1) | exact HB.out)))); have n1_ := Aside0.mk (below_step (by repeat (first | (with_reducible first | exact HB.out | apply below_alloc | apply pw_below_drewN | apply below_drew1) | exact HB.out)) hb); clear HB; have HO223 := n0_; have HB := n1_; clear n0_ n1_; (try clear hb); (try clear hb2); (try clear hk); (try clear hi); (try clear ho0); obtain ⟨Ao17, co17, eo17⟩ := Kd.R_slice HO223.out; subst eo17)); try go_wp2_with (first | (go_at_call 15; (with_reducible refine (norm_Softmax.calls kj3 a0 a1 _ _ l2 t221 _ ?side1 ?side2 A14.out).mono ?_); (case side1 => repeat (first | exact (Kd.C_below HR2.out HB.out) | (with_reducible refine Kd.C_alloc ?_ _) | (with_reducible refine Kd.C_drewN ?_ _) | (with_reducible refine Kd.C_drew ?_))); (case side2 => exact HC2.out); rintro e w16 ⟨v222, rfl, ho0, hb⟩; have n0_ := Aside0.mk (Kd.R_lower ho0 (below_size (by repeat (first | (with_reducible first | exact HB.out | apply below_alloc | apply pw_below_drewN | apply below_drew1) | exact HB.out)))); have n1_ := Aside0.mk (below_step (by repeat (first | (with_reducible first | exact HB.out | apply below_alloc | apply pw_below_drewN | apply below_drew1) | exact HB.out)) hb); clear HB; have HO223 := n0_; have HB := n1_; clear n0_ n1_; (try clear hb); (try clear hb2); (try clear hk); (try clear hi); (try clear ho0); obtain ⟨Ao17, co17, eo17⟩ := Kd.R_slice HO223.out; subst eo17)))
          go_loopg [8, 9] kj3 (fun kq v8 v9 w' => ∃ (x8_2 : Int) (x9_2 : Int), v8 = .int .i64 x8_2 ∧ v9 = .int .i64 x9_2 ∧ Aside0 (pelotonlaw05_NormOrders.l0 kq l2 t221 x8_2 x9_2 = some r) ∧ Aside0 (kq ≤ kj3) ∧ Aside0 (Kd.R (Kd.int .i32) 21 w' w.heap.size (fun _ => True) (.slice Ao17 t221.length co17) t221) ∧ Aside0 (Below w.heap.size w w'))
          case atStart => exact ⟨(0), (0), (by first | rfl | (simp; done) | (simp [*]; done)), (by first | rfl | (simp; done) | (simp [*]; done)), H', ⟨Nat.le_refl _⟩, ⟨by (with_reducible repeat (first | apply Kd.R_alloc | apply Kd.R_drewN | apply Kd.R_drew)); exact HO223.out⟩, ⟨by repeat (first | (with_reducible first | exact HB.out | apply below_alloc | apply pw_below_drewN | apply below_drew1) | exact HB.out)⟩⟩
          case round =>
            clear H'
            try clear c1
            try clear c2
            try clear p2
            try clear c5
            try clear c6
            try clear c7
            try clear c7b0
            try clear c7b1
            try clear c11
            try clear c15
            try clear c15b0
            try clear c15b1
            try clear c15b2
            try clear p2
            obtain ⟨x8_2, x9_2, rfl, rfl, HA, HK2, HO_7, HB⟩ := hrel
            cases gk with
            | zero => exact absurd HA.out (by simp [pelotonlaw05_NormOrders.l0])
            | succ k2 =>
              have H := HA.out
              clear HA
              simp only [pelotonlaw05_NormOrders.l0] at H
              by_cases c18 : x9_2 < (t221.length : Int)
              · rw [if_pos c18] at H
                have c18b0 : decide (x9_2 < (t221.length : Int)) = true := decide_eq_true c18
                clear c18
                by_cases c19 : 0 ≤ x9_2
                · rw [if_pos c19] at H
                  have c19b0 : decide (0 ≤ x9_2) = true := decide_eq_true c19
                  clear c19
                  by_cases c20 : (rd t221 x9_2) < 0
                  · rw [if_pos c20] at H
                    have c20b0 : decide ((rd t221 x9_2) < 0) = true := decide_eq_true c20
                    clear c20
                    obtain rfl := Option.some.inj H
                    have p224 : 0 ≤ (x9_2 : Int) := of_decide_eq_true (by first | (with_reducible assumption) | assumption)
                    have q224 : x9_2 < (t221.length : Int) := of_decide_eq_true (by first | (with_reducible assumption) | assumption)
                    obtain ⟨ad224, e224, hx224_0⟩ := Kd.at_int (Kd.R_reads' HO_7.out).2.2 x9_2 p224 q224
                    cases e224
                    replace p224 := eq_true p224
                    replace q224 := eq_true q224
                    go_wp2
                    repeat (go_quiet (fail); try go_wp2)
                    go_ret
                    exact ⟨by first | rfl | (simp [errW_none, errW_some] <;> rfl) | (simp [*, errW_none, errW_some] <;> rfl), by repeat (first | (with_reducible first | exact HB.out | apply below_alloc | apply pw_below_drewN | apply below_drew1) | exact HB.out)⟩
                  · rw [if_neg c20] at H
                    have c20b0 : decide ((rd t221 x9_2) < 0) = false := decide_eq_false c20
                    clear c20
                    have H' := Aside0.mk H
                    clear H
                    have p224 : 0 ≤ (x9_2 : Int) := of_decide_eq_true (by first | (with_reducible assumption) | assumption)
                    have q224 : x9_2 < (t221.length : Int) := of_decide_eq_true (by first | (with_reducible assumption) | assumption)
                    obtain ⟨ad224, e224, hx224_0⟩ := Kd.at_int (Kd.R_reads' HO_7.out).2.2 x9_2 p224 q224
                    cases e224
                    replace p224 := eq_true p224
                    replace q224 := eq_true q224
                    have p225 : 0 ≤ (x9_2 : Int) := of_decide_eq_true (by first | (with_reducible assumption) | assumption)
                    have q225 : x9_2 < (t221.length : Int) := of_decide_eq_true (by first | (with_reducible assumption) | assumption)
                    obtain ⟨ad225, e225, hx225_0⟩ := Kd.at_int (Kd.R_reads' HO_7.out).2.2 x9_2 p225 q225
                    obtain rfl : ad224 = ad225 := (by injection e225)
                    replace p225 := eq_true p225
                    replace q225 := eq_true q225
                    go_wp2
                    repeat (go_quiet (fail); try go_wp2)
                    go_loopg [10] k2 (fun kq v10 w' => ∃ (x10_3 : Int), v10 = .int .i64 x10_3 ∧ Aside0 (pelotonlaw05_NormOrders.l1 kq l2 t221 (wrap64 (x8_2 + (wrap64 (rd t221 x9_2)))) x9_2 x10_3 = some r) ∧ Aside0 (kq ≤ k2) ∧ Aside0 (Kd.R (Kd.int .i32) 21 w' w.heap.size (fun _ => True) (.slice (some ad224) t221.length co17) t221) ∧ Aside0 (Below w.heap.size w w'))
                    case atStart => exact ⟨(0), (by first | rfl | (simp; done) | (simp [*]; done)), H', ⟨Nat.le_refl _⟩, ⟨by (with_reducible repeat (first | apply Kd.R_alloc | apply Kd.R_drewN | apply Kd.R_drew)); exact HO_7.out⟩, ⟨by repeat (first | (with_reducible first | exact HB.out | apply below_alloc | apply pw_below_drewN | apply below_drew1) | exact HB.out)⟩⟩
                    case round =>
                      clear H'
                      try clear c1
                      try clear c2
                      try clear p2
                      try clear q2
                      try clear hx2
                      try clear c5
                      try clear c6
                      try clear p6
                      try clear c7
                      try clear c7b0
                      try clear c7b1
                      try clear c11
                      try clear c15
                      try clear c15b0
                      try clear c15b1
                      try clear c15b2
                      try clear c18
                      try clear c18b0
                      try clear c19
                      try clear c19b0
                      try clear c20
                      try clear c20b0
                      try clear hx224_0
                      try clear hx225_0
                      try clear p2
                      try clear p224
                      try clear p225
                      try clear q224
                      try clear q225
                      obtain ⟨x10_3, rfl, HA, HK3, HO_7, HB⟩ := hrel
                      cases gk with
                      | zero => exact absurd HA.out (by simp [pelotonlaw05_NormOrders.l1])
                      | succ k3 =>
                        have H := HA.out
                        clear HA
                        simp only [pelotonlaw05_NormOrders.l1] at H
                        by_cases c21 : x10_3 < x9_2
                        · rw [if_pos c21] at H
                          have c21b0 : decide (x10_3 < x9_2) = true := decide_eq_true c21
                          clear c21
                          by_cases c22 : 0 ≤ x10_3
                          · rw [if_pos c22] at H
                            have c22b0 : decide (0 ≤ x10_3) = true := decide_eq_true c22
                            clear c22
                            by_cases c23 : x10_3 < (l2.length : Int)
                            · rw [if_pos c23] at H
                              have c23b0 : decide (x10_3 < (l2.length : Int)) = true := decide_eq_true c23
                              clear c23
                              by_cases c24 : 0 ≤ x9_2
                              · rw [if_pos c24] at H
                                have c24b0 : decide (0 ≤ x9_2) = true := decide_eq_true c24
                                clear c24
                                by_cases c25 : x9_2 < (l2.length : Int)
                                · rw [if_pos c25] at H
                                  have c25b0 : decide (x9_2 < (l2.length : Int)) = true := decide_eq_true c25
                                  clear c25
                                  by_cases c26 : (rd l2 x10_3) > (rd l2 x9_2)
                                  · rw [if_pos c26] at H
                                    have c26b0 : decide ((rd l2 x9_2) < (rd l2 x10_3)) = true := decide_eq_true c26
                                    clear c26
                                    by_cases c27 : x10_3 < (t221.length : Int)
                                    · rw [if_pos c27] at H
                                      have c27b0 : decide (x10_3 < (t221.length : Int)) = true := decide_eq_true c27
                                      clear c27
                                      by_cases c28 : x9_2 < (t221.length : Int)
                                      · rw [if_pos c28] at H
                                        have c28b0 : decide (x9_2 < (t221.length : Int)) = true := decide_eq_true c28
                                        clear c28
                                        by_cases c29 : (rd t221 x10_3) < (rd t221 x9_2)
                                        · rw [if_pos c29] at H
                                          have c29b0 : decide ((rd t221 x10_3) < (rd t221 x9_2)) = true := decide_eq_true c29
                                          clear c29
                                          obtain rfl := Option.some.inj H
                                          have p226 : 0 ≤ (x10_3 : Int) := of_decide_eq_true (by first | (with_reducible assumption) | assumption)
                                          have q226 : x10_3 < (l2.length : Int) := of_decide_eq_true (by first | (with_reducible assumption) | assumption)
                                          obtain ⟨ad226, e226, hx226_0⟩ := Kd.at_int HR2.out x10_3 p226 q226
                                          cases e226
                                          replace hx226_0 := (HB.out.cell (World.block_lt_of_cell? w _ hx226_0)).trans hx226_0
                                          replace p226 := eq_true p226
                                          replace q226 := eq_true q226
                                          have p227 : 0 ≤ (x9_2 : Int) := of_decide_eq_true (by first | (with_reducible assumption) | assumption)
                                          have q227 : x9_2 < (l2.length : Int) := of_decide_eq_true (by first | (with_reducible assumption) | assumption)
                                          obtain ⟨ad227, e227, hx227_0⟩ := Kd.at_int HR2.out x9_2 p227 q227
                                          obtain rfl : ad226 = ad227 := (by injection e227)
                                          replace hx227_0 := (HB.out.cell (World.block_lt_of_cell? w _ hx227_0)).trans hx227_0
                                          replace p227 := eq_true p227
                                          replace q227 := eq_true q227
                                          have p228 : 0 ≤ (x10_3 : Int) := of_decide_eq_true (by first | (with_reducible assumption) | assumption)
                                          have q228 : x10_3 < (t221.length : Int) := of_decide_eq_true (by first | (with_reducible assumption) | assumption)
                                          obtain ⟨ad228, e228, hx228_0⟩ := Kd.at_int (Kd.R_reads' HO_7.out).2.2 x10_3 p228 q228
                                          obtain rfl : ad224 = ad228 := (by injection e228)
                                          replace p228 := eq_true p228
                                          replace q228 := eq_true q228
                                          have p229 : 0 ≤ (x9_2 : Int) := of_decide_eq_true (by first | (with_reducible assumption) | assumption)
                                          have q229 : x9_2 < (t221.length : Int) := of_decide_eq_true (by first | (with_reducible assumption) | assumption)
                                          obtain ⟨ad229, e229, hx229_0⟩ := Kd.at_int (Kd.R_reads' HO_7.out).2.2 x9_2 p229 q229
                                          obtain rfl : ad224 = ad229 := (by injection e229)
                                          replace p229 := eq_true p229
                                          replace q229 := eq_true q229
                                          go_wp2
                                          repeat (go_quiet (fail); try go_wp2)
                                          go_ret
                                          exact ⟨by first | rfl | (simp [errW_none, errW_some] <;> rfl) | (simp [*, errW_none, errW_some] <;> rfl), by repeat (first | (with_reducible first | exact HB.out | apply below_alloc | apply pw_below_drewN | apply below_drew1) | exact HB.out)⟩
                                        · rw [if_neg c29] at H
                                          have c29b0 : decide ((rd t221 x10_3) < (rd t221 x9_2)) = false := decide_eq_false c29
                                          clear c29
                                          by_cases c30 : (rd l2 x10_3) < (rd l2 x9_2)
                                          · rw [if_pos c30] at H
                                            have c30b0 : decide ((rd l2 x10_3) < (rd l2 x9_2)) = true := decide_eq_true c30
                                            clear c30
                                            by_cases c31 : (rd t221 x10_3) > (rd t221 x9_2)
                                            · rw [if_pos c31] at H
                                              have c31b0 : decide ((rd t221 x9_2) < (rd t221 x10_3)) = true := decide_eq_true c31
                                              clear c31
                                              obtain rfl := Option.some.inj H
                                              have p226 : 0 ≤ (x10_3 : Int) := of_decide_eq_true (by first | (with_reducible assumption) | assumption)
                                              have q226 : x10_3 < (l2.length : Int) := of_decide_eq_true (by first | (with_reducible assumption) | assumption)
                                              obtain ⟨ad226, e226, hx226_0⟩ := Kd.at_int HR2.out x10_3 p226 q226
                                              cases e226
                                              replace hx226_0 := (HB.out.cell (World.block_lt_of_cell? w _ hx226_0)).trans hx226_0
                                              replace p226 := eq_true p226
                                              replace q226 := eq_true q226
                                              have p227 : 0 ≤ (x9_2 : Int) := of_decide_eq_true (by first | (with_reducible assumption) | assumption)
                                              have q227 : x9_2 < (l2.length : Int) := of_decide_eq_true (by first | (with_reducible assumption) | assumption)
                                              obtain ⟨ad227, e227, hx227_0⟩ := Kd.at_int HR2.out x9_2 p227 q227
                                              obtain rfl : ad226 = ad227 := (by injection e227)
                                              replace hx227_0 := (HB.out.cell (World.block_lt_of_cell? w _ hx227_0)).trans hx227_0
                                              replace p227 := eq_true p227
                                              replace q227 := eq_true q227
                                              have p228 : 0 ≤ (x10_3 : Int) := of_decide_eq_true (by first | (with_reducible assumption) | assumption)
                                              have q228 : x10_3 < (t221.length : Int) := of_decide_eq_true (by first | (with_reducible assumption) | assumption)
                                              obtain ⟨ad228, e228, hx228_0⟩ := Kd.at_int (Kd.R_reads' HO_7.out).2.2 x10_3 p228 q228
                                              obtain rfl : ad224 = ad228 := (by injection e228)
                                              replace p228 := eq_true p228
                                              replace q228 := eq_true q228
                                              have p229 : 0 ≤ (x9_2 : Int) := of_decide_eq_true (by first | (with_reducible assumption) | assumption)
                                              have q229 : x9_2 < (t221.length : Int) := of_decide_eq_true (by first | (with_reducible assumption) | assumption)
                                              obtain ⟨ad229, e229, hx229_0⟩ := Kd.at_int (Kd.R_reads' HO_7.out).2.2 x9_2 p229 q229
                                              obtain rfl : ad224 = ad229 := (by injection e229)
                                              replace p229 := eq_true p229
                                              replace q229 := eq_true q229
                                              have p230 : 0 ≤ (x10_3 : Int) := of_decide_eq_true (by first | (with_reducible assumption) | assumption)
                                              have q230 : x10_3 < (l2.length : Int) := of_decide_eq_true (by first | (with_reducible assumption) | assumption)
                                              obtain ⟨ad230, e230, hx230_0⟩ := Kd.at_int HR2.out x10_3 p230 q230
                                              obtain rfl : ad226 = ad230 := (by injection e230)
                                              replace hx230_0 := (HB.out.cell (World.block_lt_of_cell? w _ hx230_0)).trans hx230_0
                                              replace p230 := eq_true p230
                                              replace q230 := eq_true q230
                                              have p231 : 0 ≤ (x9_2 : Int) := of_decide_eq_true (by first | (with_reducible assumption) | assumption)
                                              have q231 : x9_2 < (l2.length : Int) := of_decide_eq_true (by first | (with_reducible assumption) | assumption)
                                              obtain ⟨ad231, e231, hx231_0⟩ := Kd.at_int HR2.out x9_2 p231 q231
                                              obtain rfl : ad226 = ad231 := (by injection e231)
                                              replace hx231_0 := (HB.out.cell (World.block_lt_of_cell? w _ hx231_0)).trans hx231_0
                                              replace p231 := eq_true p231
                                              replace q231 := eq_true q231
                                              have p232 : 0 ≤ (x10_3 : Int) := of_decide_eq_true (by first | (with_reducible assumption) | assumption)
                                              have q232 : x10_3 < (t221.length : Int) := of_decide_eq_true (by first | (with_reducible assumption) | assumption)
                                              obtain ⟨ad232, e232, hx232_0⟩ := Kd.at_int (Kd.R_reads' HO_7.out).2.2 x10_3 p232 q232
                                              obtain rfl : ad224 = ad232 := (by injection e232)
                                              replace p232 := eq_true p232
                                              replace q232 := eq_true q232
                                              have p233 : 0 ≤ (x9_2 : Int) := of_decide_eq_true (by first | (with_reducible assumption) | assumption)
                                              have q233 : x9_2 < (t221.length : Int) := of_decide_eq_true (by first | (with_reducible assumption) | assumption)
                                              obtain ⟨ad233, e233, hx233_0⟩ := Kd.at_int (Kd.R_reads' HO_7.out).2.2 x9_2 p233 q233
                                              obtain rfl : ad224 = ad233 := (by injection e233)
                                              replace p233 := eq_true p233
                                              replace q233 := eq_true q233
                                              go_wp2
                                              repeat (go_quiet (fail); try go_wp2)
                                              go_ret
                                              exact ⟨by first | rfl | (simp [errW_none, errW_some] <;> rfl) | (simp [*, errW_none, errW_some] <;> rfl), by repeat (first | (with_reducible first | exact HB.out | apply below_alloc | apply pw_below_drewN | apply below_drew1) | exact HB.out)⟩
                                            · rw [if_neg c31] at H
                                              have c31b0 : decide ((rd t221 x9_2) < (rd t221 x10_3)) = false := decide_eq_false c31
                                              clear c31
                                              by_cases c32 : (rd l2 x10_3) = (rd l2 x9_2)
                                              · rw [if_pos c32] at H
                                                have c32b0 : ((rd l2 x10_3) == (rd l2 x9_2)) = true := beq_iff_eq.mpr c32
                                                have c32b1 : ((rd l2 x10_3) != (rd l2 x9_2)) = false := bne_eq_false_iff_eq.mpr c32
                                                clear c32
                                                by_cases c33 : (rd t221 x10_3) = (rd t221 x9_2)
                                                · rw [if_pos c33] at H
                                                  have c33b0 : ((rd t221 x10_3) == (rd t221 x9_2)) = true := beq_iff_eq.mpr c33
                                                  have c33b1 : ((rd t221 x10_3) != (rd t221 x9_2)) = false := bne_eq_false_iff_eq.mpr c33
                                                  clear c33
                                                  have H' := Aside0.mk H
                                                  clear H
                                                  have p226 : 0 ≤ (x10_3 : Int) := of_decide_eq_true (by first | (with_reducible assumption) | assumption)
                                                  have q226 : x10_3 < (l2.length : Int) := of_decide_eq_true (by first | (with_reducible assumption) | assumption)
                                                  obtain ⟨ad226, e226, hx226_0⟩ := Kd.at_int HR2.out x10_3 p226 q226
                                                  cases e226
                                                  replace hx226_0 := (HB.out.cell (World.block_lt_of_cell? w _ hx226_0)).trans hx226_0
                                                  replace p226 := eq_true p226
                                                  replace q226 := eq_true q226
                                                  have p227 : 0 ≤ (x9_2 : Int) := of_decide_eq_true (by first | (with_reducible assumption) | assumption)
                                                  have q227 : x9_2 < (l2.length : Int) := of_decide_eq_true (by first | (with_reducible assumption) | assumption)
                                                  obtain ⟨ad227, e227, hx227_0⟩ := Kd.at_int HR2.out x9_2 p227 q227
                                                  obtain rfl : ad226 = ad227 := (by injection e227)
                                                  replace hx227_0 := (HB.out.cell (World.block_lt_of_cell? w _ hx227_0)).trans hx227_0
                                                  replace p227 := eq_true p227
                                                  replace q227 := eq_true q227
                                                  have p228 : 0 ≤ (x10_3 : Int) := of_decide_eq_true (by first | (with_reducible assumption) | assumption)
                                                  have q228 : x10_3 < (t221.length : Int) := of_decide_eq_true (by first | (with_reducible assumption) | assumption)
                                                  obtain ⟨ad228, e228, hx228_0⟩ := Kd.at_int (Kd.R_reads' HO_7.out).2.2 x10_3 p228 q228
                                                  obtain rfl : ad224 = ad228 := (by injection e228)
                                                  replace p228 := eq_true p228
                                                  replace q228 := eq_true q228
                                                  have p229 : 0 ≤ (x9_2 : Int) := of_decide_eq_true (by first | (with_reducible assumption) | assumption)
                                                  have q229 : x9_2 < (t221.length : Int) := of_decide_eq_true (by first | (with_reducible assumption) | assumption)
                                                  obtain ⟨ad229, e229, hx229_0⟩ := Kd.at_int (Kd.R_reads' HO_7.out).2.2 x9_2 p229 q229
                                                  obtain rfl : ad224 = ad229 := (by injection e229)
                                                  replace p229 := eq_true p229
                                                  replace q229 := eq_true q229
                                                  have p230 : 0 ≤ (x10_3 : Int) := of_decide_eq_true (by first | (with_reducible assumption) | assumption)
                                                  have q230 : x10_3 < (l2.length : Int) := of_decide_eq_true (by first | (with_reducible assumption) | assumption)
                                                  obtain ⟨ad230, e230, hx230_0⟩ := Kd.at_int HR2.out x10_3 p230 q230
                                                  obtain rfl : ad226 = ad230 := (by injection e230)
                                                  replace hx230_0 := (HB.out.cell (World.block_lt_of_cell? w _ hx230_0)).trans hx230_0
                                                  replace p230 := eq_true p230
                                                  replace q230 := eq_true q230
                                                  have p231 : 0 ≤ (x9_2 : Int) := of_decide_eq_true (by first | (with_reducible assumption) | assumption)
                                                  have q231 : x9_2 < (l2.length : Int) := of_decide_eq_true (by first | (with_reducible assumption) | assumption)
                                                  obtain ⟨ad231, e231, hx231_0⟩ := Kd.at_int HR2.out x9_2 p231 q231
                                                  obtain rfl : ad226 = ad231 := (by injection e231)
                                                  replace hx231_0 := (HB.out.cell (World.block_lt_of_cell? w _ hx231_0)).trans hx231_0
                                                  replace p231 := eq_true p231
                                                  replace q231 := eq_true q231
                                                  have p232 : 0 ≤ (x10_3 : Int) := of_decide_eq_true (by first | (with_reducible assumption) | assumption)
                                                  have q232 : x10_3 < (t221.length : Int) := of_decide_eq_true (by first | (with_reducible assumption) | assumption)
                                                  obtain ⟨ad232, e232, hx232_0⟩ := Kd.at_int (Kd.R_reads' HO_7.out).2.2 x10_3 p232 q232
                                                  obtain rfl : ad224 = ad232 := (by injection e232)
                                                  replace p232 := eq_true p232
                                                  replace q232 := eq_true q232
                                                  have p233 : 0 ≤ (x9_2 : Int) := of_decide_eq_true (by first | (with_reducible assumption) | assumption)
                                                  have q233 : x9_2 < (t221.length : Int) := of_decide_eq_true (by first | (with_reducible assumption) | assumption)
                                                  obtain ⟨ad233, e233, hx233_0⟩ := Kd.at_int (Kd.R_reads' HO_7.out).2.2 x9_2 p233 q233
                                                  obtain rfl : ad224 = ad233 := (by injection e233)
                                                  replace p233 := eq_true p233
                                                  replace q233 := eq_true q233
                                                  have p234 : 0 ≤ (x10_3 : Int) := of_decide_eq_true (by first | (with_reducible assumption) | assumption)
                                                  have q234 : x10_3 < (l2.length : Int) := of_decide_eq_true (by first | (with_reducible assumption) | assumption)
                                                  obtain ⟨ad234, e234, hx234_0⟩ := Kd.at_int HR2.out x10_3 p234 q234
                                                  obtain rfl : ad226 = ad234 := (by injection e234)
                                                  replace hx234_0 := (HB.out.cell (World.block_lt_of_cell? w _ hx234_0)).trans hx234_0
                                                  replace p234 := eq_true p234
                                                  replace q234 := eq_true q234
                                                  have p235 : 0 ≤ (x9_2 : Int) := of_decide_eq_true (by first | (with_reducible assumption) | assumption)
                                                  have q235 : x9_2 < (l2.length : Int) := of_decide_eq_true (by first | (with_reducible assumption) | assumption)
                                                  obtain ⟨ad235, e235, hx235_0⟩ := Kd.at_int HR2.out x9_2 p235 q235
                                                  obtain rfl : ad226 = ad235 := (by injection e235)
                                                  replace hx235_0 := (HB.out.cell (World.block_lt_of_cell? w _ hx235_0)).trans hx235_0
                                                  replace p235 := eq_true p235
                                                  replace q235 := eq_true q235
                                                  have p236 : 0 ≤ (x10_3 : Int) := of_decide_eq_true (by first | (with_reducible assumption) | assumption)
                                                  have q236 : x10_3 < (t221.length : Int) := of_decide_eq_true (by first | (with_reducible assumption) | assumption)
                                                  obtain ⟨ad236, e236, hx236_0⟩ := Kd.at_int (Kd.R_reads' HO_7.out).2.2 x10_3 p236 q236
                                                  obtain rfl : ad224 = ad236 := (by injection e236)
                                                  replace p236 := eq_true p236
                                                  replace q236 := eq_true q236
                                                  have p237 : 0 ≤ (x9_2 : Int) := of_decide_eq_true (by first | (with_reducible assumption) | assumption)
                                                  have q237 : x9_2 < (t221.length : Int) := of_decide_eq_true (by first | (with_reducible assumption) | assumption)
                                                  obtain ⟨ad237, e237, hx237_0⟩ := Kd.at_int (Kd.R_reads' HO_7.out).2.2 x9_2 p237 q237
                                                  obtain rfl : ad224 = ad237 := (by injection e237)
                                                  replace p237 := eq_true p237
                                                  replace q237 := eq_true q237
                                                  go_wp2
                                                  repeat (go_quiet (fail); try go_wp2)
                                                  go_roundg k3
                                                  case measure => have := HJ3.out; have := HK2.out; have := HK3.out; omega
                                                  case rel => exact ⟨(wrap64 (x10_3 + 1)), (by first | rfl | (simp; done) | (simp [*]; done)), H', ⟨by have := HJ3.out; have := HK2.out; have := HK3.out; omega⟩, ⟨by (with_reducible repeat (first | apply Kd.R_alloc | apply Kd.R_drewN | apply Kd.R_drew)); exact HO_7.out⟩, ⟨by repeat (first | (with_reducible first | exact HB.out | apply below_alloc | apply pw_below_drewN | apply below_drew1) | exact HB.out)⟩⟩
                                                · rw [if_neg c33] at H
                                                  have c33b0 : ((rd t221 x10_3) == (rd t221 x9_2)) = false := beq_eq_false_iff_ne.mpr c33
                                                  have c33b1 : ((rd t221 x10_3) != (rd t221 x9_2)) = true := bne_iff_ne.mpr c33
                                                  obtain rfl := Option.some.inj H
                                                  have p226 : 0 ≤ (x10_3 : Int) := of_decide_eq_true (by first | (with_reducible assumption) | assumption)
                                                  have q226 : x10_3 < (l2.length : Int) := of_decide_eq_true (by first | (with_reducible assumption) | assumption)
                                                  obtain ⟨ad226, e226, hx226_0⟩ := Kd.at_int HR2.out x10_3 p226 q226
                                                  cases e226
                                                  replace hx226_0 := (HB.out.cell (World.block_lt_of_cell? w _ hx226_0)).trans hx226_0
                                                  replace p226 := eq_true p226
                                                  replace q226 := eq_true q226
                                                  have p227 : 0 ≤ (x9_2 : Int) := of_decide_eq_true (by first | (with_reducible assumption) | assumption)
                                                  have q227 : x9_2 < (l2.length : Int) := of_decide_eq_true (by first | (with_reducible assumption) | assumption)
                                                  obtain ⟨ad227, e227, hx227_0⟩ := Kd.at_int HR2.out x9_2 p227 q227
                                                  obtain rfl : ad226 = ad227 := (by injection e227)
                                                  replace hx227_0 := (HB.out.cell (World.block_lt_of_cell? w _ hx227_0)).trans hx227_0
                                                  replace p227 := eq_true p227
                                                  replace q227 := eq_true q227
                                                  have p228 : 0 ≤ (x10_3 : Int) := of_decide_eq_true (by first | (with_reducible assumption) | assumption)
                                                  have q228 : x10_3 < (t221.length : Int) := of_decide_eq_true (by first | (with_reducible assumption) | assumption)
                                                  obtain ⟨ad228, e228, hx228_0⟩ := Kd.at_int (Kd.R_reads' HO_7.out).2.2 x10_3 p228 q228
                                                  obtain rfl : ad224 = ad228 := (by injection e228)
                                                  replace p228 := eq_true p228
                                                  replace q228 := eq_true q228
                                                  have p229 : 0 ≤ (x9_2 : Int) := of_decide_eq_true (by first | (with_reducible assumption) | assumption)
                                                  have q229 : x9_2 < (t221.length : Int) := of_decide_eq_true (by first | (with_reducible assumption) | assumption)
                                                  obtain ⟨ad229, e229, hx229_0⟩ := Kd.at_int (Kd.R_reads' HO_7.out).2.2 x9_2 p229 q229
                                                  obtain rfl : ad224 = ad229 := (by injection e229)
                                                  replace p229 := eq_true p229
                                                  replace q229 := eq_true q229
                                                  have p230 : 0 ≤ (x10_3 : Int) := of_decide_eq_true (by first | (with_reducible assumption) | assumption)
                                                  have q230 : x10_3 < (l2.length : Int) := of_decide_eq_true (by first | (with_reducible assumption) | assumption)
                                                  obtain ⟨ad230, e230, hx230_0⟩ := Kd.at_int HR2.out x10_3 p230 q230
                                                  obtain rfl : ad226 = ad230 := (by injection e230)
                                                  replace hx230_0 := (HB.out.cell (World.block_lt_of_cell? w _ hx230_0)).trans hx230_0
                                                  replace p230 := eq_true p230
                                                  replace q230 := eq_true q230
                                                  have p231 : 0 ≤ (x9_2 : Int) := of_decide_eq_true (by first | (with_reducible assumption) | assumption)
                                                  have q231 : x9_2 < (l2.length : Int) := of_decide_eq_true (by first | (with_reducible assumption) | assumption)
                                                  obtain ⟨ad231, e231, hx231_0⟩ := Kd.at_int HR2.out x9_2 p231 q231
                                                  obtain rfl : ad226 = ad231 := (by injection e231)
                                                  replace hx231_0 := (HB.out.cell (World.block_lt_of_cell? w _ hx231_0)).trans hx231_0
                                                  replace p231 := eq_true p231
                                                  replace q231 := eq_true q231
                                                  have p232 : 0 ≤ (x10_3 : Int) := of_decide_eq_true (by first | (with_reducible assumption) | assumption)
                                                  have q232 : x10_3 < (t221.length : Int) := of_decide_eq_true (by first | (with_reducible assumption) | assumption)
                                                  obtain ⟨ad232, e232, hx232_0⟩ := Kd.at_int (Kd.R_reads' HO_7.out).2.2 x10_3 p232 q232
                                                  obtain rfl : ad224 = ad232 := (by injection e232)
                                                  replace p232 := eq_true p232
                                                  replace q232 := eq_true q232
                                                  have p233 : 0 ≤ (x9_2 : Int) := of_decide_eq_true (by first | (with_reducible assumption) | assumption)
                                                  have q233 : x9_2 < (t221.length : Int) := of_decide_eq_true (by first | (with_reducible assumption) | assumption)
                                                  obtain ⟨ad233, e233, hx233_0⟩ := Kd.at_int (Kd.R_reads' HO_7.out).2.2 x9_2 p233 q233
                                                  obtain rfl : ad224 = ad233 := (by injection e233)
                                                  replace p233 := eq_true p233
                                                  replace q233 := eq_true q233
                                                  have p234 : 0 ≤ (x10_3 : Int) := of_decide_eq_true (by first | (with_reducible assumption) | assumption)
                                                  have q234 : x10_3 < (l2.length : Int) := of_decide_eq_true (by first | (with_reducible assumption) | assumption)
                                                  obtain ⟨ad234, e234, hx234_0⟩ := Kd.at_int HR2.out x10_3 p234 q234
                                                  obtain rfl : ad226 = ad234 := (by injection e234)
                                                  replace hx234_0 := (HB.out.cell (World.block_lt_of_cell? w _ hx234_0)).trans hx234_0
                                                  replace p234 := eq_true p234
                                                  replace q234 := eq_true q234
                                                  have p235 : 0 ≤ (x9_2 : Int) := of_decide_eq_true (by first | (with_reducible assumption) | assumption)
                                                  have q235 : x9_2 < (l2.length : Int) := of_decide_eq_true (by first | (with_reducible assumption) | assumption)
                                                  obtain ⟨ad235, e235, hx235_0⟩ := Kd.at_int HR2.out x9_2 p235 q235
                                                  obtain rfl : ad226 = ad235 := (by injection e235)
                                                  replace hx235_0 := (HB.out.cell (World.block_lt_of_cell? w _ hx235_0)).trans hx235_0
                                                  replace p235 := eq_true p235
                                                  replace q235 := eq_true q235
                                                  have p236 : 0 ≤ (x10_3 : Int) := of_decide_eq_true (by first | (with_reducible assumption) | assumption)
                                                  have q236 : x10_3 < (t221.length : Int) := of_decide_eq_true (by first | (with_reducible assumption) | assumption)
                                                  obtain ⟨ad236, e236, hx236_0⟩ := Kd.at_int (Kd.R_reads' HO_7.out).2.2 x10_3 p236 q236
                                                  obtain rfl : ad224 = ad236 := (by injection e236)
                                                  replace p236 := eq_true p236
                                                  replace q236 := eq_true q236
                                                  have p237 : 0 ≤ (x9_2 : Int) := of_decide_eq_true (by first | (with_reducible assumption) | assumption)
                                                  have q237 : x9_2 < (t221.length : Int) := of_decide_eq_true (by first | (with_reducible assumption) | assumption)
                                                  obtain ⟨ad237, e237, hx237_0⟩ := Kd.at_int (Kd.R_reads' HO_7.out).2.2 x9_2 p237 q237
                                                  obtain rfl : ad224 = ad237 := (by injection e237)
                                                  replace p237 := eq_true p237
                                                  replace q237 := eq_true q237
                                                  go_wp2
                                                  repeat (go_quiet (fail); try go_wp2)
                                                  go_ret
                                                  exact ⟨by first | rfl | (simp [errW_none, errW_some] <;> rfl) | (simp [*, errW_none, errW_some] <;> rfl), by repeat (first | (with_reducible first | exact HB.out | apply below_alloc | apply pw_below_drewN | apply below_drew1) | exact HB.out)⟩
                                              · rw [if_neg c32] at H
                                                have c32b0 : ((rd l2 x10_3) == (rd l2 x9_2)) = false := beq_eq_false_iff_ne.mpr c32
                                                have c32b1 : ((rd l2 x10_3) != (rd l2 x9_2)) = true := bne_iff_ne.mpr c32
                                                have H' := Aside0.mk H
                                                clear H
                                                have p226 : 0 ≤ (x10_3 : Int) := of_decide_eq_true (by first | (with_reducible assumption) | assumption)
                                                have q226 : x10_3 < (l2.length : Int) := of_decide_eq_true (by first | (with_reducible assumption) | assumption)
                                                obtain ⟨ad226, e226, hx226_0⟩ := Kd.at_int HR2.out x10_3 p226 q226
                                                cases e226
                                                replace hx226_0 := (HB.out.cell (World.block_lt_of_cell? w _ hx226_0)).trans hx226_0
                                                replace p226 := eq_true p226
                                                replace q226 := eq_true q226
                                                have p227 : 0 ≤ (x9_2 : Int) := of_decide_eq_true (by first | (with_reducible assumption) | assumption)
                                                have q227 : x9_2 < (l2.length : Int) := of_decide_eq_true (by first | (with_reducible assumption) | assumption)
                                                obtain ⟨ad227, e227, hx227_0⟩ := Kd.at_int HR2.out x9_2 p227 q227
                                                obtain rfl : ad226 = ad227 := (by injection e227)
                                                replace hx227_0 := (HB.out.cell (World.block_lt_of_cell? w _ hx227_0)).trans hx227_0
                                                replace p227 := eq_true p227
                                                replace q227 := eq_true q227
                                                have p228 : 0 ≤ (x10_3 : Int) := of_decide_eq_true (by first | (with_reducible assumption) | assumption)
                                                have q228 : x10_3 < (t221.length : Int) := of_decide_eq_true (by first | (with_reducible assumption) | assumption)
                                                obtain ⟨ad228, e228, hx228_0⟩ := Kd.at_int (Kd.R_reads' HO_7.out).2.2 x10_3 p228 q228
                                                obtain rfl : ad224 = ad228 := (by injection e228)
                                                replace p228 := eq_true p228
                                                replace q228 := eq_true q228
                                                have p229 : 0 ≤ (x9_2 : Int) := of_decide_eq_true (by first | (with_reducible assumption) | assumption)
                                                have q229 : x9_2 < (t221.length : Int) := of_decide_eq_true (by first | (with_reducible assumption) | assumption)
                                                obtain ⟨ad229, e229, hx229_0⟩ := Kd.at_int (Kd.R_reads' HO_7.out).2.2 x9_2 p229 q229
                                                obtain rfl : ad224 = ad229 := (by injection e229)
                                                replace p229 := eq_true p229
                                                replace q229 := eq_true q229
                                                have p230 : 0 ≤ (x10_3 : Int) := of_decide_eq_true (by first | (with_reducible assumption) | assumption)
                                                have q230 : x10_3 < (l2.length : Int) := of_decide_eq_true (by first | (with_reducible assumption) | assumption)
                                                obtain ⟨ad230, e230, hx230_0⟩ := Kd.at_int HR2.out x10_3 p230 q230
                                                obtain rfl : ad226 = ad230 := (by injection e230)
                                                replace hx230_0 := (HB.out.cell (World.block_lt_of_cell? w _ hx230_0)).trans hx230_0
                                                replace p230 := eq_true p230
                                                replace q230 := eq_true q230
                                                have p231 : 0 ≤ (x9_2 : Int) := of_decide_eq_true (by first | (with_reducible assumption) | assumption)
                                                have q231 : x9_2 < (l2.length : Int) := of_decide_eq_true (by first | (with_reducible assumption) | assumption)
                                                obtain ⟨ad231, e231, hx231_0⟩ := Kd.at_int HR2.out x9_2 p231 q231
                                                obtain rfl : ad226 = ad231 := (by injection e231)
                                                replace hx231_0 := (HB.out.cell (World.block_lt_of_cell? w _ hx231_0)).trans hx231_0
                                                replace p231 := eq_true p231
                                                replace q231 := eq_true q231
                                                have p232 : 0 ≤ (x10_3 : Int) := of_decide_eq_true (by first | (with_reducible assumption) | assumption)
                                                have q232 : x10_3 < (t221.length : Int) := of_decide_eq_true (by first | (with_reducible assumption) | assumption)
                                                obtain ⟨ad232, e232, hx232_0⟩ := Kd.at_int (Kd.R_reads' HO_7.out).2.2 x10_3 p232 q232
                                                obtain rfl : ad224 = ad232 := (by injection e232)
                                                replace p232 := eq_true p232
                                                replace q232 := eq_true q232
                                                have p233 : 0 ≤ (x9_2 : Int) := of_decide_eq_true (by first | (with_reducible assumption) | assumption)
                                                have q233 : x9_2 < (t221.length : Int) := of_decide_eq_true (by first | (with_reducible assumption) | assumption)
                                                obtain ⟨ad233, e233, hx233_0⟩ := Kd.at_int (Kd.R_reads' HO_7.out).2.2 x9_2 p233 q233
                                                obtain rfl : ad224 = ad233 := (by injection e233)
                                                replace p233 := eq_true p233
                                                replace q233 := eq_true q233
                                                have p234 : 0 ≤ (x10_3 : Int) := of_decide_eq_true (by first | (with_reducible assumption) | assumption)
                                                have q234 : x10_3 < (l2.length : Int) := of_decide_eq_true (by first | (with_reducible assumption) | assumption)
                                                obtain ⟨ad234, e234, hx234_0⟩ := Kd.at_int HR2.out x10_3 p234 q234
                                                obtain rfl : ad226 = ad234 := (by injection e234)
                                                replace hx234_0 := (HB.out.cell (World.block_lt_of_cell? w _ hx234_0)).trans hx234_0
                                                replace p234 := eq_true p234
                                                replace q234 := eq_true q234
                                                have p235 : 0 ≤ (x9_2 : Int) := of_decide_eq_true (by first | (with_reducible assumption) | assumption)
                                                have q235 : x9_2 < (l2.length : Int) := of_decide_eq_true (by first | (with_reducible assumption) | assumption)
                                                obtain ⟨ad235, e235, hx235_0⟩ := Kd.at_int HR2.out x9_2 p235 q235
                                                obtain rfl : ad226 = ad235 := (by injection e235)
                                                replace hx235_0 := (HB.out.cell (World.block_lt_of_cell? w _ hx235_0)).trans hx235_0
                                                replace p235 := eq_true p235
                                                replace q235 := eq_true q235
                                                go_wp2
                                                repeat (go_quiet (fail); try go_wp2)
                                                go_roundg k3
                                                case measure => have := HJ3.out; have := HK2.out; have := HK3.out; omega
                                                case rel => exact ⟨(wrap64 (x10_3 + 1)), (by first | rfl | (simp; done) | (simp [*]; done)), H', ⟨by have := HJ3.out; have := HK2.out; have := HK3.out; omega⟩, ⟨by (with_reducible repeat (first | apply Kd.R_alloc | apply Kd.R_drewN | apply Kd.R_drew)); exact HO_7.out⟩, ⟨by repeat (first | (with_reducible first | exact HB.out | apply below_alloc | apply pw_below_drewN | apply below_drew1) | exact HB.out)⟩⟩
                                          · rw [if_neg c30] at H
                                            have c30b0 : decide ((rd l2 x10_3) < (rd l2 x9_2)) = false := decide_eq_false c30
                                            clear c30
                                            by_cases c34 : (rd l2 x10_3) = (rd l2 x9_2)
                                            · rw [if_pos c34] at H
                                              have c34b0 : ((rd l2 x10_3) == (rd l2 x9_2)) = true := beq_iff_eq.mpr c34
                                              have c34b1 : ((rd l2 x10_3) != (rd l2 x9_2)) = false := bne_eq_false_iff_eq.mpr c34
                                              clear c34
                                              by_cases c35 : (rd t221 x10_3) = (rd t221 x9_2)
                                              · rw [if_pos c35] at H
                                                have c35b0 : ((rd t221 x10_3) == (rd t221 x9_2)) = true := beq_iff_eq.mpr c35
                                                have c35b1 : ((rd t221 x10_3) != (rd t221 x9_2)) = false := bne_eq_false_iff_eq.mpr c35
                                                clear c35
                                                have H' := Aside0.mk H
                                                clear H
                                                have p226 : 0 ≤ (x10_3 : Int) := of_decide_eq_true (by first | (with_reducible assumption) | assumption)
                                                have q226 : x10_3 < (l2.length : Int) := of_decide_eq_true (by first | (with_reducible assumption) | assumption)
                                                obtain ⟨ad226, e226, hx226_0⟩ := Kd.at_int HR2.out x10_3 p226 q226
                                                cases e226
                                                replace hx226_0 := (HB.out.cell (World.block_lt_of_cell? w _ hx226_0)).trans hx226_0
                                                replace p226 := eq_true p226
                                                replace q226 := eq_true q226
                                                have p227 : 0 ≤ (x9_2 : Int) := of_decide_eq_true (by first | (with_reducible assumption) | assumption)
                                                have q227 : x9_2 < (l2.length : Int) := of_decide_eq_true (by first | (with_reducible assumption) | assumption)
                                                obtain ⟨ad227, e227, hx227_0⟩ := Kd.at_int HR2.out x9_2 p227 q227
                                                obtain rfl : ad226 = ad227 := (by injection e227)
                                                replace hx227_0 := (HB.out.cell (World.block_lt_of_cell? w _ hx227_0)).trans hx227_0
                                                replace p227 := eq_true p227
                                                replace q227 := eq_true q227
                                                have p228 : 0 ≤ (x10_3 : Int) := of_decide_eq_true (by first | (with_reducible assumption) | assumption)
                                                have q228 : x10_3 < (t221.length : Int) := of_decide_eq_true (by first | (with_reducible assumption) | assumption)
                                                obtain ⟨ad228, e228, hx228_0⟩ := Kd.at_int (Kd.R_reads' HO_7.out).2.2 x10_3 p228 q228
                                                obtain rfl : ad224 = ad228 := (by injection e228)
                                                replace p228 := eq_true p228
                                                replace q228 := eq_true q228
                                                have p229 : 0 ≤ (x9_2 : Int) := of_decide_eq_true (by first | (with_reducible assumption) | assumption)
                                                have q229 : x9_2 < (t221.length : Int) := of_decide_eq_true (by first | (with_reducible assumption) | assumption)
                                                obtain ⟨ad229, e229, hx229_0⟩ := Kd.at_int (Kd.R_reads' HO_7.out).2.2 x9_2 p229 q229
                                                obtain rfl : ad224 = ad229 := (by injection e229)
                                                replace p229 := eq_true p229
                                                replace q229 := eq_true q229
                                                have p230 : 0 ≤ (x10_3 : Int) := of_decide_eq_true (by first | (with_reducible assumption) | assumption)
                                                have q230 : x10_3 < (l2.length : Int) := of_decide_eq_true (by first | (with_reducible assumption) | assumption)
                                                obtain ⟨ad230, e230, hx230_0⟩ := Kd.at_int HR2.out x10_3 p230 q230
                                                obtain rfl : ad226 = ad230 := (by injection e230)
                                                replace hx230_0 := (HB.out.cell (World.block_lt_of_cell? w _ hx230_0)).trans hx230_0
                                                replace p230 := eq_true p230
                                                replace q230 := eq_true q230
                                                have p231 : 0 ≤ (x9_2 : Int) := of_decide_eq_true (by first | (with_reducible assumption) | assumption)
                                                have q231 : x9_2 < (l2.length : Int) := of_decide_eq_true (by first | (with_reducible assumption) | assumption)
                                                obtain ⟨ad231, e231, hx231_0⟩ := Kd.at_int HR2.out x9_2 p231 q231
                                                obtain rfl : ad226 = ad231 := (by injection e231)
                                                replace hx231_0 := (HB.out.cell (World.block_lt_of_cell? w _ hx231_0)).trans hx231_0
                                                replace p231 := eq_true p231
                                                replace q231 := eq_true q231
                                                have p238 : 0 ≤ (x10_3 : Int) := of_decide_eq_true (by first | (with_reducible assumption) | assumption)
                                                have q238 : x10_3 < (l2.length : Int) := of_decide_eq_true (by first | (with_reducible assumption) | assumption)
                                                obtain ⟨ad238, e238, hx238_0⟩ := Kd.at_int HR2.out x10_3 p238 q238
                                                obtain rfl : ad226 = ad238 := (by injection e238)
                                                replace hx238_0 := (HB.out.cell (World.block_lt_of_cell? w _ hx238_0)).trans hx238_0
                                                replace p238 := eq_true p238
                                                replace q238 := eq_true q238
                                                have p239 : 0 ≤ (x9_2 : Int) := of_decide_eq_true (by first | (with_reducible assumption) | assumption)
                                                have q239 : x9_2 < (l2.length : Int) := of_decide_eq_true (by first | (with_reducible assumption) | assumption)
                                                obtain ⟨ad239, e239, hx239_0⟩ := Kd.at_int HR2.out x9_2 p239 q239
                                                obtain rfl : ad226 = ad239 := (by injection e239)
                                                replace hx239_0 := (HB.out.cell (World.block_lt_of_cell? w _ hx239_0)).trans hx239_0
                                                replace p239 := eq_true p239
                                                replace q239 := eq_true q239
                                                have p240 : 0 ≤ (x10_3 : Int) := of_decide_eq_true (by first | (with_reducible assumption) | assumption)
                                                have q240 : x10_3 < (t221.length : Int) := of_decide_eq_true (by first | (with_reducible assumption) | assumption)
                                                obtain ⟨ad240, e240, hx240_0⟩ := Kd.at_int (Kd.R_reads' HO_7.out).2.2 x10_3 p240 q240
                                                obtain rfl : ad224 = ad240 := (by injection e240)
                                                replace p240 := eq_true p240
                                                replace q240 := eq_true q240
                                                have p241 : 0 ≤ (x9_2 : Int) := of_decide_eq_true (by first | (with_reducible assumption) | assumption)
                                                have q241 : x9_2 < (t221.length : Int) := of_decide_eq_true (by first | (with_reducible assumption) | assumption)
                                                obtain ⟨ad241, e241, hx241_0⟩ := Kd.at_int (Kd.R_reads' HO_7.out).2.2 x9_2 p241 q241
                                                obtain rfl : ad224 = ad241 := (by injection e241)
                                                replace p241 := eq_true p241
                                                replace q241 := eq_true q241
                                                go_wp2
                                                repeat (go_quiet (fail); try go_wp2)
                                                go_roundg k3
                                                case measure => have := HJ3.out; have := HK2.out; have := HK3.out; omega
                                                case rel => exact ⟨(wrap64 (x10_3 + 1)), (by first | rfl | (simp; done) | (simp [*]; done)), H', ⟨by have := HJ3.out; have := HK2.out; have := HK3.out; omega⟩, ⟨by (with_reducible repeat (first | apply Kd.R_alloc | apply Kd.R_drewN | apply Kd.R_drew)); exact HO_7.out⟩, ⟨by repeat (first | (with_reducible first | exact HB.out | apply below_alloc | apply pw_below_drewN | apply below_drew1) | exact HB.out)⟩⟩
                                              · rw [if_neg c35] at H
                                                have c35b0 : ((rd t221 x10_3) == (rd t221 x9_2)) = false := beq_eq_false_iff_ne.mpr c35
                                                have c35b1 : ((rd t221 x10_3) != (rd t221 x9_2)) = true := bne_iff_ne.mpr c35
                                                obtain rfl := Option.some.inj H
                                                have p226 : 0 ≤ (x10_3 : Int) := of_decide_eq_true (by first | (with_reducible assumption) | assumption)
                                                have q226 : x10_3 < (l2.length : Int) := of_decide_eq_true (by first | (with_reducible assumption) | assumption)
                                                obtain ⟨ad226, e226, hx226_0⟩ := Kd.at_int HR2.out x10_3 p226 q226
                                                cases e226
                                                replace hx226_0 := (HB.out.cell (World.block_lt_of_cell? w _ hx226_0)).trans hx226_0
                                                replace p226 := eq_true p226
                                                replace q226 := eq_true q226
                                                have p227 : 0 ≤ (x9_2 : Int) := of_decide_eq_true (by first | (with_reducible assumption) | assumption)
                                                have q227 : x9_2 < (l2.length : Int) := of_decide_eq_true (by first | (with_reducible assumption) | assumption)
                                                obtain ⟨ad227, e227, hx227_0⟩ := Kd.at_int HR2.out x9_2 p227 q227
                                                obtain rfl : ad226 = ad227 := (by injection e227)
                                                replace hx227_0 := (HB.out.cell (World.block_lt_of_cell? w _ hx227_0)).trans hx227_0
                                                replace p227 := eq_true p227
                                                replace q227 := eq_true q227
                                                have p228 : 0 ≤ (x10_3 : Int) := of_decide_eq_true (by first | (with_reducible assumption) | assumption)
                                                have q228 : x10_3 < (t221.length : Int) := of_decide_eq_true (by first | (with_reducible assumption) | assumption)
                                                obtain ⟨ad228, e228, hx228_0⟩ := Kd.at_int (Kd.R_reads' HO_7.out).2.2 x10_3 p228 q228
                                                obtain rfl : ad224 = ad228 := (by injection e228)
                                                replace p228 := eq_true p228
                                                replace q228 := eq_true q228
                                                have p229 : 0 ≤ (x9_2 : Int) := of_decide_eq_true (by first | (with_reducible assumption) | assumption)
                                                have q229 : x9_2 < (t221.length : Int) := of_decide_eq_true (by first | (with_reducible assumption) | assumption)
                                                obtain ⟨ad229, e229, hx229_0⟩ := Kd.at_int (Kd.R_reads' HO_7.out).2.2 x9_2 p229 q229
                                                obtain rfl : ad224 = ad229 := (by injection e229)
                                                replace p229 := eq_true p229
                                                replace q229 := eq_true q229
                                                have p230 : 0 ≤ (x10_3 : Int) := of_decide_eq_true (by first | (with_reducible assumption) | assumption)
                                                have q230 : x10_3 < (l2.length : Int) := of_decide_eq_true (by first | (with_reducible assumption) | assumption)
                                                obtain ⟨ad230, e230, hx230_0⟩ := Kd.at_int HR2.out x10_3 p230 q230
                                                obtain rfl : ad226 = ad230 := (by injection e230)
                                                replace hx230_0 := (HB.out.cell (World.block_lt_of_cell? w _ hx230_0)).trans hx230_0
                                                replace p230 := eq_true p230
                                                replace q230 := eq_true q230
                                                have p231 : 0 ≤ (x9_2 : Int) := of_decide_eq_true (by first | (with_reducible assumption) | assumption)
                                                have q231 : x9_2 < (l2.length : Int) := of_decide_eq_true (by first | (with_reducible assumption) | assumption)
                                                obtain ⟨ad231, e231, hx231_0⟩ := Kd.at_int HR2.out x9_2 p231 q231
                                                obtain rfl : ad226 = ad231 := (by injection e231)
                                                replace hx231_0 := (HB.out.cell (World.block_lt_of_cell? w _ hx231_0)).trans hx231_0
                                                replace p231 := eq_true p231
                                                replace q231 := eq_true q231
                                                have p238 : 0 ≤ (x10_3 : Int) := of_decide_eq_true (by first | (with_reducible assumption) | assumption)
                                                have q238 : x10_3 < (l2.length : Int) := of_decide_eq_true (by first | (with_reducible assumption) | assumption)
                                                obtain ⟨ad238, e238, hx238_0⟩ := Kd.at_int HR2.out x10_3 p238 q238
                                                obtain rfl : ad226 = ad238 := (by injection e238)
                                                replace hx238_0 := (HB.out.cell (World.block_lt_of_cell? w _ hx238_0)).trans hx238_0
                                                replace p238 := eq_true p238
                                                replace q238 := eq_true q238
                                                have p239 : 0 ≤ (x9_2 : Int) := of_decide_eq_true (by first | (with_reducible assumption) | assumption)
                                                have q239 : x9_2 < (l2.length : Int) := of_decide_eq_true (by first | (with_reducible assumption) | assumption)
                                                obtain ⟨ad239, e239, hx239_0⟩ := Kd.at_int HR2.out x9_2 p239 q239
                                                obtain rfl : ad226 = ad239 := (by injection e239)
                                                replace hx239_0 := (HB.out.cell (World.block_lt_of_cell? w _ hx239_0)).trans hx239_0
                                                replace p239 := eq_true p239
                                                replace q239 := eq_true q239
                                                have p240 : 0 ≤ (x10_3 : Int) := of_decide_eq_true (by first | (with_reducible assumption) | assumption)
                                                have q240 : x10_3 < (t221.length : Int) := of_decide_eq_true (by first | (with_reducible assumption) | assumption)
                                                obtain ⟨ad240, e240, hx240_0⟩ := Kd.at_int (Kd.R_reads' HO_7.out).2.2 x10_3 p240 q240
                                                obtain rfl : ad224 = ad240 := (by injection e240)
                                                replace p240 := eq_true p240
                                                replace q240 := eq_true q240
                                                have p241 : 0 ≤ (x9_2 : Int) := of_decide_eq_true (by first | (with_reducible assumption) | assumption)
                                                have q241 : x9_2 < (t221.length : Int) := of_decide_eq_true (by first | (with_reducible assumption) | assumption)
                                                obtain ⟨ad241, e241, hx241_0⟩ := Kd.at_int (Kd.R_reads' HO_7.out).2.2 x9_2 p241 q241
                                                obtain rfl : ad224 = ad241 := (by injection e241)
                                                replace p241 := eq_true p241
                                                replace q241 := eq_true q241
                                                go_wp2
                                                repeat (go_quiet (fail); try go_wp2)
                                                go_ret
                                                exact ⟨by first | rfl | (simp [errW_none, errW_some] <;> rfl) | (simp [*, errW_none, errW_some] <;> rfl), by repeat (first | (with_reducible first | exact HB.out | apply below_alloc | apply pw_below_drewN | apply below_drew1) | exact HB.out)⟩
                                            · rw [if_neg c34] at H
                                              have c34b0 : ((rd l2 x10_3) == (rd l2 x9_2)) = false := beq_eq_false_iff_ne.mpr c34
                                              have c34b1 : ((rd l2 x10_3) != (rd l2 x9_2)) = true := bne_iff_ne.mpr c34
                                              have H' := Aside0.mk H
                                              clear H
                                              have p226 : 0 ≤ (x10_3 : Int) := of_decide_eq_true (by first | (with_reducible assumption) | assumption)
                                              have q226 : x10_3 < (l2.length : Int) := of_decide_eq_true (by first | (with_reducible assumption) | assumption)
                                              obtain ⟨ad226, e226, hx226_0⟩ := Kd.at_int HR2.out x10_3 p226 q226
                                              cases e226
                                              replace hx226_0 := (HB.out.cell (World.block_lt_of_cell? w _ hx226_0)).trans hx226_0
                                              replace p226 := eq_true p226
                                              replace q226 := eq_true q226
                                              have p227 : 0 ≤ (x9_2 : Int) := of_decide_eq_true (by first | (with_reducible assumption) | assumption)
                                              have q227 : x9_2 < (l2.length : Int) := of_decide_eq_true (by first | (with_reducible assumption) | assumption)
                                              obtain ⟨ad227, e227, hx227_0⟩ := Kd.at_int HR2.out x9_2 p227 q227
                                              obtain rfl : ad226 = ad227 := (by injection e227)
                                              replace hx227_0 := (HB.out.cell (World.block_lt_of_cell? w _ hx227_0)).trans hx227_0
                                              replace p227 := eq_true p227
                                              replace q227 := eq_true q227
                                              have p228 : 0 ≤ (x10_3 : Int) := of_decide_eq_true (by first | (with_reducible assumption) | assumption)
                                              have q228 : x10_3 < (t221.length : Int) := of_decide_eq_true (by first | (with_reducible assumption) | assumption)
                                              obtain ⟨ad228, e228, hx228_0⟩ := Kd.at_int (Kd.R_reads' HO_7.out).2.2 x10_3 p228 q228
                                              obtain rfl : ad224 = ad228 := (by injection e228)
                                              replace p228 := eq_true p228
                                              replace q228 := eq_true q228
                                              have p229 : 0 ≤ (x9_2 : Int) := of_decide_eq_true (by first | (with_reducible assumption) | assumption)
                                              have q229 : x9_2 < (t221.length : Int) := of_decide_eq_true (by first | (with_reducible assumption) | assumption)
                                              obtain ⟨ad229, e229, hx229_0⟩ := Kd.at_int (Kd.R_reads' HO_7.out).2.2 x9_2 p229 q229
                                              obtain rfl : ad224 = ad229 := (by injection e229)
                                              replace p229 := eq_true p229
                                              replace q229 := eq_true q229
                                              have p230 : 0 ≤ (x10_3 : Int) := of_decide_eq_true (by first | (with_reducible assumption) | assumption)
                                              have q230 : x10_3 < (l2.length : Int) := of_decide_eq_true (by first | (with_reducible assumption) | assumption)
                                              obtain ⟨ad230, e230, hx230_0⟩ := Kd.at_int HR2.out x10_3 p230 q230
                                              obtain rfl : ad226 = ad230 := (by injection e230)
                                              replace hx230_0 := (HB.out.cell (World.block_lt_of_cell? w _ hx230_0)).trans hx230_0
                                              replace p230 := eq_true p230
                                              replace q230 := eq_true q230
                                              have p231 : 0 ≤ (x9_2 : Int) := of_decide_eq_true (by first | (with_reducible assumption) | assumption)
                                              have q231 : x9_2 < (l2.length : Int) := of_decide_eq_true (by first | (with_reducible assumption) | assumption)
                                              obtain ⟨ad231, e231, hx231_0⟩ := Kd.at_int HR2.out x9_2 p231 q231
                                              obtain rfl : ad226 = ad231 := (by injection e231)
                                              replace hx231_0 := (HB.out.cell (World.block_lt_of_cell? w _ hx231_0)).trans hx231_0
                                              replace p231 := eq_true p231
                                              replace q231 := eq_true q231
                                              have p238 : 0 ≤ (x10_3 : Int) := of_decide_eq_true (by first | (with_reducible assumption) | assumption)
                                              have q238 : x10_3 < (l2.length : Int) := of_decide_eq_true (by first | (with_reducible assumption) | assumption)
                                              obtain ⟨ad238, e238, hx238_0⟩ := Kd.at_int HR2.out x10_3 p238 q238
                                              obtain rfl : ad226 = ad238 := (by injection e238)
                                              replace hx238_0 := (HB.out.cell (World.block_lt_of_cell? w _ hx238_0)).trans hx238_0
                                              replace p238 := eq_true p238
                                              replace q238 := eq_true q238
                                              have p239 : 0 ≤ (x9_2 : Int) := of_decide_eq_true (by first | (with_reducible assumption) | assumption)
                                              have q239 : x9_2 < (l2.length : Int) := of_decide_eq_true (by first | (with_reducible assumption) | assumption)
                                              obtain ⟨ad239, e239, hx239_0⟩ := Kd.at_int HR2.out x9_2 p239 q239
                                              obtain rfl : ad226 = ad239 := (by injection e239)
                                              replace hx239_0 := (HB.out.cell (World.block_lt_of_cell? w _ hx239_0)).trans hx239_0
                                              replace p239 := eq_true p239
                                              replace q239 := eq_true q239
                                              go_wp2
                                              repeat (go_quiet (fail); try go_wp2)
                                              go_roundg k3
                                              case measure => have := HJ3.out; have := HK2.out; have := HK3.out; omega
                                              case rel => exact ⟨(wrap64 (x10_3 + 1)), (by first | rfl | (simp; done) | (simp [*]; done)), H', ⟨by have := HJ3.out; have := HK2.out; have := HK3.out; omega⟩, ⟨by (with_reducible repeat (first | apply Kd.R_alloc | apply Kd.R_drewN | apply Kd.R_drew)); exact HO_7.out⟩, ⟨by repeat (first | (with_reducible first | exact HB.out | apply below_alloc | apply pw_below_drewN | apply below_drew1) | exact HB.out)⟩⟩
                                      · rw [if_neg c28] at H
                                        exact absurd H (by simp)
                                    · rw [if_neg c27] at H
                                      exact absurd H (by simp)
                                  · rw [if_neg c26] at H
                                    have c26b0 : decide ((rd l2 x9_2) < (rd l2 x10_3)) = false := decide_eq_false c26
                                    clear c26
                                    by_cases c36 : (rd l2 x10_3) < (rd l2 x9_2)
                                    · rw [if_pos c36] at H
                                      have c36b0 : decide ((rd l2 x10_3) < (rd l2 x9_2)) = true := decide_eq_true c36
                                      clear c36
                                      by_cases c37 : x10_3 < (t221.length : Int)
                                      · rw [if_pos c37] at H
                                        have c37b0 : decide (x10_3 < (t221.length : Int)) = true := decide_eq_true c37
                                        clear c37
                                        by_cases c38 : x9_2 < (t221.length : Int)
                                        · rw [if_pos c38] at H
                                          have c38b0 : decide (x9_2 < (t221.length : Int)) = true := decide_eq_true c38
                                          clear c38
                                          by_cases c39 : (rd t221 x10_3) > (rd t221 x9_2)
                                          · rw [if_pos c39] at H
                                            have c39b0 : decide ((rd t221 x9_2) < (rd t221 x10_3)) = true := decide_eq_true c39
                                            clear c39
                                            obtain rfl := Option.some.inj H
                                            have p226 : 0 ≤ (x10_3 : Int) := of_decide_eq_true (by first | (with_reducible assumption) | assumption)
                                            have q226 : x10_3 < (l2.length : Int) := of_decide_eq_true (by first | (with_reducible assumption) | assumption)
                                            obtain ⟨ad226, e226, hx226_0⟩ := Kd.at_int HR2.out x10_3 p226 q226
                                            cases e226
                                            replace hx226_0 := (HB.out.cell (World.block_lt_of_cell? w _ hx226_0)).trans hx226_0
                                            replace p226 := eq_true p226
                                            replace q226 := eq_true q226
                                            have p227 : 0 ≤ (x9_2 : Int) := of_decide_eq_true (by first | (with_reducible assumption) | assumption)
                                            have q227 : x9_2 < (l2.length : Int) := of_decide_eq_true (by first | (with_reducible assumption) | assumption)
                                            obtain ⟨ad227, e227, hx227_0⟩ := Kd.at_int HR2.out x9_2 p227 q227
                                            obtain rfl : ad226 = ad227 := (by injection e227)
                                            replace hx227_0 := (HB.out.cell (World.block_lt_of_cell? w _ hx227_0)).trans hx227_0
                                            replace p227 := eq_true p227
                                            replace q227 := eq_true q227
                                            have p242 : 0 ≤ (x10_3 : Int) := of_decide_eq_true (by first | (with_reducible assumption) | assumption)
                                            have q242 : x10_3 < (l2.length : Int) := of_decide_eq_true (by first | (with_reducible assumption) | assumption)
                                            obtain ⟨ad242, e242, hx242_0⟩ := Kd.at_int HR2.out x10_3 p242 q242
                                            obtain rfl : ad226 = ad242 := (by injection e242)
                                            replace hx242_0 := (HB.out.cell (World.block_lt_of_cell? w _ hx242_0)).trans hx242_0
                                            replace p242 := eq_true p242
                                            replace q242 := eq_true q242
                                            have p243 : 0 ≤ (x9_2 : Int) := of_decide_eq_true (by first | (with_reducible assumption) | assumption)
                                            have q243 : x9_2 < (l2.length : Int) := of_decide_eq_true (by first | (with_reducible assumption) | assumption)
                                            obtain ⟨ad243, e243, hx243_0⟩ := Kd.at_int HR2.out x9_2 p243 q243
                                            obtain rfl : ad226 = ad243 := (by injection e243)
                                            replace hx243_0 := (HB.out.cell (World.block_lt_of_cell? w _ hx243_0)).trans hx243_0
                                            replace p243 := eq_true p243
                                            replace q243 := eq_true q243
                                            have p244 : 0 ≤ (x10_3 : Int) := of_decide_eq_true (by first | (with_reducible assumption) | assumption)
                                            have q244 : x10_3 < (t221.length : Int) := of_decide_eq_true (by first | (with_reducible assumption) | assumption)
                                            obtain ⟨ad244, e244, hx244_0⟩ := Kd.at_int (Kd.R_reads' HO_7.out).2.2 x10_3 p244 q244
                                            obtain rfl : ad224 = ad244 := (by injection e244)
                                            replace p244 := eq_true p244
                                            replace q244 := eq_true q244
                                            have p245 : 0 ≤ (x9_2 : Int) := of_decide_eq_true (by first | (with_reducible assumption) | assumption)
                                            have q245 : x9_2 < (t221.length : Int) := of_decide_eq_true (by first | (with_reducible assumption) | assumption)
                                            obtain ⟨ad245, e245, hx245_0⟩ := Kd.at_int (Kd.R_reads' HO_7.out).2.2 x9_2 p245 q245
                                            obtain rfl : ad224 = ad245 := (by injection e245)
                                            replace p245 := eq_true p245
                                            replace q245 := eq_true q245
                                            go_wp2
                                            repeat (go_quiet (fail); try go_wp2)
                                            go_ret
                                            exact ⟨by first | rfl | (simp [errW_none, errW_some] <;> rfl) | (simp [*, errW_none, errW_some] <;> rfl), by repeat (first | (with_reducible first | exact HB.out | apply below_alloc | apply pw_below_drewN | apply below_drew1) | exact HB.out)⟩
                                          · rw [if_neg c39] at H
                                            have c39b0 : decide ((rd t221 x9_2) < (rd t221 x10_3)) = false := decide_eq_false c39
                                            clear c39
                                            by_cases c40 : (rd l2 x10_3) = (rd l2 x9_2)
                                            · rw [if_pos c40] at H
                                              have c40b0 : ((rd l2 x10_3) == (rd l2 x9_2)) = true := beq_iff_eq.mpr c40
                                              have c40b1 : ((rd l2 x10_3) != (rd l2 x9_2)) = false := bne_eq_false_iff_eq.mpr c40
                                              clear c40
                                              by_cases c41 : (rd t221 x10_3) = (rd t221 x9_2)
                                              · rw [if_pos c41] at H
                                                have c41b0 : ((rd t221 x10_3) == (rd t221 x9_2)) = true := beq_iff_eq.mpr c41
                                                have c41b1 : ((rd t221 x10_3) != (rd t221 x9_2)) = false := bne_eq_false_iff_eq.mpr c41
                                                clear c41
                                                have H' := Aside0.mk H
                                                clear H
                                                have p226 : 0 ≤ (x10_3 : Int) := of_decide_eq_true (by first | (with_reducible assumption) | assumption)
                                                have q226 : x10_3 < (l2.length : Int) := of_decide_eq_true (by first | (with_reducible assumption) | assumption)
                                                obtain ⟨ad226, e226, hx226_0⟩ := Kd.at_int HR2.out x10_3 p226 q226
                                                cases e226
                                                replace hx226_0 := (HB.out.cell (World.block_lt_of_cell? w _ hx226_0)).trans hx226_0
                                                replace p226 := eq_true p226
                                                replace q226 := eq_true q226
                                                have p227 : 0 ≤ (x9_2 : Int) := of_decide_eq_true (by first | (with_reducible assumption) | assumption)
                                                have q227 : x9_2 < (l2.length : Int) := of_decide_eq_true (by first | (with_reducible assumption) | assumption)
                                                obtain ⟨ad227, e227, hx227_0⟩ := Kd.at_int HR2.out x9_2 p227 q227
                                                obtain rfl : ad226 = ad227 := (by injection e227)
                                                replace hx227_0 := (HB.out.cell (World.block_lt_of_cell? w _ hx227_0)).trans hx227_0
                                                replace p227 := eq_true p227
                                                replace q227 := eq_true q227
                                                have p242 : 0 ≤ (x10_3 : Int) := of_decide_eq_true (by first | (with_reducible assumption) | assumption)
                                                have q242 : x10_3 < (l2.length : Int) := of_decide_eq_true (by first | (with_reducible assumption) | assumption)
                                                obtain ⟨ad242, e242, hx242_0⟩ := Kd.at_int HR2.out x10_3 p242 q242
                                                obtain rfl : ad226 = ad242 := (by injection e242)
                                                replace hx242_0 := (HB.out.cell (World.block_lt_of_cell? w _ hx242_0)).trans hx242_0
                                                replace p242 := eq_true p242
                                                replace q242 := eq_true q242
                                                have p243 : 0 ≤ (x9_2 : Int) := of_decide_eq_true (by first | (with_reducible assumption) | assumption)
                                                have q243 : x9_2 < (l2.length : Int) := of_decide_eq_true (by first | (with_reducible assumption) | assumption)
                                                obtain ⟨ad243, e243, hx243_0⟩ := Kd.at_int HR2.out x9_2 p243 q243
                                                obtain rfl : ad226 = ad243 := (by injection e243)
                                                replace hx243_0 := (HB.out.cell (World.block_lt_of_cell? w _ hx243_0)).trans hx243_0
                                                replace p243 := eq_true p243
                                                replace q243 := eq_true q243
                                                have p244 : 0 ≤ (x10_3 : Int) := of_decide_eq_true (by first | (with_reducible assumption) | assumption)
                                                have q244 : x10_3 < (t221.length : Int) := of_decide_eq_true (by first | (with_reducible assumption) | assumption)
                                                obtain ⟨ad244, e244, hx244_0⟩ := Kd.at_int (Kd.R_reads' HO_7.out).2.2 x10_3 p244 q244
                                                obtain rfl : ad224 = ad244 := (by injection e244)
                                                replace p244 := eq_true p244
                                                replace q244 := eq_true q244
                                                have p245 : 0 ≤ (x9_2 : Int) := of_decide_eq_true (by first | (with_reducible assumption) | assumption)
                                                have q245 : x9_2 < (t221.length : Int) := of_decide_eq_true (by first | (with_reducible assumption) | assumption)
                                                obtain ⟨ad245, e245, hx245_0⟩ := Kd.at_int (Kd.R_reads' HO_7.out).2.2 x9_2 p245 q245
                                                obtain rfl : ad224 = ad245 := (by injection e245)
                                                replace p245 := eq_true p245
                                                replace q245 := eq_true q245
                                                have p246 : 0 ≤ (x10_3 : Int) := of_decide_eq_true (by first | (with_reducible assumption) | assumption)
                                                have q246 : x10_3 < (l2.length : Int) := of_decide_eq_true (by first | (with_reducible assumption) | assumption)
                                                obtain ⟨ad246, e246, hx246_0⟩ := Kd.at_int HR2.out x10_3 p246 q246
                                                obtain rfl : ad226 = ad246 := (by injection e246)
                                                replace hx246_0 := (HB.out.cell (World.block_lt_of_cell? w _ hx246_0)).trans hx246_0
                                                replace p246 := eq_true p246
                                                replace q246 := eq_true q246
                                                have p247 : 0 ≤ (x9_2 : Int) := of_decide_eq_true (by first | (with_reducible assumption) | assumption)
                                                have q247 : x9_2 < (l2.length : Int) := of_decide_eq_true (by first | (with_reducible assumption) | assumption)
                                                obtain ⟨ad247, e247, hx247_0⟩ := Kd.at_int HR2.out x9_2 p247 q247
                                                obtain rfl : ad226 = ad247 := (by injection e247)
                                                replace hx247_0 := (HB.out.cell (World.block_lt_of_cell? w _ hx247_0)).trans hx247_0
                                                replace p247 := eq_true p247
                                                replace q247 := eq_true q247
                                                have p248 : 0 ≤ (x10_3 : Int) := of_decide_eq_true (by first | (with_reducible assumption) | assumption)
                                                have q248 : x10_3 < (t221.length : Int) := of_decide_eq_true (by first | (with_reducible assumption) | assumption)
                                                obtain ⟨ad248, e248, hx248_0⟩ := Kd.at_int (Kd.R_reads' HO_7.out).2.2 x10_3 p248 q248
                                                obtain rfl : ad224 = ad248 := (by injection e248)
                                                replace p248 := eq_true p248
                                                replace q248 := eq_true q248
                                                have p249 : 0 ≤ (x9_2 : Int) := of_decide_eq_true (by first | (with_reducible assumption) | assumption)
                                                have q249 : x9_2 < (t221.length : Int) := of_decide_eq_true (by first | (with_reducible assumption) | assumption)
                                                obtain ⟨ad249, e249, hx249_0⟩ := Kd.at_int (Kd.R_reads' HO_7.out).2.2 x9_2 p249 q249
                                                obtain rfl : ad224 = ad249 := (by injection e249)
                                                replace p249 := eq_true p249
                                                replace q249 := eq_true q249
                                                go_wp2
                                                repeat (go_quiet (fail); try go_wp2)
                                                go_roundg k3
                                                case measure => have := HJ3.out; have := HK2.out; have := HK3.out; omega
                                                case rel => exact ⟨(wrap64 (x10_3 + 1)), (by first | rfl | (simp; done) | (simp [*]; done)), H', ⟨by have := HJ3.out; have := HK2.out; have := HK3.out; omega⟩, ⟨by (with_reducible repeat (first | apply Kd.R_alloc | apply Kd.R_drewN | apply Kd.R_drew)); exact HO_7.out⟩, ⟨by repeat (first | (with_reducible first | exact HB.out | apply below_alloc | apply pw_below_drewN | apply below_drew1) | exact HB.out)⟩⟩
                                              · rw [if_neg c41] at H
                                                have c41b0 : ((rd t221 x10_3) == (rd t221 x9_2)) = false := beq_eq_false_iff_ne.mpr c41
                                                have c41b1 : ((rd t221 x10_3) != (rd t221 x9_2)) = true := bne_iff_ne.mpr c41
                                                obtain rfl := Option.some.inj H
                                                have p226 : 0 ≤ (x10_3 : Int) := of_decide_eq_true (by first | (with_reducible assumption) | assumption)
                                                have q226 : x10_3 < (l2.length : Int) := of_decide_eq_true (by first | (with_reducible assumption) | assumption)
                                                obtain ⟨ad226, e226, hx226_0⟩ := Kd.at_int HR2.out x10_3 p226 q226
                                                cases e226
                                                replace hx226_0 := (HB.out.cell (World.block_lt_of_cell? w _ hx226_0)).trans hx226_0
                                                replace p226 := eq_true p226
                                                replace q226 := eq_true q226
                                                have p227 : 0 ≤ (x9_2 : Int) := of_decide_eq_true (by first | (with_reducible assumption) | assumption)
                                                have q227 : x9_2 < (l2.length : Int) := of_decide_eq_true (by first | (with_reducible assumption) | assumption)
                                                obtain ⟨ad227, e227, hx227_0⟩ := Kd.at_int HR2.out x9_2 p227 q227
                                                obtain rfl : ad226 = ad227 := (by injection e227)
                                                replace hx227_0 := (HB.out.cell (World.block_lt_of_cell? w _ hx227_0)).trans hx227_0
                                                replace p227 := eq_true p227
                                                replace q227 := eq_true q227
                                                have p242 : 0 ≤ (x10_3 : Int) := of_decide_eq_true (by first | (with_reducible assumption) | assumption)
                                                have q242 : x10_3 < (l2.length : Int) := of_decide_eq_true (by first | (with_reducible assumption) | assumption)
                                                obtain ⟨ad242, e242, hx242_0⟩ := Kd.at_int HR2.out x10_3 p242 q242
                                                obtain rfl : ad226 = ad242 := (by injection e242)
                                                replace hx242_0 := (HB.out.cell (World.block_lt_of_cell? w _ hx242_0)).trans hx242_0
                                                replace p242 := eq_true p242
                                                replace q242 := eq_true q242
                                                have p243 : 0 ≤ (x9_2 : Int) := of_decide_eq_true (by first | (with_reducible assumption) | assumption)
                                                have q243 : x9_2 < (l2.length : Int) := of_decide_eq_true (by first | (with_reducible assumption) | assumption)
                                                obtain ⟨ad243, e243, hx243_0⟩ := Kd.at_int HR2.out x9_2 p243 q243
                                                obtain rfl : ad226 = ad243 := (by injection e243)
                                                replace hx243_0 := (HB.out.cell (World.block_lt_of_cell? w _ hx243_0)).trans hx243_0
                                                replace p243 := eq_true p243
                                                replace q243 := eq_true q243
                                                have p244 : 0 ≤ (x10_3 : Int) := of_decide_eq_true (by first | (with_reducible assumption) | assumption)
                                                have q244 : x10_3 < (t221.length : Int) := of_decide_eq_true (by first | (with_reducible assumption) | assumption)
                                                obtain ⟨ad244, e244, hx244_0⟩ := Kd.at_int (Kd.R_reads' HO_7.out).2.2 x10_3 p244 q244
                                                obtain rfl : ad224 = ad244 := (by injection e244)
                                                replace p244 := eq_true p244
                                                replace q244 := eq_true q244
                                                have p245 : 0 ≤ (x9_2 : Int) := of_decide_eq_true (by first | (with_reducible assumption) | assumption)
                                                have q245 : x9_2 < (t221.length : Int) := of_decide_eq_true (by first | (with_reducible assumption) | assumption)
                                                obtain ⟨ad245, e245, hx245_0⟩ := Kd.at_int (Kd.R_reads' HO_7.out).2.2 x9_2 p245 q245
                                                obtain rfl : ad224 = ad245 := (by injection e245)
                                                replace p245 := eq_true p245
                                                replace q245 := eq_true q245
                                                have p246 : 0 ≤ (x10_3 : Int) := of_decide_eq_true (by first | (with_reducible assumption) | assumption)
                                                have q246 : x10_3 < (l2.length : Int) := of_decide_eq_true (by first | (with_reducible assumption) | assumption)
                                                obtain ⟨ad246, e246, hx246_0⟩ := Kd.at_int HR2.out x10_3 p246 q246
                                                obtain rfl : ad226 = ad246 := (by injection e246)
                                                replace hx246_0 := (HB.out.cell (World.block_lt_of_cell? w _ hx246_0)).trans hx246_0
                                                replace p246 := eq_true p246
                                                replace q246 := eq_true q246
                                                have p247 : 0 ≤ (x9_2 : Int) := of_decide_eq_true (by first | (with_reducible assumption) | assumption)
                                                have q247 : x9_2 < (l2.length : Int) := of_decide_eq_true (by first | (with_reducible assumption) | assumption)
                                                obtain ⟨ad247, e247, hx247_0⟩ := Kd.at_int HR2.out x9_2 p247 q247
                                                obtain rfl : ad226 = ad247 := (by injection e247)
                                                replace hx247_0 := (HB.out.cell (World.block_lt_of_cell? w _ hx247_0)).trans hx247_0
                                                replace p247 := eq_true p247
                                                replace q247 := eq_true q247
                                                have p248 : 0 ≤ (x10_3 : Int) := of_decide_eq_true (by first | (with_reducible assumption) | assumption)
                                                have q248 : x10_3 < (t221.length : Int) := of_decide_eq_true (by first | (with_reducible assumption) | assumption)
                                                obtain ⟨ad248, e248, hx248_0⟩ := Kd.at_int (Kd.R_reads' HO_7.out).2.2 x10_3 p248 q248
                                                obtain rfl : ad224 = ad248 := (by injection e248)
                                                replace p248 := eq_true p248
                                                replace q248 := eq_true q248
                                                have p249 : 0 ≤ (x9_2 : Int) := of_decide_eq_true (by first | (with_reducible assumption) | assumption)
                                                have q249 : x9_2 < (t221.length : Int) := of_decide_eq_true (by first | (with_reducible assumption) | assumption)
                                                obtain ⟨ad249, e249, hx249_0⟩ := Kd.at_int (Kd.R_reads' HO_7.out).2.2 x9_2 p249 q249
                                                obtain rfl : ad224 = ad249 := (by injection e249)
                                                replace p249 := eq_true p249
                                                replace q249 := eq_true q249
                                                go_wp2
                                                repeat (go_quiet (fail); try go_wp2)
                                                go_ret
                                                exact ⟨by first | rfl | (simp [errW_none, errW_some] <;> rfl) | (simp [*, errW_none, errW_some] <;> rfl), by repeat (first | (with_reducible first | exact HB.out | apply below_alloc | apply pw_below_drewN | apply below_drew1) | exact HB.out)⟩
                                            · rw [if_neg c40] at H
                                              have c40b0 : ((rd l2 x10_3) == (rd l2 x9_2)) = false := beq_eq_false_iff_ne.mpr c40
                                              have c40b1 : ((rd l2 x10_3) != (rd l2 x9_2)) = true := bne_iff_ne.mpr c40
                                              have H' := Aside0.mk H
                                              clear H
                                              have p226 : 0 ≤ (x10_3 : Int) := of_decide_eq_true (by first | (with_reducible assumption) | assumption)
                                              have q226 : x10_3 < (l2.length : Int) := of_decide_eq_true (by first | (with_reducible assumption) | assumption)
                                              obtain ⟨ad226, e226, hx226_0⟩ := Kd.at_int HR2.out x10_3 p226 q226
                                              cases e226
                                              replace hx226_0 := (HB.out.cell (World.block_lt_of_cell? w _ hx226_0)).trans hx226_0
                                              replace p226 := eq_true p226
                                              replace q226 := eq_true q226
                                              have p227 : 0 ≤ (x9_2 : Int) := of_decide_eq_true (by first | (with_reducible assumption) | assumption)
                                              have q227 : x9_2 < (l2.length : Int) := of_decide_eq_true (by first | (with_reducible assumption) | assumption)
                                              obtain ⟨ad227, e227, hx227_0⟩ := Kd.at_int HR2.out x9_2 p227 q227
                                              obtain rfl : ad226 = ad227 := (by injection e227)
                                              replace hx227_0 := (HB.out.cell (World.block_lt_of_cell? w _ hx227_0)).trans hx227_0
                                              replace p227 := eq_true p227
                                              replace q227 := eq_true q227
                                              have p242 : 0 ≤ (x10_3 : Int) := of_decide_eq_true (by first | (with_reducible assumption) | assumption)
                                              have q242 : x10_3 < (l2.length : Int) := of_decide_eq_true (by first | (with_reducible assumption) | assumption)
                                              obtain ⟨ad242, e242, hx242_0⟩ := Kd.at_int HR2.out x10_3 p242 q242
                                              obtain rfl : ad226 = ad242 := (by injection e242)
                                              replace hx242_0 := (HB.out.cell (World.block_lt_of_cell? w _ hx242_0)).trans hx242_0
                                              replace p242 := eq_true p242
                                              replace q242 := eq_true q242
                                              have p243 : 0 ≤ (x9_2 : Int) := of_decide_eq_true (by first | (with_reducible assumption) | assumption)
                                              have q243 : x9_2 < (l2.length : Int) := of_decide_eq_true (by first | (with_reducible assumption) | assumption)
                                              obtain ⟨ad243, e243, hx243_0⟩ := Kd.at_int HR2.out x9_2 p243 q243
                                              obtain rfl : ad226 = ad243 := (by injection e243)
                                              replace hx243_0 := (HB.out.cell (World.block_lt_of_cell? w _ hx243_0)).trans hx243_0
                                              replace p243 := eq_true p243
                                              replace q243 := eq_true q243
                                              have p244 : 0 ≤ (x10_3 : Int) := of_decide_eq_true (by first | (with_reducible assumption) | assumption)
                                              have q244 : x10_3 < (t221.length : Int) := of_decide_eq_true (by first | (with_reducible assumption) | assumption)
                                              obtain ⟨ad244, e244, hx244_0⟩ := Kd.at_int (Kd.R_reads' HO_7.out).2.2 x10_3 p244 q244
                                              obtain rfl : ad224 = ad244 := (by injection e244)
                                              replace p244 := eq_true p244
                                              replace q244 := eq_true q244
                                              have p245 : 0 ≤ (x9_2 : Int) := of_decide_eq_true (by first | (with_reducible assumption) | assumption)
                                              have q245 : x9_2 < (t221.length : Int) := of_decide_eq_true (by first | (with_reducible assumption) | assumption)
                                              obtain ⟨ad245, e245, hx245_0⟩ := Kd.at_int (Kd.R_reads' HO_7.out).2.2 x9_2 p245 q245
                                              obtain rfl : ad224 = ad245 := (by injection e245)
                                              replace p245 := eq_true p245
                                              replace q245 := eq_true q245
                                              have p246 : 0 ≤ (x10_3 : Int) := of_decide_eq_true (by first | (with_reducible assumption) | assumption)
                                              have q246 : x10_3 < (l2.length : Int) := of_decide_eq_true (by first | (with_reducible assumption) | assumption)
                                              obtain ⟨ad246, e246, hx246_0⟩ := Kd.at_int HR2.out x10_3 p246 q246
                                              obtain rfl : ad226 = ad246 := (by injection e246)
                                              replace hx246_0 := (HB.out.cell (World.block_lt_of_cell? w _ hx246_0)).trans hx246_0
                                              replace p246 := eq_true p246
                                              replace q246 := eq_true q246
                                              have p247 : 0 ≤ (x9_2 : Int) := of_decide_eq_true (by first | (with_reducible assumption) | assumption)
                                              have q247 : x9_2 < (l2.length : Int) := of_decide_eq_true (by first | (with_reducible assumption) | assumption)
                                              obtain ⟨ad247, e247, hx247_0⟩ := Kd.at_int HR2.out x9_2 p247 q247
                                              obtain rfl : ad226 = ad247 := (by injection e247)
                                              replace hx247_0 := (HB.out.cell (World.block_lt_of_cell? w _ hx247_0)).trans hx247_0
                                              replace p247 := eq_true p247
                                              replace q247 := eq_true q247
                                              go_wp2
                                              repeat (go_quiet (fail); try go_wp2)
                                              go_roundg k3
                                              case measure => have := HJ3.out; have := HK2.out; have := HK3.out; omega
                                              case rel => exact ⟨(wrap64 (x10_3 + 1)), (by first | rfl | (simp; done) | (simp [*]; done)), H', ⟨by have := HJ3.out; have := HK2.out; have := HK3.out; omega⟩, ⟨by (with_reducible repeat (first | apply Kd.R_alloc | apply Kd.R_drewN | apply Kd.R_drew)); exact HO_7.out⟩, ⟨by repeat (first | (with_reducible first | exact HB.out | apply below_alloc | apply pw_below_drewN | apply below_drew1) | exact HB.out)⟩⟩
                                        · rw [if_neg c38] at H
                                          exact absurd H (by simp)
                                      · rw [if_neg c37] at H
                                        exact absurd H (by simp)
                                    · rw [if_neg c36] at H
                                      have c36b0 : decide ((rd l2 x10_3) < (rd l2 x9_2)) = false := decide_eq_false c36
                                      clear c36
                                      by_cases c42 : (rd l2 x10_3) = (rd l2 x9_2)
                                      · rw [if_pos c42] at H
                                        have c42b0 : ((rd l2 x10_3) == (rd l2 x9_2)) = true := beq_iff_eq.mpr c42
                                        have c42b1 : ((rd l2 x10_3) != (rd l2 x9_2)) = false := bne_eq_false_iff_eq.mpr c42
                                        clear c42
                                        by_cases c43 : x10_3 < (t221.length : Int)
                                        · rw [if_pos c43] at H
                                          have c43b0 : decide (x10_3 < (t221.length : Int)) = true := decide_eq_true c43
                                          clear c43
                                          by_cases c44 : x9_2 < (t221.length : Int)
                                          · rw [if_pos c44] at H
                                            have c44b0 : decide (x9_2 < (t221.length : Int)) = true := decide_eq_true c44
                                            clear c44
                                            by_cases c45 : (rd t221 x10_3) = (rd t221 x9_2)
                                            · rw [if_pos c45] at H
                                              have c45b0 : ((rd t221 x10_3) == (rd t221 x9_2)) = true := beq_iff_eq.mpr c45
                                              have c45b1 : ((rd t221 x10_3) != (rd t221 x9_2)) = false := bne_eq_false_iff_eq.mpr c45
                                              clear c45
                                              have H' := Aside0.mk H
                                              clear H
                                              have p226 : 0 ≤ (x10_3 : Int) := of_decide_eq_true (by first | (with_reducible assumption) | assumption)
                                              have q226 : x10_3 < (l2.length : Int) := of_decide_eq_true (by first | (with_reducible assumption) | assumption)
                                              obtain ⟨ad226, e226, hx226_0⟩ := Kd.at_int HR2.out x10_3 p226 q226
                                              cases e226
                                              replace hx226_0 := (HB.out.cell (World.block_lt_of_cell? w _ hx226_0)).trans hx226_0
                                              replace p226 := eq_true p226
                                              replace q226 := eq_true q226
                                              have p227 : 0 ≤ (x9_2 : Int) := of_decide_eq_true (by first | (with_reducible assumption) | assumption)
                                              have q227 : x9_2 < (l2.length : Int) := of_decide_eq_true (by first | (with_reducible assumption) | assumption)
                                              obtain ⟨ad227, e227, hx227_0⟩ := Kd.at_int HR2.out x9_2 p227 q227
                                              obtain rfl : ad226 = ad227 := (by injection e227)
                                              replace hx227_0 := (HB.out.cell (World.block_lt_of_cell? w _ hx227_0)).trans hx227_0
                                              replace p227 := eq_true p227
                                              replace q227 := eq_true q227
                                              have p242 : 0 ≤ (x10_3 : Int) := of_decide_eq_true (by first | (with_reducible assumption) | assumption)
                                              have q242 : x10_3 < (l2.length : Int) := of_decide_eq_true (by first | (with_reducible assumption) | assumption)
                                              obtain ⟨ad242, e242, hx242_0⟩ := Kd.at_int HR2.out x10_3 p242 q242
                                              obtain rfl : ad226 = ad242 := (by injection e242)
                                              replace hx242_0 := (HB.out.cell (World.block_lt_of_cell? w _ hx242_0)).trans hx242_0
                                              replace p242 := eq_true p242
                                              replace q242 := eq_true q242
                                              have p243 : 0 ≤ (x9_2 : Int) := of_decide_eq_true (by first | (with_reducible assumption) | assumption)
                                              have q243 : x9_2 < (l2.length : Int) := of_decide_eq_true (by first | (with_reducible assumption) | assumption)
                                              obtain ⟨ad243, e243, hx243_0⟩ := Kd.at_int HR2.out x9_2 p243 q243
                                              obtain rfl : ad226 = ad243 := (by injection e243)
                                              replace hx243_0 := (HB.out.cell (World.block_lt_of_cell? w _ hx243_0)).trans hx243_0
                                              replace p243 := eq_true p243
                                              replace q243 := eq_true q243
                                              have p250 : 0 ≤ (x10_3 : Int) := of_decide_eq_true (by first | (with_reducible assumption) | assumption)
                                              have q250 : x10_3 < (l2.length : Int) := of_decide_eq_true (by first | (with_reducible assumption) | assumption)
                                              obtain ⟨ad250, e250, hx250_0⟩ := Kd.at_int HR2.out x10_3 p250 q250
                                              obtain rfl : ad226 = ad250 := (by injection e250)
                                              replace hx250_0 := (HB.out.cell (World.block_lt_of_cell? w _ hx250_0)).trans hx250_0
                                              replace p250 := eq_true p250
                                              replace q250 := eq_true q250
                                              have p251 : 0 ≤ (x9_2 : Int) := of_decide_eq_true (by first | (with_reducible assumption) | assumption)
                                              have q251 : x9_2 < (l2.length : Int) := of_decide_eq_true (by first | (with_reducible assumption) | assumption)
                                              obtain ⟨ad251, e251, hx251_0⟩ := Kd.at_int HR2.out x9_2 p251 q251
                                              obtain rfl : ad226 = ad251 := (by injection e251)
                                              replace hx251_0 := (HB.out.cell (World.block_lt_of_cell? w _ hx251_0)).trans hx251_0
                                              replace p251 := eq_true p251
                                              replace q251 := eq_true q251
                                              have p252 : 0 ≤ (x10_3 : Int) := of_decide_eq_true (by first | (with_reducible assumption) | assumption)
                                              have q252 : x10_3 < (t221.length : Int) := of_decide_eq_true (by first | (with_reducible assumption) | assumption)
                                              obtain ⟨ad252, e252, hx252_0⟩ := Kd.at_int (Kd.R_reads' HO_7.out).2.2 x10_3 p252 q252
                                              obtain rfl : ad224 = ad252 := (by injection e252)
                                              replace p252 := eq_true p252
                                              replace q252 := eq_true q252
                                              have p253 : 0 ≤ (x9_2 : Int) := of_decide_eq_true (by first | (with_reducible assumption) | assumption)
                                              have q253 : x9_2 < (t221.length : Int) := of_decide_eq_true (by first | (with_reducible assumption) | assumption)
                                              obtain ⟨ad253, e253, hx253_0⟩ := Kd.at_int (Kd.R_reads' HO_7.out).2.2 x9_2 p253 q253
                                              obtain rfl : ad224 = ad253 := (by injection e253)
                                              replace p253 := eq_true p253
                                              replace q253 := eq_true q253
                                              go_wp2
                                              repeat (go_quiet (fail); try go_wp2)
                                              go_roundg k3
                                              case measure => have := HJ3.out; have := HK2.out; have := HK3.out; omega
                                              case rel => exact ⟨(wrap64 (x10_3 + 1)), (by first | rfl | (simp; done) | (simp [*]; done)), H', ⟨by have := HJ3.out; have := HK2.out; have := HK3.out; omega⟩, ⟨by (with_reducible repeat (first | apply Kd.R_alloc | apply Kd.R_drewN | apply Kd.R_drew)); exact HO_7.out⟩, ⟨by repeat (first | (with_reducible first | exact HB.out | apply below_alloc | apply pw_below_drewN | apply below_drew1) | exact HB.out)⟩⟩
                                            · rw [if_neg c45] at H
                                              have c45b0 : ((rd t221 x10_3) == (rd t221 x9_2)) = false := beq_eq_false_iff_ne.mpr c45
                                              have c45b1 : ((rd t221 x10_3) != (rd t221 x9_2)) = true := bne_iff_ne.mpr c45
                                              obtain rfl := Option.some.inj H
                                              have p226 : 0 ≤ (x10_3 : Int) := of_decide_eq_true (by first | (with_reducible assumption) | assumption)
                                              have q226 : x10_3 < (l2.length : Int) := of_decide_eq_true (by first | (with_reducible assumption) | assumption)
                                              obtain ⟨ad226, e226, hx226_0⟩ := Kd.at_int HR2.out x10_3 p226 q226
                                              cases e226
                                              replace hx226_0 := (HB.out.cell (World.block_lt_of_cell? w _ hx226_0)).trans hx226_0
                                              replace p226 := eq_true p226
                                              replace q226 := eq_true q226
                                              have p227 : 0 ≤ (x9_2 : Int) := of_decide_eq_true (by first | (with_reducible assumption) | assumption)
                                              have q227 : x9_2 < (l2.length : Int) := of_decide_eq_true (by first | (with_reducible assumption) | assumption)
                                              obtain ⟨ad227, e227, hx227_0⟩ := Kd.at_int HR2.out x9_2 p227 q227
                                              obtain rfl : ad226 = ad227 := (by injection e227)
                                              replace hx227_0 := (HB.out.cell (World.block_lt_of_cell? w _ hx227_0)).trans hx227_0
                                              replace p227 := eq_true p227
                                              replace q227 := eq_true q227
                                              have p242 : 0 ≤ (x10_3 : Int) := of_decide_eq_true (by first | (with_reducible assumption) | assumption)
                                              have q242 : x10_3 < (l2.length : Int) := of_decide_eq_true (by first | (with_reducible assumption) | assumption)
                                              obtain ⟨ad242, e242, hx242_0⟩ := Kd.at_int HR2.out x10_3 p242 q242
                                              obtain rfl : ad226 = ad242 := (by injection e242)
                                              replace hx242_0 := (HB.out.cell (World.block_lt_of_cell? w _ hx242_0)).trans hx242_0
                                              replace p242 := eq_true p242
                                              replace q242 := eq_true q242
                                              have p243 : 0 ≤ (x9_2 : Int) := of_decide_eq_true (by first | (with_reducible assumption) | assumption)
                                              have q243 : x9_2 < (l2.length : Int) := of_decide_eq_true (by first | (with_reducible assumption) | assumption)
                                              obtain ⟨ad243, e243, hx243_0⟩ := Kd.at_int HR2.out x9_2 p243 q243
                                              obtain rfl : ad226 = ad243 := (by injection e243)
                                              replace hx243_0 := (HB.out.cell (World.block_lt_of_cell? w _ hx243_0)).trans hx243_0
                                              replace p243 := eq_true p243
                                              replace q243 := eq_true q243
                                              have p250 : 0 ≤ (x10_3 : Int) := of_decide_eq_true (by first | (with_reducible assumption) | assumption)
                                              have q250 : x10_3 < (l2.length : Int) := of_decide_eq_true (by first | (with_reducible assumption) | assumption)
                                              obtain ⟨ad250, e250, hx250_0⟩ := Kd.at_int HR2.out x10_3 p250 q250
                                              obtain rfl : ad226 = ad250 := (by injection e250)
                                              replace hx250_0 := (HB.out.cell (World.block_lt_of_cell? w _ hx250_0)).trans hx250_0
                                              replace p250 := eq_true p250
                                              replace q250 := eq_true q250
                                              have p251 : 0 ≤ (x9_2 : Int) := of_decide_eq_true (by first | (with_reducible assumption) | assumption)
                                              have q251 : x9_2 < (l2.length : Int) := of_decide_eq_true (by first | (with_reducible assumption) | assumption)
                                              obtain ⟨ad251, e251, hx251_0⟩ := Kd.at_int HR2.out x9_2 p251 q251
                                              obtain rfl : ad226 = ad251 := (by injection e251)
                                              replace hx251_0 := (HB.out.cell (World.block_lt_of_cell? w _ hx251_0)).trans hx251_0
                                              replace p251 := eq_true p251
                                              replace q251 := eq_true q251
                                              have p252 : 0 ≤ (x10_3 : Int) := of_decide_eq_true (by first | (with_reducible assumption) | assumption)
                                              have q252 : x10_3 < (t221.length : Int) := of_decide_eq_true (by first | (with_reducible assumption) | assumption)
                                              obtain ⟨ad252, e252, hx252_0⟩ := Kd.at_int (Kd.R_reads' HO_7.out).2.2 x10_3 p252 q252
                                              obtain rfl : ad224 = ad252 := (by injection e252)
                                              replace p252 := eq_true p252
                                              replace q252 := eq_true q252
                                              have p253 : 0 ≤ (x9_2 : Int) := of_decide_eq_true (by first | (with_reducible assumption) | assumption)
                                              have q253 : x9_2 < (t221.length : Int) := of_decide_eq_true (by first | (with_reducible assumption) | assumption)
                                              obtain ⟨ad253, e253, hx253_0⟩ := Kd.at_int (Kd.R_reads' HO_7.out).2.2 x9_2 p253 q253
                                              obtain rfl : ad224 = ad253 := (by injection e253)
                                              replace p253 := eq_true p253
                                              replace q253 := eq_true q253
                                              go_wp2
                                              repeat (go_quiet (fail); try go_wp2)
                                              go_ret
                                              exact ⟨by first | rfl | (simp [errW_none, errW_some] <;> rfl) | (simp [*, errW_none, errW_some] <;> rfl), by repeat (first | (with_reducible first | exact HB.out | apply below_alloc | apply pw_below_drewN | apply below_drew1) | exact HB.out)⟩
                                          · rw [if_neg c44] at H
                                            exact absurd H (by simp)
                                        · rw [if_neg c43] at H
                                          exact absurd H (by simp)
                                      · rw [if_neg c42] at H
                                        have c42b0 : ((rd l2 x10_3) == (rd l2 x9_2)) = false := beq_eq_false_iff_ne.mpr c42
                                        have c42b1 : ((rd l2 x10_3) != (rd l2 x9_2)) = true := bne_iff_ne.mpr c42
                                        have H' := Aside0.mk H
                                        clear H
                                        have p226 : 0 ≤ (x10_3 : Int) := of_decide_eq_true (by first | (with_reducible assumption) | assumption)
                                        have q226 : x10_3 < (l2.length : Int) := of_decide_eq_true (by first | (with_reducible assumption) | assumption)
                                        obtain ⟨ad226, e226, hx226_0⟩ := Kd.at_int HR2.out x10_3 p226 q226
                                        cases e226
                                        replace hx226_0 := (HB.out.cell (World.block_lt_of_cell? w _ hx226_0)).trans hx226_0
                                        replace p226 := eq_true p226
                                        replace q226 := eq_true q226
                                        have p227 : 0 ≤ (x9_2 : Int) := of_decide_eq_true (by first | (with_reducible assumption) | assumption)
                                        have q227 : x9_2 < (l2.length : Int) := of_decide_eq_true (by first | (with_reducible assumption) | assumption)
                                        obtain ⟨ad227, e227, hx227_0⟩ := Kd.at_int HR2.out x9_2 p227 q227
                                        obtain rfl : ad226 = ad227 := (by injection e227)
                                        replace hx227_0 := (HB.out.cell (World.block_lt_of_cell? w _ hx227_0)).trans hx227_0
                                        replace p227 := eq_true p227
                                        replace q227 := eq_true q227
                                        have p242 : 0 ≤ (x10_3 : Int) := of_decide_eq_true (by first | (with_reducible assumption) | assumption)
                                        have q242 : x10_3 < (l2.length : Int) := of_decide_eq_true (by first | (with_reducible assumption) | assumption)
                                        obtain ⟨ad242, e242, hx242_0⟩ := Kd.at_int HR2.out x10_3 p242 q242
                                        obtain rfl : ad226 = ad242 := (by injection e242)
                                        replace hx242_0 := (HB.out.cell (World.block_lt_of_cell? w _ hx242_0)).trans hx242_0
                                        replace p242 := eq_true p242
                                        replace q242 := eq_true q242
                                        have p243 : 0 ≤ (x9_2 : Int) := of_decide_eq_true (by first | (with_reducible assumption) | assumption)
                                        have q243 : x9_2 < (l2.length : Int) := of_decide_eq_true (by first | (with_reducible assumption) | assumption)
                                        obtain ⟨ad243, e243, hx243_0⟩ := Kd.at_int HR2.out x9_2 p243 q243
                                        obtain rfl : ad226 = ad243 := (by injection e243)
                                        replace hx243_0 := (HB.out.cell (World.block_lt_of_cell? w _ hx243_0)).trans hx243_0
                                        replace p243 := eq_true p243
                                        replace q243 := eq_true q243
                                        have p250 : 0 ≤ (x10_3 : Int) := of_decide_eq_true (by first | (with_reducible assumption) | assumption)
                                        have q250 : x10_3 < (l2.length : Int) := of_decide_eq_true (by first | (with_reducible assumption) | assumption)
                                        obtain ⟨ad250, e250, hx250_0⟩ := Kd.at_int HR2.out x10_3 p250 q250
                                        obtain rfl : ad226 = ad250 := (by injection e250)
                                        replace hx250_0 := (HB.out.cell (World.block_lt_of_cell? w _ hx250_0)).trans hx250_0
                                        replace p250 := eq_true p250
                                        replace q250 := eq_true q250
                                        have p251 : 0 ≤ (x9_2 : Int) := of_decide_eq_true (by first | (with_reducible assumption) | assumption)
                                        have q251 : x9_2 < (l2.length : Int) := of_decide_eq_true (by first | (with_reducible assumption) | assumption)
                                        obtain ⟨ad251, e251, hx251_0⟩ := Kd.at_int HR2.out x9_2 p251 q251
                                        obtain rfl : ad226 = ad251 := (by injection e251)
                                        replace hx251_0 := (HB.out.cell (World.block_lt_of_cell? w _ hx251_0)).trans hx251_0
                                        replace p251 := eq_true p251
                                        replace q251 := eq_true q251
                                        go_wp2
                                        repeat (go_quiet (fail); try go_wp2)
                                        go_roundg k3
                                        case measure => have := HJ3.out; have := HK2.out; have := HK3.out; omega
                                        case rel => exact ⟨(wrap64 (x10_3 + 1)), (by first | rfl | (simp; done) | (simp [*]; done)), H', ⟨by have := HJ3.out; have := HK2.out; have := HK3.out; omega⟩, ⟨by (with_reducible repeat (first | apply Kd.R_alloc | apply Kd.R_drewN | apply Kd.R_drew)); exact HO_7.out⟩, ⟨by repeat (first | (with_reducible first | exact HB.out | apply below_alloc | apply pw_below_drewN | apply below_drew1) | exact HB.out)⟩⟩
                                · rw [if_neg c25] at H
                                  exact absurd H (by simp)
                              · rw [if_neg c24] at H
                                exact absurd H (by simp)
                            · rw [if_neg c23] at H
                              exact absurd H (by simp)
                          · rw [if_neg c22] at H
                            exact absurd H (by simp)
                        · rw [if_neg c21] at H
                          have c21b0 : decide (x10_3 < x9_2) = false := decide_eq_false c21
                          clear c21
                          have H' := Aside0.mk H
                          clear H
                          go_wp2
                          repeat (go_quiet (fail); try go_wp2)
                          go_roundg k3
                          case measure => have := HJ3.out; have := HK2.out; have := HK3.out; omega
                          case rel => exact ⟨((wrap64 (x8_2 + (wrap64 (rd t221 x9_2))))), (wrap64 (x9_2 + 1)), (by first | rfl | (simp; done) | (simp [*]; done)), (by first | rfl | (simp; done) | (simp [*]; done)), H', ⟨by have := HJ3.out; have := HK2.out; have := HK3.out; omega⟩, ⟨by (with_reducible repeat (first | apply Kd.R_alloc | apply Kd.R_drewN | apply Kd.R_drew)); exact HO_7.out⟩, ⟨by repeat (first | (with_reducible first | exact HB.out | apply below_alloc | apply pw_below_drewN | apply below_drew1) | exact HB.out)⟩⟩
                · rw [if_neg c19] at H
                  exact absurd H (by simp)
              · rw [if_neg c18] at H
                have c18b0 : decide (x9_2 < (t221.length : Int)) = false := decide_eq_false c18
                clear c18
                by_cases c46 : x8_2 ≤ 65536
                · rw [if_pos c46] at H
                  have c46b0 : decide (x8_2 ≤ 65536) = true := decide_eq_true c46
                  clear c46
                  by_cases c47 : (l2.length : Int) = 0
                  · rw [if_pos c47] at H
                    have c47b0 : ((l2.length : Int) == 0) = true := beq_iff_eq.mpr c47
                    have c47b1 : ((l2.length : Int) != 0) = false := bne_eq_false_iff_eq.mpr c47
                    clear c47
                    obtain rfl := Option.some.inj H
                    go_wp2
                    repeat (go_quiet (fail); try go_wp2)
                    go_ret
                    exact ⟨by first | rfl | (simp [errW_none, errW_some] <;> rfl) | (simp [*, errW_none, errW_some] <;> rfl), by repeat (first | (with_reducible first | exact HB.out | apply below_alloc | apply pw_below_drewN | apply below_drew1) | exact HB.out)⟩
                  · rw [if_neg c47] at H
                    have c47b0 : ((l2.length : Int) == 0) = false := beq_eq_false_iff_ne.mpr c47
                    have c47b1 : ((l2.length : Int) != 0) = true := bne_iff_ne.mpr c47
                    have c47b2 : ¬ (l2 = []) := fun h_ => c47 (by rw [h_]; rfl)
                    obtain rfl := Option.some.inj H
                    go_wp2
                    repeat (go_quiet (fail); try go_wp2)
                    go_ret
                    exact ⟨by first | rfl | (simp [errW_none, errW_some] <;> rfl) | (simp [*, errW_none, errW_some] <;> rfl), by repeat (first | (with_reducible first | exact HB.out | apply below_alloc | apply pw_below_drewN | apply below_drew1) | exact HB.out)⟩
                · rw [if_neg c46] at H
                  have c46b0 : decide (x8_2 ≤ 65536) = false := decide_eq_false c46
                  clear c46
                  obtain rfl := Option.some.inj H
                  go_wp2
                  repeat (go_quiet (fail); try go_wp2)
                  go_ret
                  exact ⟨by first | rfl | (simp [errW_none, errW_some] <;> rfl) | (simp [*, errW_none, errW_some] <;> rfl), by repeat (first | (with_reducible first | exact HB.out | apply below_alloc | apply pw_below_drewN | apply below_drew1) | exact HB.out)⟩
        · rw [if_neg c15] at H
          have c15b0 : ((t221.length : Int) == (l2.length : Int)) = false := beq_eq_false_iff_ne.mpr c15
          have c15b1 : ((t221.length : Int) != (l2.length : Int)) = true := bne_iff_ne.mpr c15
          have c15b2 : (t221.length == l2.length) = false := by first | simpa using c15 | (simp at c15 ⊢; omega)
          obtain rfl := Option.some.inj H
          go_wp2_with (first | (go_at_call 15; (with_reducible refine (norm_Softmax.calls kj3 a0 a1 _ _ l2 t221 _ ?side1 ?side2 A14.out).mono ?_); (case side1 => repeat (first | exact (Kd.C_below HR2.out HB.out) | (with_reducible refine Kd.C_alloc ?_ _) | (with_reducible refine Kd.C_drewN ?_ _) | (with_reducible refine Kd.C_drew ?_))); (case side2 => exact HC2.out); rintro e w48 ⟨v222, rfl, ho0, hb⟩; have n0_ := Aside0.mk (Kd.R_lower ho0 (below_size (by repeat (first | (with_reducible first | exact HB.out | apply below_alloc | apply pw_below_drewN | apply below_drew1) | exact HB.out)))); have n1_ := Aside0.mk (below_step (by repeat (first | (with_reducible first | exact HB.out | apply below_alloc | apply pw_below_drewN | apply below_drew1) | exact HB.out)) hb); clear HB; have HO223 := n0_; have HB := n1_; clear n0_ n1_; (try clear hb); (try clear hb2); (try clear hk); (try clear hi); (try clear ho0); obtain ⟨Ao49, co49, eo49⟩ := Kd.R_slice HO223.out; subst eo49))
          repeat (go_quiet (first | (go_at_call 15; (with_reducible refine (norm_Softmax.calls kj3 a0 a1 _ _ l2 t221 _ ?side1 ?side2 A14.out).mono ?_); (case side1 => repeat (first | exact (Kd.C_below HR2.out HB.out) | (with_reducible refine Kd.C_alloc ?_ _) | (with_reducible refine Kd.C_drewN ?_ _) | (with_reducible refine Kd.C_drew ?_))); (case side2 => exact HC2.out); rintro e w48 ⟨v222, rfl, ho0, hb⟩; have n0_ := Aside0.mk (Kd.R_lower ho0 (below_size (by repeat (first | (with_reducible first | exact HB.out | apply below_alloc | apply pw_below_drewN | apply below_drew1) | exact HB.out)))); have n1_ := Aside0.mk (below_step (by repeat (first | (with_reducible first | exact HB.out | apply below_alloc | apply pw_below_drewN | apply below_drew1) | exact HB.out)) hb); clear HB; have HO223 := n0_; have HB := n1_; clear n0_ n1_; (try clear hb); (try clear hb2); (try clear hk); (try clear hi); (try clear ho0); obtain ⟨Ao49, co49, eo49⟩ := Kd.R_slice HO223.out; subst eo49)); try go_wp2_with (first | (go_at_call 15; (with_reducible refine (norm_Softmax.calls kj3 a0 a1 _ _ l2 t221 _ ?side1 ?side2 A14.out).mono ?_); (case side1 => repeat (first | exact (Kd.C_below HR2.out HB.out) | (with_reducible refine Kd.C_alloc ?_ _) | (with_reducible refine Kd.C_drewN ?_ _) | (with_reducible refine Kd.C_drew ?_))); (case side2 => exact HC2.out); rintro e w48 ⟨v222, rfl, ho0, hb⟩; have n0_ := Aside0.mk (Kd.R_lower ho0 (below_size (by repeat (first | (with_reducible first | exact HB.out | apply below_alloc | apply pw_below_drewN | apply below_drew1) | exact HB.out)))); have n1_ := Aside0.mk (below_step (by repeat (first | (with_reducible first | exact HB.out | apply below_alloc | apply pw_below_drewN | apply below_drew1) | exact HB.out)) hb); clear HB; have HO223 := n0_; have HB := n1_; clear n0_ n1_; (try clear hb); (try clear hb2); (try clear hk); (try clear hi); (try clear ho0); obtain ⟨Ao49, co49, eo49⟩ := Kd.R_slice HO223.out; subst eo49)))
          go_ret
          exact ⟨by first | rfl | (simp [errW_none, errW_some] <;> rfl) | (simp [*, errW_none, errW_some] <;> rfl), by repeat (first | (with_reducible first | exact HB.out | apply below_alloc | apply pw_below_drewN | apply below_drew1) | exact HB.out)⟩

/-- THE ONE PURE STATEMENT of pelotonlaw05_NormOrders: yours. -/
def pelotonlaw05_NormOrders.Pure : Prop := ∀ (a0 : Int) (a1 : Int) (l2 : List Int), (Lit.int .i32 a0).wf = true → (Lit.int .i64 a1).wf = true → l2.length ≤ maxLen → l2.length * 4 ≤ 140737488351232 → (∀ x ∈ l2, (Lit.int .i32 x).wf = true) → ∃ k, pelotonlaw05_NormOrders.f k a0 a1 l2 = some true
theorem pelotonlaw05_NormOrders.walk (P : pelotonlaw05_NormOrders.Pure) (a0 : Int) (a1 : Int) (a2 : Option Addr) (len2 cap2 : Nat) (z2 : List Int) (w : World) (w0 : (Lit.int .i32 a0).wf = true) (w1 : (Lit.int .i64 a1).wf = true) (w2 : (a2 = none ∧ len2 = 0 ∧ cap2 = 0 ∧ z2 = []) ∨ ∃ x, a2 = some x ∧ len2 ≤ cap2 ∧ cap2 ≤ maxLen ∧ z2.length = cap2 ∧ (∀ i, i < z2.length → w.cell? (x.add i) = some (.int .i32 (z2.getD i 0))) ∧ ∀ n ∈ z2, (Lit.int .i32 n).wf = true) (y2 : len2 * 4 ≤ 140737488351232) :
    Calls Try.prog 5 #[.int .i32 a0, .int .i64 a1, .slice a2 len2 cap2] w fun e w' => e = .returned (.bool true) ∧ Below w.heap.size w w' := by
  obtain ⟨l2, rfl, hr2, hm2, hw2, hc2⟩ := ReadsInt.ofRowC w2
  obtain ⟨k, h⟩ := P a0 a1 l2 w0 w1 hm2 y2 hw2
  refine (pelotonlaw05_NormOrders.calls k a0 a1 _ _ l2 true w (Kd.C_of_reads (d := (0 : Int)) (h1 := fun _ => rfl) hr2) hc2 h).mono ?_
  rintro e w' ⟨rfl, hd⟩
  exact ⟨rfl, hd⟩

end Go.Proofs.Ytmpdkjcobpghaaa.PNormOrders
