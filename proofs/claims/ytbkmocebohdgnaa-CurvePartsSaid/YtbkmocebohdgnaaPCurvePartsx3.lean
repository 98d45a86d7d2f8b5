-- Written by a program of this session (a driver over the kit's print), with hand-proved parts.
import Derived.Test.YtbkmocebohdgnaaPCurvePartsx0
import Derived.Test.YtbkmocebohdgnaaPCurvePartsx1
import Derived.Test.YtbkmocebohdgnaaPCurvePartsx2
namespace Go.Proofs.Ytbkmocebohdgnaa.PCurveParts
open Go.RowKit Go.Proofs.YtbkmocebohdgnaaW.PrintWords Go.Proofs.YtbkmocebohdgnaaW.PrintLast Go.Proofs.YtbkmocebohdgnaaW.PrintMore
attribute [local go_sem] max2_int min2_int max_two min_two max_three min_three max_four min_four   -- for this text's walks alone
set_option linter.unusedVariables false
set_option linter.unusedSimpArgs false

/-! ### pelotonlaw02_CurveParts: function 8 -/
mutual
def pelotonlaw02_CurveParts.j0 : Nat → Int → List Int → Int → Bool → Option (Bool)
  | 0, _, _, _, _ => none
  | k + 1, x0, x1, x2, x23 => if x23 = true then ((pelotonlaw02_awake.f k).bind fun t134 => (some t134)) else (if (x1.length : Int) = 0 then (none) else ((some (([] : List Int) : List Int)).bind fun y135 => (if 0 ≤ (Int.tmod (wrap64 ((Int.tmod x2 (x1.length : Int)) + (x1.length : Int))) (x1.length : Int)) then (if (Int.tmod (wrap64 ((Int.tmod x2 (x1.length : Int)) + (x1.length : Int))) (x1.length : Int)) ≤ (x1.length : Int) then (if y135.length + (x1.drop ((Int.tmod (wrap64 ((Int.tmod x2 (x1.length : Int)) + (x1.length : Int))) (x1.length : Int)) : Int).toNat).length < 35184372088832 then ((some (y135 ++ (x1.drop ((Int.tmod (wrap64 ((Int.tmod x2 (x1.length : Int)) + (x1.length : Int))) (x1.length : Int)) : Int).toNat) : List Int)).bind fun y139 => (if y139.length + (x1.take ((Int.tmod (wrap64 ((Int.tmod x2 (x1.length : Int)) + (x1.length : Int))) (x1.length : Int)) : Int).toNat).length < 35184372088832 then ((some (y139 ++ (x1.take ((Int.tmod (wrap64 ((Int.tmod x2 (x1.length : Int)) + (x1.length : Int))) (x1.length : Int)) : Int).toNat) : List Int)).bind fun y143 => ((curve_Shares.f k x0 x1).bind fun t146 => ((some (([0, (-5)] : List Int) : List Int)).bind fun y149 => (if y143.length + y149.length < 35184372088832 then ((curve_Shares.f k x0 (y143 ++ y149)).bind fun t155 => (if (t146.length : Int) = (x1.length : Int) then (if (t155.length : Int) = (wrap64 ((x1.length : Int) + 2)) then (if 0 ≤ (x1.length : Int) then (if (x1.length : Int) < (t155.length : Int) then (if (rd t155 (x1.length : Int)) = 0 then (if 0 ≤ (wrap64 ((x1.length : Int) + 1)) then (if (wrap64 ((x1.length : Int) + 1)) < (t155.length : Int) then (pelotonlaw02_CurveParts.j1 k x1 (Int.tmod (wrap64 ((Int.tmod x2 (x1.length : Int)) + (x1.length : Int))) (x1.length : Int)) t146 t155 ((rd t155 (wrap64 ((x1.length : Int) + 1))) != 0)) else (none)) else (none)) else (pelotonlaw02_CurveParts.j1 k x1 (Int.tmod (wrap64 ((Int.tmod x2 (x1.length : Int)) + (x1.length : Int))) (x1.length : Int)) t146 t155 true)) else (none)) else (none)) else (pelotonlaw02_CurveParts.j1 k x1 (Int.tmod (wrap64 ((Int.tmod x2 (x1.length : Int)) + (x1.length : Int))) (x1.length : Int)) t146 t155 true)) else (pelotonlaw02_CurveParts.j1 k x1 (Int.tmod (wrap64 ((Int.tmod x2 (x1.length : Int)) + (x1.length : Int))) (x1.length : Int)) t146 t155 true))) else (none))))) else (none))) else (none)) else (none)) else (none))))
def pelotonlaw02_CurveParts.j1 : Nat → List Int → Int → List Int → List Int → Bool → Option (Bool)
  | 0, _, _, _, _, _ => none
  | k + 1, x1, x7, x9, x10, x81 => if x81 = true then (some false) else (pelotonlaw02_CurveParts.l0 k x1 x7 x9 x10 0)
def pelotonlaw02_CurveParts.l0 : Nat → List Int → Int → List Int → List Int → Int → Option (Bool)
  | 0, _, _, _, _, _ => none
  | k + 1, x1, x7, x9, x10, x11 => if x11 < (x1.length : Int) then (if (x1.length : Int) = 0 then (none) else (if 0 ≤ (Int.tmod (wrap64 (x11 + x7)) (x1.length : Int)) then (if (Int.tmod (wrap64 (x11 + x7)) (x1.length : Int)) < (x9.length : Int) then (if 0 ≤ x11 then (if x11 < (x10.length : Int) then (if (rd x9 (Int.tmod (wrap64 (x11 + x7)) (x1.length : Int))) = (rd x10 x11) then (pelotonlaw02_CurveParts.l0 k x1 x7 x9 x10 (wrap64 (x11 + 1))) else (some false)) else (none)) else (none)) else (none)) else (none))) else (some true)
end
def pelotonlaw02_CurveParts.f (k : Nat) (a0 : Int) (l1 : List Int) (a2 : Int) : Option (Bool) := (pelotonlaw02_awake.f k).bind fun t133 => (if t133 = true then (if (l1.length : Int) > 100 then (pelotonlaw02_CurveParts.j0 k a0 l1 a2 true) else (pelotonlaw02_CurveParts.j0 k a0 l1 a2 ((l1.length : Int) == 0))) else (pelotonlaw02_CurveParts.j0 k a0 l1 a2 true))
theorem pelotonlaw02_CurveParts.mono_l : ∀ k, (∀ y0 y1 y2 y3, LeO (pelotonlaw02_CurveParts.j0 k y0 y1 y2 y3) (pelotonlaw02_CurveParts.j0 (k + 1) y0 y1 y2 y3)) ∧ (∀ y0 y1 y2 y3 y4, LeO (pelotonlaw02_CurveParts.j1 k y0 y1 y2 y3 y4) (pelotonlaw02_CurveParts.j1 (k + 1) y0 y1 y2 y3 y4)) ∧ (∀ y0 y1 y2 y3 y4, LeO (pelotonlaw02_CurveParts.l0 k y0 y1 y2 y3 y4) (pelotonlaw02_CurveParts.l0 (k + 1) y0 y1 y2 y3 y4))
  | 0 => ⟨fun _ _ _ _ r h => by simp [pelotonlaw02_CurveParts.j0] at h, fun _ _ _ _ _ r h => by simp [pelotonlaw02_CurveParts.j1] at h, fun _ _ _ _ _ r h => by simp [pelotonlaw02_CurveParts.l0] at h⟩
  | k + 1 => by
    obtain ⟨ih0, ih1, ih2⟩ := pelotonlaw02_CurveParts.mono_l k
    refine ⟨?_, ?_, ?_⟩
    · intro y0 y1 y2 y3
      unfold pelotonlaw02_CurveParts.j0
      repeat' first
      | (with_reducible exact ih0 _ _ _ _)
      | (with_reducible exact ih1 _ _ _ _ _)
      | (with_reducible exact ih2 _ _ _ _ _)
      | (with_reducible exact curve_Shares.mono _ _ _)
      | (with_reducible exact pelotonlaw02_awake.mono _)
      | (with_reducible exact LeO.refl _)
      | (with_reducible exact LeO.none _)
      | (with_reducible refine LeO.ite ?_ ?_)
      | (with_reducible refine LeO.bind ?_ (fun _ => ?_))
      | exact ih0 _ _ _ _
      | exact ih1 _ _ _ _ _
      | exact ih2 _ _ _ _ _
      | exact curve_Shares.mono _ _ _
      | exact pelotonlaw02_awake.mono _
      | exact LeO.none _
      | refine LeO.ite ?_ ?_
      | refine LeO.bind ?_ (fun _ => ?_)
    · intro y0 y1 y2 y3 y4
      unfold pelotonlaw02_CurveParts.j1
      repeat' first
      | (with_reducible exact ih0 _ _ _ _)
      | (with_reducible exact ih1 _ _ _ _ _)
      | (with_reducible exact ih2 _ _ _ _ _)
      | (with_reducible exact curve_Shares.mono _ _ _)
      | (with_reducible exact pelotonlaw02_awake.mono _)
      | (with_reducible exact LeO.refl _)
      | (with_reducible exact LeO.none _)
      | (with_reducible refine LeO.ite ?_ ?_)
      | (with_reducible refine LeO.bind ?_ (fun _ => ?_))
      | exact ih0 _ _ _ _
      | exact ih1 _ _ _ _ _
      | exact ih2 _ _ _ _ _
      | exact curve_Shares.mono _ _ _
      | exact pelotonlaw02_awake.mono _
      | exact LeO.none _
      | refine LeO.ite ?_ ?_
      | refine LeO.bind ?_ (fun _ => ?_)
    · intro y0 y1 y2 y3 y4
      unfold pelotonlaw02_CurveParts.l0
      repeat' first
      | (with_reducible exact ih0 _ _ _ _)
      | (with_reducible exact ih1 _ _ _ _ _)
      | (with_reducible exact ih2 _ _ _ _ _)
      | (with_reducible exact curve_Shares.mono _ _ _)
      | (with_reducible exact pelotonlaw02_awake.mono _)
      | (with_reducible exact LeO.refl _)
      | (with_reducible exact LeO.none _)
      | (with_reducible refine LeO.ite ?_ ?_)
      | (with_reducible refine LeO.bind ?_ (fun _ => ?_))
      | exact ih0 _ _ _ _
      | exact ih1 _ _ _ _ _
      | exact ih2 _ _ _ _ _
      | exact curve_Shares.mono _ _ _
      | exact pelotonlaw02_awake.mono _
      | exact LeO.none _
      | refine LeO.ite ?_ ?_
      | refine LeO.bind ?_ (fun _ => ?_)
theorem pelotonlaw02_CurveParts.mono : ∀ a0 a1 a2 k, LeO (pelotonlaw02_CurveParts.f k a0 a1 a2) (pelotonlaw02_CurveParts.f (k + 1) a0 a1 a2) := by
  intro a0 a1 a2 k
  obtain ⟨ih0, ih1, ih2⟩ := pelotonlaw02_CurveParts.mono_l k
  unfold pelotonlaw02_CurveParts.f
  repeat' first
      | (with_reducible exact ih0 _ _ _ _)
      | (with_reducible exact ih1 _ _ _ _ _)
      | (with_reducible exact ih2 _ _ _ _ _)
      | (with_reducible exact curve_Shares.mono _ _ _)
      | (with_reducible exact pelotonlaw02_awake.mono _)
      | (with_reducible exact LeO.refl _)
      | (with_reducible exact LeO.none _)
      | (with_reducible refine LeO.ite ?_ ?_)
      | (with_reducible refine LeO.bind ?_ (fun _ => ?_))
      | exact ih0 _ _ _ _
      | exact ih1 _ _ _ _ _
      | exact ih2 _ _ _ _ _
      | exact curve_Shares.mono _ _ _
      | exact pelotonlaw02_awake.mono _
      | exact LeO.none _
      | refine LeO.ite ?_ ?_
      | refine LeO.bind ?_ (fun _ => ?_)
def pelotonlaw02_CurveParts.T4 : Bool × List (List Nat × List Nat) := (true, [([], []), ([], []), ([], []), ([1, 2], [1, 2]), ([0, 3], [0, 3]), ([], []), ([], []), ([5, 6], [5, 6]), ([4, 7, 4], [4, 7]), ([8, 8, 0, 1, 2, 3, 4, 5, 6, 7, 8], [8])])
def pelotonlaw02_CurveParts.B4 : List Nat := [0, 0, 0, 6, 15, 0, 0, 96, 255, 511]
theorem pelotonlaw02_CurveParts.tab4 : rtab .any (opsOf Try.f8 4) = pelotonlaw02_CurveParts.T4 := by kernel_rfl
theorem pelotonlaw02_CurveParts.bits4 : waitsOk pelotonlaw02_CurveParts.T4.2 pelotonlaw02_CurveParts.B4 = true := by kernel_rfl
def pelotonlaw02_CurveParts.T11 : Bool × List (List Nat × List Nat) := (true, [([], []), ([], []), ([], []), ([1, 2], [1, 2]), ([], []), ([4], [4]), ([3, 5], [3, 5]), ([0, 6], [0, 6]), ([7], [7]), ([], []), ([], []), ([9, 10], [9, 10]), ([11], [11]), ([8, 12], [8, 12])])
def pelotonlaw02_CurveParts.B11 : List Nat := [0, 0, 0, 6, 0, 16, 62, 127, 255, 0, 0, 1536, 3584, 8191]
theorem pelotonlaw02_CurveParts.tab11 : rtab .any (opsOf Try.f8 11) = pelotonlaw02_CurveParts.T11 := by kernel_rfl
theorem pelotonlaw02_CurveParts.bits11 : waitsOk pelotonlaw02_CurveParts.T11.2 pelotonlaw02_CurveParts.B11 = true := by kernel_rfl
set_option maxHeartbeats 8000000 in
set_option maxRecDepth 100000 in
theorem pelotonlaw02_CurveParts.calls (k : Nat) (a0 : Int) (A1 : Option Addr) (c1 : Nat) (l1 : List Int) (a2 : Int) (r : Bool) (w : World) (hr1 : Kd.C (Kd.int .i32) w A1 l1.length l1) (hc1 : l1.length ≤ c1) (h : pelotonlaw02_CurveParts.f k a0 l1 a2 = some r) :
    Calls Try.prog 8 #[.int .i32 a0, .slice A1 l1.length c1, .int .i64 a2] w fun e w' => e = .returned (.bool r) ∧ Below w.heap.size w w' := by
  have HR1 := Aside0.mk hr1
  have HC1 := Aside0.mk hc1
  clear hr1 hc1
  have HB := Aside0.mk (Below.refl w.heap.size w)
  have H : ((pelotonlaw02_awake.f k).bind fun t133 => (if t133 = true then (if (l1.length : Int) > 100 then (pelotonlaw02_CurveParts.j0 k a0 l1 a2 true) else (pelotonlaw02_CurveParts.j0 k a0 l1 a2 ((l1.length : Int) == 0))) else (pelotonlaw02_CurveParts.j0 k a0 l1 a2 true))) = some r := h
  clear h
  have HC4 := Aside0.mk H
  clear H
  go_enter Try.func8, Try.ntmps8
  go_upto_region 1 with (fail)
  go_cut [23] (fun v23 wc => ∃ (kq : Nat) (x23_3 : Bool), v23 = .bool x23_3 ∧ Aside0 (pelotonlaw02_CurveParts.j0 kq a0 l1 a2 x23_3 = some r) ∧ Aside0 (kq ≤ k) ∧ Aside0 (Below w.heap.size w wc))
  case first =>
    have H := HC4.out
    clear HC4
    replace H := Option.bind_eq_some_iff.mp H
    obtain ⟨t133, A50, H⟩ := H
    replace H : (if t133 = true then (if (l1.length : Int) > 100 then (pelotonlaw02_CurveParts.j0 k a0 l1 a2 true) else (pelotonlaw02_CurveParts.j0 k a0 l1 a2 ((l1.length : Int) == 0))) else (pelotonlaw02_CurveParts.j0 k a0 l1 a2 true)) = some r := H
    have A5 := Aside0.mk A50
    clear A50
    by_cases c6 : t133 = true
    · subst c6
      have H1 : (if (l1.length : Int) > 100 then (pelotonlaw02_CurveParts.j0 k a0 l1 a2 true) else (pelotonlaw02_CurveParts.j0 k a0 l1 a2 ((l1.length : Int) == 0))) = some r := by rw [if_pos rfl] at H; exact H
      clear H
      have H := H1
      clear H1
      by_cases c7 : (l1.length : Int) > 100
      · rw [if_pos c7] at H
        have c7b0 : decide (100 < (l1.length : Int)) = true := decide_eq_true c7
        have c7b1 : decide (100 < l1.length) = true := decide_eq_true (by omega)
        clear c7
        (first | rw [c7b0] | (simp only [i64_w, i32_w]; rw [c7b0]) | skip)
        have H' := Aside0.mk H
        clear H
        go_wp2_with (first | ((with_reducible refine gate_callee (f := 10) rfl ?_); refine goesL_ (some 12) rfl rfl Try.func10 (by kernel_rfl) rfl #[] rfl (by (try simp only [List.map_toArray, List.map_cons, List.map_nil]); first | done | rfl | (simp only [List.length_drop, List.length_take]; rfl)) ?_; (with_reducible refine (pelotonlaw02_awake.calls k  true _ A5.out).mono ?_); rintro e w8 ⟨rfl, hb⟩; refine ⟨_, rfl, ?_⟩; have n0_ := Aside0.mk (below_step (by repeat (first | (with_reducible first | exact HB.out | apply below_alloc | apply pw_below_drewN | apply below_drew1) | exact HB.out)) hb); clear HB; have HB := n0_; clear n0_; (try clear hb); (try clear hb2); (try clear hk); (try clear hi)))
        go_meet
        case rel => exact ⟨_, (true), (by first | rfl | (simp; done) | (simp [*]; done)), H', ⟨by first | omega | exact Nat.le_refl _⟩, ⟨by repeat (first | (with_reducible first | exact HB.out | apply below_alloc | apply pw_below_drewN | apply below_drew1) | exact HB.out)⟩⟩
      · rw [if_neg c7] at H
        have c7b0 : decide (100 < (l1.length : Int)) = false := decide_eq_false c7
        have c7b1 : decide (100 < l1.length) = false := decide_eq_false (by omega)
        clear c7
        (first | rw [c7b0] | (simp only [i64_w, i32_w]; rw [c7b0]) | skip)
        have H' := Aside0.mk H
        clear H
        go_wp2_with (first | ((with_reducible refine gate_callee (f := 10) rfl ?_); refine goesL_ (some 12) rfl rfl Try.func10 (by kernel_rfl) rfl #[] rfl (by (try simp only [List.map_toArray, List.map_cons, List.map_nil]); first | done | rfl | (simp only [List.length_drop, List.length_take]; rfl)) ?_; (with_reducible refine (pelotonlaw02_awake.calls k  true _ A5.out).mono ?_); rintro e w9 ⟨rfl, hb⟩; refine ⟨_, rfl, ?_⟩; have n0_ := Aside0.mk (below_step (by repeat (first | (with_reducible first | exact HB.out | apply below_alloc | apply pw_below_drewN | apply below_drew1) | exact HB.out)) hb); clear HB; have HB := n0_; clear n0_; (try clear hb); (try clear hb2); (try clear hk); (try clear hi)))
        go_meet
        case rel => exact ⟨_, (((l1.length : Int) == 0)), (by first | rfl | (simp; done) | (simp [*]; done)), H', ⟨by first | omega | exact Nat.le_refl _⟩, ⟨by repeat (first | (with_reducible first | exact HB.out | apply below_alloc | apply pw_below_drewN | apply below_drew1) | exact HB.out)⟩⟩
    · replace c6 := Bool.eq_false_iff.mpr c6
      subst c6
      have H1 : (pelotonlaw02_CurveParts.j0 k a0 l1 a2 true) = some r := by rw [if_neg (show ¬ (false = true) by decide)] at H; exact H
      clear H
      have H := H1
      clear H1
      have H' := Aside0.mk H
      clear H
      go_wp2_with (first | ((with_reducible refine gate_callee (f := 10) rfl ?_); refine goesL_ (some 12) rfl rfl Try.func10 (by kernel_rfl) rfl #[] rfl (by (try simp only [List.map_toArray, List.map_cons, List.map_nil]); first | done | rfl | (simp only [List.length_drop, List.length_take]; rfl)) ?_; (with_reducible refine (pelotonlaw02_awake.calls k  false _ A5.out).mono ?_); rintro e w10 ⟨rfl, hb⟩; refine ⟨_, rfl, ?_⟩; have n0_ := Aside0.mk (below_step (by repeat (first | (with_reducible first | exact HB.out | apply below_alloc | apply pw_below_drewN | apply below_drew1) | exact HB.out)) hb); clear HB; have HB := n0_; clear n0_; (try clear hb); (try clear hb2); (try clear hk); (try clear hi)))
      go_meet
      case rel => exact ⟨_, (true), (by first | rfl | (simp; done) | (simp [*]; done)), H', ⟨by first | omega | exact Nat.le_refl _⟩, ⟨by repeat (first | (with_reducible first | exact HB.out | apply below_alloc | apply pw_below_drewN | apply below_drew1) | exact HB.out)⟩⟩
  case rest =>
    clear HC4
    try clear c1
    try clear p2
    try clear c6
    try clear c7
    try clear c7b0
    try clear c7b1
    try clear c8
    try clear c10
    obtain ⟨kq, x23_3, rfl, HA, HJ3, HB⟩ := hcut
    cases kq with
    | zero => exact absurd HA.out (by simp [pelotonlaw02_CurveParts.j0])
    | succ kj3 =>
      have H := HA.out
      clear HA
      simp only [pelotonlaw02_CurveParts.j0] at H
      by_cases c11 : x23_3 = true
      · subst c11
        have H1 : ((pelotonlaw02_awake.f kj3).bind fun t134 => (some t134)) = some r := by rw [if_pos rfl] at H; exact H
        clear H
        have H := H1
        clear H1
        replace H := Option.bind_eq_some_iff.mp H
        obtain ⟨t134, A120, H⟩ := H
        replace H : (some t134) = some r := H
        have A12 := Aside0.mk A120
        clear A120
        obtain rfl := Option.some.inj H
        go_wp2_with (first | ((with_reducible refine gate_callee (f := 10) rfl ?_); refine goesL_ (some 24) rfl rfl Try.func10 (by kernel_rfl) rfl #[] rfl (by (try simp only [List.map_toArray, List.map_cons, List.map_nil]); first | done | rfl | (simp only [List.length_drop, List.length_take]; rfl)) ?_; (with_reducible refine (pelotonlaw02_awake.calls kj3  t134 _ A12.out).mono ?_); rintro e w13 ⟨rfl, hb⟩; refine ⟨_, rfl, ?_⟩; have n0_ := Aside0.mk (below_step (by repeat (first | (with_reducible first | exact HB.out | apply below_alloc | apply pw_below_drewN | apply below_drew1) | exact HB.out)) hb); clear HB; have HB := n0_; clear n0_; (try clear hb); (try clear hb2); (try clear hk); (try clear hi)))
        go_ret
        exact ⟨by first | rfl | (simp [errW_none, errW_some] <;> rfl) | (simp [*, errW_none, errW_some] <;> rfl), by repeat (first | (with_reducible first | exact HB.out | apply below_alloc | apply pw_below_drewN | apply below_drew1) | exact HB.out)⟩
      · replace c11 := Bool.eq_false_iff.mpr c11
        subst c11
        have H1 : (if (l1.length : Int) = 0 then (none) else ((some (([] : List Int) : List Int)).bind fun y135 => (if 0 ≤ (Int.tmod (wrap64 ((Int.tmod a2 (l1.length : Int)) + (l1.length : Int))) (l1.length : Int)) then (if (Int.tmod (wrap64 ((Int.tmod a2 (l1.length : Int)) + (l1.length : Int))) (l1.length : Int)) ≤ (l1.length : Int) then (if y135.length + (l1.drop ((Int.tmod (wrap64 ((Int.tmod a2 (l1.length : Int)) + (l1.length : Int))) (l1.length : Int)) : Int).toNat).length < 35184372088832 then ((some (y135 ++ (l1.drop ((Int.tmod (wrap64 ((Int.tmod a2 (l1.length : Int)) + (l1.length : Int))) (l1.length : Int)) : Int).toNat) : List Int)).bind fun y139 => (if y139.length + (l1.take ((Int.tmod (wrap64 ((Int.tmod a2 (l1.length : Int)) + (l1.length : Int))) (l1.length : Int)) : Int).toNat).length < 35184372088832 then ((some (y139 ++ (l1.take ((Int.tmod (wrap64 ((Int.tmod a2 (l1.length : Int)) + (l1.length : Int))) (l1.length : Int)) : Int).toNat) : List Int)).bind fun y143 => ((curve_Shares.f kj3 a0 l1).bind fun t146 => ((some (([0, (-5)] : List Int) : List Int)).bind fun y149 => (if y143.length + y149.length < 35184372088832 then ((curve_Shares.f kj3 a0 (y143 ++ y149)).bind fun t155 => (if (t146.length : Int) = (l1.length : Int) then (if (t155.length : Int) = (wrap64 ((l1.length : Int) + 2)) then (if 0 ≤ (l1.length : Int) then (if (l1.length : Int) < (t155.length : Int) then (if (rd t155 (l1.length : Int)) = 0 then (if 0 ≤ (wrap64 ((l1.length : Int) + 1)) then (if (wrap64 ((l1.length : Int) + 1)) < (t155.length : Int) then (pelotonlaw02_CurveParts.j1 kj3 l1 (Int.tmod (wrap64 ((Int.tmod a2 (l1.length : Int)) + (l1.length : Int))) (l1.length : Int)) t146 t155 ((rd t155 (wrap64 ((l1.length : Int) + 1))) != 0)) else (none)) else (none)) else (pelotonlaw02_CurveParts.j1 kj3 l1 (Int.tmod (wrap64 ((Int.tmod a2 (l1.length : Int)) + (l1.length : Int))) (l1.length : Int)) t146 t155 true)) else (none)) else (none)) else (pelotonlaw02_CurveParts.j1 kj3 l1 (Int.tmod (wrap64 ((Int.tmod a2 (l1.length : Int)) + (l1.length : Int))) (l1.length : Int)) t146 t155 true)) else (pelotonlaw02_CurveParts.j1 kj3 l1 (Int.tmod (wrap64 ((Int.tmod a2 (l1.length : Int)) + (l1.length : Int))) (l1.length : Int)) t146 t155 true))) else (none))))) else (none))) else (none)) else (none)) else (none)))) = some r := by rw [if_neg (show ¬ (false = true) by decide)] at H; exact H
        clear H
        have H := H1
        clear H1
        by_cases c14 : (l1.length : Int) = 0
        · rw [if_pos c14] at H
          exact absurd H (by simp)
        · rw [if_neg c14] at H
          have c14b0 : ((l1.length : Int) == 0) = false := beq_eq_false_iff_ne.mpr c14
          have c14b1 : ((l1.length : Int) != 0) = true := bne_iff_ne.mpr c14
          have c14b2 : ¬ (l1 = []) := fun h_ => c14 (by rw [h_]; rfl)
          obtain ⟨y135, hy135⟩ : ∃ y_ : List Int, y_ = (([] : List Int)) := ⟨_, rfl⟩
          replace H : (if 0 ≤ (Int.tmod (wrap64 ((Int.tmod a2 (l1.length : Int)) + (l1.length : Int))) (l1.length : Int)) then (if (Int.tmod (wrap64 ((Int.tmod a2 (l1.length : Int)) + (l1.length : Int))) (l1.length : Int)) ≤ (l1.length : Int) then (if y135.length + (l1.drop ((Int.tmod (wrap64 ((Int.tmod a2 (l1.length : Int)) + (l1.length : Int))) (l1.length : Int)) : Int).toNat).length < 35184372088832 then ((some (y135 ++ (l1.drop ((Int.tmod (wrap64 ((Int.tmod a2 (l1.length : Int)) + (l1.length : Int))) (l1.length : Int)) : Int).toNat) : List Int)).bind fun y139 => (if y139.length + (l1.take ((Int.tmod (wrap64 ((Int.tmod a2 (l1.length : Int)) + (l1.length : Int))) (l1.length : Int)) : Int).toNat).length < 35184372088832 then ((some (y139 ++ (l1.take ((Int.tmod (wrap64 ((Int.tmod a2 (l1.length : Int)) + (l1.length : Int))) (l1.length : Int)) : Int).toNat) : List Int)).bind fun y143 => ((curve_Shares.f kj3 a0 l1).bind fun t146 => ((some (([0, (-5)] : List Int) : List Int)).bind fun y149 => (if y143.length + y149.length < 35184372088832 then ((curve_Shares.f kj3 a0 (y143 ++ y149)).bind fun t155 => (if (t146.length : Int) = (l1.length : Int) then (if (t155.length : Int) = (wrap64 ((l1.length : Int) + 2)) then (if 0 ≤ (l1.length : Int) then (if (l1.length : Int) < (t155.length : Int) then (if (rd t155 (l1.length : Int)) = 0 then (if 0 ≤ (wrap64 ((l1.length : Int) + 1)) then (if (wrap64 ((l1.length : Int) + 1)) < (t155.length : Int) then (pelotonlaw02_CurveParts.j1 kj3 l1 (Int.tmod (wrap64 ((Int.tmod a2 (l1.length : Int)) + (l1.length : Int))) (l1.length : Int)) t146 t155 ((rd t155 (wrap64 ((l1.length : Int) + 1))) != 0)) else (none)) else (none)) else (pelotonlaw02_CurveParts.j1 kj3 l1 (Int.tmod (wrap64 ((Int.tmod a2 (l1.length : Int)) + (l1.length : Int))) (l1.length : Int)) t146 t155 true)) else (none)) else (none)) else (pelotonlaw02_CurveParts.j1 kj3 l1 (Int.tmod (wrap64 ((Int.tmod a2 (l1.length : Int)) + (l1.length : Int))) (l1.length : Int)) t146 t155 true)) else (pelotonlaw02_CurveParts.j1 kj3 l1 (Int.tmod (wrap64 ((Int.tmod a2 (l1.length : Int)) + (l1.length : Int))) (l1.length : Int)) t146 t155 true))) else (none))))) else (none))) else (none)) else (none)) else (none)) = some r := by first | (rw [hy135]; with_reducible exact H) | (have H2_ := (Option.bind_some _ _).symm.trans H; rw [hy135]; with_reducible exact H2_) | (have H2_ := (Option.bind_some _ _).symm.trans H; with_reducible exact H2_) | with_reducible exact H | (rw [hy135]; exact H) | exact H
          have Ny135 := Aside0.mk hy135
          clear hy135
          obtain ⟨ji15, hji15⟩ : ∃ j_ : Int, (Int.tmod (wrap64 ((Int.tmod a2 (l1.length : Int)) + (l1.length : Int))) (l1.length : Int)) = j_ := ⟨_, rfl⟩
          replace H : (if 0 ≤ (ji15) then (if (ji15) ≤ (l1.length : Int) then (if y135.length + (l1.drop ((ji15) : Int).toNat).length < 35184372088832 then ((some (y135 ++ (l1.drop ((ji15) : Int).toNat) : List Int)).bind fun y139 => (if y139.length + (l1.take ((ji15) : Int).toNat).length < 35184372088832 then ((some (y139 ++ (l1.take ((ji15) : Int).toNat) : List Int)).bind fun y143 => ((curve_Shares.f kj3 a0 l1).bind fun t146 => ((some (([0, (-5)] : List Int) : List Int)).bind fun y149 => (if y143.length + y149.length < 35184372088832 then ((curve_Shares.f kj3 a0 (y143 ++ y149)).bind fun t155 => (if (t146.length : Int) = (l1.length : Int) then (if (t155.length : Int) = (wrap64 ((l1.length : Int) + 2)) then (if 0 ≤ (l1.length : Int) then (if (l1.length : Int) < (t155.length : Int) then (if (rd t155 (l1.length : Int)) = 0 then (if 0 ≤ (wrap64 ((l1.length : Int) + 1)) then (if (wrap64 ((l1.length : Int) + 1)) < (t155.length : Int) then (pelotonlaw02_CurveParts.j1 kj3 l1 ji15 t146 t155 ((rd t155 (wrap64 ((l1.length : Int) + 1))) != 0)) else (none)) else (none)) else (pelotonlaw02_CurveParts.j1 kj3 l1 ji15 t146 t155 true)) else (none)) else (none)) else (pelotonlaw02_CurveParts.j1 kj3 l1 ji15 t146 t155 true)) else (pelotonlaw02_CurveParts.j1 kj3 l1 ji15 t146 t155 true))) else (none))))) else (none))) else (none)) else (none)) else (none)) = some r := by first | (rw [hji15] at H; exact H) | (simp only [hji15] at H ⊢; exact H)
          by_cases c16 : 0 ≤ (ji15)
          · rw [if_pos c16] at H
            have c16b0 := eq_true c16
            have c16b1 : decide (0 ≤ (ji15)) = true := decide_eq_true c16
            clear c16
            by_cases c17 : (ji15) ≤ (l1.length : Int)
            · rw [if_pos c17] at H
              have c17b0 := eq_true c17
              have c17b1 : decide ((ji15) ≤ (l1.length : Int)) = true := decide_eq_true c17
              clear c17
              by_cases c18 : y135.length + (l1.drop ((ji15) : Int).toNat).length < 35184372088832
              · rw [if_pos c18] at H
                have LMc18 := Aside0.mk c18
                clear c18
                obtain ⟨y139, hy139⟩ : ∃ y_ : List Int, y_ = (y135 ++ (l1.drop ((ji15) : Int).toNat)) := ⟨_, rfl⟩
                replace H : (if y139.length + (l1.take ((ji15) : Int).toNat).length < 35184372088832 then ((some (y139 ++ (l1.take ((ji15) : Int).toNat) : List Int)).bind fun y143 => ((curve_Shares.f kj3 a0 l1).bind fun t146 => ((some (([0, (-5)] : List Int) : List Int)).bind fun y149 => (if y143.length + y149.length < 35184372088832 then ((curve_Shares.f kj3 a0 (y143 ++ y149)).bind fun t155 => (if (t146.length : Int) = (l1.length : Int) then (if (t155.length : Int) = (wrap64 ((l1.length : Int) + 2)) then (if 0 ≤ (l1.length : Int) then (if (l1.length : Int) < (t155.length : Int) then (if (rd t155 (l1.length : Int)) = 0 then (if 0 ≤ (wrap64 ((l1.length : Int) + 1)) then (if (wrap64 ((l1.length : Int) + 1)) < (t155.length : Int) then (pelotonlaw02_CurveParts.j1 kj3 l1 ji15 t146 t155 ((rd t155 (wrap64 ((l1.length : Int) + 1))) != 0)) else (none)) else (none)) else (pelotonlaw02_CurveParts.j1 kj3 l1 ji15 t146 t155 true)) else (none)) else (none)) else (pelotonlaw02_CurveParts.j1 kj3 l1 ji15 t146 t155 true)) else (pelotonlaw02_CurveParts.j1 kj3 l1 ji15 t146 t155 true))) else (none))))) else (none)) = some r := by first | (rw [hy139]; with_reducible exact H) | (have H2_ := (Option.bind_some _ _).symm.trans H; rw [hy139]; with_reducible exact H2_) | (have H2_ := (Option.bind_some _ _).symm.trans H; with_reducible exact H2_) | with_reducible exact H | (rw [hy139]; exact H) | exact H
                have Ny139 := Aside0.mk hy139
                clear hy139
                have c19b0 := eq_true (of_decide_eq_true (by first | (with_reducible assumption) | assumption) : 0 ≤ (ji15))
                have c20b0 := eq_true (of_decide_eq_true (by first | (with_reducible assumption) | assumption) : (ji15) ≤ (l1.length : Int))
                by_cases c21 : y139.length + (l1.take ((ji15) : Int).toNat).length < 35184372088832
                · rw [if_pos c21] at H
                  have LMc21 := Aside0.mk c21
                  clear c21
                  obtain ⟨y143, hy143⟩ : ∃ y_ : List Int, y_ = (y139 ++ (l1.take ((ji15) : Int).toNat)) := ⟨_, rfl⟩
                  replace H : ((curve_Shares.f kj3 a0 l1).bind fun t146 => ((some (([0, (-5)] : List Int) : List Int)).bind fun y149 => (if y143.length + y149.length < 35184372088832 then ((curve_Shares.f kj3 a0 (y143 ++ y149)).bind fun t155 => (if (t146.length : Int) = (l1.length : Int) then (if (t155.length : Int) = (wrap64 ((l1.length : Int) + 2)) then (if 0 ≤ (l1.length : Int) then (if (l1.length : Int) < (t155.length : Int) then (if (rd t155 (l1.length : Int)) = 0 then (if 0 ≤ (wrap64 ((l1.length : Int) + 1)) then (if (wrap64 ((l1.length : Int) + 1)) < (t155.length : Int) then (pelotonlaw02_CurveParts.j1 kj3 l1 ji15 t146 t155 ((rd t155 (wrap64 ((l1.length : Int) + 1))) != 0)) else (none)) else (none)) else (pelotonlaw02_CurveParts.j1 kj3 l1 ji15 t146 t155 true)) else (none)) else (none)) else (pelotonlaw02_CurveParts.j1 kj3 l1 ji15 t146 t155 true)) else (pelotonlaw02_CurveParts.j1 kj3 l1 ji15 t146 t155 true))) else (none)))) = some r := by first | (rw [hy143]; with_reducible exact H) | (have H2_ := (Option.bind_some _ _).symm.trans H; rw [hy143]; with_reducible exact H2_) | (have H2_ := (Option.bind_some _ _).symm.trans H; with_reducible exact H2_) | with_reducible exact H | (rw [hy143]; exact H) | exact H
                  have Ny143 := Aside0.mk hy143
                  clear hy143
                  replace H := Option.bind_eq_some_iff.mp H
                  obtain ⟨t146, A220, H⟩ := H
                  replace H : ((some (([0, (-5)] : List Int) : List Int)).bind fun y149 => (if y143.length + y149.length < 35184372088832 then ((curve_Shares.f kj3 a0 (y143 ++ y149)).bind fun t155 => (if (t146.length : Int) = (l1.length : Int) then (if (t155.length : Int) = (wrap64 ((l1.length : Int) + 2)) then (if 0 ≤ (l1.length : Int) then (if (l1.length : Int) < (t155.length : Int) then (if (rd t155 (l1.length : Int)) = 0 then (if 0 ≤ (wrap64 ((l1.length : Int) + 1)) then (if (wrap64 ((l1.length : Int) + 1)) < (t155.length : Int) then (pelotonlaw02_CurveParts.j1 kj3 l1 ji15 t146 t155 ((rd t155 (wrap64 ((l1.length : Int) + 1))) != 0)) else (none)) else (none)) else (pelotonlaw02_CurveParts.j1 kj3 l1 ji15 t146 t155 true)) else (none)) else (none)) else (pelotonlaw02_CurveParts.j1 kj3 l1 ji15 t146 t155 true)) else (pelotonlaw02_CurveParts.j1 kj3 l1 ji15 t146 t155 true))) else (none))) = some r := H
                  have A22 := Aside0.mk A220
                  clear A220
                  obtain ⟨y149, hy149⟩ : ∃ y_ : List Int, y_ = (([0, (-5)] : List Int)) := ⟨_, rfl⟩
                  replace H : (if y143.length + y149.length < 35184372088832 then ((curve_Shares.f kj3 a0 (y143 ++ y149)).bind fun t155 => (if (t146.length : Int) = (l1.length : Int) then (if (t155.length : Int) = (wrap64 ((l1.length : Int) + 2)) then (if 0 ≤ (l1.length : Int) then (if (l1.length : Int) < (t155.length : Int) then (if (rd t155 (l1.length : Int)) = 0 then (if 0 ≤ (wrap64 ((l1.length : Int) + 1)) then (if (wrap64 ((l1.length : Int) + 1)) < (t155.length : Int) then (pelotonlaw02_CurveParts.j1 kj3 l1 ji15 t146 t155 ((rd t155 (wrap64 ((l1.length : Int) + 1))) != 0)) else (none)) else (none)) else (pelotonlaw02_CurveParts.j1 kj3 l1 ji15 t146 t155 true)) else (none)) else (none)) else (pelotonlaw02_CurveParts.j1 kj3 l1 ji15 t146 t155 true)) else (pelotonlaw02_CurveParts.j1 kj3 l1 ji15 t146 t155 true))) else (none)) = some r := by first | (rw [hy149]; with_reducible exact H) | (have H2_ := (Option.bind_some _ _).symm.trans H; rw [hy149]; with_reducible exact H2_) | (have H2_ := (Option.bind_some _ _).symm.trans H; with_reducible exact H2_) | with_reducible exact H | (rw [hy149]; exact H) | exact H
                  have Ny149 := Aside0.mk hy149
                  clear hy149
                  by_cases c23 : y143.length + y149.length < 35184372088832
                  · rw [if_pos c23] at H
                    have LMc23 := Aside0.mk c23
                    clear c23
                    obtain ⟨y152, hy152⟩ : ∃ y_ : List Int, y_ = (y143 ++ y149) := ⟨_, rfl⟩
                    replace H : ((curve_Shares.f kj3 a0 y152).bind fun t155 => (if (t146.length : Int) = (l1.length : Int) then (if (t155.length : Int) = (wrap64 ((l1.length : Int) + 2)) then (if 0 ≤ (l1.length : Int) then (if (l1.length : Int) < (t155.length : Int) then (if (rd t155 (l1.length : Int)) = 0 then (if 0 ≤ (wrap64 ((l1.length : Int) + 1)) then (if (wrap64 ((l1.length : Int) + 1)) < (t155.length : Int) then (pelotonlaw02_CurveParts.j1 kj3 l1 ji15 t146 t155 ((rd t155 (wrap64 ((l1.length : Int) + 1))) != 0)) else (none)) else (none)) else (pelotonlaw02_CurveParts.j1 kj3 l1 ji15 t146 t155 true)) else (none)) else (none)) else (pelotonlaw02_CurveParts.j1 kj3 l1 ji15 t146 t155 true)) else (pelotonlaw02_CurveParts.j1 kj3 l1 ji15 t146 t155 true))) = some r := by first | (rw [hy152]; with_reducible exact H) | (have H2_ := (Option.bind_some _ _).symm.trans H; rw [hy152]; with_reducible exact H2_) | (have H2_ := (Option.bind_some _ _).symm.trans H; with_reducible exact H2_) | with_reducible exact H | (rw [hy152]; exact H) | exact H
                    have Ny152 := Aside0.mk hy152
                    clear hy152
                    replace H := Option.bind_eq_some_iff.mp H
                    obtain ⟨t155, A240, H⟩ := H
                    replace H : (if (t146.length : Int) = (l1.length : Int) then (if (t155.length : Int) = (wrap64 ((l1.length : Int) + 2)) then (if 0 ≤ (l1.length : Int) then (if (l1.length : Int) < (t155.length : Int) then (if (rd t155 (l1.length : Int)) = 0 then (if 0 ≤ (wrap64 ((l1.length : Int) + 1)) then (if (wrap64 ((l1.length : Int) + 1)) < (t155.length : Int) then (pelotonlaw02_CurveParts.j1 kj3 l1 ji15 t146 t155 ((rd t155 (wrap64 ((l1.length : Int) + 1))) != 0)) else (none)) else (none)) else (pelotonlaw02_CurveParts.j1 kj3 l1 ji15 t146 t155 true)) else (none)) else (none)) else (pelotonlaw02_CurveParts.j1 kj3 l1 ji15 t146 t155 true)) else (pelotonlaw02_CurveParts.j1 kj3 l1 ji15 t146 t155 true)) = some r := H
                    have A24 := Aside0.mk A240
                    clear A240
                    have HC25 := Aside0.mk H
                    clear H
                    try go_wp2
                    have n0_ := Aside0.mk (below_drew1 HB.out)
                    clear HB
                    have HB := n0_
                    clear n0_
                    obtain ⟨i027, hi027, _, hsz27, _⟩ := info_parts info21
                    obtain ⟨A27, hcut27, hA27, hC27⟩ := print_drop_of (P := Try.prog) (Value.int .i32) 0 26 21 .i64 Try.underlying26 hi027 hsz27 A1 c1 l1 (ji15) (of_decide_eq_true (by first | (with_reducible assumption) | assumption)) (of_decide_eq_true (by first | (with_reducible assumption) | assumption)) HC1.out
                    have HR138 := Aside0.mk (Kd.C_of_reads (h1 := fun _ => rfl) (hA27 _ (Kd.reads_of_C HR1.out)))
                    have HC138 := Aside0.mk hC27
                    clear hA27 hC27 hi027 hsz27
                    obtain ⟨i028, hi028, _, hsz28, _⟩ := info_parts info21
                    obtain ⟨hcut28, hA28, hC28⟩ := print_take_of (P := Try.prog) (Value.int .i32) 0 26 21 .i64 Try.underlying26 hi028 hsz28 A1 c1 l1 (ji15) (of_decide_eq_true (by first | (with_reducible assumption) | assumption)) (of_decide_eq_true (by first | (with_reducible assumption) | assumption)) HC1.out
                    have HR142 := Aside0.mk (Kd.C_of_reads (h1 := fun _ => rfl) (hA28 _ (Kd.reads_of_C HR1.out)))
                    have HC142 := Aside0.mk hC28
                    clear hA28 hC28 hi028 hsz28
                    refine start_ (n := 10) (S := fun w' => True) (ds := []) #[false, false, false, false, false, false, false, false, false, false] (by kernel_rfl) rfl rfl trivial (fun hHeld => ?_); refine with_tabW pelotonlaw02_CurveParts.tab4 pelotonlaw02_CurveParts.bits4 (fun HT_ HW_ => ?_)
                    generalize wc.drew = w26 at HB HR138 HR142 hHeld ⊢
                    refine pure_ (i := 1) (N := some 36) (v := ?_) (a' := ?_) #[false, true, false, false, false, false, false, false, false, false] rfl rfl (any_of HT_.out (by kernel_rfl)) (fun _ _ _ h => h) (Or.inl ⟨by rfl, ?_⟩) ?_ ?_
                    rotate_left
                    · intro w'
                      go_simp
                      with_reducible rfl
                    rotate_left
                    · simp only [Act.put, List.setIfInBounds_toArray, List.set_cons_zero, List.set_cons_succ, i64_w, i32_w]
                      rfl
                    refine pure_ (i := 2) (N := some 37) (v := ?_) (a' := ?_) #[false, true, true, false, false, false, false, false, false, false] rfl rfl (any_of HT_.out (by kernel_rfl)) (fun _ _ _ h => h) (Or.inl ⟨by rfl, ?_⟩) ?_ ?_
                    rotate_left
                    · intro w'
                      go_simp
                      with_reducible rfl
                    rotate_left
                    · simp only [Act.put, List.setIfInBounds_toArray, List.set_cons_zero, List.set_cons_succ, i64_w, i32_w]
                      rfl
                    refine pure_ (i := 3) (N := some 38) (v := ?_) (a' := ?_) #[false, true, true, true, false, false, false, false, false, false] rfl rfl (any_of HT_.out (by kernel_rfl)) (fun _ _ _ h => h) (Or.inl ⟨by rfl, ?_⟩) ?_ ?_
                    rotate_left
                    · intro w'
                      go_simp
                      with_reducible rfl
                    rotate_left
                    · simp only [Act.put, List.setIfInBounds_toArray, List.set_cons_zero, List.set_cons_succ, i64_w, i32_w]
                      rfl
                    refine pure_ (i := 5) (N := some 40) (v := ?_) (a' := ?_) #[false, true, true, true, false, true, false, false, false, false] rfl rfl (any_of HT_.out (by kernel_rfl)) (fun _ _ _ h => h) (Or.inl ⟨by rfl, ?_⟩) ?_ ?_
                    rotate_left
                    · intro w'
                      go_simp
                      with_reducible rfl
                    rotate_left
                    · simp only [Act.put, List.setIfInBounds_toArray, List.set_cons_zero, List.set_cons_succ, i64_w, i32_w]
                      rfl
                    refine pure_ (i := 6) (N := some 41) (v := ?_) (a' := ?_) #[false, true, true, true, false, true, true, false, false, false] rfl rfl (any_of HT_.out (by kernel_rfl)) (fun _ _ _ h => h) (Or.inl ⟨by rfl, ?_⟩) ?_ ?_
                    rotate_left
                    · intro w'
                      go_simp
                      with_reducible rfl
                    rotate_left
                    · simp only [Act.put, List.setIfInBounds_toArray, List.set_cons_zero, List.set_cons_succ, i64_w, i32_w]
                      rfl
                    refine pure_ (i := 7) (N := some 42) (v := ?_) (a' := ?_) #[false, true, true, true, false, true, true, true, false, false] rfl rfl (any_of HT_.out (by kernel_rfl)) (fun _ _ _ h => h) (Or.inl ⟨by rfl, ?_⟩) ?_ ?_
                    rotate_left
                    · intro w'
                      go_simp
                      with_reducible rfl
                    rotate_left
                    · simp only [Act.put, List.setIfInBounds_toArray, List.set_cons_zero, List.set_cons_succ, i64_w, i32_w]
                      rfl
                    refine one_ (i := 0) (N := some 35) #[true, true, true, true, false, true, true, true, false, false] rfl rfl (one_of HT_.out (by kernel_rfl)) (by decide) (fun K hK => ?_)
                    refine Kd.R_lit_step (Kd.int .i32) _ 21 ?hg (N := 35) ?hd (xs := ([] : List Int)) (inner := []) (ok := fun _ => True) (okp := fun _ => True) ?hr ?hp (fun _ hk => hk) trivial (Below.refl _ _) (Nat.le_refl _) (by simp) ?_; (case hd => rfl); (case hg => rfl); (case hr => first | (go_simp; done) | (go_simp; rfl)); (case hp => exact (Reps.none _ _))
                    intro v136 w29 ho30 hb hg_ hnew_
                    clear hg_ hnew_
                    (first | rw [← Ny135.out] at ho30 | (simp only [Int.reduceToNat] at ho30; rw [← Ny135.out] at ho30))
                    have n0_ := Aside0.mk (Kd.R_lower ho30 (below_size (by repeat (first | (with_reducible first | exact HB.out | apply below_alloc | apply pw_below_drewN | apply below_drew1) | exact HB.out))))
                    have n1_ := Aside0.mk (below_step (by repeat (first | (with_reducible first | exact HB.out | apply below_alloc | apply pw_below_drewN | apply below_drew1) | exact HB.out)) hb)
                    clear HB
                    have HO137 := n0_
                    have HB := n1_
                    clear n0_ n1_
                    clear hb ho30
                    refine hK.out _ _ trivial (fun hHeld => ?_)
                    clear hK K
                    refine norm_ (a' := ?_) ?_ ?_
                    rotate_left
                    · show Act.put _ (some 35) _ = _
                      simp only [Act.put, List.setIfInBounds_toArray, List.set_cons_zero, List.set_cons_succ, i64_w, i32_w]
                      rfl
                    refine one_ (i := 4) (N := some 39) #[true, true, true, true, true, true, true, true, false, false] rfl rfl (one_of HT_.out (by kernel_rfl)) (by decide) (fun K hK => ?_)
                    refine Kd.R_append_rows_step (Kd.int .i32) (w0 := w) w.heap.size (by rfl) (.tmp 35) (.tmp 38) 26 21 (.int .i32 0) 4 rfl Try.underlying26 info21 rfl (by decide) (by omega) v136 y135 (l1.drop ((ji15) : Int).toNat) _ _ _ (fun _ => True) (fun _ => False) rfl rfl ?aO ?aR (fun _ _ h => h) (fun _ h => h.elim) ?aF ?aB ?aS ?aL ?_
                    (case aR => first | (have hx_ := HR138.out; rw [show (l1.drop ((ji15) : Int).toNat).length = (l1.length - (ji15).toNat) from List.length_drop] at hx_; (repeat (first | exact (Kd.C_below hx_ HB.out) | (with_reducible refine Kd.C_alloc ?_ _) | (with_reducible refine Kd.C_drewN ?_ _) | (with_reducible refine Kd.C_drew ?_))); done) | (rw [← show (l1.drop ((ji15) : Int).toNat).length = (l1.length - (ji15).toNat) from List.length_drop]; repeat (first | exact (Kd.C_below HR138.out HB.out) | (with_reducible refine Kd.C_alloc ?_ _) | (with_reducible refine Kd.C_drewN ?_ _) | (with_reducible refine Kd.C_drew ?_))) | (repeat (first | exact (Kd.C_below HR138.out HB.out) | (with_reducible refine Kd.C_alloc ?_ _) | (with_reducible refine Kd.C_drewN ?_ _) | (with_reducible refine Kd.C_drew ?_))))
                    (case aB => exact (by repeat (first | (with_reducible first | exact HB.out | apply below_alloc | apply pw_below_drewN | apply below_drew1) | exact HB.out)))
                    (case aF => exact (fun _ _ => trivial))
                    (case aO => exact (by (with_reducible repeat (first | apply Kd.R_alloc | apply Kd.R_drewN | apply Kd.R_drew)); exact HO137.out))
                    (case aS => exact (below_size (by repeat (first | (with_reducible first | exact HB.out | apply below_alloc | apply pw_below_drewN | apply below_drew1) | exact HB.out))))
                    (case aL => have := LMc18.out; have hlx_ := (show (l1.drop ((ji15) : Int).toNat).length = (l1.length - (ji15).toNat) from List.length_drop); omega)
                    intro v140 w31 ho hb hg hat
                    rw [← Ny139.out] at ho
                    have n0_ := Aside0.mk (hb)
                    have n1_ := Aside0.mk (ho)
                    clear HB
                    clear HO137
                    have HB := n0_
                    have HO141 := n1_
                    clear n0_ n1_
                    clear ho hb hg hat
                    refine hK.out _ _ trivial (fun hHeld => ?_)
                    clear hK K
                    refine norm_ (a' := ?_) ?_ ?_
                    rotate_left
                    · show Act.put _ (some 39) _ = _
                      simp only [Act.put, List.setIfInBounds_toArray, List.set_cons_zero, List.set_cons_succ, i64_w, i32_w]
                      rfl
                    refine one_ (i := 8) (N := some 43) #[true, true, true, true, true, true, true, true, true, false] rfl rfl (one_of HT_.out (by kernel_rfl)) (by decide) (fun K hK => ?_)
                    refine Kd.R_append_rows_step (Kd.int .i32) (w0 := w) w.heap.size (by rfl) (.tmp 39) (.tmp 42) 26 21 (.int .i32 0) 4 rfl Try.underlying26 info21 rfl (by decide) (by omega) v140 y139 (l1.take ((ji15) : Int).toNat) _ _ _ (fun _ => True) (fun _ => False) rfl rfl ?aO ?aR (fun _ _ h => h) (fun _ h => h.elim) ?aF ?aB ?aS ?aL ?_
                    (case aR => first | (have hx_ := HR142.out; rw [show (l1.take ((ji15) : Int).toNat).length = (ji15).toNat from (by rw [List.length_take]; have h_ : ((ji15) : Int) ≤ (l1.length : Int) := of_decide_eq_true (by first | (with_reducible assumption) | assumption); omega)] at hx_; (repeat (first | exact (Kd.C_below hx_ HB.out) | (with_reducible refine Kd.C_alloc ?_ _) | (with_reducible refine Kd.C_drewN ?_ _) | (with_reducible refine Kd.C_drew ?_))); done) | (rw [← show (l1.take ((ji15) : Int).toNat).length = (ji15).toNat from (by rw [List.length_take]; have h_ : ((ji15) : Int) ≤ (l1.length : Int) := of_decide_eq_true (by first | (with_reducible assumption) | assumption); omega)]; repeat (first | exact (Kd.C_below HR142.out HB.out) | (with_reducible refine Kd.C_alloc ?_ _) | (with_reducible refine Kd.C_drewN ?_ _) | (with_reducible refine Kd.C_drew ?_))) | (repeat (first | exact (Kd.C_below HR142.out HB.out) | (with_reducible refine Kd.C_alloc ?_ _) | (with_reducible refine Kd.C_drewN ?_ _) | (with_reducible refine Kd.C_drew ?_))))
                    (case aB => exact (by repeat (first | (with_reducible first | exact HB.out | apply below_alloc | apply pw_below_drewN | apply below_drew1) | exact HB.out)))
                    (case aF => exact (fun _ _ => trivial))
                    (case aO => exact (by (with_reducible repeat (first | apply Kd.R_alloc | apply Kd.R_drewN | apply Kd.R_drew)); exact HO141.out))
                    (case aS => exact (below_size (by repeat (first | (with_reducible first | exact HB.out | apply below_alloc | apply pw_below_drewN | apply below_drew1) | exact HB.out))))
                    (case aL => have := LMc21.out; have hlx_ := (show (l1.take ((ji15) : Int).toNat).length = (ji15).toNat from (by rw [List.length_take]; have h_ : ((ji15) : Int) ≤ (l1.length : Int) := of_decide_eq_true (by first | (with_reducible assumption) | assumption); omega)); omega)
                    intro v144 w32 ho hb hg hat
                    rw [← Ny143.out] at ho
                    have n0_ := Aside0.mk (hb)
                    have n1_ := Aside0.mk (ho)
                    clear HB
                    clear HO141
                    have HB := n0_
                    have HO145 := n1_
                    clear n0_ n1_
                    clear ho hb hg hat
                    refine hK.out _ _ trivial (fun hHeld => ?_)
                    clear hK K
                    refine norm_ (a' := ?_) ?_ ?_
                    rotate_left
                    · show Act.put _ (some 43) _ = _
                      simp only [Act.put, List.setIfInBounds_toArray, List.set_cons_zero, List.set_cons_succ, i64_w, i32_w]
                      rfl
                    refine pure_ (i := 9) (N := some 8) (v := ?_) (a' := ?_) #[true, true, true, true, true, true, true, true, true, true] rfl rfl (any_of HT_.out (by kernel_rfl)) (fun _ _ _ h => h) (Or.inl ⟨by rfl, ?_⟩) ?_ ?_
                    rotate_left
                    · intro w'
                      go_simp
                      with_reducible rfl
                    rotate_left
                    · simp only [Act.put, List.setIfInBounds_toArray, List.set_cons_zero, List.set_cons_succ, i64_w, i32_w]
                      rfl
                    refine done_ (done_of HT_.out (by kernel_rfl)) ?_
                    go_upto_region 6 with (first | ((with_reducible refine gate_callee (f := 16) rfl ?_); refine goesL_ (some 46) rfl rfl Try.func16 (by kernel_rfl) rfl #[.int .i32 a0, .slice A1 l1.length c1] rfl (by (try simp only [List.map_toArray, List.map_cons, List.map_nil]); first | done | rfl | (simp only [List.length_drop, List.length_take]; rfl)) ?_; (with_reducible refine (curve_Shares.calls kj3 a0 _ _ l1 t146 _ ?side1 ?side2 A22.out).mono ?_); (case side1 => repeat (first | exact (Kd.C_below HR1.out HB.out) | (with_reducible refine Kd.C_alloc ?_ _) | (with_reducible refine Kd.C_drewN ?_ _) | (with_reducible refine Kd.C_drew ?_))); (case side2 => exact HC1.out); rintro e w33 ⟨v147, rfl, ho0, hb⟩; refine ⟨_, rfl, ?_⟩; have n0_ := Aside0.mk (Kd.R_elder' (by (with_reducible repeat (first | apply Kd.R_alloc | apply Kd.R_drewN | apply Kd.R_drew)); exact HO145.out) (Kd.R_base ho0) hb); have n1_ := Aside0.mk (Kd.R_lower (Kd.R_new' ho0 (Kd.R_lt (by (with_reducible repeat (first | apply Kd.R_alloc | apply Kd.R_drewN | apply Kd.R_drew)); exact HO145.out))) (below_size (by repeat (first | (with_reducible first | exact HB.out | apply below_alloc | apply pw_below_drewN | apply below_drew1) | exact HB.out)))); have n2_ := Aside0.mk (below_step (by repeat (first | (with_reducible first | exact HB.out | apply below_alloc | apply pw_below_drewN | apply below_drew1) | exact HB.out)) hb); clear HO145; clear HB; have HO145 := n0_; have HO148 := n1_; have HB := n2_; clear n0_ n1_ n2_; (try clear hb); (try clear hb2); (try clear hk); (try clear hi); (try clear ho0)) | ((with_reducible refine gate_dst (N := 49) rfl ?_); (try (refine gate_guard (by rfl) ?_; dsimp only)); refine Kd.R_lit (Kd.int .i32) _ 21 ?hg (N := 49) ?hd (xs := ([0, (-5)] : List Int)) (inner := [.int .i32 0, .int .i32 (-5)]) (ok := fun _ => True) (okp := fun _ => True) ?hr ?hp (fun _ hk => hk) trivial (Below.refl _ _) (Nat.le_refl _) (by simp) ?_; (case hd => rfl); (case hg => rfl); (case hr => first | (go_simp; done) | (go_simp; rfl)); (case hp => exact (Reps.one (show Kd.M (Kd.int .i32) _ _ _ 0 [.int .i32 0] from rfl) (Reps.one (show Kd.M (Kd.int .i32) _ _ _ (-5) [.int .i32 (-5)] from rfl) (Reps.none _ _)))); intro v150 w34 ho35 hb hg_ hnew_; clear hg_ hnew_; (first | rw [← Ny149.out] at ho35 | (simp only [Int.reduceToNat] at ho35; rw [← Ny149.out] at ho35)); have n0_ := Aside0.mk (Kd.R_elder' (by (with_reducible repeat (first | apply Kd.R_alloc | apply Kd.R_drewN | apply Kd.R_drew)); exact HO145.out) (Kd.R_base ho35) hb); have n1_ := Aside0.mk (Kd.R_elder' (by (with_reducible repeat (first | apply Kd.R_alloc | apply Kd.R_drewN | apply Kd.R_drew)); exact HO148.out) (Kd.R_base ho35) hb); have n2_ := Aside0.mk (Kd.R_lower (Kd.R_new' (Kd.R_new' ho35 (Kd.R_lt (by (with_reducible repeat (first | apply Kd.R_alloc | apply Kd.R_drewN | apply Kd.R_drew)); exact HO145.out))) (Kd.R_lt (by (with_reducible repeat (first | apply Kd.R_alloc | apply Kd.R_drewN | apply Kd.R_drew)); exact HO148.out))) (below_size (by repeat (first | (with_reducible first | exact HB.out | apply below_alloc | apply pw_below_drewN | apply below_drew1) | exact HB.out)))); have n3_ := Aside0.mk (below_step (by repeat (first | (with_reducible first | exact HB.out | apply below_alloc | apply pw_below_drewN | apply below_drew1) | exact HB.out)) hb); clear HO145; clear HO148; clear HB; have HO145 := n0_; have HO148 := n1_; have HO151 := n2_; have HB := n3_; clear n0_ n1_ n2_ n3_; clear hb ho35; obtain ⟨Ao37, co37, eo37⟩ := Kd.R_slice HO151.out; subst eo37) | ((with_reducible refine gate_builtin (b := .append) (xs := #[.tmp 48, .tmp 49]) rfl ?_); (try (refine gate_guard (by rfl) ?_; dsimp only)); at_builtin; refine Kd.R_append_rows (Kd.int .i32) (w0 := w) w.heap.size rfl (.tmp 48) (.tmp 49) 26 21 (.int .i32 0) 4 rfl Try.underlying26 info21 rfl (by decide) (by omega) v144 y143 y149 _ _ _ (fun k_ => some k_ ≠ (v147 : Value).ownBlock ∧ some k_ ≠ (.slice Ao37 y149.length co37 : Value).ownBlock) (fun _ => False) rfl rfl ?aO ?aR (fun _ _ h => h) (fun _ h => h.elim) ?aF ?aB ?aS ?aL ?_; (case aR => repeat (first | exact (Kd.R_reads' HO151.out).2.2 | (with_reducible refine Kd.C_alloc ?_ _) | (with_reducible refine Kd.C_drewN ?_ _) | (with_reducible refine Kd.C_drew ?_))); (case aB => exact (by repeat (first | (with_reducible first | exact HB.out | apply below_alloc | apply pw_below_drewN | apply below_drew1) | exact HB.out))); (case aF => exact (fun k_ hk => ⟨Kd.fresh' (Kd.R_lt (by (with_reducible repeat (first | apply Kd.R_alloc | apply Kd.R_drewN | apply Kd.R_drew)); exact HO148.out)) k_ hk, Kd.fresh' (Kd.R_lt (by (with_reducible repeat (first | apply Kd.R_alloc | apply Kd.R_drewN | apply Kd.R_drew)); exact HO151.out)) k_ hk⟩)); (case aO => exact (by (with_reducible repeat (first | apply Kd.R_alloc | apply Kd.R_drewN | apply Kd.R_drew)); exact Kd.R_mono HO145.out (fun _ hk => ⟨hk.1.2, hk.2⟩))); (case aS => exact (below_size (by repeat (first | (with_reducible first | exact HB.out | apply below_alloc | apply pw_below_drewN | apply below_drew1) | exact HB.out)))); (case aL => have := LMc23.out; omega); intro v153 w36 ho hb hg hat; rw [← Ny152.out] at ho; have n0_ := Aside0.mk (Kd.R_after (ok := (fun k_ => some k_ ≠ (.slice Ao37 y149.length co37 : Value).ownBlock)) (by (with_reducible repeat (first | apply Kd.R_alloc | apply Kd.R_drewN | apply Kd.R_drew)); exact Kd.R_mono HO148.out (fun _ hk => ⟨hk.2, hk.1.2⟩)) hg hat); have n1_ := Aside0.mk (Kd.R_after (ok := (fun k_ => some k_ ≠ (v147 : Value).ownBlock)) (by (with_reducible repeat (first | apply Kd.R_alloc | apply Kd.R_drewN | apply Kd.R_drew)); exact Kd.R_mono HO151.out (fun _ hk => ⟨hk.2, hk.1.2⟩)) hg hat); have n2_ := Aside0.mk (hb); have n3_ := Aside0.mk (ho); clear HO148; clear HO151; clear HB; clear HO145; have HO148 := n0_; have HO151 := n1_; have HB := n2_; have HO154 := n3_; clear n0_ n1_ n2_ n3_; clear ho hb hg hat; obtain ⟨Ao38, co38, eo38⟩ := Kd.R_slice HO154.out; subst eo38) | ((with_reducible refine gate_callee (f := 16) rfl ?_); refine goesL_ (some 51) rfl rfl Try.func16 (by kernel_rfl) rfl #[.int .i32 a0, .slice Ao38 y152.length co38] rfl (by (try simp only [List.map_toArray, List.map_cons, List.map_nil]); first | done | rfl | (simp only [List.length_drop, List.length_take]; rfl)) ?_; (with_reducible refine (curve_Shares.calls kj3 a0 _ _ y152 t155 _ ?side1 ?side2 A24.out).mono ?_); (case side1 => repeat (first | exact (Kd.R_reads' HO154.out).2.2 | (with_reducible refine Kd.C_alloc ?_ _) | (with_reducible refine Kd.C_drewN ?_ _) | (with_reducible refine Kd.C_drew ?_))); (case side2 => exact (Kd.R_reads' HO154.out).2.1); rintro e w39 ⟨v156, rfl, ho0, hb⟩; refine ⟨_, rfl, ?_⟩; have n0_ := Aside0.mk (Kd.R_elder' (by (with_reducible repeat (first | apply Kd.R_alloc | apply Kd.R_drewN | apply Kd.R_drew)); exact HO148.out) (Kd.R_base ho0) hb); have n1_ := Aside0.mk (Kd.R_elder' (by (with_reducible repeat (first | apply Kd.R_alloc | apply Kd.R_drewN | apply Kd.R_drew)); exact HO151.out) (Kd.R_base ho0) hb); have n2_ := Aside0.mk (Kd.R_elder' (by (with_reducible repeat (first | apply Kd.R_alloc | apply Kd.R_drewN | apply Kd.R_drew)); exact HO154.out) (Kd.R_base ho0) hb); have n3_ := Aside0.mk (Kd.R_lower (Kd.R_new' (Kd.R_new' (Kd.R_new' ho0 (Kd.R_lt (by (with_reducible repeat (first | apply Kd.R_alloc | apply Kd.R_drewN | apply Kd.R_drew)); exact HO148.out))) (Kd.R_lt (by (with_reducible repeat (first | apply Kd.R_alloc | apply Kd.R_drewN | apply Kd.R_drew)); exact HO151.out))) (Kd.R_lt (by (with_reducible repeat (first | apply Kd.R_alloc | apply Kd.R_drewN | apply Kd.R_drew)); exact HO154.out))) (below_size (by repeat (first | (with_reducible first | exact HB.out | apply below_alloc | apply pw_below_drewN | apply below_drew1) | exact HB.out)))); have n4_ := Aside0.mk (below_step (by repeat (first | (with_reducible first | exact HB.out | apply below_alloc | apply pw_below_drewN | apply below_drew1) | exact HB.out)) hb); clear HO148; clear HO151; clear HO154; clear HB; have HO148 := n0_; have HO151 := n1_; have HO154 := n2_; have HO157 := n3_; have HB := n4_; clear n0_ n1_ n2_ n3_ n4_; (try clear hb); (try clear hb2); (try clear hk); (try clear hi); (try clear ho0)))
                    (try simp only [Act.put, List.setIfInBounds_toArray, List.set_cons_zero, List.set_cons_succ])
                    go_cut [81] (fun v81 wc => ∃ (kq : Nat) (x81_24 : Bool), v81 = .bool x81_24 ∧ Aside0 (pelotonlaw02_CurveParts.j1 kq l1 ji15 t146 t155 x81_24 = some r) ∧ Aside0 (kq ≤ kj3) ∧ Aside0 (Kd.R (Kd.int .i32) 21 wc w.heap.size (fun k_ => some k_ ≠ (v156 : Value).ownBlock) v147 t146) ∧ Aside0 (Kd.R (Kd.int .i32) 21 wc w.heap.size (fun k_ => some k_ ≠ (v147 : Value).ownBlock) v156 t155) ∧ Aside0 (Below w.heap.size w wc))
                    case first =>
                      have H := HC25.out
                      clear HC25
                      by_cases c40 : (t146.length : Int) = (l1.length : Int)
                      · rw [if_pos c40] at H
                        have c40b0 : ((t146.length : Int) == (l1.length : Int)) = true := beq_iff_eq.mpr c40
                        have c40b1 : ((t146.length : Int) != (l1.length : Int)) = false := bne_eq_false_iff_eq.mpr c40
                        have c40b2 : (t146.length == l1.length) = true := by first | simpa using c40 | (simp at c40 ⊢; omega)
                        clear c40
                        (first | rw [c40b0] | (simp only [i64_w, i32_w]; rw [c40b0]) | skip)
                        by_cases c41 : (t155.length : Int) = (wrap64 ((l1.length : Int) + 2))
                        · rw [if_pos c41] at H
                          have c41b0 : ((t155.length : Int) == (wrap64 ((l1.length : Int) + 2))) = true := beq_iff_eq.mpr c41
                          have c41b1 : ((t155.length : Int) != (wrap64 ((l1.length : Int) + 2))) = false := bne_eq_false_iff_eq.mpr c41
                          clear c41
                          by_cases c42 : 0 ≤ (l1.length : Int)
                          · rw [if_pos c42] at H
                            have c42b0 : decide (0 ≤ (l1.length : Int)) = true := decide_eq_true c42
                            have c42b1 : decide (0 ≤ l1.length) = true := decide_eq_true (by omega)
                            clear c42
                            by_cases c43 : (l1.length : Int) < (t155.length : Int)
                            · rw [if_pos c43] at H
                              have c43b0 : decide ((l1.length : Int) < (t155.length : Int)) = true := decide_eq_true c43
                              have c43b1 : decide (l1.length < t155.length) = true := decide_eq_true (Int.ofNat_lt.mp c43)
                              clear c43
                              by_cases c44 : (rd t155 (l1.length : Int)) = 0
                              · rw [if_pos c44] at H
                                have c44b0 : ((rd t155 (l1.length : Int)) == 0) = true := beq_iff_eq.mpr c44
                                have c44b1 : ((rd t155 (l1.length : Int)) != 0) = false := bne_eq_false_iff_eq.mpr c44
                                clear c44
                                obtain ⟨ji45, hji45⟩ : ∃ j_ : Int, (wrap64 ((l1.length : Int) + 1)) = j_ := ⟨_, rfl⟩
                                replace H : (if 0 ≤ (ji45) then (if (ji45) < (t155.length : Int) then (pelotonlaw02_CurveParts.j1 kj3 l1 ji15 t146 t155 ((rd t155 (ji45)) != 0)) else (none)) else (none)) = some r := by first | (rw [hji45] at H; exact H) | (simp only [hji45] at H ⊢; exact H)
                                have hji45w : (IntKind.i64.wrap ((l1.length : Int) + 1)) = ji45 := (i64_w _).trans hji45
                                by_cases c46 : 0 ≤ (ji45)
                                · rw [if_pos c46] at H
                                  have c46b0 : decide (0 ≤ (ji45)) = true := decide_eq_true c46
                                  clear c46
                                  by_cases c47 : (ji45) < (t155.length : Int)
                                  · rw [if_pos c47] at H
                                    have c47b0 : decide ((ji45) < (t155.length : Int)) = true := decide_eq_true c47
                                    clear c47
                                    have H' := Aside0.mk H
                                    clear H
                                    obtain ⟨Ao48, co48, eo48⟩ := Kd.R_slice HO148.out
                                    subst eo48
                                    obtain ⟨Ao49, co49, eo49⟩ := Kd.R_slice HO157.out
                                    subst eo49
                                    have p158 : 0 ≤ ((l1.length : Int) : Int) := of_decide_eq_true (by first | (with_reducible assumption) | assumption)
                                    have q158 : (l1.length : Int) < (t155.length : Int) := of_decide_eq_true (by first | (with_reducible assumption) | assumption)
                                    obtain ⟨ad158, e158, hx158_0⟩ := Kd.at_int (Kd.R_reads' HO157.out).2.2 (l1.length : Int) p158 q158
                                    cases e158
                                    (try simp only [Go.IntWalk.toNatUp] at hx158_0)
                                    replace p158 := eq_true p158
                                    replace q158 := eq_true q158
                                    have p159 : 0 ≤ ((ji45) : Int) := of_decide_eq_true (by first | (with_reducible assumption) | assumption)
                                    have q159 : (ji45) < (t155.length : Int) := of_decide_eq_true (by first | (with_reducible assumption) | assumption)
                                    obtain ⟨ad159, e159, hx159_0⟩ := Kd.at_int (Kd.R_reads' HO157.out).2.2 (ji45) p159 q159
                                    obtain rfl : ad158 = ad159 := (by injection e159)
                                    replace p159 := eq_true p159
                                    replace q159 := eq_true q159
                                    go_wp2
                                    go_meet
                                    case rel => exact ⟨_, (((rd t155 (ji45)) != 0)), (by first | rfl | (simp; done) | (simp only [← hji45] <;> (first | rfl | simp)) | (simp [*]; done)), H', ⟨by have := HJ3.out; first | omega | exact Nat.le_refl _⟩, ⟨by (with_reducible repeat (first | apply Kd.R_alloc | apply Kd.R_drewN | apply Kd.R_drew)); exact Kd.R_mono HO148.out (fun _ hk => hk.2)⟩, ⟨by (with_reducible repeat (first | apply Kd.R_alloc | apply Kd.R_drewN | apply Kd.R_drew)); exact Kd.R_mono HO157.out (fun _ hk => hk.1.1.2)⟩, ⟨by repeat (first | (with_reducible first | exact HB.out | apply below_alloc | apply pw_below_drewN | apply below_drew1) | exact HB.out)⟩⟩
                                  · rw [if_neg c47] at H
                                    exact absurd H (by simp)
                                · rw [if_neg c46] at H
                                  exact absurd H (by simp)
                              · rw [if_neg c44] at H
                                have c44b0 : ((rd t155 (l1.length : Int)) == 0) = false := beq_eq_false_iff_ne.mpr c44
                                have c44b1 : ((rd t155 (l1.length : Int)) != 0) = true := bne_iff_ne.mpr c44
                                have H' := Aside0.mk H
                                clear H
                                obtain ⟨Ao50, co50, eo50⟩ := Kd.R_slice HO148.out
                                subst eo50
                                obtain ⟨Ao51, co51, eo51⟩ := Kd.R_slice HO157.out
                                subst eo51
                                have p158 : 0 ≤ ((l1.length : Int) : Int) := of_decide_eq_true (by first | (with_reducible assumption) | assumption)
                                have q158 : (l1.length : Int) < (t155.length : Int) := of_decide_eq_true (by first | (with_reducible assumption) | assumption)
                                obtain ⟨ad158, e158, hx158_0⟩ := Kd.at_int (Kd.R_reads' HO157.out).2.2 (l1.length : Int) p158 q158
                                cases e158
                                (try simp only [Go.IntWalk.toNatUp] at hx158_0)
                                replace p158 := eq_true p158
                                replace q158 := eq_true q158
                                go_wp2
                                go_meet
                                case rel => exact ⟨_, (true), (by first | rfl | (simp; done) | (simp [*]; done)), H', ⟨by have := HJ3.out; first | omega | exact Nat.le_refl _⟩, ⟨by (with_reducible repeat (first | apply Kd.R_alloc | apply Kd.R_drewN | apply Kd.R_drew)); exact Kd.R_mono HO148.out (fun _ hk => hk.2)⟩, ⟨by (with_reducible repeat (first | apply Kd.R_alloc | apply Kd.R_drewN | apply Kd.R_drew)); exact Kd.R_mono HO157.out (fun _ hk => hk.1.1.2)⟩, ⟨by repeat (first | (with_reducible first | exact HB.out | apply below_alloc | apply pw_below_drewN | apply below_drew1) | exact HB.out)⟩⟩
                            · rw [if_neg c43] at H
                              exact absurd H (by simp)
                          · rw [if_neg c42] at H
                            exact absurd H (by simp)
                        · rw [if_neg c41] at H
                          have c41b0 : ((t155.length : Int) == (wrap64 ((l1.length : Int) + 2))) = false := beq_eq_false_iff_ne.mpr c41
                          have c41b1 : ((t155.length : Int) != (wrap64 ((l1.length : Int) + 2))) = true := bne_iff_ne.mpr c41
                          have H' := Aside0.mk H
                          clear H
                          obtain ⟨Ao52, co52, eo52⟩ := Kd.R_slice HO148.out
                          subst eo52
                          obtain ⟨Ao53, co53, eo53⟩ := Kd.R_slice HO157.out
                          subst eo53
                          go_wp2
                          go_meet
                          case rel => exact ⟨_, (true), (by first | rfl | (simp; done) | (simp [*]; done)), H', ⟨by have := HJ3.out; first | omega | exact Nat.le_refl _⟩, ⟨by (with_reducible repeat (first | apply Kd.R_alloc | apply Kd.R_drewN | apply Kd.R_drew)); exact Kd.R_mono HO148.out (fun _ hk => hk.2)⟩, ⟨by (with_reducible repeat (first | apply Kd.R_alloc | apply Kd.R_drewN | apply Kd.R_drew)); exact Kd.R_mono HO157.out (fun _ hk => hk.1.1.2)⟩, ⟨by repeat (first | (with_reducible first | exact HB.out | apply below_alloc | apply pw_below_drewN | apply below_drew1) | exact HB.out)⟩⟩
                      · rw [if_neg c40] at H
                        have c40b0 : ((t146.length : Int) == (l1.length : Int)) = false := beq_eq_false_iff_ne.mpr c40
                        have c40b1 : ((t146.length : Int) != (l1.length : Int)) = true := bne_iff_ne.mpr c40
                        have c40b2 : (t146.length == l1.length) = false := by first | simpa using c40 | (simp at c40 ⊢; omega)
                        (first | rw [c40b0] | (simp only [i64_w, i32_w]; rw [c40b0]) | skip)
                        have H' := Aside0.mk H
                        clear H
                        obtain ⟨Ao54, co54, eo54⟩ := Kd.R_slice HO148.out
                        subst eo54
                        go_wp2
                        go_meet
                        case rel => exact ⟨_, (true), (by first | rfl | (simp; done) | (simp [*]; done)), H', ⟨by have := HJ3.out; first | omega | exact Nat.le_refl _⟩, ⟨by (with_reducible repeat (first | apply Kd.R_alloc | apply Kd.R_drewN | apply Kd.R_drew)); exact Kd.R_mono HO148.out (fun _ hk => hk.2)⟩, ⟨by (with_reducible repeat (first | apply Kd.R_alloc | apply Kd.R_drewN | apply Kd.R_drew)); exact Kd.R_mono HO157.out (fun _ hk => hk.1.1.2)⟩, ⟨by repeat (first | (with_reducible first | exact HB.out | apply below_alloc | apply pw_below_drewN | apply below_drew1) | exact HB.out)⟩⟩
                    case rest =>
                      clear HC25
                      try clear c1
                      try clear p1
                      try clear q1
                      try clear hx1
                      try clear c2
                      try clear p2
                      try clear c4
                      try clear c6
                      try clear p6
                      try clear c7
                      try clear c7b0
                      try clear c7b1
                      try clear c8
                      try clear c10
                      try clear c11
                      try clear c14
                      try clear c14b0
                      try clear c14b1
                      try clear c14b2
                      try clear p15
                      try clear q15
                      try clear hx15
                      try clear c16
                      try clear c16b0
                      try clear c16b1
                      try clear c17
                      try clear c17b0
                      try clear c17b1
                      try clear c18
                      try clear c19
                      try clear c19b0
                      try clear c20
                      try clear c20b0
                      try clear c21
                      try clear c23
                      try clear c40
                      try clear c40b0
                      try clear c40b1
                      try clear c40b2
                      try clear c41
                      try clear c41b0
                      try clear c41b1
                      try clear c42
                      try clear c42b0
                      try clear c42b1
                      try clear c43
                      try clear c43b0
                      try clear c43b1
                      try clear c44
                      try clear c44b0
                      try clear c44b1
                      try clear c46
                      try clear c46b0
                      try clear c47
                      try clear c47b0
                      try clear hx158_0
                      try clear hx159_0
                      try clear p158
                      try clear p159
                      try clear p2
                      try clear q158
                      try clear q159
                      obtain ⟨kq, x81_24, rfl, HA, HJ24, HO_9, HO_10, HB⟩ := hcut
                      cases kq with
                      | zero => exact absurd HA.out (by simp [pelotonlaw02_CurveParts.j1])
                      | succ kj24 =>
                        have H := HA.out
                        clear HA
                        simp only [pelotonlaw02_CurveParts.j1] at H
                        by_cases c55 : x81_24 = true
                        · subst c55
                          have H1 : (some false) = some r := by rw [if_pos rfl] at H; exact H
                          clear H
                          have H := H1
                          clear H1
                          obtain rfl := Option.some.inj H
                          go_wp2
                          go_ret
                          exact ⟨by first | rfl | (simp [errW_none, errW_some] <;> rfl) | (simp only [← hji15]; first | rfl | (simp [errW_none, errW_some] <;> rfl)) | (simp [*, errW_none, errW_some] <;> rfl), by repeat (first | (with_reducible first | exact HB.out | apply below_alloc | apply pw_below_drewN | apply below_drew1) | exact HB.out)⟩
                        · replace c55 := Bool.eq_false_iff.mpr c55
                          subst c55
                          have H1 : (pelotonlaw02_CurveParts.l0 kj24 l1 ji15 t146 t155 0) = some r := by rw [if_neg (show ¬ (false = true) by decide)] at H; exact H
                          clear H
                          have H := H1
                          clear H1
                          have H' := Aside0.mk H
                          clear H
                          go_wp2
                          go_loopg [11] kj24 (fun kq v11 w' => ∃ (x11_3 : Int), v11 = .int .i64 x11_3 ∧ Aside0 (pelotonlaw02_CurveParts.l0 kq l1 ji15 t146 t155 x11_3 = some r) ∧ Aside0 (kq ≤ kj24) ∧ Aside0 (Kd.R (Kd.int .i32) 21 w' w.heap.size (fun k_ => some k_ ≠ (v156 : Value).ownBlock) v147 t146) ∧ Aside0 (Kd.R (Kd.int .i32) 21 w' w.heap.size (fun k_ => some k_ ≠ (v147 : Value).ownBlock) v156 t155) ∧ Aside0 (Below w.heap.size w w'))
                          case atStart => exact ⟨(0), (by first | rfl | (simp; done) | (simp [*]; done)), H', ⟨Nat.le_refl _⟩, ⟨by (with_reducible repeat (first | apply Kd.R_alloc | apply Kd.R_drewN | apply Kd.R_drew)); exact HO_9.out⟩, ⟨by (with_reducible repeat (first | apply Kd.R_alloc | apply Kd.R_drewN | apply Kd.R_drew)); exact HO_10.out⟩, ⟨by repeat (first | (with_reducible first | exact HB.out | apply below_alloc | apply pw_below_drewN | apply below_drew1) | exact HB.out)⟩⟩
                          case round =>
                            clear H'
                            try clear c1
                            try clear p1
                            try clear q1
                            try clear hx1
                            try clear c2
                            try clear p2
                            try clear c4
                            try clear c5
                            try clear c6
                            try clear p6
                            try clear c7
                            try clear c7b0
                            try clear c7b1
                            try clear c8
                            try clear c10
                            try clear c11
                            try clear c14
                            try clear c14b0
                            try clear c14b1
                            try clear c14b2
                            try clear p15
                            try clear q15
                            try clear hx15
                            try clear c16
                            try clear c16b0
                            try clear c16b1
                            try clear c17
                            try clear c17b0
                            try clear c17b1
                            try clear c18
                            try clear c19
                            try clear c19b0
                            try clear c20
                            try clear c20b0
                            try clear c21
                            try clear c23
                            try clear c40
                            try clear c40b0
                            try clear c40b1
                            try clear c40b2
                            try clear c41
                            try clear c41b0
                            try clear c41b1
                            try clear c42
                            try clear c42b0
                            try clear c42b1
                            try clear c43
                            try clear c43b0
                            try clear c43b1
                            try clear c44
                            try clear c44b0
                            try clear c44b1
                            try clear c46
                            try clear c46b0
                            try clear c47
                            try clear c47b0
                            try clear c55
                            try clear hx158_0
                            try clear hx159_0
                            try clear p1
                            try clear p15
                            try clear p158
                            try clear p159
                            try clear p2
                            try clear p6
                            try clear q1
                            try clear q15
                            try clear q158
                            try clear q159
                            obtain ⟨x11_3, rfl, HA, HK3, HO_9, HO_10, HB⟩ := hrel
                            cases gk with
                            | zero => exact absurd HA.out (by simp [pelotonlaw02_CurveParts.l0])
                            | succ k3 =>
                              have H := HA.out
                              clear HA
                              simp only [pelotonlaw02_CurveParts.l0] at H
                              by_cases c56 : x11_3 < (l1.length : Int)
                              · rw [if_pos c56] at H
                                have c56b0 : decide (x11_3 < (l1.length : Int)) = true := decide_eq_true c56
                                clear c56
                                by_cases c57 : (l1.length : Int) = 0
                                · rw [if_pos c57] at H
                                  exact absurd H (by simp)
                                · rw [if_neg c57] at H
                                  have c57b0 : ((l1.length : Int) == 0) = false := beq_eq_false_iff_ne.mpr c57
                                  have c57b1 : ((l1.length : Int) != 0) = true := bne_iff_ne.mpr c57
                                  have c57b2 : ¬ (l1 = []) := fun h_ => c57 (by rw [h_]; rfl)
                                  obtain ⟨ji58, hji58⟩ : ∃ j_ : Int, (Int.tmod (wrap64 (x11_3 + ji15)) (l1.length : Int)) = j_ := ⟨_, rfl⟩
                                  replace H : (if 0 ≤ (ji58) then (if (ji58) < (t146.length : Int) then (if 0 ≤ x11_3 then (if x11_3 < (t155.length : Int) then (if (rd t146 (ji58)) = (rd t155 x11_3) then (pelotonlaw02_CurveParts.l0 k3 l1 ji15 t146 t155 (wrap64 (x11_3 + 1))) else (some false)) else (none)) else (none)) else (none)) else (none)) = some r := by first | (rw [hji58] at H; exact H) | (simp only [hji58] at H ⊢; exact H)
                                  by_cases c59 : 0 ≤ (ji58)
                                  · rw [if_pos c59] at H
                                    have c59b0 : decide (0 ≤ (ji58)) = true := decide_eq_true c59
                                    clear c59
                                    by_cases c60 : (ji58) < (t146.length : Int)
                                    · rw [if_pos c60] at H
                                      have c60b0 : decide ((ji58) < (t146.length : Int)) = true := decide_eq_true c60
                                      clear c60
                                      by_cases c61 : 0 ≤ x11_3
                                      · rw [if_pos c61] at H
                                        have c61b0 : decide (0 ≤ x11_3) = true := decide_eq_true c61
                                        clear c61
                                        by_cases c62 : x11_3 < (t155.length : Int)
                                        · rw [if_pos c62] at H
                                          have c62b0 : decide (x11_3 < (t155.length : Int)) = true := decide_eq_true c62
                                          clear c62
                                          by_cases c63 : (rd t146 (ji58)) = (rd t155 x11_3)
                                          · rw [if_pos c63] at H
                                            have c63b0 : ((rd t146 (ji58)) == (rd t155 x11_3)) = true := beq_iff_eq.mpr c63
                                            have c63b1 : ((rd t146 (ji58)) != (rd t155 x11_3)) = false := bne_eq_false_iff_eq.mpr c63
                                            clear c63
                                            have H' := Aside0.mk H
                                            clear H
                                            try go_wp2
                                            have n0_ := Aside0.mk (Kd.R_drew HO_9.out)
                                            have n1_ := Aside0.mk (Kd.R_drew HO_10.out)
                                            have n2_ := Aside0.mk (below_drew1 HB.out)
                                            clear HO_9
                                            clear HO_10
                                            clear HB
                                            have HO_9 := n0_
                                            have HO_10 := n1_
                                            have HB := n2_
                                            clear n0_ n1_ n2_
                                            obtain ⟨Ao65, co65, eo65⟩ := Kd.R_slice HO_9.out
                                            (first | subst eo65 | (injection eo65 with f1_ f2_ f3_; have f4_ := f1_.symm; have f5_ := f3_.symm; clear f1_ f2_ f3_; subst f4_; subst f5_))
                                            have p160 : 0 ≤ ((ji58) : Int) := of_decide_eq_true (by first | (with_reducible assumption) | assumption)
                                            have q160 : (ji58) < (t146.length : Int) := of_decide_eq_true (by first | (with_reducible assumption) | assumption)
                                            obtain ⟨ad160, e160, hx160_0⟩ := Kd.at_int (Kd.R_reads' HO_9.out).2.2 (ji58) p160 q160
                                            cases e160
                                            replace p160 := eq_true p160
                                            replace q160 := eq_true q160
                                            obtain ⟨Ao66, co66, eo66⟩ := Kd.R_slice HO_10.out
                                            (first | subst eo66 | (injection eo66 with f1_ f2_ f3_; have f4_ := f1_.symm; have f5_ := f3_.symm; clear f1_ f2_ f3_; subst f4_; subst f5_))
                                            have p161 : 0 ≤ (x11_3 : Int) := of_decide_eq_true (by first | (with_reducible assumption) | assumption)
                                            have q161 : x11_3 < (t155.length : Int) := of_decide_eq_true (by first | (with_reducible assumption) | assumption)
                                            obtain ⟨ad161, e161, hx161_0⟩ := Kd.at_int (Kd.R_reads' HO_10.out).2.2 x11_3 p161 q161
                                            cases e161
                                            replace p161 := eq_true p161
                                            replace q161 := eq_true q161
                                            refine start_ (n := 14) (S := fun w' => w'.cell? (ad160.add ((ji58)).toNat) = some (.int .i32 (rd t146 (ji58))) ∧ w'.cell? (ad161.add (x11_3).toNat) = some (.int .i32 (rd t155 x11_3))) (ds := []) #[false, false, false, false, false, false, false, false, false, false, false, false, false, false] (by kernel_rfl) rfl rfl ⟨hx160_0, hx161_0⟩ (fun hHeld => ?_); refine with_tabW pelotonlaw02_CurveParts.tab11 pelotonlaw02_CurveParts.bits11 (fun HT_ HW_ => ?_)
                                            generalize wr.drew = w64 at HO_9 HO_10 HB hx160_0 hx161_0 hHeld ⊢
                                            refine pure_ (i := 0) (N := some 88) (v := ?_) (a' := ?_) #[true, false, false, false, false, false, false, false, false, false, false, false, false, false] rfl rfl (any_of HT_.out (by kernel_rfl)) (fun _ _ _ h => h) (Or.inl ⟨by rfl, ?_⟩) ?_ ?_
                                            rotate_left
                                            · intro w'
                                              go_simp
                                              with_reducible rfl
                                            rotate_left
                                            · simp only [Act.put, List.setIfInBounds_toArray, List.set_cons_zero, List.set_cons_succ, i64_w, i32_w]
                                              rfl
                                            refine pure_ (i := 1) (N := some 89) (v := ?_) (a' := ?_) #[true, true, false, false, false, false, false, false, false, false, false, false, false, false] rfl rfl (any_of HT_.out (by kernel_rfl)) (fun _ _ _ h => h) (Or.inl ⟨by rfl, ?_⟩) ?_ ?_
                                            rotate_left
                                            · intro w'
                                              go_simp
                                              with_reducible rfl
                                            rotate_left
                                            · simp only [Act.put, List.setIfInBounds_toArray, List.set_cons_zero, List.set_cons_succ, i64_w, i32_w]
                                              rfl
                                            refine pure_ (i := 2) (N := some 90) (v := ?_) (a' := ?_) #[true, true, true, false, false, false, false, false, false, false, false, false, false, false] rfl rfl (any_of HT_.out (by kernel_rfl)) (fun _ _ _ h => h) (Or.inl ⟨by rfl, ?_⟩) ?_ ?_
                                            rotate_left
                                            · intro w'
                                              go_simp
                                              with_reducible rfl
                                            rotate_left
                                            · simp only [Act.put, List.setIfInBounds_toArray, List.set_cons_zero, List.set_cons_succ, i64_w, i32_w]
                                              rfl
                                            refine pure_ (i := 3) (N := some 91) (v := ?_) (a' := ?_) #[true, true, true, true, false, false, false, false, false, false, false, false, false, false] rfl rfl (any_of HT_.out (by kernel_rfl)) (fun _ _ _ h => h) (Or.inl ⟨by rfl, ?_⟩) ?_ ?_
                                            rotate_left
                                            · intro w'
                                              go_simp
                                              with_reducible rfl
                                            rotate_left
                                            · simp only [Act.put, List.setIfInBounds_toArray, List.set_cons_zero, List.set_cons_succ, i64_w, i32_w]
                                              rfl
                                            refine pure_ (i := 4) (N := some 92) (v := ?_) (a' := ?_) #[true, true, true, true, true, false, false, false, false, false, false, false, false, false] rfl rfl (any_of HT_.out (by kernel_rfl)) (fun _ _ _ h => h) (Or.inl ⟨by rfl, ?_⟩) ?_ ?_
                                            rotate_left
                                            · intro w'
                                              go_simp
                                              with_reducible rfl
                                            rotate_left
                                            · simp only [Act.put, List.setIfInBounds_toArray, List.set_cons_zero, List.set_cons_succ, i64_w, i32_w]
                                              rfl
                                            refine pure_ (i := 5) (N := some 93) (v := ?_) (a' := ?_) #[true, true, true, true, true, true, false, false, false, false, false, false, false, false] rfl rfl (any_of HT_.out (by kernel_rfl)) (fun _ _ _ h => h) (Or.inl ⟨by rfl, ?_⟩) ?_ ?_
                                            rotate_left
                                            · intro w'
                                              go_simp
                                              with_reducible rfl
                                            rotate_left
                                            · simp only [Act.put, List.setIfInBounds_toArray, List.set_cons_zero, List.set_cons_succ, i64_w, i32_w]
                                              rfl
                                            refine pure_ (i := 6) (N := some 94) (v := ?_) (a' := ?_) #[true, true, true, true, true, true, true, false, false, false, false, false, false, false] rfl rfl (any_of HT_.out (by kernel_rfl)) (fun _ _ _ h => h) (Or.inl ⟨by rfl, ?_⟩) ?_ ?_
                                            rotate_left
                                            · intro w'
                                              go_simp
                                              with_reducible rfl
                                            rotate_left
                                            · simp only [Act.put, List.setIfInBounds_toArray, List.set_cons_zero, List.set_cons_succ, i64_w, i32_w]
                                              rfl
                                            refine pure_ (i := 7) (N := some 95) (v := ?_) (a' := ?_) #[true, true, true, true, true, true, true, true, false, false, false, false, false, false] rfl rfl (any_of HT_.out (by kernel_rfl)) (fun _ _ _ h => h) (Or.inl ⟨by rfl, ?_⟩) ?_ ?_
                                            rotate_left
                                            · intro w'
                                              go_simp
                                              with_reducible rfl
                                            rotate_left
                                            · simp only [Act.put, List.setIfInBounds_toArray, List.set_cons_zero, List.set_cons_succ, i64_w, i32_w]
                                              rfl
                                            refine pure_ (i := 9) (N := some 97) (v := ?_) (a' := ?_) #[true, true, true, true, true, true, true, true, false, true, false, false, false, false] rfl rfl (any_of HT_.out (by kernel_rfl)) (fun _ _ _ h => h) (Or.inl ⟨by rfl, ?_⟩) ?_ ?_
                                            rotate_left
                                            · intro w'
                                              go_simp
                                              with_reducible rfl
                                            rotate_left
                                            · simp only [Act.put, List.setIfInBounds_toArray, List.set_cons_zero, List.set_cons_succ, i64_w, i32_w]
                                              rfl
                                            refine pure_ (i := 10) (N := some 98) (v := ?_) (a' := ?_) #[true, true, true, true, true, true, true, true, false, true, true, false, false, false] rfl rfl (any_of HT_.out (by kernel_rfl)) (fun _ _ _ h => h) (Or.inl ⟨by rfl, ?_⟩) ?_ ?_
                                            rotate_left
                                            · intro w'
                                              go_simp
                                              with_reducible rfl
                                            rotate_left
                                            · simp only [Act.put, List.setIfInBounds_toArray, List.set_cons_zero, List.set_cons_succ, i64_w, i32_w]
                                              rfl
                                            refine pure_ (i := 11) (N := some 99) (v := ?_) (a' := ?_) #[true, true, true, true, true, true, true, true, false, true, true, true, false, false] rfl rfl (any_of HT_.out (by kernel_rfl)) (fun _ _ _ h => h) (Or.inl ⟨by rfl, ?_⟩) ?_ ?_
                                            rotate_left
                                            · intro w'
                                              go_simp
                                              with_reducible rfl
                                            rotate_left
                                            · simp only [Act.put, List.setIfInBounds_toArray, List.set_cons_zero, List.set_cons_succ, i64_w, i32_w]
                                              rfl
                                            refine take_ (i := 8) (N := some 96) (v := ?_) (a' := ?_) #[true, true, true, true, true, true, true, true, true, true, true, true, false, false] rfl rfl (take_ofW HT_.out HW_.out (by kernel_rfl)) (fun _ _ _ h => h) (Or.inl ⟨by rfl, ?_⟩) hHeld ?_ ?_
                                            rotate_left
                                            · rintro w' ⟨s0, s1⟩
                                              go_simp
                                              with_reducible rfl
                                            rotate_left
                                            · simp only [Act.put, List.setIfInBounds_toArray, List.set_cons_zero, List.set_cons_succ, i64_w, i32_w]
                                              rfl
                                            refine take_ (i := 12) (N := some 100) (v := ?_) (a' := ?_) #[true, true, true, true, true, true, true, true, true, true, true, true, true, false] rfl rfl (take_ofW HT_.out HW_.out (by kernel_rfl)) (fun _ _ _ h => h) (Or.inl ⟨by rfl, ?_⟩) hHeld ?_ ?_
                                            rotate_left
                                            · rintro w' ⟨s0, s1⟩
                                              go_simp
                                              with_reducible rfl
                                            rotate_left
                                            · simp only [Act.put, List.setIfInBounds_toArray, List.set_cons_zero, List.set_cons_succ, i64_w, i32_w]
                                              rfl
                                            refine pure_ (i := 13) (N := some 101) (v := ?_) (a' := ?_) #[true, true, true, true, true, true, true, true, true, true, true, true, true, true] rfl rfl (any_of HT_.out (by kernel_rfl)) (fun _ _ _ h => h) (Or.inl ⟨by rfl, ?_⟩) ?_ ?_
                                            rotate_left
                                            · intro w'
                                              go_simp
                                              with_reducible rfl
                                            rotate_left
                                            · simp only [Act.put, List.setIfInBounds_toArray, List.set_cons_zero, List.set_cons_succ, i64_w, i32_w]
                                              rfl
                                            refine done_ (done_of HT_.out (by kernel_rfl)) ?_
                                            try go_wp2
                                            go_roundg k3
                                            case measure => have := HJ3.out; have := HJ24.out; have := HK3.out; omega
                                            case rel => exact ⟨(wrap64 (x11_3 + 1)), (by first | rfl | (simp; done) | (simp [*]; done)), H', ⟨by have := HJ3.out; have := HJ24.out; have := HK3.out; omega⟩, ⟨by (with_reducible repeat (first | apply Kd.R_alloc | apply Kd.R_drewN | apply Kd.R_drew)); exact HO_9.out⟩, ⟨by (with_reducible repeat (first | apply Kd.R_alloc | apply Kd.R_drewN | apply Kd.R_drew)); exact HO_10.out⟩, ⟨by repeat (first | (with_reducible first | exact HB.out | apply below_alloc | apply pw_below_drewN | apply below_drew1) | exact HB.out)⟩⟩
                                          · rw [if_neg c63] at H
                                            have c63b0 : ((rd t146 (ji58)) == (rd t155 x11_3)) = false := beq_eq_false_iff_ne.mpr c63
                                            have c63b1 : ((rd t146 (ji58)) != (rd t155 x11_3)) = true := bne_iff_ne.mpr c63
                                            obtain rfl := Option.some.inj H
                                            try go_wp2
                                            have n0_ := Aside0.mk (Kd.R_drew HO_9.out)
                                            have n1_ := Aside0.mk (Kd.R_drew HO_10.out)
                                            have n2_ := Aside0.mk (below_drew1 HB.out)
                                            clear HO_9
                                            clear HO_10
                                            clear HB
                                            have HO_9 := n0_
                                            have HO_10 := n1_
                                            have HB := n2_
                                            clear n0_ n1_ n2_
                                            obtain ⟨Ao68, co68, eo68⟩ := Kd.R_slice HO_9.out
                                            (first | subst eo68 | (injection eo68 with f1_ f2_ f3_; have f4_ := f1_.symm; have f5_ := f3_.symm; clear f1_ f2_ f3_; subst f4_; subst f5_))
                                            have p160 : 0 ≤ ((ji58) : Int) := of_decide_eq_true (by first | (with_reducible assumption) | assumption)
                                            have q160 : (ji58) < (t146.length : Int) := of_decide_eq_true (by first | (with_reducible assumption) | assumption)
                                            obtain ⟨ad160, e160, hx160_0⟩ := Kd.at_int (Kd.R_reads' HO_9.out).2.2 (ji58) p160 q160
                                            cases e160
                                            replace p160 := eq_true p160
                                            replace q160 := eq_true q160
                                            obtain ⟨Ao69, co69, eo69⟩ := Kd.R_slice HO_10.out
                                            (first | subst eo69 | (injection eo69 with f1_ f2_ f3_; have f4_ := f1_.symm; have f5_ := f3_.symm; clear f1_ f2_ f3_; subst f4_; subst f5_))
                                            have p161 : 0 ≤ (x11_3 : Int) := of_decide_eq_true (by first | (with_reducible assumption) | assumption)
                                            have q161 : x11_3 < (t155.length : Int) := of_decide_eq_true (by first | (with_reducible assumption) | assumption)
                                            obtain ⟨ad161, e161, hx161_0⟩ := Kd.at_int (Kd.R_reads' HO_10.out).2.2 x11_3 p161 q161
                                            cases e161
                                            replace p161 := eq_true p161
                                            replace q161 := eq_true q161
                                            refine start_ (n := 14) (S := fun w' => w'.cell? (ad160.add ((ji58)).toNat) = some (.int .i32 (rd t146 (ji58))) ∧ w'.cell? (ad161.add (x11_3).toNat) = some (.int .i32 (rd t155 x11_3))) (ds := []) #[false, false, false, false, false, false, false, false, false, false, false, false, false, false] (by kernel_rfl) rfl rfl ⟨hx160_0, hx161_0⟩ (fun hHeld => ?_); refine with_tabW pelotonlaw02_CurveParts.tab11 pelotonlaw02_CurveParts.bits11 (fun HT_ HW_ => ?_)
                                            generalize wr.drew = w67 at HO_9 HO_10 HB hx160_0 hx161_0 hHeld ⊢
                                            refine pure_ (i := 0) (N := some 88) (v := ?_) (a' := ?_) #[true, false, false, false, false, false, false, false, false, false, false, false, false, false] rfl rfl (any_of HT_.out (by kernel_rfl)) (fun _ _ _ h => h) (Or.inl ⟨by rfl, ?_⟩) ?_ ?_
                                            rotate_left
                                            · intro w'
                                              go_simp
                                              with_reducible rfl
                                            rotate_left
                                            · simp only [Act.put, List.setIfInBounds_toArray, List.set_cons_zero, List.set_cons_succ, i64_w, i32_w]
                                              rfl
                                            refine pure_ (i := 1) (N := some 89) (v := ?_) (a' := ?_) #[true, true, false, false, false, false, false, false, false, false, false, false, false, false] rfl rfl (any_of HT_.out (by kernel_rfl)) (fun _ _ _ h => h) (Or.inl ⟨by rfl, ?_⟩) ?_ ?_
                                            rotate_left
                                            · intro w'
                                              go_simp
                                              with_reducible rfl
                                            rotate_left
                                            · simp only [Act.put, List.setIfInBounds_toArray, List.set_cons_zero, List.set_cons_succ, i64_w, i32_w]
                                              rfl
                                            refine pure_ (i := 2) (N := some 90) (v := ?_) (a' := ?_) #[true, true, true, false, false, false, false, false, false, false, false, false, false, false] rfl rfl (any_of HT_.out (by kernel_rfl)) (fun _ _ _ h => h) (Or.inl ⟨by rfl, ?_⟩) ?_ ?_
                                            rotate_left
                                            · intro w'
                                              go_simp
                                              with_reducible rfl
                                            rotate_left
                                            · simp only [Act.put, List.setIfInBounds_toArray, List.set_cons_zero, List.set_cons_succ, i64_w, i32_w]
                                              rfl
                                            refine pure_ (i := 3) (N := some 91) (v := ?_) (a' := ?_) #[true, true, true, true, false, false, false, false, false, false, false, false, false, false] rfl rfl (any_of HT_.out (by kernel_rfl)) (fun _ _ _ h => h) (Or.inl ⟨by rfl, ?_⟩) ?_ ?_
                                            rotate_left
                                            · intro w'
                                              go_simp
                                              with_reducible rfl
                                            rotate_left
                                            · simp only [Act.put, List.setIfInBounds_toArray, List.set_cons_zero, List.set_cons_succ, i64_w, i32_w]
                                              rfl
                                            refine pure_ (i := 4) (N := some 92) (v := ?_) (a' := ?_) #[true, true, true, true, true, false, false, false, false, false, false, false, false, false] rfl rfl (any_of HT_.out (by kernel_rfl)) (fun _ _ _ h => h) (Or.inl ⟨by rfl, ?_⟩) ?_ ?_
                                            rotate_left
                                            · intro w'
                                              go_simp
                                              with_reducible rfl
                                            rotate_left
                                            · simp only [Act.put, List.setIfInBounds_toArray, List.set_cons_zero, List.set_cons_succ, i64_w, i32_w]
                                              rfl
                                            refine pure_ (i := 5) (N := some 93) (v := ?_) (a' := ?_) #[true, true, true, true, true, true, false, false, false, false, false, false, false, false] rfl rfl (any_of HT_.out (by kernel_rfl)) (fun _ _ _ h => h) (Or.inl ⟨by rfl, ?_⟩) ?_ ?_
                                            rotate_left
                                            · intro w'
                                              go_simp
                                              with_reducible rfl
                                            rotate_left
                                            · simp only [Act.put, List.setIfInBounds_toArray, List.set_cons_zero, List.set_cons_succ, i64_w, i32_w]
                                              rfl
                                            refine pure_ (i := 6) (N := some 94) (v := ?_) (a' := ?_) #[true, true, true, true, true, true, true, false, false, false, false, false, false, false] rfl rfl (any_of HT_.out (by kernel_rfl)) (fun _ _ _ h => h) (Or.inl ⟨by rfl, ?_⟩) ?_ ?_
                                            rotate_left
                                            · intro w'
                                              go_simp
                                              with_reducible rfl
                                            rotate_left
                                            · simp only [Act.put, List.setIfInBounds_toArray, List.set_cons_zero, List.set_cons_succ, i64_w, i32_w]
                                              rfl
                                            refine pure_ (i := 7) (N := some 95) (v := ?_) (a' := ?_) #[true, true, true, true, true, true, true, true, false, false, false, false, false, false] rfl rfl (any_of HT_.out (by kernel_rfl)) (fun _ _ _ h => h) (Or.inl ⟨by rfl, ?_⟩) ?_ ?_
                                            rotate_left
                                            · intro w'
                                              go_simp
                                              with_reducible rfl
                                            rotate_left
                                            · simp only [Act.put, List.setIfInBounds_toArray, List.set_cons_zero, List.set_cons_succ, i64_w, i32_w]
                                              rfl
                                            refine pure_ (i := 9) (N := some 97) (v := ?_) (a' := ?_) #[true, true, true, true, true, true, true, true, false, true, false, false, false, false] rfl rfl (any_of HT_.out (by kernel_rfl)) (fun _ _ _ h => h) (Or.inl ⟨by rfl, ?_⟩) ?_ ?_
                                            rotate_left
                                            · intro w'
                                              go_simp
                                              with_reducible rfl
                                            rotate_left
                                            · simp only [Act.put, List.setIfInBounds_toArray, List.set_cons_zero, List.set_cons_succ, i64_w, i32_w]
                                              rfl
                                            refine pure_ (i := 10) (N := some 98) (v := ?_) (a' := ?_) #[true, true, true, true, true, true, true, true, false, true, true, false, false, false] rfl rfl (any_of HT_.out (by kernel_rfl)) (fun _ _ _ h => h) (Or.inl ⟨by rfl, ?_⟩) ?_ ?_
                                            rotate_left
                                            · intro w'
                                              go_simp
                                              with_reducible rfl
                                            rotate_left
                                            · simp only [Act.put, List.setIfInBounds_toArray, List.set_cons_zero, List.set_cons_succ, i64_w, i32_w]
                                              rfl
                                            refine pure_ (i := 11) (N := some 99) (v := ?_) (a' := ?_) #[true, true, true, true, true, true, true, true, false, true, true, true, false, false] rfl rfl (any_of HT_.out (by kernel_rfl)) (fun _ _ _ h => h) (Or.inl ⟨by rfl, ?_⟩) ?_ ?_
                                            rotate_left
                                            · intro w'
                                              go_simp
                                              with_reducible rfl
                                            rotate_left
                                            · simp only [Act.put, List.setIfInBounds_toArray, List.set_cons_zero, List.set_cons_succ, i64_w, i32_w]
                                              rfl
                                            refine take_ (i := 8) (N := some 96) (v := ?_) (a' := ?_) #[true, true, true, true, true, true, true, true, true, true, true, true, false, false] rfl rfl (take_ofW HT_.out HW_.out (by kernel_rfl)) (fun _ _ _ h => h) (Or.inl ⟨by rfl, ?_⟩) hHeld ?_ ?_
                                            rotate_left
                                            · rintro w' ⟨s0, s1⟩
                                              go_simp
                                              with_reducible rfl
                                            rotate_left
                                            · simp only [Act.put, List.setIfInBounds_toArray, List.set_cons_zero, List.set_cons_succ, i64_w, i32_w]
                                              rfl
                                            refine take_ (i := 12) (N := some 100) (v := ?_) (a' := ?_) #[true, true, true, true, true, true, true, true, true, true, true, true, true, false] rfl rfl (take_ofW HT_.out HW_.out (by kernel_rfl)) (fun _ _ _ h => h) (Or.inl ⟨by rfl, ?_⟩) hHeld ?_ ?_
                                            rotate_left
                                            · rintro w' ⟨s0, s1⟩
                                              go_simp
                                              with_reducible rfl
                                            rotate_left
                                            · simp only [Act.put, List.setIfInBounds_toArray, List.set_cons_zero, List.set_cons_succ, i64_w, i32_w]
                                              rfl
                                            refine pure_ (i := 13) (N := some 101) (v := ?_) (a' := ?_) #[true, true, true, true, true, true, true, true, true, true, true, true, true, true] rfl rfl (any_of HT_.out (by kernel_rfl)) (fun _ _ _ h => h) (Or.inl ⟨by rfl, ?_⟩) ?_ ?_
                                            rotate_left
                                            · intro w'
                                              go_simp
                                              with_reducible rfl
                                            rotate_left
                                            · simp only [Act.put, List.setIfInBounds_toArray, List.set_cons_zero, List.set_cons_succ, i64_w, i32_w]
                                              rfl
                                            refine done_ (done_of HT_.out (by kernel_rfl)) ?_
                                            try go_wp2
                                            go_ret
                                            exact ⟨by first | rfl | (simp [errW_none, errW_some] <;> rfl) | (simp only [← hji15, ← hji58]; first | rfl | (simp [errW_none, errW_some] <;> rfl)) | (simp [*, errW_none, errW_some] <;> rfl), by repeat (first | (with_reducible first | exact HB.out | apply below_alloc | apply pw_below_drewN | apply below_drew1) | exact HB.out)⟩
                                        · rw [if_neg c62] at H
                                          exact absurd H (by simp)
                                      · rw [if_neg c61] at H
                                        exact absurd H (by simp)
                                    · rw [if_neg c60] at H
                                      exact absurd H (by simp)
                                  · rw [if_neg c59] at H
                                    exact absurd H (by simp)
                              · rw [if_neg c56] at H
                                have c56b0 : decide (x11_3 < (l1.length : Int)) = false := decide_eq_false c56
                                clear c56
                                obtain rfl := Option.some.inj H
                                go_wp2
                                go_ret
                                exact ⟨by first | rfl | (simp [errW_none, errW_some] <;> rfl) | (simp only [← hji15]; first | rfl | (simp [errW_none, errW_some] <;> rfl)) | (simp [*, errW_none, errW_some] <;> rfl), by repeat (first | (with_reducible first | exact HB.out | apply below_alloc | apply pw_below_drewN | apply below_drew1) | exact HB.out)⟩
                  · rw [if_neg c23] at H
                    exact absurd H (by simp)
                · rw [if_neg c21] at H
                  exact absurd H (by simp)
              · rw [if_neg c18] at H
                exact absurd H (by simp)
            · rw [if_neg c17] at H
              exact absurd H (by simp)
          · rw [if_neg c16] at H
            exact absurd H (by simp)

/-- THE ONE PURE STATEMENT of pelotonlaw02_CurveParts: yours. -/
def pelotonlaw02_CurveParts.Pure : Prop := ∀ (a0 : Int) (l1 : List Int) (a2 : Int), (Lit.int .i32 a0).wf = true → l1.length ≤ maxLen → l1.length * 4 ≤ 140737488351232 → (∀ x ∈ l1, (Lit.int .i32 x).wf = true) → (Lit.int .i64 a2).wf = true → ∃ k, pelotonlaw02_CurveParts.f k a0 l1 a2 = some true
theorem pelotonlaw02_CurveParts.walk (P : pelotonlaw02_CurveParts.Pure) (a0 : Int) (a1 : Option Addr) (len1 cap1 : Nat) (z1 : List Int) (a2 : Int) (w : World) (w0 : (Lit.int .i32 a0).wf = true) (w1 : (a1 = none ∧ len1 = 0 ∧ cap1 = 0 ∧ z1 = []) ∨ ∃ x, a1 = some x ∧ len1 ≤ cap1 ∧ cap1 ≤ maxLen ∧ z1.length = cap1 ∧ (∀ i, i < z1.length → w.cell? (x.add i) = some (.int .i32 (z1.getD i 0))) ∧ ∀ n ∈ z1, (Lit.int .i32 n).wf = true) (y1 : len1 * 4 ≤ 140737488351232) (w2 : (Lit.int .i64 a2).wf = true) :
    Calls Try.prog 8 #[.int .i32 a0, .slice a1 len1 cap1, .int .i64 a2] w fun e w' => e = .returned (.bool true) ∧ Below w.heap.size w w' := by
  obtain ⟨l1, rfl, hr1, hm1, hw1, hc1⟩ := ReadsInt.ofRowC w1
  obtain ⟨k, h⟩ := P a0 l1 a2 w0 hm1 y1 hw1 w2
  refine (pelotonlaw02_CurveParts.calls k a0 _ _ l1 a2 true w (Kd.C_of_reads (d := (0 : Int)) (h1 := fun _ => rfl) hr1) hc1 h).mono ?_
  rintro e w' ⟨rfl, hd⟩
  exact ⟨rfl, hd⟩

end Go.Proofs.Ytbkmocebohdgnaa.PCurveParts
