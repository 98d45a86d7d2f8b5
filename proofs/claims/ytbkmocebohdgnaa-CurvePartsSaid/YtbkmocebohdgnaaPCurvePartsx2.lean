-- Written by a program of this session (a driver over the kit's print), with hand-proved parts.
import Derived.Test.YtbkmocebohdgnaaPCurvePartsx0
import Derived.Test.YtbkmocebohdgnaaPCurvePartsx1
namespace Go.Proofs.Ytbkmocebohdgnaa.PCurveParts
open Go.RowKit Go.Proofs.YtbkmocebohdgnaaW.PrintWords Go.Proofs.YtbkmocebohdgnaaW.PrintLast Go.Proofs.YtbkmocebohdgnaaW.PrintMore
attribute [local go_sem] max2_int min2_int max_two min_two max_three min_three max_four min_four   -- for this text's walks alone
set_option linter.unusedVariables false
set_option linter.unusedSimpArgs false

/-! ### pelotonlaw02_awake: function 10 -/
def pelotonlaw02_awake.f (k : Nat)  : Option (Bool) := (curve_Exp.f 0).bind fun t117 => (if t117 = 65536 then ((curve_Exp.f (-65536)).bind fun t118 => (if t118 = 24110 then ((curve_Exp.f (-45426)).bind fun t119 => (if t119 = 32768 then ((curve_Exp.f (-1000000000)).bind fun t120 => (if t120 = 0 then ((curve_Root.f k 99).bind fun t121 => (if t121 = 9 then ((curve_Inverse.f k 4).bind fun t122 => (if t122 = 8388608 then ((curve_Shares.f k 100 (([1, (-5), 2] : List Int))).bind fun t126 => ((pelotonlaw02_ints.f k t126 (([33, 0, 66] : List Int))).bind fun t132 => (some t132))) else (some false))) else (some false))) else (some false))) else (some false))) else (some false))) else (some false))
theorem pelotonlaw02_awake.mono : ∀ k, LeO (pelotonlaw02_awake.f k ) (pelotonlaw02_awake.f (k + 1) ) := by
  intro  k
  unfold pelotonlaw02_awake.f
  repeat' first
      | (with_reducible exact curve_Inverse.mono _ _)
      | (with_reducible exact curve_Root.mono _ _)
      | (with_reducible exact curve_Shares.mono _ _ _)
      | (with_reducible exact pelotonlaw02_ints.mono _ _ _)
      | (with_reducible exact LeO.refl _)
      | (with_reducible exact LeO.none _)
      | (with_reducible refine LeO.ite ?_ ?_)
      | (with_reducible refine LeO.bind ?_ (fun _ => ?_))
      | exact curve_Inverse.mono _ _
      | exact curve_Root.mono _ _
      | exact curve_Shares.mono _ _ _
      | exact pelotonlaw02_ints.mono _ _ _
      | exact LeO.none _
      | refine LeO.ite ?_ ?_
      | refine LeO.bind ?_ (fun _ => ?_)
set_option maxHeartbeats 8000000 in
set_option maxRecDepth 100000 in
theorem pelotonlaw02_awake.calls (k : Nat)  (r : Bool) (w : World) (h : pelotonlaw02_awake.f k  = some r) :
    Calls Try.prog 10 #[] w fun e w' => e = .returned (.bool r) ∧ Below w.heap.size w w' := by
  have HB := Aside0.mk (Below.refl w.heap.size w)
  have H : ((curve_Exp.f 0).bind fun t117 => (if t117 = 65536 then ((curve_Exp.f (-65536)).bind fun t118 => (if t118 = 24110 then ((curve_Exp.f (-45426)).bind fun t119 => (if t119 = 32768 then ((curve_Exp.f (-1000000000)).bind fun t120 => (if t120 = 0 then ((curve_Root.f k 99).bind fun t121 => (if t121 = 9 then ((curve_Inverse.f k 4).bind fun t122 => (if t122 = 8388608 then ((curve_Shares.f k 100 (([1, (-5), 2] : List Int))).bind fun t126 => ((pelotonlaw02_ints.f k t126 (([33, 0, 66] : List Int))).bind fun t132 => (some t132))) else (some false))) else (some false))) else (some false))) else (some false))) else (some false))) else (some false))) = some r := h
  clear h
  replace H := Option.bind_eq_some_iff.mp H
  obtain ⟨t117, A10, H⟩ := H
  replace H : (if t117 = 65536 then ((curve_Exp.f (-65536)).bind fun t118 => (if t118 = 24110 then ((curve_Exp.f (-45426)).bind fun t119 => (if t119 = 32768 then ((curve_Exp.f (-1000000000)).bind fun t120 => (if t120 = 0 then ((curve_Root.f k 99).bind fun t121 => (if t121 = 9 then ((curve_Inverse.f k 4).bind fun t122 => (if t122 = 8388608 then ((curve_Shares.f k 100 (([1, (-5), 2] : List Int))).bind fun t126 => ((pelotonlaw02_ints.f k t126 (([33, 0, 66] : List Int))).bind fun t132 => (some t132))) else (some false))) else (some false))) else (some false))) else (some false))) else (some false))) else (some false)) = some r := H
  have A1 := Aside0.mk A10
  clear A10
  by_cases c2 : t117 = 65536
  · rw [if_pos c2] at H
    have c2b0 : (t117 == 65536) = true := beq_iff_eq.mpr c2
    have c2b1 : (t117 != 65536) = false := bne_eq_false_iff_eq.mpr c2
    clear c2
    replace H := Option.bind_eq_some_iff.mp H
    obtain ⟨t118, A30, H⟩ := H
    replace H : (if t118 = 24110 then ((curve_Exp.f (-45426)).bind fun t119 => (if t119 = 32768 then ((curve_Exp.f (-1000000000)).bind fun t120 => (if t120 = 0 then ((curve_Root.f k 99).bind fun t121 => (if t121 = 9 then ((curve_Inverse.f k 4).bind fun t122 => (if t122 = 8388608 then ((curve_Shares.f k 100 (([1, (-5), 2] : List Int))).bind fun t126 => ((pelotonlaw02_ints.f k t126 (([33, 0, 66] : List Int))).bind fun t132 => (some t132))) else (some false))) else (some false))) else (some false))) else (some false))) else (some false)) = some r := H
    have A3 := Aside0.mk A30
    clear A30
    by_cases c4 : t118 = 24110
    · rw [if_pos c4] at H
      have c4b0 : (t118 == 24110) = true := beq_iff_eq.mpr c4
      have c4b1 : (t118 != 24110) = false := bne_eq_false_iff_eq.mpr c4
      clear c4
      replace H := Option.bind_eq_some_iff.mp H
      obtain ⟨t119, A50, H⟩ := H
      replace H : (if t119 = 32768 then ((curve_Exp.f (-1000000000)).bind fun t120 => (if t120 = 0 then ((curve_Root.f k 99).bind fun t121 => (if t121 = 9 then ((curve_Inverse.f k 4).bind fun t122 => (if t122 = 8388608 then ((curve_Shares.f k 100 (([1, (-5), 2] : List Int))).bind fun t126 => ((pelotonlaw02_ints.f k t126 (([33, 0, 66] : List Int))).bind fun t132 => (some t132))) else (some false))) else (some false))) else (some false))) else (some false)) = some r := H
      have A5 := Aside0.mk A50
      clear A50
      by_cases c6 : t119 = 32768
      · rw [if_pos c6] at H
        have c6b0 : (t119 == 32768) = true := beq_iff_eq.mpr c6
        have c6b1 : (t119 != 32768) = false := bne_eq_false_iff_eq.mpr c6
        clear c6
        replace H := Option.bind_eq_some_iff.mp H
        obtain ⟨t120, A70, H⟩ := H
        replace H : (if t120 = 0 then ((curve_Root.f k 99).bind fun t121 => (if t121 = 9 then ((curve_Inverse.f k 4).bind fun t122 => (if t122 = 8388608 then ((curve_Shares.f k 100 (([1, (-5), 2] : List Int))).bind fun t126 => ((pelotonlaw02_ints.f k t126 (([33, 0, 66] : List Int))).bind fun t132 => (some t132))) else (some false))) else (some false))) else (some false)) = some r := H
        have A7 := Aside0.mk A70
        clear A70
        by_cases c8 : t120 = 0
        · rw [if_pos c8] at H
          have c8b0 : (t120 == 0) = true := beq_iff_eq.mpr c8
          have c8b1 : (t120 != 0) = false := bne_eq_false_iff_eq.mpr c8
          clear c8
          replace H := Option.bind_eq_some_iff.mp H
          obtain ⟨t121, A90, H⟩ := H
          replace H : (if t121 = 9 then ((curve_Inverse.f k 4).bind fun t122 => (if t122 = 8388608 then ((curve_Shares.f k 100 (([1, (-5), 2] : List Int))).bind fun t126 => ((pelotonlaw02_ints.f k t126 (([33, 0, 66] : List Int))).bind fun t132 => (some t132))) else (some false))) else (some false)) = some r := H
          have A9 := Aside0.mk A90
          clear A90
          by_cases c10 : t121 = 9
          · rw [if_pos c10] at H
            have c10b0 : (t121 == 9) = true := beq_iff_eq.mpr c10
            have c10b1 : (t121 != 9) = false := bne_eq_false_iff_eq.mpr c10
            clear c10
            replace H := Option.bind_eq_some_iff.mp H
            obtain ⟨t122, A110, H⟩ := H
            replace H : (if t122 = 8388608 then ((curve_Shares.f k 100 (([1, (-5), 2] : List Int))).bind fun t126 => ((pelotonlaw02_ints.f k t126 (([33, 0, 66] : List Int))).bind fun t132 => (some t132))) else (some false)) = some r := H
            have A11 := Aside0.mk A110
            clear A110
            by_cases c12 : t122 = 8388608
            · rw [if_pos c12] at H
              have c12b0 : (t122 == 8388608) = true := beq_iff_eq.mpr c12
              have c12b1 : (t122 != 8388608) = false := bne_eq_false_iff_eq.mpr c12
              clear c12
              obtain ⟨y123, hy123⟩ : ∃ y_ : List Int, y_ = (([1, (-5), 2] : List Int)) := ⟨_, rfl⟩
              replace H : ((curve_Shares.f k 100 y123).bind fun t126 => ((pelotonlaw02_ints.f k t126 (([33, 0, 66] : List Int))).bind fun t132 => (some t132))) = some r := by first | (rw [hy123]; with_reducible exact H) | (have H2_ := (Option.bind_some _ _).symm.trans H; rw [hy123]; with_reducible exact H2_) | (have H2_ := (Option.bind_some _ _).symm.trans H; with_reducible exact H2_) | with_reducible exact H | (rw [hy123]; exact H) | exact H
              have Ny123 := Aside0.mk hy123
              clear hy123
              replace H := Option.bind_eq_some_iff.mp H
              obtain ⟨t126, A130, H⟩ := H
              replace H : ((pelotonlaw02_ints.f k t126 (([33, 0, 66] : List Int))).bind fun t132 => (some t132)) = some r := H
              have A13 := Aside0.mk A130
              clear A130
              obtain ⟨y129, hy129⟩ : ∃ y_ : List Int, y_ = (([33, 0, 66] : List Int)) := ⟨_, rfl⟩
              replace H : ((pelotonlaw02_ints.f k t126 y129).bind fun t132 => (some t132)) = some r := by first | (rw [hy129]; with_reducible exact H) | (have H2_ := (Option.bind_some _ _).symm.trans H; rw [hy129]; with_reducible exact H2_) | (have H2_ := (Option.bind_some _ _).symm.trans H; with_reducible exact H2_) | with_reducible exact H | (rw [hy129]; exact H) | exact H
              have Ny129 := Aside0.mk hy129
              clear hy129
              replace H := Option.bind_eq_some_iff.mp H
              obtain ⟨t132, A140, H⟩ := H
              replace H : (some t132) = some r := H
              have A14 := Aside0.mk A140
              clear A140
              obtain rfl := Option.some.inj H
              go_enter Try.func10, Try.ntmps10
              go_wp2_with (first | ((with_reducible refine gate_callee (f := 18) rfl ?_); refine goesL_ (some 1) rfl rfl Try.func18 (by kernel_rfl) rfl #[.int .i64 0] rfl (by (try simp only [List.map_toArray, List.map_cons, List.map_nil]); first | done | rfl | (simp only [List.length_drop, List.length_take]; rfl)) ?_; (with_reducible refine (curve_Exp.calls 0 t117 _ A1.out).mono ?_); rintro e w15 ⟨rfl, hb⟩; refine ⟨_, rfl, ?_⟩; have n0_ := Aside0.mk (below_step (by repeat (first | (with_reducible first | exact HB.out | apply below_alloc | apply pw_below_drewN | apply below_drew1) | exact HB.out)) hb); clear HB; have HB := n0_; clear n0_; (try clear hb); (try clear hb2); (try clear hk); (try clear hi)) | (go_at_call 18; (with_reducible refine (curve_Exp.calls (-65536) t118 _ A3.out).mono ?_); rintro e w16 ⟨rfl, hb⟩; have n0_ := Aside0.mk (below_step (by repeat (first | (with_reducible first | exact HB.out | apply below_alloc | apply pw_below_drewN | apply below_drew1) | exact HB.out)) hb); clear HB; have HB := n0_; clear n0_; (try clear hb); (try clear hb2); (try clear hk); (try clear hi)) | (go_at_call 18; (with_reducible refine (curve_Exp.calls (-45426) t119 _ A5.out).mono ?_); rintro e w17 ⟨rfl, hb⟩; have n0_ := Aside0.mk (below_step (by repeat (first | (with_reducible first | exact HB.out | apply below_alloc | apply pw_below_drewN | apply below_drew1) | exact HB.out)) hb); clear HB; have HB := n0_; clear n0_; (try clear hb); (try clear hb2); (try clear hk); (try clear hi)) | (go_at_call 18; (with_reducible refine (curve_Exp.calls (-1000000000) t120 _ A7.out).mono ?_); rintro e w18 ⟨rfl, hb⟩; have n0_ := Aside0.mk (below_step (by repeat (first | (with_reducible first | exact HB.out | apply below_alloc | apply pw_below_drewN | apply below_drew1) | exact HB.out)) hb); clear HB; have HB := n0_; clear n0_; (try clear hb); (try clear hb2); (try clear hk); (try clear hi)) | (go_at_call 11; (with_reducible refine (curve_Root.calls k 99 t121 _ A9.out).mono ?_); rintro e w' ⟨rfl, ⟨nd, rfl⟩⟩) | (go_at_call 13; (with_reducible refine (curve_Inverse.calls k 4 t122 _ A11.out).mono ?_); rintro e w' ⟨rfl, ⟨nd, rfl⟩⟩) | ((with_reducible refine gate_dst (N := 24) rfl ?_); (try (refine gate_guard (by rfl) ?_; dsimp only)); refine Kd.R_lit (Kd.int .i32) _ 21 ?hg (N := 24) ?hd (xs := ([1, (-5), 2] : List Int)) (inner := [.int .i32 1, .int .i32 (-5), .int .i32 2]) (ok := fun _ => True) (okp := fun _ => True) ?hr ?hp (fun _ hk => hk) trivial (Below.refl _ _) (Nat.le_refl _) (by simp) ?_; (case hd => rfl); (case hg => rfl); (case hr => first | (go_simp; done) | (go_simp; rfl)); (case hp => exact (Reps.one (show Kd.M (Kd.int .i32) _ _ _ 1 [.int .i32 1] from rfl) (Reps.one (show Kd.M (Kd.int .i32) _ _ _ (-5) [.int .i32 (-5)] from rfl) (Reps.one (show Kd.M (Kd.int .i32) _ _ _ 2 [.int .i32 2] from rfl) (Reps.none _ _))))); intro v124 w19 ho20 hb hg_ hnew_; clear hg_ hnew_; (first | rw [← Ny123.out] at ho20 | (simp only [Int.reduceToNat] at ho20; rw [← Ny123.out] at ho20)); have n0_ := Aside0.mk (Kd.R_lower ho20 (below_size (by repeat (first | (with_reducible first | exact HB.out | apply below_alloc | apply pw_below_drewN | apply below_drew1) | exact HB.out)))); have n1_ := Aside0.mk (below_step (by repeat (first | (with_reducible first | exact HB.out | apply below_alloc | apply pw_below_drewN | apply below_drew1) | exact HB.out)) hb); clear HB; have HO125 := n0_; have HB := n1_; clear n0_ n1_; clear hb ho20; obtain ⟨Ao21, co21, eo21⟩ := Kd.R_slice HO125.out; subst eo21) | (go_at_call 16; (with_reducible refine (curve_Shares.calls k 100 _ _ y123 t126 _ ?side1 ?side2 A13.out).mono ?_); (case side1 => repeat (first | exact (Kd.R_reads' HO125.out).2.2 | (with_reducible refine Kd.C_alloc ?_ _) | (with_reducible refine Kd.C_drewN ?_ _) | (with_reducible refine Kd.C_drew ?_))); (case side2 => exact (Kd.R_reads' HO125.out).2.1); rintro e w22 ⟨v127, rfl, ho0, hb⟩; have n0_ := Aside0.mk (Kd.R_elder' (by (with_reducible repeat (first | apply Kd.R_alloc | apply Kd.R_drewN | apply Kd.R_drew)); exact HO125.out) (Kd.R_base ho0) hb); have n1_ := Aside0.mk (Kd.R_lower (Kd.R_new' ho0 (Kd.R_lt (by (with_reducible repeat (first | apply Kd.R_alloc | apply Kd.R_drewN | apply Kd.R_drew)); exact HO125.out))) (below_size (by repeat (first | (with_reducible first | exact HB.out | apply below_alloc | apply pw_below_drewN | apply below_drew1) | exact HB.out)))); have n2_ := Aside0.mk (below_step (by repeat (first | (with_reducible first | exact HB.out | apply below_alloc | apply pw_below_drewN | apply below_drew1) | exact HB.out)) hb); clear HO125; clear HB; have HO125 := n0_; have HO128 := n1_; have HB := n2_; clear n0_ n1_ n2_; (try clear hb); (try clear hb2); (try clear hk); (try clear hi); (try clear ho0)) | ((with_reducible refine gate_dst (N := 26) rfl ?_); (try (refine gate_guard (by rfl) ?_; dsimp only)); refine Kd.R_lit (Kd.int .i32) _ 21 ?hg (N := 26) ?hd (xs := ([33, 0, 66] : List Int)) (inner := [.int .i32 33, .int .i32 0, .int .i32 66]) (ok := fun _ => True) (okp := fun _ => True) ?hr ?hp (fun _ hk => hk) trivial (Below.refl _ _) (Nat.le_refl _) (by simp) ?_; (case hd => rfl); (case hg => rfl); (case hr => first | (go_simp; done) | (go_simp; rfl)); (case hp => exact (Reps.one (show Kd.M (Kd.int .i32) _ _ _ 33 [.int .i32 33] from rfl) (Reps.one (show Kd.M (Kd.int .i32) _ _ _ 0 [.int .i32 0] from rfl) (Reps.one (show Kd.M (Kd.int .i32) _ _ _ 66 [.int .i32 66] from rfl) (Reps.none _ _))))); intro v130 w23 ho24 hb hg_ hnew_; clear hg_ hnew_; (first | rw [← Ny129.out] at ho24 | (simp only [Int.reduceToNat] at ho24; rw [← Ny129.out] at ho24)); have n0_ := Aside0.mk (Kd.R_elder' (by (with_reducible repeat (first | apply Kd.R_alloc | apply Kd.R_drewN | apply Kd.R_drew)); exact HO125.out) (Kd.R_base ho24) hb); have n1_ := Aside0.mk (Kd.R_elder' (by (with_reducible repeat (first | apply Kd.R_alloc | apply Kd.R_drewN | apply Kd.R_drew)); exact HO128.out) (Kd.R_base ho24) hb); have n2_ := Aside0.mk (Kd.R_lower (Kd.R_new' (Kd.R_new' ho24 (Kd.R_lt (by (with_reducible repeat (first | apply Kd.R_alloc | apply Kd.R_drewN | apply Kd.R_drew)); exact HO125.out))) (Kd.R_lt (by (with_reducible repeat (first | apply Kd.R_alloc | apply Kd.R_drewN | apply Kd.R_drew)); exact HO128.out))) (below_size (by repeat (first | (with_reducible first | exact HB.out | apply below_alloc | apply pw_below_drewN | apply below_drew1) | exact HB.out)))); have n3_ := Aside0.mk (below_step (by repeat (first | (with_reducible first | exact HB.out | apply below_alloc | apply pw_below_drewN | apply below_drew1) | exact HB.out)) hb); clear HO125; clear HO128; clear HB; have HO125 := n0_; have HO128 := n1_; have HO131 := n2_; have HB := n3_; clear n0_ n1_ n2_ n3_; clear hb ho24; obtain ⟨Ao25, co25, eo25⟩ := Kd.R_slice HO128.out; subst eo25; obtain ⟨Ao26, co26, eo26⟩ := Kd.R_slice HO131.out; subst eo26) | (go_at_call 15; (with_reducible refine (pelotonlaw02_ints.calls k _ _ t126 _ _ y129 t132 _ ?side1 ?side2 ?side3 ?side4 A14.out).mono ?_); (case side1 => repeat (first | exact (Kd.R_reads' HO128.out).2.2 | (with_reducible refine Kd.C_alloc ?_ _) | (with_reducible refine Kd.C_drewN ?_ _) | (with_reducible refine Kd.C_drew ?_))); (case side2 => exact (Kd.R_reads' HO128.out).2.1); (case side3 => repeat (first | exact (Kd.R_reads' HO131.out).2.2 | (with_reducible refine Kd.C_alloc ?_ _) | (with_reducible refine Kd.C_drewN ?_ _) | (with_reducible refine Kd.C_drew ?_))); (case side4 => exact (Kd.R_reads' HO131.out).2.1); rintro e w' ⟨rfl, ⟨nd, rfl⟩⟩))
              go_ret
              exact ⟨by first | rfl | (simp [errW_none, errW_some] <;> rfl) | (simp [*, errW_none, errW_some] <;> rfl), by repeat (first | (with_reducible first | exact HB.out | apply below_alloc | apply pw_below_drewN | apply below_drew1) | exact HB.out)⟩
            · rw [if_neg c12] at H
              have c12b0 : (t122 == 8388608) = false := beq_eq_false_iff_ne.mpr c12
              have c12b1 : (t122 != 8388608) = true := bne_iff_ne.mpr c12
              obtain rfl := Option.some.inj H
              go_enter Try.func10, Try.ntmps10
              go_wp2_with (first | ((with_reducible refine gate_callee (f := 18) rfl ?_); refine goesL_ (some 1) rfl rfl Try.func18 (by kernel_rfl) rfl #[.int .i64 0] rfl (by (try simp only [List.map_toArray, List.map_cons, List.map_nil]); first | done | rfl | (simp only [List.length_drop, List.length_take]; rfl)) ?_; (with_reducible refine (curve_Exp.calls 0 t117 _ A1.out).mono ?_); rintro e w27 ⟨rfl, hb⟩; refine ⟨_, rfl, ?_⟩; have n0_ := Aside0.mk (below_step (by repeat (first | (with_reducible first | exact HB.out | apply below_alloc | apply pw_below_drewN | apply below_drew1) | exact HB.out)) hb); clear HB; have HB := n0_; clear n0_; (try clear hb); (try clear hb2); (try clear hk); (try clear hi)) | (go_at_call 18; (with_reducible refine (curve_Exp.calls (-65536) t118 _ A3.out).mono ?_); rintro e w28 ⟨rfl, hb⟩; have n0_ := Aside0.mk (below_step (by repeat (first | (with_reducible first | exact HB.out | apply below_alloc | apply pw_below_drewN | apply below_drew1) | exact HB.out)) hb); clear HB; have HB := n0_; clear n0_; (try clear hb); (try clear hb2); (try clear hk); (try clear hi)) | (go_at_call 18; (with_reducible refine (curve_Exp.calls (-45426) t119 _ A5.out).mono ?_); rintro e w29 ⟨rfl, hb⟩; have n0_ := Aside0.mk (below_step (by repeat (first | (with_reducible first | exact HB.out | apply below_alloc | apply pw_below_drewN | apply below_drew1) | exact HB.out)) hb); clear HB; have HB := n0_; clear n0_; (try clear hb); (try clear hb2); (try clear hk); (try clear hi)) | (go_at_call 18; (with_reducible refine (curve_Exp.calls (-1000000000) t120 _ A7.out).mono ?_); rintro e w30 ⟨rfl, hb⟩; have n0_ := Aside0.mk (below_step (by repeat (first | (with_reducible first | exact HB.out | apply below_alloc | apply pw_below_drewN | apply below_drew1) | exact HB.out)) hb); clear HB; have HB := n0_; clear n0_; (try clear hb); (try clear hb2); (try clear hk); (try clear hi)) | (go_at_call 11; (with_reducible refine (curve_Root.calls k 99 t121 _ A9.out).mono ?_); rintro e w' ⟨rfl, ⟨nd, rfl⟩⟩) | (go_at_call 13; (with_reducible refine (curve_Inverse.calls k 4 t122 _ A11.out).mono ?_); rintro e w' ⟨rfl, ⟨nd, rfl⟩⟩))
              go_ret
              exact ⟨by first | rfl | (simp [errW_none, errW_some] <;> rfl) | (simp [*, errW_none, errW_some] <;> rfl), by repeat (first | (with_reducible first | exact HB.out | apply below_alloc | apply pw_below_drewN | apply below_drew1) | exact HB.out)⟩
          · rw [if_neg c10] at H
            have c10b0 : (t121 == 9) = false := beq_eq_false_iff_ne.mpr c10
            have c10b1 : (t121 != 9) = true := bne_iff_ne.mpr c10
            obtain rfl := Option.some.inj H
            go_enter Try.func10, Try.ntmps10
            go_wp2_with (first | ((with_reducible refine gate_callee (f := 18) rfl ?_); refine goesL_ (some 1) rfl rfl Try.func18 (by kernel_rfl) rfl #[.int .i64 0] rfl (by (try simp only [List.map_toArray, List.map_cons, List.map_nil]); first | done | rfl | (simp only [List.length_drop, List.length_take]; rfl)) ?_; (with_reducible refine (curve_Exp.calls 0 t117 _ A1.out).mono ?_); rintro e w31 ⟨rfl, hb⟩; refine ⟨_, rfl, ?_⟩; have n0_ := Aside0.mk (below_step (by repeat (first | (with_reducible first | exact HB.out | apply below_alloc | apply pw_below_drewN | apply below_drew1) | exact HB.out)) hb); clear HB; have HB := n0_; clear n0_; (try clear hb); (try clear hb2); (try clear hk); (try clear hi)) | (go_at_call 18; (with_reducible refine (curve_Exp.calls (-65536) t118 _ A3.out).mono ?_); rintro e w32 ⟨rfl, hb⟩; have n0_ := Aside0.mk (below_step (by repeat (first | (with_reducible first | exact HB.out | apply below_alloc | apply pw_below_drewN | apply below_drew1) | exact HB.out)) hb); clear HB; have HB := n0_; clear n0_; (try clear hb); (try clear hb2); (try clear hk); (try clear hi)) | (go_at_call 18; (with_reducible refine (curve_Exp.calls (-45426) t119 _ A5.out).mono ?_); rintro e w33 ⟨rfl, hb⟩; have n0_ := Aside0.mk (below_step (by repeat (first | (with_reducible first | exact HB.out | apply below_alloc | apply pw_below_drewN | apply below_drew1) | exact HB.out)) hb); clear HB; have HB := n0_; clear n0_; (try clear hb); (try clear hb2); (try clear hk); (try clear hi)) | (go_at_call 18; (with_reducible refine (curve_Exp.calls (-1000000000) t120 _ A7.out).mono ?_); rintro e w34 ⟨rfl, hb⟩; have n0_ := Aside0.mk (below_step (by repeat (first | (with_reducible first | exact HB.out | apply below_alloc | apply pw_below_drewN | apply below_drew1) | exact HB.out)) hb); clear HB; have HB := n0_; clear n0_; (try clear hb); (try clear hb2); (try clear hk); (try clear hi)) | (go_at_call 11; (with_reducible refine (curve_Root.calls k 99 t121 _ A9.out).mono ?_); rintro e w' ⟨rfl, ⟨nd, rfl⟩⟩))
            go_ret
            exact ⟨by first | rfl | (simp [errW_none, errW_some] <;> rfl) | (simp [*, errW_none, errW_some] <;> rfl), by repeat (first | (with_reducible first | exact HB.out | apply below_alloc | apply pw_below_drewN | apply below_drew1) | exact HB.out)⟩
        · rw [if_neg c8] at H
          have c8b0 : (t120 == 0) = false := beq_eq_false_iff_ne.mpr c8
          have c8b1 : (t120 != 0) = true := bne_iff_ne.mpr c8
          obtain rfl := Option.some.inj H
          go_enter Try.func10, Try.ntmps10
          go_wp2_with (first | ((with_reducible refine gate_callee (f := 18) rfl ?_); refine goesL_ (some 1) rfl rfl Try.func18 (by kernel_rfl) rfl #[.int .i64 0] rfl (by (try simp only [List.map_toArray, List.map_cons, List.map_nil]); first | done | rfl | (simp only [List.length_drop, List.length_take]; rfl)) ?_; (with_reducible refine (curve_Exp.calls 0 t117 _ A1.out).mono ?_); rintro e w35 ⟨rfl, hb⟩; refine ⟨_, rfl, ?_⟩; have n0_ := Aside0.mk (below_step (by repeat (first | (with_reducible first | exact HB.out | apply below_alloc | apply pw_below_drewN | apply below_drew1) | exact HB.out)) hb); clear HB; have HB := n0_; clear n0_; (try clear hb); (try clear hb2); (try clear hk); (try clear hi)) | (go_at_call 18; (with_reducible refine (curve_Exp.calls (-65536) t118 _ A3.out).mono ?_); rintro e w36 ⟨rfl, hb⟩; have n0_ := Aside0.mk (below_step (by repeat (first | (with_reducible first | exact HB.out | apply below_alloc | apply pw_below_drewN | apply below_drew1) | exact HB.out)) hb); clear HB; have HB := n0_; clear n0_; (try clear hb); (try clear hb2); (try clear hk); (try clear hi)) | (go_at_call 18; (with_reducible refine (curve_Exp.calls (-45426) t119 _ A5.out).mono ?_); rintro e w37 ⟨rfl, hb⟩; have n0_ := Aside0.mk (below_step (by repeat (first | (with_reducible first | exact HB.out | apply below_alloc | apply pw_below_drewN | apply below_drew1) | exact HB.out)) hb); clear HB; have HB := n0_; clear n0_; (try clear hb); (try clear hb2); (try clear hk); (try clear hi)) | (go_at_call 18; (with_reducible refine (curve_Exp.calls (-1000000000) t120 _ A7.out).mono ?_); rintro e w38 ⟨rfl, hb⟩; have n0_ := Aside0.mk (below_step (by repeat (first | (with_reducible first | exact HB.out | apply below_alloc | apply pw_below_drewN | apply below_drew1) | exact HB.out)) hb); clear HB; have HB := n0_; clear n0_; (try clear hb); (try clear hb2); (try clear hk); (try clear hi)))
          go_ret
          exact ⟨by first | rfl | (simp [errW_none, errW_some] <;> rfl) | (simp [*, errW_none, errW_some] <;> rfl), by repeat (first | (with_reducible first | exact HB.out | apply below_alloc | apply pw_below_drewN | apply below_drew1) | exact HB.out)⟩
      · rw [if_neg c6] at H
        have c6b0 : (t119 == 32768) = false := beq_eq_false_iff_ne.mpr c6
        have c6b1 : (t119 != 32768) = true := bne_iff_ne.mpr c6
        obtain rfl := Option.some.inj H
        go_enter Try.func10, Try.ntmps10
        go_wp2_with (first | ((with_reducible refine gate_callee (f := 18) rfl ?_); refine goesL_ (some 1) rfl rfl Try.func18 (by kernel_rfl) rfl #[.int .i64 0] rfl (by (try simp only [List.map_toArray, List.map_cons, List.map_nil]); first | done | rfl | (simp only [List.length_drop, List.length_take]; rfl)) ?_; (with_reducible refine (curve_Exp.calls 0 t117 _ A1.out).mono ?_); rintro e w39 ⟨rfl, hb⟩; refine ⟨_, rfl, ?_⟩; have n0_ := Aside0.mk (below_step (by repeat (first | (with_reducible first | exact HB.out | apply below_alloc | apply pw_below_drewN | apply below_drew1) | exact HB.out)) hb); clear HB; have HB := n0_; clear n0_; (try clear hb); (try clear hb2); (try clear hk); (try clear hi)) | (go_at_call 18; (with_reducible refine (curve_Exp.calls (-65536) t118 _ A3.out).mono ?_); rintro e w40 ⟨rfl, hb⟩; have n0_ := Aside0.mk (below_step (by repeat (first | (with_reducible first | exact HB.out | apply below_alloc | apply pw_below_drewN | apply below_drew1) | exact HB.out)) hb); clear HB; have HB := n0_; clear n0_; (try clear hb); (try clear hb2); (try clear hk); (try clear hi)) | (go_at_call 18; (with_reducible refine (curve_Exp.calls (-45426) t119 _ A5.out).mono ?_); rintro e w41 ⟨rfl, hb⟩; have n0_ := Aside0.mk (below_step (by repeat (first | (with_reducible first | exact HB.out | apply below_alloc | apply pw_below_drewN | apply below_drew1) | exact HB.out)) hb); clear HB; have HB := n0_; clear n0_; (try clear hb); (try clear hb2); (try clear hk); (try clear hi)))
        go_ret
        exact ⟨by first | rfl | (simp [errW_none, errW_some] <;> rfl) | (simp [*, errW_none, errW_some] <;> rfl), by repeat (first | (with_reducible first | exact HB.out | apply below_alloc | apply pw_below_drewN | apply below_drew1) | exact HB.out)⟩
    · rw [if_neg c4] at H
      have c4b0 : (t118 == 24110) = false := beq_eq_false_iff_ne.mpr c4
      have c4b1 : (t118 != 24110) = true := bne_iff_ne.mpr c4
      obtain rfl := Option.some.inj H
      go_enter Try.func10, Try.ntmps10
      go_wp2_with (first | ((with_reducible refine gate_callee (f := 18) rfl ?_); refine goesL_ (some 1) rfl rfl Try.func18 (by kernel_rfl) rfl #[.int .i64 0] rfl (by (try simp only [List.map_toArray, List.map_cons, List.map_nil]); first | done | rfl | (simp only [List.length_drop, List.length_take]; rfl)) ?_; (with_reducible refine (curve_Exp.calls 0 t117 _ A1.out).mono ?_); rintro e w42 ⟨rfl, hb⟩; refine ⟨_, rfl, ?_⟩; have n0_ := Aside0.mk (below_step (by repeat (first | (with_reducible first | exact HB.out | apply below_alloc | apply pw_below_drewN | apply below_drew1) | exact HB.out)) hb); clear HB; have HB := n0_; clear n0_; (try clear hb); (try clear hb2); (try clear hk); (try clear hi)) | (go_at_call 18; (with_reducible refine (curve_Exp.calls (-65536) t118 _ A3.out).mono ?_); rintro e w43 ⟨rfl, hb⟩; have n0_ := Aside0.mk (below_step (by repeat (first | (with_reducible first | exact HB.out | apply below_alloc | apply pw_below_drewN | apply below_drew1) | exact HB.out)) hb); clear HB; have HB := n0_; clear n0_; (try clear hb); (try clear hb2); (try clear hk); (try clear hi)))
      go_ret
      exact ⟨by first | rfl | (simp [errW_none, errW_some] <;> rfl) | (simp [*, errW_none, errW_some] <;> rfl), by repeat (first | (with_reducible first | exact HB.out | apply below_alloc | apply pw_below_drewN | apply below_drew1) | exact HB.out)⟩
  · rw [if_neg c2] at H
    have c2b0 : (t117 == 65536) = false := beq_eq_false_iff_ne.mpr c2
    have c2b1 : (t117 != 65536) = true := bne_iff_ne.mpr c2
    obtain rfl := Option.some.inj H
    go_enter Try.func10, Try.ntmps10
    go_wp2_with (first | ((with_reducible refine gate_callee (f := 18) rfl ?_); refine goesL_ (some 1) rfl rfl Try.func18 (by kernel_rfl) rfl #[.int .i64 0] rfl (by (try simp only [List.map_toArray, List.map_cons, List.map_nil]); first | done | rfl | (simp only [List.length_drop, List.length_take]; rfl)) ?_; (with_reducible refine (curve_Exp.calls 0 t117 _ A1.out).mono ?_); rintro e w44 ⟨rfl, hb⟩; refine ⟨_, rfl, ?_⟩; have n0_ := Aside0.mk (below_step (by repeat (first | (with_reducible first | exact HB.out | apply below_alloc | apply pw_below_drewN | apply below_drew1) | exact HB.out)) hb); clear HB; have HB := n0_; clear n0_; (try clear hb); (try clear hb2); (try clear hk); (try clear hi)))
    go_ret
    exact ⟨by first | rfl | (simp [errW_none, errW_some] <;> rfl) | (simp [*, errW_none, errW_some] <;> rfl), by repeat (first | (with_reducible first | exact HB.out | apply below_alloc | apply pw_below_drewN | apply below_drew1) | exact HB.out)⟩

end Go.Proofs.Ytbkmocebohdgnaa.PCurveParts
