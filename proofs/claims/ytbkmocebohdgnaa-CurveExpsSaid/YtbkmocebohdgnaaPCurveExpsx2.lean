-- Written by a program of this session (a driver over the kit's print), with hand-proved parts.
import Derived.Test.YtbkmocebohdgnaaPCurveExpsx0
import Derived.Test.YtbkmocebohdgnaaPCurveExpsx1
namespace Go.Proofs.Ytbkmocebohdgnaa.PCurveExps
open Go.RowKit Go.Proofs.YtbkmocebohdgnaaW.PrintWords Go.Proofs.YtbkmocebohdgnaaW.PrintLast Go.Proofs.YtbkmocebohdgnaaW.PrintMore
attribute [local go_sem] max2_int min2_int max_two min_two max_three min_three max_four min_four   -- for this text's walks alone
set_option linter.unusedVariables false
set_option linter.unusedSimpArgs false

/-! ### pelotonlaw02_awake: function 10 -/
def pelotonlaw02_awake.f (k : Nat)  : Option (Bool) := (curve_Exp.f 0).bind fun t117 => (if t117 = 65536 then ((curve_Exp.f (-65536)).bind fun t118 => (if t118 = 24110 then ((curve_Exp.f (-45426)).bind fun t119 => (if t119 = 32768 then ((curve_Exp.f (-1000000000)).bind fun t120 => (if t120 = 0 then ((curve_Root.f k 99).bind fun t121 => (if t121 = 9 then ((curve_Inverse.f k 4).bind fun t122 => (if t122 = 8388608 then ((curve_Shares.f k 100 (([1, (-5), 2] : List Int))).bind fun t126 => ((pelotonlaw02_ints.f k t126 (([33, 0, 66] : List Int))).bind fun t132 => (some t132))) else (some false))) else (some false))) else (some false))) else (some false))) else (some false))) else (some false))
theorem pelotonlaw02_awake.mono : ∀ k, LeO (pelotonlaw02_awake.f k ) (pelotonlaw02_awake.f (k + 1) ) := by
  intro  k
  unfold pelotonlaw02_awake.f
  repeat' first
      | (with_reducible exact curve_Inverse.mono _ _)
      | (with_reducible exact curve_Root.mono _ _)
      | (with_reducible exact curve_Shares.mono _ _ _)
      | (with_reducible exact pelotonlaw02_ints.mono _ _ _)
      | (with_reducible exact LeO.refl _)
      | (with_reducible exact LeO.none _)
      | (with_reducible refine LeO.ite ?_ ?_)
      | (with_reducible refine LeO.bind ?_ (fun _ => ?_))
      | exact curve_Inverse.mono _ _
      | exact curve_Root.mono _ _
      | exact curve_Shares.mono _ _ _
      | exact pelotonlaw02_ints.mono _ _ _
      | exact LeO.none _
      | refine LeO.ite ?_ ?_
      | refine LeO.bind ?_ (fun _ => ?_)
set_option maxHeartbeats 8000000 in
set_option maxRecDepth 100000 in
theorem pelotonlaw02_awake.calls (k : Nat)  (r : Bool) (w : World) (h : pelotonlaw02_awake.f k  = some r) :
    Calls Try.prog 10 #[] w fun e w' => e = .returned (.bool r) ∧ Below w.heap.size w w' := by
  have HB := Aside0.mk (Below.refl w.heap.size w)
  have H : ((curve_Exp.f 0).bind fun t117 => (if t117 = 65536 then ((curve_Exp.f (-65536)).bind fun t118 => (if t118 = 24110 then ((curve_Exp.f (-45426)).bind fun t119 => (if t119 = 32768 then ((curve_Exp.f (-1000000000)).bind fun t120 => (if t120 = 0 then ((curve_Root.f k 99).bind fun t121 => (if t121 = 9 then ((curve_Inverse.f k 4).bind fun t122 => (if t122 = 8388608 then ((curve_Shares.f k 100 (([1, (-5), 2] : List Int))).bind fun t126 => ((pelotonlaw02_ints.f k t126 (([33, 0, 66] : List Int))).bind fun t132 => (some t132))) else (some false))) else (some false))) else (some false))) else (some false))) else (some false))) else (some false))) = some r := h
  clear h
  replace H := Option.bind_eq_some_iff.mp H
  obtain ⟨t117, A10, H⟩ := H
  replace H : (if t117 = 65536 then ((curve_Exp.f (-65536)).bind fun t118 => (if t118 = 24110 then ((curve_Exp.f (-45426)).bind fun t119 => (if t119 = 32768 then ((curve_Exp.f (-1000000000)).bind fun t120 => (if t120 = 0 then ((curve_Root.f k 99).bind fun t121 => (if t121 = 9 then ((curve_Inverse.f k 4).bind fun t122 => (if t122 = 8388608 then ((curve_Shares.f k 100 (([1, (-5), 2] : List Int))).bind fun t126 => ((pelotonlaw02_ints.f k t126 (([33, 0, 66] : List Int))).bind fun t132 => (some t132))) else (some false))) else (some false))) else (some false))) else (some false))) else (some false))) else (some false)) = some r := H
  have A1 := Aside0.mk A10
  clear A10
  by_cases c2 : t117 = 65536
  · rw [if_pos c2] at H
    have c2b0 : (t117 == 65536) = true := beq_iff_eq.mpr c2
    have c2b1 : (t117 != 65536) = false := bne_eq_false_iff_eq.mpr c2
    clear c2
    replace H := Option.bind_eq_some_iff.mp H
    obtain ⟨t118, A30, H⟩ := H
    replace H : (if t118 = 24110 then ((curve_Exp.f (-45426)).bind fun t119 => (if t119 = 32768 then ((curve_Exp.f (-1000000000)).bind fun t120 => (if t120 = 0 then ((curve_Root.f k 99).bind fun t121 => (if t121 = 9 then ((curve_Inverse.f k 4).bind fun t122 => (if t122 = 8388608 then ((curve_Shares.f k 100 (([1, (-5), 2] : List Int))).bind fun t126 => ((pelotonlaw02_ints.f k t126 (([33, 0, 66] : List Int))).bind fun t132 => (some t132))) else (some false))) else (some false))) else (some false))) else (some false))) else (some false)) = some r := H
    have A3 := Aside0.mk A30
    clear A30
    by_cases c4 : t118 = 24110
    · rw [if_pos c4] at H
      have c4b0 : (t118 == 24110) = true := beq_iff_eq.mpr c4
      have c4b1 : (t118 != 24110) = false := bne_eq_false_iff_eq.mpr c4
      clear c4
      replace H := Option.bind_eq_some_iff.mp H
      obtain ⟨t119, A50, H⟩ := H
      replace H : (if t119 = 32768 then ((curve_Exp.f (-1000000000)).bind fun t120 => (if t120 = 0 then ((curve_Root.f k 99).bind fun t121 => (if t121 = 9 then ((curve_Inverse.f k 4).bind fun t122 => (if t122 = 8388608 then ((curve_Shares.f k 100 (([1, (-5), 2] : List Int))).bind fun t126 => ((pelotonlaw02_ints.f k t126 (([33, 0, 66] : List Int))).bind fun t132 => (some t132))) else (some false))) else (some false))) else (some false))) else (some false)) = some r := H
      have A5 := Aside0.mk A50
      clear A50
      by_cases c6 : t119 = 32768
      · rw [if_pos c6] at H
        have c6b0 : (t119 == 32768) = true := beq_iff_eq.mpr c6
        have c6b1 : (t119 != 32768) = false := bne_eq_false_iff_eq.mpr c6
        clear c6
        replace H := Option.bind_eq_some_iff.mp H
        obtain ⟨t120, A70, H⟩ := H
        replace H : (if t120 = 0 then ((curve_Root.f k 99).bind fun t121 => (if t121 = 9 then ((curve_Inverse.f k 4).bind fun t122 => (if t122 = 8388608 then ((curve_Shares.f k 100 (([1, (-5), 2] : List Int))).bind fun t126 => ((pelotonlaw02_ints.f k t126 (([33, 0, 66] : List Int))).bind fun t132 => (some t132))) else (some false))) else (some false))) else (some false)) = some r := H
        have A7 := Aside0.mk A70
        clear A70
        by_cases c8 : t120 = 0
        · rw [if_pos c8] at H
          have c8b0 : (t120 == 0) = true := beq_iff_eq.mpr c8
          have c8b1 : (t120 != 0) = false := bne_eq_false_iff_eq.mpr c8
          clear c8
          replace H := Option.bind_eq_some_iff.mp H
          obtain ⟨t121, A90, H⟩ := H
          replace H : (if t121 = 9 then ((curve_Inverse.f k 4).bind fun t122 => (if t122 = 8388608 then ((curve_Shares.f k 100 (([1, (-5), 2] : List Int))).bind fun t126 => ((pelotonlaw02_ints.f k t126 (([33, 0, 66] : List Int))).bind fun t132 => (some t132))) else (some false))) else (some false)) = some r := H
          have A9 := Aside0.mk A90
          clear A90
          by_cases c10 : t121 = 9
          · rw [if_pos c10] at H
            have c10b0 : (t121 == 9) = true := beq_iff_eq.mpr c10
            have c10b1 : (t121 != 9) = false := bne_eq_false_iff_eq.mpr c10
            clear c10
            replace H := Option.bind_eq_some_iff.mp H
            obtain ⟨t122, A110, H⟩ := H
            replace H : (if t122 = 8388608 then ((curve_Shares.f k 100 (([1, (-5), 2] : List Int))).bind fun t126 => ((pelotonlaw02_ints.f k t126 (([33, 0, 66] : List Int))).bind fun t132 => (some t132))) else (some false)) = some r := H
            have A11 := Aside0.mk A110
            clear A110
            by_cases c12 : t122 = 8388608
            · rw [if_pos c12] at H
              have c12b0 : (t122 == 8388608) = true := beq_iff_eq.mpr c12
              have c12b1 : (t122 != 8388608) = false := bne_eq_false_iff_eq.mpr c12
              clear c12
              obtain ⟨y123, hy123⟩ : ∃ y_ : List Int, y_ = (([1, (-5), 2] : List Int)) := ⟨_, rfl⟩
              replace H : ((curve_Shares.f k 100 y123).bind fun t126 => ((pelotonlaw02_ints.f k t126 (([33, 0, 66] : List Int))).bind fun t132 => (some t132))) = some r := by first | (rw [hy123]; with_reducible exact H) | (have H2_ := (Option.bind_some _ _).symm.trans H; rw [hy123]; with_reducible exact H2_) | (have H2_ := (Option.bind_some _ _).symm.trans H; with_reducible exact H2_) | with_reducible exact H | (rw [hy123]; exact H) | exact H
              have Ny123 := Aside0.mk hy123
              clear hy123
              replace H := Option.bind_eq_some_iff.mp H
              obtain ⟨t126, A130, H⟩ := H
              replace H : ((pelotonlaw02_ints.f k t126 (([33, 0, 66] : List Int))).bind fun t132 => (some t132)) = some r := H
              have A13 := Aside0.mk A130
              clear A130
              obtain ⟨y129, hy129⟩ : ∃ y_ : List Int, y_ = (([33, 0, 66] : List Int)) := ⟨_, rfl⟩
              replace H : ((pelotonlaw02_ints.f k t126 y129).bind fun t132 => (some t132)) = some r := by first | (rw [hy129]; with_reducible exact H) | (have H2_ := (Option.bind_some _ _).symm.trans H; rw [hy129]; with_reducible exact H2_) | (have H2_ := (Option.bind_some _ _).symm.trans H; with_reducible exact H2_) | with_reducible exact H | (rw [hy129]; exact H) | exact H
              have Ny129 := Aside0.mk hy129
              clear hy129
              replace H := Option.bind_eq_some_iff.mp H
              obtain ⟨t132, A140, H⟩ := H
              replace H : (some t132) = some r := H
              have A14 := Aside0.mk A140
              clear A140
              obtain rfl := Option.some.inj H
              go_enter Try.func10, Try.ntmps10
              go_wp2_with (first | ((with_reducible refine gate_callee (f := 18) rfl ?_); refine goesL_ (some 1) rfl rfl Try.func18 (by kernel_rfl) rfl #[.int .i64 0] rfl (by (try simp only [List.map_toArray, List.map_cons, List.map_nil]); first | done | rfl | (simp only [List.length_drop, List.length_take]; rfl)) ?_; (with_reducible refine (curve_Exp.calls 0 t117 _ A1.out).mono ?_); rintro e w15 ⟨rfl, hb⟩; refine ⟨_, rfl, ?_⟩; have n0_ := Aside0.mk (below_step (by repeat (first | (with_reducible first | exact HB.out | apply below_alloc | apply pw_below_drewN | apply below_drew1) | exact HB.out)) hb); clear HB; have HB := n0_; clear n0_; (try clear hb); (try clear hb2); (try clear hk); (try clear hi)) | (go_at_call 18; (with_reducible refine (curve_Exp.calls (-65536) t118 _ A3.out).mono ?_); rintro e w16 ⟨rfl, hb⟩; have n0_ := Aside0.mk (below_step (by repeat (first | (with_reducible first | exact HB.out | apply below_alloc | apply pw_below_drewN | apply below_drew1) | exact HB.out)) hb); clear HB; have HB := n0_; clear n0_; (try clear hb); (try clear hb2); (try clear hk); (try clear hi)) | (go_at_call 18; (with_reducible refine (curve_Exp.calls (-45426) t119 _ A5.out).mono ?_); rintro e w17 ⟨rfl, hb⟩; have n0_ := Aside0.mk (below_step (by repeat (first | (with_reducible first | exact HB.out | apply below_alloc | apply pw_below_drewN | apply below_drew1) | exact HB.out)) hb); clear HB; have HB := n0_; clear n0_; (try clear hb); (try clear hb2); (try clear hk); (try clear hi)) | (go_at_call 18; (with_reducible refine (curve_Exp.calls (-1000000000) t120 _ A7.out).mono ?_); rintro e w18 ⟨rfl, hb⟩; have n0_ := Aside0.mk (below_step (by repeat (first | (with_reducible first | exact HB.out | apply below_alloc | apply pw_below_drewN | apply below_drew1) | exact HB.out)) hb); clear HB; have HB := n0_; clear n0_; (try clear hb); (try clear hb2); (try clear hk); (try clear hi)) | (go_at_call 11; (with_reducible refine (curve_Root.calls k 99 t121 _ A9.out).mono ?_); rintro e w' ⟨rfl, ⟨nd, rfl⟩⟩) | (go_at_call 13; (with_reducible refine (curve_Inverse.calls k 4 t122 _ A11.out).mono ?_); rintro e w' ⟨rfl, ⟨nd, rfl⟩⟩) | ((with_reducible refine gate_dst (N := 24) rfl ?_); (try (refine gate_guard (by rfl) ?_; dsimp only)); refine Kd.R_lit (Kd.int .i32) _ 21 ?hg (N := 24) ?hd (xs := ([1, (-5), 2] : List Int)) (inner := [.int .i32 1, .int .i32 (-5), .int .i32 2]) (ok := fun _ => True) (okp := fun _ => True) ?hr ?hp (fun _ hk => hk) trivial (Below.refl _ _) (Nat.le_refl _) (by simp) ?_; (case hd => rfl); (case hg => rfl); (case hr => first | (go_simp; done) | (go_simp; rfl)); (case hp => exact (Reps.one (show Kd.M (Kd.int .i32) _ _ _ 1 [.int .i32 1] from rfl) (Reps.one (show Kd.M (Kd.int .i32) _ _ _ (-5) [.int .i32 (-5)] from rfl) (Reps.one (show Kd.M (Kd.int .i32) _ _ _ 2 [.int .i32 2] from rfl) (Reps.none _ _))))); intro v124 w19 ho20 hb hg_ hnew_; clear hg_ hnew_; (first | rw [← Ny123.out] at ho20 | (simp only [Int.reduceToNat] at ho20; rw [← Ny123.out] at ho20)); have n0_ := Aside0.mk (Kd.R_lower ho20 (below_size (by repeat (first | (with_reducible first | exact HB.out | apply below_alloc | apply pw_below_drewN | apply below_drew1) | exact HB.out)))); have n1_ := Aside0.mk (below_step (by repeat (first | (with_reducible first | exact HB.out | apply below_alloc | apply pw_below_drewN | apply below_drew1) | exact HB.out)) hb); clear HB; have HO125 := n0_; have HB := n1_; clear n0_ n1_; clear hb ho20; obtain ⟨Ao21, co21, eo21⟩ := Kd.R_slice HO125.out; subst eo21) | (go_at_call 16; (with_reducible refine (curve_Shares.calls k 100 _ _ y123 t126 _ ?side1 ?side2 A13.out).mono ?_); (case side1 => repeat (first | exact (Kd.R_reads' HO125.out).2.2 | (with_reducible refine Kd.C_alloc ?_ _) | (with_reducible refine Kd.C_drewN ?_ _) | (with_reducible refine Kd.C_drew ?_))); (case side2 => exact (Kd.R_reads' HO125.out).2.1); rintro e w22 ⟨v127, rfl, ho0, hb⟩; have n0_ := Aside0.mk (Kd.R_elder' (by (with_reducible repeat (first | apply Kd.R_alloc | apply Kd.R_drewN | apply Kd.R_drew)); exact HO125.out) (Kd.R_base ho0) hb); have n1_ := Aside0.mk (Kd.R_lower (Kd.R_new' ho0 (Kd.R_lt (by (with_reducible repeat (first | apply Kd.R_alloc | apply Kd.R_drewN | apply Kd.R_drew)); exact HO125.out))) (below_size (by repeat (first | (with_reducible first | exact HB.out | apply below_alloc | apply pw_below_drewN | apply below_drew1) | exact HB.out)))); have n2_ := Aside0.mk (below_step (by repeat (first | (with_reducible first | exact HB.out | apply below_alloc | apply pw_below_drewN | apply below_drew1) | exact HB.out)) hb); clear HO125; clear HB; have HO125 := n0_; have HO128 := n1_; have HB := n2_; clear n0_ n1_ n2_; (try clear hb); (try clear hb2); (try clear hk); (try clear hi); (try clear ho0)) | ((with_reducible refine gate_dst (N := 26) rfl ?_); (try (refine gate_guard (by rfl) ?_; dsimp only)); refine Kd.R_lit (Kd.int .i32) _ 21 ?hg (N := 26) ?hd (xs := ([33, 0, 66] : List Int)) (inner := [.int .i32 33, .int .i32 0, .int .i32 66]) (ok := fun _ => True) (okp := fun _ => True) ?hr ?hp (fun _ hk => hk) trivial (Below.refl _ _) (Nat.le_refl _) (by simp) ?_; (case hd => rfl); (case hg => rfl); (case hr => first | (go_simp; done) | (go_simp; rfl)); (case hp => exact (Reps.one (show Kd.M (Kd.int .i32) _ _ _ 33 [.int .i32 33] from rfl) (Reps.one (show Kd.M (Kd.int .i32) _ _ _ 0 [.int .i32 0] from rfl) (Reps.one (show Kd.M (Kd.int .i32) _ _ _ 66 [.int .i32 66] from rfl) (Reps.none _ _))))); intro v130 w23 ho24 hb hg_ hnew_; clear hg_ hnew_; (first | rw [← Ny129.out] at ho24 | (simp only [Int.reduceToNat] at ho24; rw [← Ny129.out] at ho24)); have n0_ := Aside0.mk (Kd.R_elder' (by (with_reducible repeat (first | apply Kd.R_alloc | apply Kd.R_drewN | apply Kd.R_drew)); exact HO125.out) (Kd.R_base ho24) hb); have n1_ := Aside0.mk (Kd.R_elder' (by (with_reducible repeat (first | apply Kd.R_alloc | apply Kd.R_drewN | apply Kd.R_drew)); exact HO128.out) (Kd.R_base ho24) hb); have n2_ := Aside0.mk (Kd.R_lower (Kd.R_new' (Kd.R_new' ho24 (Kd.R_lt (by (with_reducible repeat (first | apply Kd.R_alloc | apply Kd.R_drewN | apply Kd.R_drew)); exact HO125.out))) (Kd.R_lt (by (with_reducible repeat (first | apply Kd.R_alloc | apply Kd.R_drewN | apply Kd.R_drew)); exact HO128.out))) (below_size (by repeat (first | (with_reducible first | exact HB.out | apply below_alloc | apply pw_below_drewN | apply below_drew1) | exact HB.out)))); have n3_ := Aside0.mk (below_step (by repeat (first | (with_reducible first | exact HB.out | apply below_alloc | apply pw_below_drewN | apply below_drew1) | exact HB.out)) hb); clear HO125; clear HO128; clear HB; have HO125 := n0_; have HO128 := n1_; have HO131 := n2_; have HB := n3_; clear n0_ n1_ n2_ n3_; clear hb ho24; obtain ⟨Ao25, co25, eo25⟩ := Kd.R_slice HO128.out; subst eo25; obtain ⟨Ao26, co26, eo26⟩ := Kd.R_slice HO131.out; subst eo26) | (go_at_call 15; (with_reducible refine (pelotonlaw02_ints.calls k _ _ t126 _ _ y129 t132 _ ?side1 ?side2 ?side3 ?side4 A14.out).mono ?_); (case side1 => repeat (first | exact (Kd.R_reads' HO128.out).2.2 | (with_reducible refine Kd.C_alloc ?_ _) | (with_reducible refine Kd.C_drewN ?_ _) | (with_reducible refine Kd.C_drew ?_))); (case side2 => exact (Kd.R_reads' HO128.out).2.1); (case side3 => repeat (first | exact (Kd.R_reads' HO131.out).2.2 | (with_reducible refine Kd.C_alloc ?_ _) | (with_reducible refine Kd.C_drewN ?_ _) | (with_reducible refine Kd.C_drew ?_))); (case side4 => exact (Kd.R_reads' HO131.out).2.1); rintro e w' ⟨rfl, ⟨nd, rfl⟩⟩))
              go_ret
              exact ⟨by first | rfl | (simp [errW_none, errW_some] <;> rfl) | (simp [*, errW_none, errW_some] <;> rfl), by repeat (first | (with_reducible first | exact HB.out | apply below_alloc | apply pw_below_drewN | apply below_drew1) | exact HB.out)⟩
            · rw [if_neg c12] at H
              have c12b0 : (t122 == 8388608) = false := beq_eq_false_iff_ne.mpr c12
              have c12b1 : (t122 != 8388608) = true := bne_iff_ne.mpr c12
              obtain rfl := Option.some.inj H
              go_enter Try.func10, Try.ntmps10
              go_wp2_with (first | ((with_reducible refine gate_callee (f := 18) rfl ?_); refine goesL_ (some 1) rfl rfl Try.func18 (by kernel_rfl) rfl #[.int .i64 0] rfl (by (try simp only [List.map_toArray, List.map_cons, List.map_nil]); first | done | rfl | (simp only [List.length_drop, List.length_take]; rfl)) ?_; (with_reducible refine (curve_Exp.calls 0 t117 _ A1.out).mono ?_); rintro e w27 ⟨rfl, hb⟩; refine ⟨_, rfl, ?_⟩; have n0_ := Aside0.mk (below_step (by repeat (first | (with_reducible first | exact HB.out | apply below_alloc | apply pw_below_drewN | apply below_drew1) | exact HB.out)) hb); clear HB; have HB := n0_; clear n0_; (try clear hb); (try clear hb2); (try clear hk); (try clear hi)) | (go_at_call 18; (with_reducible refine (curve_Exp.calls (-65536) t118 _ A3.out).mono ?_); rintro e w28 ⟨rfl, hb⟩; have n0_ := Aside0.mk (below_step (by repeat (first | (with_reducible first | exact HB.out | apply below_alloc | apply pw_below_drewN | apply below_drew1) | exact HB.out)) hb); clear HB; have HB := n0_; clear n0_; (try clear hb); (try clear hb2); (try clear hk); (try clear hi)) | (go_at_call 18; (with_reducible refine (curve_Exp.calls (-45426) t119 _ A5.out).mono ?_); rintro e w29 ⟨rfl, hb⟩; have n0_ := Aside0.mk (below_step (by repeat (first | (with_reducible first | exact HB.out | apply below_alloc | apply pw_below_drewN | apply below_drew1) | exact HB.out)) hb); clear HB; have HB := n0_; clear n0_; (try clear hb); (try clear hb2); (try clear hk); (try clear hi)) | (go_at_call 18; (with_reducible refine (curve_Exp.calls (-1000000000) t120 _ A7.out).mono ?_); rintro e w30 ⟨rfl, hb⟩; have n0_ := Aside0.mk (below_step (by repeat (first | (with_reducible first | exact HB.out | apply below_alloc | apply pw_below_drewN | apply below_drew1) | exact HB.out)) hb); clear HB; have HB := n0_; clear n0_; (try clear hb); (try clear hb2); (try clear hk); (try clear hi)) | (go_at_call 11; (with_reducible refine (curve_Root.calls k 99 t121 _ A9.out).mono ?_); rintro e w' ⟨rfl, ⟨nd, rfl⟩⟩) | (go_at_call 13; (with_reducible refine (curve_Inverse.calls k 4 t122 _ A11.out).mono ?_); rintro e w' ⟨rfl, ⟨nd, rfl⟩⟩))
              go_ret
              exact ⟨by first | rfl | (simp [errW_none, errW_some] <;> rfl) | (simp [*, errW_none, errW_some] <;> rfl), by repeat (first | (with_reducible first | exact HB.out | apply below_alloc | apply pw_below_drewN | apply below_drew1) | exact HB.out)⟩
          · rw [if_neg c10] at H
            have c10b0 : (t121 == 9) = false := beq_eq_false_iff_ne.mpr c10
            have c10b1 : (t121 != 9) = true := bne_iff_ne.mpr c10
            obtain rfl := Option.some.inj H
            go_enter Try.func10, Try.ntmps10
            go_wp2_with (first | ((with_reducible refine gate_callee (f := 18) rfl ?_); refine goesL_ (some 1) rfl rfl Try.func18 (by kernel_rfl) rfl #[.int .i64 0] rfl (by (try simp only [List.map_toArray, List.map_cons, List.map_nil]); first | done | rfl | (simp only [List.length_drop, List.length_take]; rfl)) ?_; (with_reducible refine (curve_Exp.calls 0 t117 _ A1.out).mono ?_); rintro e w31 ⟨rfl, hb⟩; refine ⟨_, rfl, ?_⟩; have n0_ := Aside0.mk (below_step (by repeat (first | (with_reducible first | exact HB.out | apply below_alloc | apply pw_below_drewN | apply below_drew1) | exact HB.out)) hb); clear HB; have HB := n0_; clear n0_; (try clear hb); (try clear hb2); (try clear hk); (try clear hi)) | (go_at_call 18; (with_reducible refine (curve_Exp.calls (-65536) t118 _ A3.out).mono ?_); rintro e w32 ⟨rfl, hb⟩; have n0_ := Aside0.mk (below_step (by repeat (first | (with_reducible first | exact HB.out | apply below_alloc | apply pw_below_drewN | apply below_drew1) | exact HB.out)) hb); clear HB; have HB := n0_; clear n0_; (try clear hb); (try clear hb2); (try clear hk); (try clear hi)) | (go_at_call 18; (with_reducible refine (curve_Exp.calls (-45426) t119 _ A5.out).mono ?_); rintro e w33 ⟨rfl, hb⟩; have n0_ := Aside0.mk (below_step (by repeat (first | (with_reducible first | exact HB.out | apply below_alloc | apply pw_below_drewN | apply below_drew1) | exact HB.out)) hb); clear HB; have HB := n0_; clear n0_; (try clear hb); (try clear hb2); (try clear hk); (try clear hi)) | (go_at_call 18; (with_reducible refine (curve_Exp.calls (-1000000000) t120 _ A7.out).mono ?_); rintro e w34 ⟨rfl, hb⟩; have n0_ := Aside0.mk (below_step (by repeat (first | (with_reducible first | exact HB.out | apply below_alloc | apply pw_below_drewN | apply below_drew1) | exact HB.out)) hb); clear HB; have HB := n0_; clear n0_; (try clear hb); (try clear hb2); (try clear hk); (try clear hi)) | (go_at_call 11; (with_reducible refine (curve_Root.calls k 99 t121 _ A9.out).mono ?_); rintro e w' ⟨rfl, ⟨nd, rfl⟩⟩))
            go_ret
            exact ⟨by first | rfl | (simp [errW_none, errW_some] <;> rfl) | (simp [*, errW_none, errW_some] <;> rfl), by repeat (first | (with_reducible first | exact HB.out | apply below_alloc | apply pw_below_drewN | apply below_drew1) | exact HB.out)⟩
        · rw [if_neg c8] at H
          have c8b0 : (t120 == 0) = false := beq_eq_false_iff_ne.mpr c8
          have c8b1 : (t120 != 0) = true := bne_iff_ne.mpr c8
          obtain rfl := Option.some.inj H
          go_enter Try.func10, Try.ntmps10
          go_wp2_with (first | ((with_reducible refine gate_callee (f := 18) rfl ?_); refine goesL_ (some 1) rfl rfl Try.func18 (by kernel_rfl) rfl #[.int .i64 0] rfl (by (try simp only [List.map_toArray, List.map_cons, List.map_nil]); first | done | rfl | (simp only [List.length_drop, List.length_take]; rfl)) ?_; (with_reducible refine (curve_Exp.calls 0 t117 _ A1.out).mono ?_); rintro e w35 ⟨rfl, hb⟩; refine ⟨_, rfl, ?_⟩; have n0_ := Aside0.mk (below_step (by repeat (first | (with_reducible first | exact HB.out | apply below_alloc | apply pw_below_drewN | apply below_drew1) | exact HB.out)) hb); clear HB; have HB := n0_; clear n0_; (try clear hb); (try clear hb2); (try clear hk); (try clear hi)) | (go_at_call 18; (with_reducible refine (curve_Exp.calls (-65536) t118 _ A3.out).mono ?_); rintro e w36 ⟨rfl, hb⟩; have n0_ := Aside0.mk (below_step (by repeat (first | (with_reducible first | exact HB.out | apply below_alloc | apply pw_below_drewN | apply below_drew1) | exact HB.out)) hb); clear HB; have HB := n0_; clear n0_; (try clear hb); (try clear hb2); (try clear hk); (try clear hi)) | (go_at_call 18; (with_reducible refine (curve_Exp.calls (-45426) t119 _ A5.out).mono ?_); rintro e w37 ⟨rfl, hb⟩; have n0_ := Aside0.mk (below_step (by repeat (first | (with_reducible first | exact HB.out | apply below_alloc | apply pw_below_drewN | apply below_drew1) | exact HB.out)) hb); clear HB; have HB := n0_; clear n0_; (try clear hb); (try clear hb2); (try clear hk); (try clear hi)) | (go_at_call 18; (with_reducible refine (curve_Exp.calls (-1000000000) t120 _ A7.out).mono ?_); rintro e w38 ⟨rfl, hb⟩; have n0_ := Aside0.mk (below_step (by repeat (first | (with_reducible first | exact HB.out | apply below_alloc | apply pw_below_drewN | apply below_drew1) | exact HB.out)) hb); clear HB; have HB := n0_; clear n0_; (try clear hb); (try clear hb2); (try clear hk); (try clear hi)))
          go_ret
          exact ⟨by first | rfl | (simp [errW_none, errW_some] <;> rfl) | (simp [*, errW_none, errW_some] <;> rfl), by repeat (first | (with_reducible first | exact HB.out | apply below_alloc | apply pw_below_drewN | apply below_drew1) | exact HB.out)⟩
      · rw [if_neg c6] at H
        have c6b0 : (t119 == 32768) = false := beq_eq_false_iff_ne.mpr c6
        have c6b1 : (t119 != 32768) = true := bne_iff_ne.mpr c6
        obtain rfl := Option.some.inj H
        go_enter Try.func10, Try.ntmps10
        go_wp2_with (first | ((with_reducible refine gate_callee (f := 18) rfl ?_); refine goesL_ (some 1) rfl rfl Try.func18 (by kernel_rfl) rfl #[.int .i64 0] rfl (by (try simp only [List.map_toArray, List.map_cons, List.map_nil]); first | done | rfl | (simp only [List.length_drop, List.length_take]; rfl)) ?_; (with_reducible refine (curve_Exp.calls 0 t117 _ A1.out).mono ?_); rintro e w39 ⟨rfl, hb⟩; refine ⟨_, rfl, ?_⟩; have n0_ := Aside0.mk (below_step (by repeat (first | (with_reducible first | exact HB.out | apply below_alloc | apply pw_below_drewN | apply below_drew1) | exact HB.out)) hb); clear HB; have HB := n0_; clear n0_; (try clear hb); (try clear hb2); (try clear hk); (try clear hi)) | (go_at_call 18; (with_reducible refine (curve_Exp.calls (-65536) t118 _ A3.out).mono ?_); rintro e w40 ⟨rfl, hb⟩; have n0_ := Aside0.mk (below_step (by repeat (first | (with_reducible first | exact HB.out | apply below_alloc | apply pw_below_drewN | apply below_drew1) | exact HB.out)) hb); clear HB; have HB := n0_; clear n0_; (try clear hb); (try clear hb2); (try clear hk); (try clear hi)) | (go_at_call 18; (with_reducible refine (curve_Exp.calls (-45426) t119 _ A5.out).mono ?_); rintro e w41 ⟨rfl, hb⟩; have n0_ := Aside0.mk (below_step (by repeat (first | (with_reducible first | exact HB.out | apply below_alloc | apply pw_below_drewN | apply below_drew1) | exact HB.out)) hb); clear HB; have HB := n0_; clear n0_; (try clear hb); (try clear hb2); (try clear hk); (try clear hi)))
        go_ret
        exact ⟨by first | rfl | (simp [errW_none, errW_some] <;> rfl) | (simp [*, errW_none, errW_some] <;> rfl), by repeat (first | (with_reducible first | exact HB.out | apply below_alloc | apply pw_below_drewN | apply below_drew1) | exact HB.out)⟩
    · rw [if_neg c4] at H
      have c4b0 : (t118 == 24110) = false := beq_eq_false_iff_ne.mpr c4
      have c4b1 : (t118 != 24110) = true := bne_iff_ne.mpr c4
      obtain rfl := Option.some.inj H
      go_enter Try.func10, Try.ntmps10
      go_wp2_with (first | ((with_reducible refine gate_callee (f := 18) rfl ?_); refine goesL_ (some 1) rfl rfl Try.func18 (by kernel_rfl) rfl #[.int .i64 0] rfl (by (try simp only [List.map_toArray, List.map_cons, List.map_nil]); first | done | rfl | (simp only [List.length_drop, List.length_take]; rfl)) ?_; (with_reducible refine (curve_Exp.calls 0 t117 _ A1.out).mono ?_); rintro e w42 ⟨rfl, hb⟩; refine ⟨_, rfl, ?_⟩; have n0_ := Aside0.mk (below_step (by repeat (first | (with_reducible first | exact HB.out | apply below_alloc | apply pw_below_drewN | apply below_drew1) | exact HB.out)) hb); clear HB; have HB := n0_; clear n0_; (try clear hb); (try clear hb2); (try clear hk); (try clear hi)) | (go_at_call 18; (with_reducible refine (curve_Exp.calls (-65536) t118 _ A3.out).mono ?_); rintro e w43 ⟨rfl, hb⟩; have n0_ := Aside0.mk (below_step (by repeat (first | (with_reducible first | exact HB.out | apply below_alloc | apply pw_below_drewN | apply below_drew1) | exact HB.out)) hb); clear HB; have HB := n0_; clear n0_; (try clear hb); (try clear hb2); (try clear hk); (try clear hi)))
      go_ret
      exact ⟨by first | rfl | (simp [errW_none, errW_some] <;> rfl) | (simp [*, errW_none, errW_some] <;> rfl), by repeat (first | (with_reducible first | exact HB.out | apply below_alloc | apply pw_below_drewN | apply below_drew1) | exact HB.out)⟩
  · rw [if_neg c2] at H
    have c2b0 : (t117 == 65536) = false := beq_eq_false_iff_ne.mpr c2
    have c2b1 : (t117 != 65536) = true := bne_iff_ne.mpr c2
    obtain rfl := Option.some.inj H
    go_enter Try.func10, Try.ntmps10
    go_wp2_with (first | ((with_reducible refine gate_callee (f := 18) rfl ?_); refine goesL_ (some 1) rfl rfl Try.func18 (by kernel_rfl) rfl #[.int .i64 0] rfl (by (try simp only [List.map_toArray, List.map_cons, List.map_nil]); first | done | rfl | (simp only [List.length_drop, List.length_take]; rfl)) ?_; (with_reducible refine (curve_Exp.calls 0 t117 _ A1.out).mono ?_); rintro e w44 ⟨rfl, hb⟩; refine ⟨_, rfl, ?_⟩; have n0_ := Aside0.mk (below_step (by repeat (first | (with_reducible first | exact HB.out | apply below_alloc | apply pw_below_drewN | apply below_drew1) | exact HB.out)) hb); clear HB; have HB := n0_; clear n0_; (try clear hb); (try clear hb2); (try clear hk); (try clear hi)))
    go_ret
    exact ⟨by first | rfl | (simp [errW_none, errW_some] <;> rfl) | (simp [*, errW_none, errW_some] <;> rfl), by repeat (first | (with_reducible first | exact HB.out | apply below_alloc | apply pw_below_drewN | apply below_drew1) | exact HB.out)⟩

/-! ### curve_Exps: function 19 -/
def curve_Exps.l0 : Nat → List Int → List Int → Int → Int → Option (List Int)
  | 0, _, _, _, _ => none
  | k + 1, x3, x9, x10, x11 => if x11 < x10 then (if 0 ≤ x11 then (if x11 < (x9.length : Int) then ((curve_Exp.f (rd x9 x11)).bind fun t137 => (if x11 < (x3.length : Int) then (curve_Exps.l0 k (x3.set (x11 : Int).toNat t137) x9 x10 (wrap64 (x11 + 1))) else (none))) else (none)) else (none)) else (some x3)
def curve_Exps.f (k : Nat) (l0 : List Int) : Option (List Int) := if 0 ≤ (l0.length : Int) then (if ((l0.length : Int) : Int).toNat ≤ 70368744177664 then (curve_Exps.l0 k (List.replicate ((l0.length : Int) : Int).toNat 0) l0 (l0.length : Int) 0) else (none)) else (none)
theorem curve_Exps.mono_l : ∀ k, (∀ y0 y1 y2 y3, LeO (curve_Exps.l0 k y0 y1 y2 y3) (curve_Exps.l0 (k + 1) y0 y1 y2 y3))
  | 0 => fun _ _ _ _ r h => by simp [curve_Exps.l0] at h
  | k + 1 => by
    have ih0 := curve_Exps.mono_l k
    · intro y0 y1 y2 y3
      unfold curve_Exps.l0
      repeat' first
      | (with_reducible exact ih0 _ _ _ _)
      | (with_reducible exact LeO.refl _)
      | (with_reducible exact LeO.none _)
      | (with_reducible refine LeO.ite ?_ ?_)
      | (with_reducible refine LeO.bind ?_ (fun _ => ?_))
      | exact ih0 _ _ _ _
      | exact LeO.none _
      | refine LeO.ite ?_ ?_
      | refine LeO.bind ?_ (fun _ => ?_)
theorem curve_Exps.mono : ∀ a0 k, LeO (curve_Exps.f k a0) (curve_Exps.f (k + 1) a0) := by
  intro a0 k
  have ih0 := curve_Exps.mono_l k
  unfold curve_Exps.f
  repeat' first
      | (with_reducible exact ih0 _ _ _ _)
      | (with_reducible exact LeO.refl _)
      | (with_reducible exact LeO.none _)
      | (with_reducible refine LeO.ite ?_ ?_)
      | (with_reducible refine LeO.bind ?_ (fun _ => ?_))
      | exact ih0 _ _ _ _
      | exact LeO.none _
      | refine LeO.ite ?_ ?_
      | refine LeO.bind ?_ (fun _ => ?_)
set_option maxHeartbeats 8000000 in
set_option maxRecDepth 100000 in
theorem curve_Exps.calls (k : Nat) (A0 : Option Addr) (c0 : Nat) (l0 : List Int) (r : List Int) (w : World) (hr0 : Kd.C (Kd.int .i64) w A0 l0.length l0) (hc0 : l0.length ≤ c0) (h : curve_Exps.f k l0 = some r) :
    Calls Try.prog 19 #[.slice A0 l0.length c0] w fun e w' => ∃ v0_ : Value, e = .returned (v0_) ∧ Kd.R (Kd.int .i32) 21 w' w.heap.size (fun _ => True) v0_ r ∧ Below w.heap.size w w' := by
  have HR0 := Aside0.mk hr0
  have HC0 := Aside0.mk hc0
  clear hr0 hc0
  have HB := Aside0.mk (Below.refl w.heap.size w)
  have H : (if 0 ≤ (l0.length : Int) then (if ((l0.length : Int) : Int).toNat ≤ 70368744177664 then (curve_Exps.l0 k (List.replicate ((l0.length : Int) : Int).toNat 0) l0 (l0.length : Int) 0) else (none)) else (none)) = some r := h
  clear h
  by_cases c2 : 0 ≤ (l0.length : Int)
  · rw [if_pos c2] at H
    have c2b0 := eq_true c2
    have c2b1 : decide (0 ≤ (l0.length : Int)) = true := decide_eq_true c2
    clear c2
    by_cases c3 : ((l0.length : Int) : Int).toNat ≤ 70368744177664
    · rw [if_pos c3] at H
      have c3b0 := eq_true c3
      have c3b1 : decide (((l0.length : Int) : Int).toNat ≤ 70368744177664) = true := decide_eq_true c3
      clear c3
      obtain ⟨y133, hy133⟩ : ∃ y_ : List Int, y_ = (List.replicate ((l0.length : Int) : Int).toNat 0) := ⟨_, rfl⟩
      replace H : (curve_Exps.l0 k y133 l0 (l0.length : Int) 0) = some r := by first | (rw [hy133]; with_reducible exact H) | (have H2_ := (Option.bind_some _ _).symm.trans H; rw [hy133]; with_reducible exact H2_) | (have H2_ := (Option.bind_some _ _).symm.trans H; with_reducible exact H2_) | with_reducible exact H | (rw [hy133]; exact H) | exact H
      have Ny133 := Aside0.mk hy133
      clear hy133
      have H' := Aside0.mk H
      clear H
      go_enter Try.func19, Try.ntmps19
      go_wp2_with (first | ((with_reducible refine gate_dst (N := 8) rfl ?_); refine Kd.R_make (Kd.int .i32) _ 21 rfl (N := 8) rfl 26 _ _ rfl (l0.length : Int) rfl rfl Try.underlying26 (.int .i32 0) 4 info21 rfl (by decide) (by omega) 0 (ok := fun _ => True) (okp := fun _ => True) rfl (fun _ hk => hk) trivial (of_decide_eq_true (by first | (with_reducible assumption) | assumption)) (Nat.le_trans (Nat.mul_le_mul_right _ (of_decide_eq_true (by first | (with_reducible assumption) | assumption) : (l0.length : Int).toNat ≤ 70368744177664)) (by omega)) (Below.refl _ _) (Nat.le_refl _) ?_; intro v134 w4 ho5 hb hg_ hnew_; clear hg_ hnew_; (first | rw [← Ny133.out] at ho5 | (simp only [Int.reduceToNat] at ho5; rw [← Ny133.out] at ho5)); have n0_ := Aside0.mk (Kd.R_lower ho5 (below_size (by repeat (first | (with_reducible first | exact HB.out | apply below_alloc | apply pw_below_drewN | apply below_drew1) | exact HB.out)))); have n1_ := Aside0.mk (below_step (by repeat (first | (with_reducible first | exact HB.out | apply below_alloc | apply pw_below_drewN | apply below_drew1) | exact HB.out)) hb); clear HB; have HO135 := n0_; have HB := n1_; clear n0_ n1_; clear hb ho5))
      go_loopg [11] k (fun kq v11 w' => ∃ (x3_1 : List Int) (x11_1 : Int), v11 = .int .i64 x11_1 ∧ Aside0 (curve_Exps.l0 kq x3_1 l0 (l0.length : Int) x11_1 = some r) ∧ Aside0 (kq ≤ k) ∧ Aside0 (Kd.R (Kd.int .i32) 21 w' w.heap.size (fun _ => True) v134 x3_1) ∧ Aside0 (Below w.heap.size w w'))
      case atStart => exact ⟨(y133), (0), (by first | rfl | (simp; done) | (simp [*]; done)), H', ⟨Nat.le_refl _⟩, ⟨by (with_reducible repeat (first | apply Kd.R_alloc | apply Kd.R_drewN | apply Kd.R_drew)); exact HO135.out⟩, ⟨by repeat (first | (with_reducible first | exact HB.out | apply below_alloc | apply pw_below_drewN | apply below_drew1) | exact HB.out)⟩⟩
      case round =>
        clear H'
        try clear c1
        try clear c2
        try clear c2b0
        try clear c2b1
        try clear p2
        try clear c3
        try clear c3b0
        try clear c3b1
        obtain ⟨x3_1, x11_1, rfl, HA, HK1, HO_3, HB⟩ := hrel
        cases gk with
        | zero => exact absurd HA.out (by simp [curve_Exps.l0])
        | succ k1 =>
          have H := HA.out
          clear HA
          simp only [curve_Exps.l0] at H
          by_cases c6 : x11_1 < (l0.length : Int)
          · rw [if_pos c6] at H
            have c6b0 : decide (x11_1 < (l0.length : Int)) = true := decide_eq_true c6
            clear c6
            by_cases c7 : 0 ≤ x11_1
            · rw [if_pos c7] at H
              have c7b0 : decide (0 ≤ x11_1) = true := decide_eq_true c7
              clear c7
              by_cases c8 : x11_1 < (l0.length : Int)
              · rw [if_pos c8] at H
                have c8b0 : decide (x11_1 < (l0.length : Int)) = true := decide_eq_true c8
                clear c8
                replace H := Option.bind_eq_some_iff.mp H
                obtain ⟨t137, A90, H⟩ := H
                replace H : (if x11_1 < (x3_1.length : Int) then (curve_Exps.l0 k1 (x3_1.set (x11_1 : Int).toNat t137) l0 (l0.length : Int) (wrap64 (x11_1 + 1))) else (none)) = some r := H
                have A9 := Aside0.mk A90
                clear A90
                by_cases c10 : x11_1 < (x3_1.length : Int)
                · rw [if_pos c10] at H
                  have c10b0 : decide (x11_1 < (x3_1.length : Int)) = true := decide_eq_true c10
                  clear c10
                  obtain ⟨y138, hy138⟩ : ∃ y_ : List Int, y_ = (x3_1.set (x11_1 : Int).toNat t137) := ⟨_, rfl⟩
                  replace H : (curve_Exps.l0 k1 y138 l0 (l0.length : Int) (wrap64 (x11_1 + 1))) = some r := by first | (rw [hy138]; with_reducible exact H) | (have H2_ := (Option.bind_some _ _).symm.trans H; rw [hy138]; with_reducible exact H2_) | (have H2_ := (Option.bind_some _ _).symm.trans H; with_reducible exact H2_) | with_reducible exact H | (rw [hy138]; exact H) | exact H
                  have Ny138 := Aside0.mk hy138
                  clear hy138
                  have H' := Aside0.mk H
                  clear H
                  have p136 : 0 ≤ (x11_1 : Int) := of_decide_eq_true (by first | (with_reducible assumption) | assumption)
                  have q136 : x11_1 < (l0.length : Int) := of_decide_eq_true (by first | (with_reducible assumption) | assumption)
                  obtain ⟨ad136, e136, hx136_0⟩ := Kd.at_int HR0.out x11_1 p136 q136
                  cases e136
                  replace hx136_0 := (HB.out.cell (World.block_lt_of_cell? w _ hx136_0)).trans hx136_0
                  replace p136 := eq_true p136
                  replace q136 := eq_true q136
                  go_wp2_with (first | ((with_reducible refine gate_callee (f := 18) rfl ?_); refine goesL_ (some 19) rfl rfl Try.func18 (by kernel_rfl) rfl #[.int .i64 (rd l0 x11_1)] rfl (by (try simp only [List.map_toArray, List.map_cons, List.map_nil]); first | done | rfl | (simp only [List.length_drop, List.length_take]; rfl)) ?_; (with_reducible refine (curve_Exp.calls (rd l0 x11_1) t137 _ A9.out).mono ?_); rintro e w12 ⟨rfl, hb⟩; refine ⟨_, rfl, ?_⟩; have n0_ := Aside0.mk (Kd.R_below (by (with_reducible repeat (first | apply Kd.R_alloc | apply Kd.R_drewN | apply Kd.R_drew)); exact HO_3.out) hb); have n1_ := Aside0.mk (below_step (by repeat (first | (with_reducible first | exact HB.out | apply below_alloc | apply pw_below_drewN | apply below_drew1) | exact HB.out)) hb); clear HO_3; clear HB; have HO_3 := n0_; have HB := n1_; clear n0_ n1_; (try clear hb); (try clear hb2); (try clear hk); (try clear hi); have p11 : 0 ≤ (x11_1 : Int) := of_decide_eq_true (by first | (with_reducible assumption) | assumption); have q11 : (x11_1 : Int) < ((x3_1.length : Int) : Int) := of_decide_eq_true (by first | (with_reducible assumption) | assumption); obtain ⟨go11, co11, eo11, gb11, gl11, cl11, HG11⟩ := Kd.R_form HO_3.out (by omega); (first | cases eo11 | (injection eo11 with ea_ en_ ec_; (first | subst ea_ | (injection ea_ with ea_; subst ea_)); subst ec_; clear en_)); have GB11 := Aside0.mk gb11; have GG11 := Aside0.mk HG11; clear gb11 gl11 HG11; obtain ⟨hx11_0, hf11_0⟩ := Kd.R_celln 0 HO_3.out (x11_1 : Int) p11 q11; replace p11 := eq_true p11; replace q11 := eq_true q11; obtain ⟨hy13_, hz13_⟩ := Kd.R_celln 0 HO_3.out (x11_1 : Int) (of_decide_eq_true (by first | (with_reducible assumption) | assumption)) (of_decide_eq_true (by first | (with_reducible assumption) | assumption)); have HP13 := Kd.R_putg HO_3.out (x11_1 : Int) t137) | ((with_reducible refine gate_store (t := 21) (p := 20) rfl ?_); refine store_event (t := 21) (p := 20) (v := ?vo_w14) (w1 := (w12.setCell ⟨go11, (x11_1 : Int).toNat, none⟩ (.int .i32 t137))) ?hg ?ho ?hn ?hr ?_; (case ho => rfl); (case hg => rfl); (case hn => rfl); (case hr => first | (go_simp; done) | (go_simp; rfl)); intro w14 hw; have hg : w12.grownBy w14 (some go11) := (by rw [hw]; exact HP13.2); have hp_ : Kd.R (Kd.int .i32) 21 w14 w.heap.size (fun _ => True) (.slice (some ⟨go11, 0, none⟩) x3_1.length co11) y138 := (by rw [hw, Ny138.out]; exact HP13.1); clear HP13; have n0_ := Aside0.mk (hp_); have n1_ := Aside0.mk ((by rw [hw]; exact below_set (HB.out) GB11.out : Below w.heap.size w w14)); clear HO_3; clear HB; have HO_3 := n0_; have HB := n1_; clear n0_ n1_; clear hg hw hp_))
                  go_roundg k1
                  case measure => have := HK1.out; omega
                  case rel => exact ⟨(y138), (wrap64 (x11_1 + 1)), (by first | rfl | (simp; done) | (simp [*]; done)), H', ⟨by have := HK1.out; omega⟩, ⟨by (with_reducible repeat (first | apply Kd.R_alloc | apply Kd.R_drewN | apply Kd.R_drew)); exact HO_3.out⟩, ⟨by repeat (first | (with_reducible first | exact HB.out | apply below_alloc | apply pw_below_drewN | apply below_drew1) | exact HB.out)⟩⟩
                · rw [if_neg c10] at H
                  exact absurd H (by simp)
              · rw [if_neg c8] at H
                exact absurd H (by simp)
            · rw [if_neg c7] at H
              exact absurd H (by simp)
          · rw [if_neg c6] at H
            have c6b0 : decide (x11_1 < (l0.length : Int)) = false := decide_eq_false c6
            clear c6
            obtain rfl := Option.some.inj H
            go_wp2
            go_ret
            exact ⟨_, by first | rfl | (simp [errW_none, errW_some] <;> rfl) | (simp [*, errW_none, errW_some] <;> rfl), by (with_reducible repeat (first | apply Kd.R_alloc | apply Kd.R_drewN | apply Kd.R_drew)); exact HO_3.out, by repeat (first | (with_reducible first | exact HB.out | apply below_alloc | apply pw_below_drewN | apply below_drew1) | exact HB.out)⟩
    · rw [if_neg c3] at H
      exact absurd H (by simp)
  · rw [if_neg c2] at H
    exact absurd H (by simp)

/-! ### pelotonref02_T: function 26 -/
def pelotonref02_T.f (a0 : Int) : Option (Int) := (some (([65536, 64132, 62757, 61413, 60097, 58809, 57549, 56316, 55109, 53928, 52773, 51642, 50535, 49452, 48393, 47356, 46341, 45348, 44376, 43425, 42495, 41584, 40693, 39821, 38968, 38133, 37316, 36516, 35734, 34968, 34219, 33486, 32768] : List Int) : List Int)).bind fun y139 => (if 0 ≤ a0 then (if a0 < (y139.length : Int) then (some (rd y139 a0)) else (none)) else (none))
set_option maxHeartbeats 8000000 in
set_option maxRecDepth 100000 in
theorem pelotonref02_T.calls (a0 : Int) (r : Int) (w : World) (h : pelotonref02_T.f a0 = some r) :
    Calls Try.prog 26 #[.int .i64 a0] w fun e w' => e = .returned (.int .i64 r) ∧ Below w.heap.size w w' := by
  have HB := Aside0.mk (Below.refl w.heap.size w)
  have H : ((some (([65536, 64132, 62757, 61413, 60097, 58809, 57549, 56316, 55109, 53928, 52773, 51642, 50535, 49452, 48393, 47356, 46341, 45348, 44376, 43425, 42495, 41584, 40693, 39821, 38968, 38133, 37316, 36516, 35734, 34968, 34219, 33486, 32768] : List Int) : List Int)).bind fun y139 => (if 0 ≤ a0 then (if a0 < (y139.length : Int) then (some (rd y139 a0)) else (none)) else (none))) = some r := h
  clear h
  obtain ⟨y139, hy139⟩ : ∃ y_ : List Int, y_ = (([65536, 64132, 62757, 61413, 60097, 58809, 57549, 56316, 55109, 53928, 52773, 51642, 50535, 49452, 48393, 47356, 46341, 45348, 44376, 43425, 42495, 41584, 40693, 39821, 38968, 38133, 37316, 36516, 35734, 34968, 34219, 33486, 32768] : List Int)) := ⟨_, rfl⟩
  replace H : (if 0 ≤ a0 then (if a0 < (y139.length : Int) then (some (rd y139 a0)) else (none)) else (none)) = some r := by first | (rw [hy139]; with_reducible exact H) | (have H2_ := (Option.bind_some _ _).symm.trans H; rw [hy139]; with_reducible exact H2_) | (have H2_ := (Option.bind_some _ _).symm.trans H; with_reducible exact H2_) | with_reducible exact H | (rw [hy139]; exact H) | exact H
  have Ny139 := Aside0.mk hy139
  clear hy139
  by_cases c2 : 0 ≤ a0
  · rw [if_pos c2] at H
    have c2b0 : decide (0 ≤ a0) = true := decide_eq_true c2
    clear c2
    by_cases c3 : a0 < (y139.length : Int)
    · rw [if_pos c3] at H
      have c3b0 : decide (a0 < (y139.length : Int)) = true := decide_eq_true c3
      clear c3
      obtain rfl := Option.some.inj H
      go_enter Try.func26, Try.ntmps26
      go_wp2_with (first | ((with_reducible refine gate_dst (N := 4) rfl ?_); refine Kd.R_lit (Kd.int .i64) _ 2 ?hg (N := 4) ?hd (xs := ([65536, 64132, 62757, 61413, 60097, 58809, 57549, 56316, 55109, 53928, 52773, 51642, 50535, 49452, 48393, 47356, 46341, 45348, 44376, 43425, 42495, 41584, 40693, 39821, 38968, 38133, 37316, 36516, 35734, 34968, 34219, 33486, 32768] : List Int)) (inner := [.int .i64 65536, .int .i64 64132, .int .i64 62757, .int .i64 61413, .int .i64 60097, .int .i64 58809, .int .i64 57549, .int .i64 56316, .int .i64 55109, .int .i64 53928, .int .i64 52773, .int .i64 51642, .int .i64 50535, .int .i64 49452, .int .i64 48393, .int .i64 47356, .int .i64 46341, .int .i64 45348, .int .i64 44376, .int .i64 43425, .int .i64 42495, .int .i64 41584, .int .i64 40693, .int .i64 39821, .int .i64 38968, .int .i64 38133, .int .i64 37316, .int .i64 36516, .int .i64 35734, .int .i64 34968, .int .i64 34219, .int .i64 33486, .int .i64 32768]) (ok := fun _ => True) (okp := fun _ => True) ?hr ?hp (fun _ hk => hk) trivial (Below.refl _ _) (Nat.le_refl _) (by simp) ?_; (case hd => rfl); (case hg => rfl); (case hr => first | (go_simp; done) | (go_simp; rfl)); (case hp => exact (Reps.one (show Kd.M (Kd.int .i64) _ _ _ 65536 [.int .i64 65536] from rfl) (Reps.one (show Kd.M (Kd.int .i64) _ _ _ 64132 [.int .i64 64132] from rfl) (Reps.one (show Kd.M (Kd.int .i64) _ _ _ 62757 [.int .i64 62757] from rfl) (Reps.one (show Kd.M (Kd.int .i64) _ _ _ 61413 [.int .i64 61413] from rfl) (Reps.one (show Kd.M (Kd.int .i64) _ _ _ 60097 [.int .i64 60097] from rfl) (Reps.one (show Kd.M (Kd.int .i64) _ _ _ 58809 [.int .i64 58809] from rfl) (Reps.one (show Kd.M (Kd.int .i64) _ _ _ 57549 [.int .i64 57549] from rfl) (Reps.one (show Kd.M (Kd.int .i64) _ _ _ 56316 [.int .i64 56316] from rfl) (Reps.one (show Kd.M (Kd.int .i64) _ _ _ 55109 [.int .i64 55109] from rfl) (Reps.one (show Kd.M (Kd.int .i64) _ _ _ 53928 [.int .i64 53928] from rfl) (Reps.one (show Kd.M (Kd.int .i64) _ _ _ 52773 [.int .i64 52773] from rfl) (Reps.one (show Kd.M (Kd.int .i64) _ _ _ 51642 [.int .i64 51642] from rfl) (Reps.one (show Kd.M (Kd.int .i64) _ _ _ 50535 [.int .i64 50535] from rfl) (Reps.one (show Kd.M (Kd.int .i64) _ _ _ 49452 [.int .i64 49452] from rfl) (Reps.one (show Kd.M (Kd.int .i64) _ _ _ 48393 [.int .i64 48393] from rfl) (Reps.one (show Kd.M (Kd.int .i64) _ _ _ 47356 [.int .i64 47356] from rfl) (Reps.one (show Kd.M (Kd.int .i64) _ _ _ 46341 [.int .i64 46341] from rfl) (Reps.one (show Kd.M (Kd.int .i64) _ _ _ 45348 [.int .i64 45348] from rfl) (Reps.one (show Kd.M (Kd.int .i64) _ _ _ 44376 [.int .i64 44376] from rfl) (Reps.one (show Kd.M (Kd.int .i64) _ _ _ 43425 [.int .i64 43425] from rfl) (Reps.one (show Kd.M (Kd.int .i64) _ _ _ 42495 [.int .i64 42495] from rfl) (Reps.one (show Kd.M (Kd.int .i64) _ _ _ 41584 [.int .i64 41584] from rfl) (Reps.one (show Kd.M (Kd.int .i64) _ _ _ 40693 [.int .i64 40693] from rfl) (Reps.one (show Kd.M (Kd.int .i64) _ _ _ 39821 [.int .i64 39821] from rfl) (Reps.one (show Kd.M (Kd.int .i64) _ _ _ 38968 [.int .i64 38968] from rfl) (Reps.one (show Kd.M (Kd.int .i64) _ _ _ 38133 [.int .i64 38133] from rfl) (Reps.one (show Kd.M (Kd.int .i64) _ _ _ 37316 [.int .i64 37316] from rfl) (Reps.one (show Kd.M (Kd.int .i64) _ _ _ 36516 [.int .i64 36516] from rfl) (Reps.one (show Kd.M (Kd.int .i64) _ _ _ 35734 [.int .i64 35734] from rfl) (Reps.one (show Kd.M (Kd.int .i64) _ _ _ 34968 [.int .i64 34968] from rfl) (Reps.one (show Kd.M (Kd.int .i64) _ _ _ 34219 [.int .i64 34219] from rfl) (Reps.one (show Kd.M (Kd.int .i64) _ _ _ 33486 [.int .i64 33486] from rfl) (Reps.one (show Kd.M (Kd.int .i64) _ _ _ 32768 [.int .i64 32768] from rfl) (Reps.none _ _))))))))))))))))))))))))))))))))))); intro v140 w4 ho5 hb hg_ hnew_; clear hg_ hnew_; (first | rw [← Ny139.out] at ho5 | (simp only [Int.reduceToNat] at ho5; rw [← Ny139.out] at ho5)); have n0_ := Aside0.mk (Kd.R_lower ho5 (below_size (by repeat (first | (with_reducible first | exact HB.out | apply below_alloc | apply pw_below_drewN | apply below_drew1) | exact HB.out)))); have n1_ := Aside0.mk (below_step (by repeat (first | (with_reducible first | exact HB.out | apply below_alloc | apply pw_below_drewN | apply below_drew1) | exact HB.out)) hb); clear HB; have HO141 := n0_; have HB := n1_; clear n0_ n1_; clear hb ho5; obtain ⟨Ao6, co6, eo6⟩ := Kd.R_slice HO141.out; subst eo6; have p142 : 0 ≤ (a0 : Int) := of_decide_eq_true (by first | (with_reducible assumption) | assumption); have q142 : a0 < (y139.length : Int) := of_decide_eq_true (by first | (with_reducible assumption) | assumption); obtain ⟨ad142, e142, hx142_0⟩ := Kd.at_int (Kd.R_reads' HO141.out).2.2 a0 p142 q142; cases e142; replace p142 := eq_true p142; replace q142 := eq_true q142))
      go_ret
      exact ⟨by first | rfl | (simp [errW_none, errW_some] <;> rfl) | (simp [*, errW_none, errW_some] <;> rfl), by repeat (first | (with_reducible first | exact HB.out | apply below_alloc | apply pw_below_drewN | apply below_drew1) | exact HB.out)⟩
    · rw [if_neg c3] at H
      exact absurd H (by simp)
  · rw [if_neg c2] at H
    exact absurd H (by simp)

/-! ### pelotonref01_Shift: function 27 -/
mutual
def pelotonref01_Shift.j0 : Nat → Int → Int → Option (Int)
  | 0, _, _ => none
  | k + 1, x0, x1 => if x1 ≤ 0 then (some x0) else (pelotonref01_Shift.l0 k x0 x1 1 0)
def pelotonref01_Shift.l0 : Nat → Int → Int → Int → Int → Option (Int)
  | 0, _, _, _, _ => none
  | k + 1, x0, x1, x5, x6 => if x6 < x1 then (pelotonref01_Shift.l0 k x0 x1 (wrap64 (x5 * 2)) (wrap64 (x6 + 1))) else (if x5 = 0 then (none) else (if (Int.tmod x0 x5) < 0 then (if (wrap64 ((Int.tmod x0 x5) + x5)) > (wrap64 (x5 - (wrap64 ((Int.tmod x0 x5) + x5)))) then (some (wrap64 ((wrap64 ((wrap64 (Int.tdiv x0 x5)) - 1)) + 1))) else (if (wrap64 ((Int.tmod x0 x5) + x5)) = (wrap64 (x5 - (wrap64 ((Int.tmod x0 x5) + x5)))) then (if (Int.tmod (wrap64 ((wrap64 (Int.tdiv x0 x5)) - 1)) 2) = 0 then (some (wrap64 ((wrap64 (Int.tdiv x0 x5)) - 1))) else (some (wrap64 ((wrap64 ((wrap64 (Int.tdiv x0 x5)) - 1)) + 1)))) else (some (wrap64 ((wrap64 (Int.tdiv x0 x5)) - 1))))) else (if (Int.tmod x0 x5) > (wrap64 (x5 - (Int.tmod x0 x5))) then (some (wrap64 ((wrap64 (Int.tdiv x0 x5)) + 1))) else (if (Int.tmod x0 x5) = (wrap64 (x5 - (Int.tmod x0 x5))) then (if (Int.tmod (wrap64 (Int.tdiv x0 x5)) 2) = 0 then (some (wrap64 (Int.tdiv x0 x5))) else (some (wrap64 ((wrap64 (Int.tdiv x0 x5)) + 1)))) else (some (wrap64 (Int.tdiv x0 x5)))))))
end
def pelotonref01_Shift.f (k : Nat) (a0 : Int) (a1 : Int) : Option (Int) := if a1 > 62 then (pelotonref01_Shift.j0 k a0 62) else (pelotonref01_Shift.j0 k a0 a1)
theorem pelotonref01_Shift.mono_l : ∀ k, (∀ y0 y1, LeO (pelotonref01_Shift.j0 k y0 y1) (pelotonref01_Shift.j0 (k + 1) y0 y1)) ∧ (∀ y0 y1 y2 y3, LeO (pelotonref01_Shift.l0 k y0 y1 y2 y3) (pelotonref01_Shift.l0 (k + 1) y0 y1 y2 y3))
  | 0 => ⟨fun _ _ r h => by simp [pelotonref01_Shift.j0] at h, fun _ _ _ _ r h => by simp [pelotonref01_Shift.l0] at h⟩
  | k + 1 => by
    obtain ⟨ih0, ih1⟩ := pelotonref01_Shift.mono_l k
    refine ⟨?_, ?_⟩
    · intro y0 y1
      unfold pelotonref01_Shift.j0
      repeat' first
      | (with_reducible exact ih0 _ _)
      | (with_reducible exact ih1 _ _ _ _)
      | (with_reducible exact LeO.refl _)
      | (with_reducible exact LeO.none _)
      | (with_reducible refine LeO.ite ?_ ?_)
      | (with_reducible refine LeO.bind ?_ (fun _ => ?_))
      | exact ih0 _ _
      | exact ih1 _ _ _ _
      | exact LeO.none _
      | refine LeO.ite ?_ ?_
      | refine LeO.bind ?_ (fun _ => ?_)
    · intro y0 y1 y2 y3
      unfold pelotonref01_Shift.l0
      repeat' first
      | (with_reducible exact ih0 _ _)
      | (with_reducible exact ih1 _ _ _ _)
      | (with_reducible exact LeO.refl _)
      | (with_reducible exact LeO.none _)
      | (with_reducible refine LeO.ite ?_ ?_)
      | (with_reducible refine LeO.bind ?_ (fun _ => ?_))
      | exact ih0 _ _
      | exact ih1 _ _ _ _
      | exact LeO.none _
      | refine LeO.ite ?_ ?_
      | refine LeO.bind ?_ (fun _ => ?_)
theorem pelotonref01_Shift.mono : ∀ a0 a1 k, LeO (pelotonref01_Shift.f k a0 a1) (pelotonref01_Shift.f (k + 1) a0 a1) := by
  intro a0 a1 k
  obtain ⟨ih0, ih1⟩ := pelotonref01_Shift.mono_l k
  unfold pelotonref01_Shift.f
  repeat' first
      | (with_reducible exact ih0 _ _)
      | (with_reducible exact ih1 _ _ _ _)
      | (with_reducible exact LeO.refl _)
      | (with_reducible exact LeO.none _)
      | (with_reducible refine LeO.ite ?_ ?_)
      | (with_reducible refine LeO.bind ?_ (fun _ => ?_))
      | exact ih0 _ _
      | exact ih1 _ _ _ _
      | exact LeO.none _
      | refine LeO.ite ?_ ?_
      | refine LeO.bind ?_ (fun _ => ?_)
set_option maxHeartbeats 8000000 in
set_option maxRecDepth 100000 in
theorem pelotonref01_Shift.calls (k : Nat) (a0 : Int) (a1 : Int) (r : Int) (w : World) (h : pelotonref01_Shift.f k a0 a1 = some r) :
    Calls Try.prog 27 #[.int .i64 a0, .int .i64 a1] w fun e w' => e = .returned (.int .i64 r) ∧ Drawn0 w w' := by
  have H : (if a1 > 62 then (pelotonref01_Shift.j0 k a0 62) else (pelotonref01_Shift.j0 k a0 a1)) = some r := h
  clear h
  have HC3 := Aside0.mk H
  clear H
  go_enter Try.func27, Try.ntmps27
  go_upto_if 10 with (fail)
  go_cut [1] (fun v1 wc => ∃ (kq : Nat) (x1_2 : Int), v1 = .int .i64 x1_2 ∧ Aside0 (pelotonref01_Shift.j0 kq a0 x1_2 = some r) ∧ Aside0 (kq ≤ k) ∧ Drawn0 w wc)
  case first =>
    have H := HC3.out
    clear HC3
    by_cases c4 : a1 > 62
    · rw [if_pos c4] at H
      have c4b0 : decide (62 < a1) = true := decide_eq_true c4
      clear c4
      (first | rw [c4b0] | (simp only [i64_w, i32_w]; rw [c4b0]) | skip)
      have H' := Aside0.mk H
      clear H
      go_wp2
      go_meet
      case rel => exact ⟨_, (62), (by first | rfl | (simp; done) | (simp [*]; done)), H', ⟨by first | omega | exact Nat.le_refl _⟩, by repeat (first | exact Drawn0.refl _ | apply Drawn0.step)⟩
    · rw [if_neg c4] at H
      have c4b0 : decide (62 < a1) = false := decide_eq_false c4
      clear c4
      (first | rw [c4b0] | (simp only [i64_w, i32_w]; rw [c4b0]) | skip)
      have H' := Aside0.mk H
      clear H
      go_wp2
      go_meet
      case rel => exact ⟨_, (a1), (by first | rfl | (simp; done) | (simp [*]; done)), H', ⟨by first | omega | exact Nat.le_refl _⟩, by repeat (first | exact Drawn0.refl _ | apply Drawn0.step)⟩
  case rest =>
    clear HC3
    try clear c2
    try clear p2
    try clear c4
    try clear c4b0
    obtain ⟨kq, x1_2, rfl, HA, HJ2, ⟨mc2, rfl⟩⟩ := hcut
    cases kq with
    | zero => exact absurd HA.out (by simp [pelotonref01_Shift.j0])
    | succ kj2 =>
      have H := HA.out
      clear HA
      simp only [pelotonref01_Shift.j0] at H
      by_cases c5 : x1_2 ≤ 0
      · rw [if_pos c5] at H
        have c5b0 : decide (x1_2 ≤ 0) = true := decide_eq_true c5
        clear c5
        obtain rfl := Option.some.inj H
        go_wp2
        go_ret
        exact ⟨by first | rfl | (simp; done) | (simp [*]; done), by repeat (first | exact Drawn0.refl _ | apply Drawn0.step)⟩
      · rw [if_neg c5] at H
        have c5b0 : decide (x1_2 ≤ 0) = false := decide_eq_false c5
        clear c5
        have H' := Aside0.mk H
        clear H
        go_wp2
        go_loopg [5, 6] kj2 (fun kq v5 v6 w' => ∃ (x5_2 : Int) (x6_2 : Int), v5 = .int .i64 x5_2 ∧ v6 = .int .i64 x6_2 ∧ Aside0 (pelotonref01_Shift.l0 kq a0 x1_2 x5_2 x6_2 = some r) ∧ Aside0 (kq ≤ kj2) ∧ Drawn0 w w')
        case atStart => exact ⟨(1), (0), (by first | rfl | (simp; done) | (simp [*]; done)), (by first | rfl | (simp; done) | (simp [*]; done)), H', ⟨Nat.le_refl _⟩, by repeat (first | exact Drawn0.refl _ | apply Drawn0.step)⟩
        case round =>
          clear H'
          try clear c2
          try clear p2
          try clear c4
          try clear c4b0
          try clear c5
          try clear c5b0
          try clear p2
          obtain ⟨x5_2, x6_2, rfl, rfl, HA, HK2, ⟨m2, rfl⟩⟩ := hrel
          cases gk with
          | zero => exact absurd HA.out (by simp [pelotonref01_Shift.l0])
          | succ k2 =>
            have H := HA.out
            clear HA
            simp only [pelotonref01_Shift.l0] at H
            by_cases c6 : x6_2 < x1_2
            · rw [if_pos c6] at H
              have c6b0 : decide (x6_2 < x1_2) = true := decide_eq_true c6
              clear c6
              have H' := Aside0.mk H
              clear H
              go_wp2
              go_roundg k2
              case measure => have := HJ2.out; have := HK2.out; omega
              case rel => exact ⟨(wrap64 (x5_2 * 2)), (wrap64 (x6_2 + 1)), (by first | rfl | (simp; done) | (simp [*]; done)), (by first | rfl | (simp; done) | (simp [*]; done)), H', ⟨by have := HJ2.out; have := HK2.out; omega⟩, by repeat (first | exact Drawn0.refl _ | apply Drawn0.step)⟩
            · rw [if_neg c6] at H
              have c6b0 : decide (x6_2 < x1_2) = false := decide_eq_false c6
              clear c6
              by_cases c7 : x5_2 = 0
              · rw [if_pos c7] at H
                exact absurd H (by simp)
              · rw [if_neg c7] at H
                have c7b0 : (x5_2 == 0) = false := beq_eq_false_iff_ne.mpr c7
                have c7b1 : (x5_2 != 0) = true := bne_iff_ne.mpr c7
                by_cases c8 : (Int.tmod a0 x5_2) < 0
                · rw [if_pos c8] at H
                  have c8b0 : decide ((Int.tmod a0 x5_2) < 0) = true := decide_eq_true c8
                  clear c8
                  by_cases c9 : (wrap64 ((Int.tmod a0 x5_2) + x5_2)) > (wrap64 (x5_2 - (wrap64 ((Int.tmod a0 x5_2) + x5_2))))
                  · rw [if_pos c9] at H
                    have c9b0 : decide ((wrap64 (x5_2 - (wrap64 ((Int.tmod a0 x5_2) + x5_2)))) < (wrap64 ((Int.tmod a0 x5_2) + x5_2))) = true := decide_eq_true c9
                    clear c9
                    obtain rfl := Option.some.inj H
                    go_wp2
                    go_ret
                    exact ⟨by first | rfl | (simp; done) | (simp [*]; done), by repeat (first | exact Drawn0.refl _ | apply Drawn0.step)⟩
                  · rw [if_neg c9] at H
                    have c9b0 : decide ((wrap64 (x5_2 - (wrap64 ((Int.tmod a0 x5_2) + x5_2)))) < (wrap64 ((Int.tmod a0 x5_2) + x5_2))) = false := decide_eq_false c9
                    clear c9
                    by_cases c10 : (wrap64 ((Int.tmod a0 x5_2) + x5_2)) = (wrap64 (x5_2 - (wrap64 ((Int.tmod a0 x5_2) + x5_2))))
                    · rw [if_pos c10] at H
                      have c10b0 : ((wrap64 ((Int.tmod a0 x5_2) + x5_2)) == (wrap64 (x5_2 - (wrap64 ((Int.tmod a0 x5_2) + x5_2))))) = true := beq_iff_eq.mpr c10
                      have c10b1 : ((wrap64 ((Int.tmod a0 x5_2) + x5_2)) != (wrap64 (x5_2 - (wrap64 ((Int.tmod a0 x5_2) + x5_2))))) = false := bne_eq_false_iff_eq.mpr c10
                      clear c10
                      by_cases c11 : (Int.tmod (wrap64 ((wrap64 (Int.tdiv a0 x5_2)) - 1)) 2) = 0
                      · rw [if_pos c11] at H
                        have c11b0 : ((Int.tmod (wrap64 ((wrap64 (Int.tdiv a0 x5_2)) - 1)) 2) == 0) = true := beq_iff_eq.mpr c11
                        have c11b1 : ((Int.tmod (wrap64 ((wrap64 (Int.tdiv a0 x5_2)) - 1)) 2) != 0) = false := bne_eq_false_iff_eq.mpr c11
                        clear c11
                        obtain rfl := Option.some.inj H
                        go_wp2
                        go_ret
                        exact ⟨by first | rfl | (simp; done) | (simp [*]; done), by repeat (first | exact Drawn0.refl _ | apply Drawn0.step)⟩
                      · rw [if_neg c11] at H
                        have c11b0 : ((Int.tmod (wrap64 ((wrap64 (Int.tdiv a0 x5_2)) - 1)) 2) == 0) = false := beq_eq_false_iff_ne.mpr c11
                        have c11b1 : ((Int.tmod (wrap64 ((wrap64 (Int.tdiv a0 x5_2)) - 1)) 2) != 0) = true := bne_iff_ne.mpr c11
                        obtain rfl := Option.some.inj H
                        go_wp2
                        go_ret
                        exact ⟨by first | rfl | (simp; done) | (simp [*]; done), by repeat (first | exact Drawn0.refl _ | apply Drawn0.step)⟩
                    · rw [if_neg c10] at H
                      have c10b0 : ((wrap64 ((Int.tmod a0 x5_2) + x5_2)) == (wrap64 (x5_2 - (wrap64 ((Int.tmod a0 x5_2) + x5_2))))) = false := beq_eq_false_iff_ne.mpr c10
                      have c10b1 : ((wrap64 ((Int.tmod a0 x5_2) + x5_2)) != (wrap64 (x5_2 - (wrap64 ((Int.tmod a0 x5_2) + x5_2))))) = true := bne_iff_ne.mpr c10
                      obtain rfl := Option.some.inj H
                      go_wp2
                      go_ret
                      exact ⟨by first | rfl | (simp; done) | (simp [*]; done), by repeat (first | exact Drawn0.refl _ | apply Drawn0.step)⟩
                · rw [if_neg c8] at H
                  have c8b0 : decide ((Int.tmod a0 x5_2) < 0) = false := decide_eq_false c8
                  clear c8
                  by_cases c12 : (Int.tmod a0 x5_2) > (wrap64 (x5_2 - (Int.tmod a0 x5_2)))
                  · rw [if_pos c12] at H
                    have c12b0 : decide ((wrap64 (x5_2 - (Int.tmod a0 x5_2))) < (Int.tmod a0 x5_2)) = true := decide_eq_true c12
                    clear c12
                    obtain rfl := Option.some.inj H
                    go_wp2
                    go_ret
                    exact ⟨by first | rfl | (simp; done) | (simp [*]; done), by repeat (first | exact Drawn0.refl _ | apply Drawn0.step)⟩
                  · rw [if_neg c12] at H
                    have c12b0 : decide ((wrap64 (x5_2 - (Int.tmod a0 x5_2))) < (Int.tmod a0 x5_2)) = false := decide_eq_false c12
                    clear c12
                    by_cases c13 : (Int.tmod a0 x5_2) = (wrap64 (x5_2 - (Int.tmod a0 x5_2)))
                    · rw [if_pos c13] at H
                      have c13b0 : ((Int.tmod a0 x5_2) == (wrap64 (x5_2 - (Int.tmod a0 x5_2)))) = true := beq_iff_eq.mpr c13
                      have c13b1 : ((Int.tmod a0 x5_2) != (wrap64 (x5_2 - (Int.tmod a0 x5_2)))) = false := bne_eq_false_iff_eq.mpr c13
                      clear c13
                      by_cases c14 : (Int.tmod (wrap64 (Int.tdiv a0 x5_2)) 2) = 0
                      · rw [if_pos c14] at H
                        have c14b0 : ((Int.tmod (wrap64 (Int.tdiv a0 x5_2)) 2) == 0) = true := beq_iff_eq.mpr c14
                        have c14b1 : ((Int.tmod (wrap64 (Int.tdiv a0 x5_2)) 2) != 0) = false := bne_eq_false_iff_eq.mpr c14
                        clear c14
                        obtain rfl := Option.some.inj H
                        go_wp2
                        go_ret
                        exact ⟨by first | rfl | (simp; done) | (simp [*]; done), by repeat (first | exact Drawn0.refl _ | apply Drawn0.step)⟩
                      · rw [if_neg c14] at H
                        have c14b0 : ((Int.tmod (wrap64 (Int.tdiv a0 x5_2)) 2) == 0) = false := beq_eq_false_iff_ne.mpr c14
                        have c14b1 : ((Int.tmod (wrap64 (Int.tdiv a0 x5_2)) 2) != 0) = true := bne_iff_ne.mpr c14
                        obtain rfl := Option.some.inj H
                        go_wp2
                        go_ret
                        exact ⟨by first | rfl | (simp; done) | (simp [*]; done), by repeat (first | exact Drawn0.refl _ | apply Drawn0.step)⟩
                    · rw [if_neg c13] at H
                      have c13b0 : ((Int.tmod a0 x5_2) == (wrap64 (x5_2 - (Int.tmod a0 x5_2)))) = false := beq_eq_false_iff_ne.mpr c13
                      have c13b1 : ((Int.tmod a0 x5_2) != (wrap64 (x5_2 - (Int.tmod a0 x5_2)))) = true := bne_iff_ne.mpr c13
                      obtain rfl := Option.some.inj H
                      go_wp2
                      go_ret
                      exact ⟨by first | rfl | (simp; done) | (simp [*]; done), by repeat (first | exact Drawn0.refl _ | apply Drawn0.step)⟩

/-! ### pelotonref02_Exp: function 20 -/
def pelotonref02_Exp.f (k : Nat) (a0 : Int) : Option (Int) := if a0 > 0 then (some 65536) else (if a0 < (-10000000) then (some 0) else ((pelotonref02_T.f (wrap64 (Int.tdiv (Int.tmod (wrap64 (Int.tdiv (wrap64 ((wrap64 (-a0)) * 94548)) 65536)) 65536) 2048))).bind fun t143 => ((pelotonref02_T.f (wrap64 (Int.tdiv (Int.tmod (wrap64 (Int.tdiv (wrap64 ((wrap64 (-a0)) * 94548)) 65536)) 65536) 2048))).bind fun t144 => ((pelotonref02_T.f (wrap64 ((wrap64 (Int.tdiv (Int.tmod (wrap64 (Int.tdiv (wrap64 ((wrap64 (-a0)) * 94548)) 65536)) 65536) 2048)) + 1))).bind fun t145 => ((pelotonref01_Shift.f k (wrap64 ((wrap64 (t144 - t145)) * (Int.tmod (wrap64 (Int.tdiv (wrap64 ((wrap64 (-a0)) * 94548)) 65536)) 2048))) 11).bind fun t146 => (if (wrap64 (Int.tdiv (wrap64 (Int.tdiv (wrap64 ((wrap64 (-a0)) * 94548)) 65536)) 65536)) > 31 then (some 0) else ((pelotonref01_Shift.f k (wrap64 (t143 - t146)) (wrap64 (Int.tdiv (wrap64 (Int.tdiv (wrap64 ((wrap64 (-a0)) * 94548)) 65536)) 65536))).bind fun t147 => (some (wrap32 (t147))))))))))
theorem pelotonref02_Exp.mono : ∀ a0 k, LeO (pelotonref02_Exp.f k a0) (pelotonref02_Exp.f (k + 1) a0) := by
  intro a0 k
  unfold pelotonref02_Exp.f
  repeat' first
      | (with_reducible exact pelotonref01_Shift.mono _ _ _)
      | (with_reducible exact LeO.refl _)
      | (with_reducible exact LeO.none _)
      | (with_reducible refine LeO.ite ?_ ?_)
      | (with_reducible refine LeO.bind ?_ (fun _ => ?_))
      | exact pelotonref01_Shift.mono _ _ _
      | exact LeO.none _
      | refine LeO.ite ?_ ?_
      | refine LeO.bind ?_ (fun _ => ?_)
set_option maxHeartbeats 8000000 in
set_option maxRecDepth 100000 in
theorem pelotonref02_Exp.calls (k : Nat) (a0 : Int) (r : Int) (w : World) (h : pelotonref02_Exp.f k a0 = some r) :
    Calls Try.prog 20 #[.int .i64 a0] w fun e w' => e = .returned (.int .i32 r) ∧ Below w.heap.size w w' := by
  have HB := Aside0.mk (Below.refl w.heap.size w)
  have H : (if a0 > 0 then (some 65536) else (if a0 < (-10000000) then (some 0) else ((pelotonref02_T.f (wrap64 (Int.tdiv (Int.tmod (wrap64 (Int.tdiv (wrap64 ((wrap64 (-a0)) * 94548)) 65536)) 65536) 2048))).bind fun t143 => ((pelotonref02_T.f (wrap64 (Int.tdiv (Int.tmod (wrap64 (Int.tdiv (wrap64 ((wrap64 (-a0)) * 94548)) 65536)) 65536) 2048))).bind fun t144 => ((pelotonref02_T.f (wrap64 ((wrap64 (Int.tdiv (Int.tmod (wrap64 (Int.tdiv (wrap64 ((wrap64 (-a0)) * 94548)) 65536)) 65536) 2048)) + 1))).bind fun t145 => ((pelotonref01_Shift.f k (wrap64 ((wrap64 (t144 - t145)) * (Int.tmod (wrap64 (Int.tdiv (wrap64 ((wrap64 (-a0)) * 94548)) 65536)) 2048))) 11).bind fun t146 => (if (wrap64 (Int.tdiv (wrap64 (Int.tdiv (wrap64 ((wrap64 (-a0)) * 94548)) 65536)) 65536)) > 31 then (some 0) else ((pelotonref01_Shift.f k (wrap64 (t143 - t146)) (wrap64 (Int.tdiv (wrap64 (Int.tdiv (wrap64 ((wrap64 (-a0)) * 94548)) 65536)) 65536))).bind fun t147 => (some (wrap32 (t147))))))))))) = some r := h
  clear h
  by_cases c2 : a0 > 0
  · rw [if_pos c2] at H
    have c2b0 : decide (0 < a0) = true := decide_eq_true c2
    clear c2
    obtain rfl := Option.some.inj H
    go_enter Try.func20, Try.ntmps20
    go_wp2
    go_ret
    exact ⟨by first | rfl | (simp [errW_none, errW_some] <;> rfl) | (simp [*, errW_none, errW_some] <;> rfl), by repeat (first | (with_reducible first | exact HB.out | apply below_alloc | apply pw_below_drewN | apply below_drew1) | exact HB.out)⟩
  · rw [if_neg c2] at H
    have c2b0 : decide (0 < a0) = false := decide_eq_false c2
    clear c2
    by_cases c3 : a0 < (-10000000)
    · rw [if_pos c3] at H
      have c3b0 : decide (a0 < (-10000000)) = true := decide_eq_true c3
      clear c3
      obtain rfl := Option.some.inj H
      go_enter Try.func20, Try.ntmps20
      go_wp2
      go_ret
      exact ⟨by first | rfl | (simp [errW_none, errW_some] <;> rfl) | (simp [*, errW_none, errW_some] <;> rfl), by repeat (first | (with_reducible first | exact HB.out | apply below_alloc | apply pw_below_drewN | apply below_drew1) | exact HB.out)⟩
    · rw [if_neg c3] at H
      have c3b0 : decide (a0 < (-10000000)) = false := decide_eq_false c3
      clear c3
      replace H := Option.bind_eq_some_iff.mp H
      obtain ⟨t143, A40, H⟩ := H
      replace H : ((pelotonref02_T.f (wrap64 (Int.tdiv (Int.tmod (wrap64 (Int.tdiv (wrap64 ((wrap64 (-a0)) * 94548)) 65536)) 65536) 2048))).bind fun t144 => ((pelotonref02_T.f (wrap64 ((wrap64 (Int.tdiv (Int.tmod (wrap64 (Int.tdiv (wrap64 ((wrap64 (-a0)) * 94548)) 65536)) 65536) 2048)) + 1))).bind fun t145 => ((pelotonref01_Shift.f k (wrap64 ((wrap64 (t144 - t145)) * (Int.tmod (wrap64 (Int.tdiv (wrap64 ((wrap64 (-a0)) * 94548)) 65536)) 2048))) 11).bind fun t146 => (if (wrap64 (Int.tdiv (wrap64 (Int.tdiv (wrap64 ((wrap64 (-a0)) * 94548)) 65536)) 65536)) > 31 then (some 0) else ((pelotonref01_Shift.f k (wrap64 (t143 - t146)) (wrap64 (Int.tdiv (wrap64 (Int.tdiv (wrap64 ((wrap64 (-a0)) * 94548)) 65536)) 65536))).bind fun t147 => (some (wrap32 (t147)))))))) = some r := H
      have A4 := Aside0.mk A40
      clear A40
      replace H := Option.bind_eq_some_iff.mp H
      obtain ⟨t144, A50, H⟩ := H
      replace H : ((pelotonref02_T.f (wrap64 ((wrap64 (Int.tdiv (Int.tmod (wrap64 (Int.tdiv (wrap64 ((wrap64 (-a0)) * 94548)) 65536)) 65536) 2048)) + 1))).bind fun t145 => ((pelotonref01_Shift.f k (wrap64 ((wrap64 (t144 - t145)) * (Int.tmod (wrap64 (Int.tdiv (wrap64 ((wrap64 (-a0)) * 94548)) 65536)) 2048))) 11).bind fun t146 => (if (wrap64 (Int.tdiv (wrap64 (Int.tdiv (wrap64 ((wrap64 (-a0)) * 94548)) 65536)) 65536)) > 31 then (some 0) else ((pelotonref01_Shift.f k (wrap64 (t143 - t146)) (wrap64 (Int.tdiv (wrap64 (Int.tdiv (wrap64 ((wrap64 (-a0)) * 94548)) 65536)) 65536))).bind fun t147 => (some (wrap32 (t147))))))) = some r := H
      have A5 := Aside0.mk A50
      clear A50
      replace H := Option.bind_eq_some_iff.mp H
      obtain ⟨t145, A60, H⟩ := H
      replace H : ((pelotonref01_Shift.f k (wrap64 ((wrap64 (t144 - t145)) * (Int.tmod (wrap64 (Int.tdiv (wrap64 ((wrap64 (-a0)) * 94548)) 65536)) 2048))) 11).bind fun t146 => (if (wrap64 (Int.tdiv (wrap64 (Int.tdiv (wrap64 ((wrap64 (-a0)) * 94548)) 65536)) 65536)) > 31 then (some 0) else ((pelotonref01_Shift.f k (wrap64 (t143 - t146)) (wrap64 (Int.tdiv (wrap64 (Int.tdiv (wrap64 ((wrap64 (-a0)) * 94548)) 65536)) 65536))).bind fun t147 => (some (wrap32 (t147)))))) = some r := H
      have A6 := Aside0.mk A60
      clear A60
      replace H := Option.bind_eq_some_iff.mp H
      obtain ⟨t146, A70, H⟩ := H
      replace H : (if (wrap64 (Int.tdiv (wrap64 (Int.tdiv (wrap64 ((wrap64 (-a0)) * 94548)) 65536)) 65536)) > 31 then (some 0) else ((pelotonref01_Shift.f k (wrap64 (t143 - t146)) (wrap64 (Int.tdiv (wrap64 (Int.tdiv (wrap64 ((wrap64 (-a0)) * 94548)) 65536)) 65536))).bind fun t147 => (some (wrap32 (t147))))) = some r := H
      have A7 := Aside0.mk A70
      clear A70
      by_cases c8 : (wrap64 (Int.tdiv (wrap64 (Int.tdiv (wrap64 ((wrap64 (-a0)) * 94548)) 65536)) 65536)) > 31
      · rw [if_pos c8] at H
        have c8b0 : decide (31 < (wrap64 (Int.tdiv (wrap64 (Int.tdiv (wrap64 ((wrap64 (-a0)) * 94548)) 65536)) 65536))) = true := decide_eq_true c8
        clear c8
        obtain rfl := Option.some.inj H
        go_enter Try.func20, Try.ntmps20
        go_wp2_with (first | ((with_reducible refine gate_callee (f := 26) rfl ?_); refine goesL_ (some 28) rfl rfl Try.func26 (by kernel_rfl) rfl #[.int .i64 (wrap64 (Int.tdiv (Int.tmod (wrap64 (Int.tdiv (wrap64 ((wrap64 (-a0)) * 94548)) 65536)) 65536) 2048))] rfl (by (try simp only [List.map_toArray, List.map_cons, List.map_nil]); first | done | rfl | (simp only [List.length_drop, List.length_take]; rfl)) ?_; (with_reducible refine (pelotonref02_T.calls (wrap64 (Int.tdiv (Int.tmod (wrap64 (Int.tdiv (wrap64 ((wrap64 (-a0)) * 94548)) 65536)) 65536) 2048)) t143 _ A4.out).mono ?_); rintro e w9 ⟨rfl, hb⟩; refine ⟨_, rfl, ?_⟩; have n0_ := Aside0.mk (below_step (by repeat (first | (with_reducible first | exact HB.out | apply below_alloc | apply pw_below_drewN | apply below_drew1) | exact HB.out)) hb); clear HB; have HB := n0_; clear n0_; (try clear hb); (try clear hb2); (try clear hk); (try clear hi)) | ((with_reducible refine gate_callee (f := 26) rfl ?_); refine goesL_ (some 30) rfl rfl Try.func26 (by kernel_rfl) rfl #[.int .i64 (wrap64 (Int.tdiv (Int.tmod (wrap64 (Int.tdiv (wrap64 ((wrap64 (-a0)) * 94548)) 65536)) 65536) 2048))] rfl (by (try simp only [List.map_toArray, List.map_cons, List.map_nil]); first | done | rfl | (simp only [List.length_drop, List.length_take]; rfl)) ?_; (with_reducible refine (pelotonref02_T.calls (wrap64 (Int.tdiv (Int.tmod (wrap64 (Int.tdiv (wrap64 ((wrap64 (-a0)) * 94548)) 65536)) 65536) 2048)) t144 _ A5.out).mono ?_); rintro e w10 ⟨rfl, hb⟩; refine ⟨_, rfl, ?_⟩; have n0_ := Aside0.mk (below_step (by repeat (first | (with_reducible first | exact HB.out | apply below_alloc | apply pw_below_drewN | apply below_drew1) | exact HB.out)) hb); clear HB; have HB := n0_; clear n0_; (try clear hb); (try clear hb2); (try clear hk); (try clear hi)) | ((with_reducible refine gate_callee (f := 26) rfl ?_); refine goesL_ (some 33) rfl rfl Try.func26 (by kernel_rfl) rfl #[.int .i64 (wrap64 ((wrap64 (Int.tdiv (Int.tmod (wrap64 (Int.tdiv (wrap64 ((wrap64 (-a0)) * 94548)) 65536)) 65536) 2048)) + 1))] rfl (by (try simp only [List.map_toArray, List.map_cons, List.map_nil]); first | done | rfl | (simp only [List.length_drop, List.length_take]; rfl)) ?_; (with_reducible refine (pelotonref02_T.calls (wrap64 ((wrap64 (Int.tdiv (Int.tmod (wrap64 (Int.tdiv (wrap64 ((wrap64 (-a0)) * 94548)) 65536)) 65536) 2048)) + 1)) t145 _ A6.out).mono ?_); rintro e w11 ⟨rfl, hb⟩; refine ⟨_, rfl, ?_⟩; have n0_ := Aside0.mk (below_step (by repeat (first | (with_reducible first | exact HB.out | apply below_alloc | apply pw_below_drewN | apply below_drew1) | exact HB.out)) hb); clear HB; have HB := n0_; clear n0_; (try clear hb); (try clear hb2); (try clear hk); (try clear hi)) | ((with_reducible refine gate_callee (f := 27) rfl ?_); refine goesL_ (some 37) rfl rfl Try.func27 (by kernel_rfl) rfl #[.int .i64 (wrap64 ((wrap64 (t144 - t145)) * (Int.tmod (wrap64 (Int.tdiv (wrap64 ((wrap64 (-a0)) * 94548)) 65536)) 2048))), .int .i64 11] rfl (by (try simp only [List.map_toArray, List.map_cons, List.map_nil]); first | done | rfl | (simp only [List.length_drop, List.length_take]; rfl)) ?_; (with_reducible refine (pelotonref01_Shift.calls k (wrap64 ((wrap64 (t144 - t145)) * (Int.tmod (wrap64 (Int.tdiv (wrap64 ((wrap64 (-a0)) * 94548)) 65536)) 2048))) 11 t146 _ A7.out).mono ?_); rintro e w' ⟨rfl, ⟨nd, rfl⟩⟩; refine ⟨_, rfl, ?_⟩))
        go_ret
        exact ⟨by first | rfl | (simp [errW_none, errW_some] <;> rfl) | (simp [*, errW_none, errW_some] <;> rfl), by repeat (first | (with_reducible first | exact HB.out | apply below_alloc | apply pw_below_drewN | apply below_drew1) | exact HB.out)⟩
      · rw [if_neg c8] at H
        have c8b0 : decide (31 < (wrap64 (Int.tdiv (wrap64 (Int.tdiv (wrap64 ((wrap64 (-a0)) * 94548)) 65536)) 65536))) = false := decide_eq_false c8
        clear c8
        replace H := Option.bind_eq_some_iff.mp H
        obtain ⟨t147, A120, H⟩ := H
        replace H : (some (wrap32 (t147))) = some r := H
        have A12 := Aside0.mk A120
        clear A120
        obtain rfl := Option.some.inj H
        go_enter Try.func20, Try.ntmps20
        go_wp2_with (first | ((with_reducible refine gate_callee (f := 26) rfl ?_); refine goesL_ (some 28) rfl rfl Try.func26 (by kernel_rfl) rfl #[.int .i64 (wrap64 (Int.tdiv (Int.tmod (wrap64 (Int.tdiv (wrap64 ((wrap64 (-a0)) * 94548)) 65536)) 65536) 2048))] rfl (by (try simp only [List.map_toArray, List.map_cons, List.map_nil]); first | done | rfl | (simp only [List.length_drop, List.length_take]; rfl)) ?_; (with_reducible refine (pelotonref02_T.calls (wrap64 (Int.tdiv (Int.tmod (wrap64 (Int.tdiv (wrap64 ((wrap64 (-a0)) * 94548)) 65536)) 65536) 2048)) t143 _ A4.out).mono ?_); rintro e w13 ⟨rfl, hb⟩; refine ⟨_, rfl, ?_⟩; have n0_ := Aside0.mk (below_step (by repeat (first | (with_reducible first | exact HB.out | apply below_alloc | apply pw_below_drewN | apply below_drew1) | exact HB.out)) hb); clear HB; have HB := n0_; clear n0_; (try clear hb); (try clear hb2); (try clear hk); (try clear hi)) | ((with_reducible refine gate_callee (f := 26) rfl ?_); refine goesL_ (some 30) rfl rfl Try.func26 (by kernel_rfl) rfl #[.int .i64 (wrap64 (Int.tdiv (Int.tmod (wrap64 (Int.tdiv (wrap64 ((wrap64 (-a0)) * 94548)) 65536)) 65536) 2048))] rfl (by (try simp only [List.map_toArray, List.map_cons, List.map_nil]); first | done | rfl | (simp only [List.length_drop, List.length_take]; rfl)) ?_; (with_reducible refine (pelotonref02_T.calls (wrap64 (Int.tdiv (Int.tmod (wrap64 (Int.tdiv (wrap64 ((wrap64 (-a0)) * 94548)) 65536)) 65536) 2048)) t144 _ A5.out).mono ?_); rintro e w14 ⟨rfl, hb⟩; refine ⟨_, rfl, ?_⟩; have n0_ := Aside0.mk (below_step (by repeat (first | (with_reducible first | exact HB.out | apply below_alloc | apply pw_below_drewN | apply below_drew1) | exact HB.out)) hb); clear HB; have HB := n0_; clear n0_; (try clear hb); (try clear hb2); (try clear hk); (try clear hi)) | ((with_reducible refine gate_callee (f := 26) rfl ?_); refine goesL_ (some 33) rfl rfl Try.func26 (by kernel_rfl) rfl #[.int .i64 (wrap64 ((wrap64 (Int.tdiv (Int.tmod (wrap64 (Int.tdiv (wrap64 ((wrap64 (-a0)) * 94548)) 65536)) 65536) 2048)) + 1))] rfl (by (try simp only [List.map_toArray, List.map_cons, List.map_nil]); first | done | rfl | (simp only [List.length_drop, List.length_take]; rfl)) ?_; (with_reducible refine (pelotonref02_T.calls (wrap64 ((wrap64 (Int.tdiv (Int.tmod (wrap64 (Int.tdiv (wrap64 ((wrap64 (-a0)) * 94548)) 65536)) 65536) 2048)) + 1)) t145 _ A6.out).mono ?_); rintro e w15 ⟨rfl, hb⟩; refine ⟨_, rfl, ?_⟩; have n0_ := Aside0.mk (below_step (by repeat (first | (with_reducible first | exact HB.out | apply below_alloc | apply pw_below_drewN | apply below_drew1) | exact HB.out)) hb); clear HB; have HB := n0_; clear n0_; (try clear hb); (try clear hb2); (try clear hk); (try clear hi)) | ((with_reducible refine gate_callee (f := 27) rfl ?_); refine goesL_ (some 37) rfl rfl Try.func27 (by kernel_rfl) rfl #[.int .i64 (wrap64 ((wrap64 (t144 - t145)) * (Int.tmod (wrap64 (Int.tdiv (wrap64 ((wrap64 (-a0)) * 94548)) 65536)) 2048))), .int .i64 11] rfl (by (try simp only [List.map_toArray, List.map_cons, List.map_nil]); first | done | rfl | (simp only [List.length_drop, List.length_take]; rfl)) ?_; (with_reducible refine (pelotonref01_Shift.calls k (wrap64 ((wrap64 (t144 - t145)) * (Int.tmod (wrap64 (Int.tdiv (wrap64 ((wrap64 (-a0)) * 94548)) 65536)) 2048))) 11 t146 _ A7.out).mono ?_); rintro e w' ⟨rfl, ⟨nd, rfl⟩⟩; refine ⟨_, rfl, ?_⟩) | ((with_reducible refine gate_callee (f := 27) rfl ?_); refine goesL_ (some 43) rfl rfl Try.func27 (by kernel_rfl) rfl #[.int .i64 (wrap64 (t143 - t146)), .int .i64 (wrap64 (Int.tdiv (wrap64 (Int.tdiv (wrap64 ((wrap64 (-a0)) * 94548)) 65536)) 65536))] rfl (by (try simp only [List.map_toArray, List.map_cons, List.map_nil]); first | done | rfl | (simp only [List.length_drop, List.length_take]; rfl)) ?_; (with_reducible refine (pelotonref01_Shift.calls k (wrap64 (t143 - t146)) (wrap64 (Int.tdiv (wrap64 (Int.tdiv (wrap64 ((wrap64 (-a0)) * 94548)) 65536)) 65536)) t147 _ A12.out).mono ?_); rintro e w' ⟨rfl, ⟨nd, rfl⟩⟩; refine ⟨_, rfl, ?_⟩))
        go_ret
        exact ⟨by first | rfl | (simp [errW_none, errW_some] <;> rfl) | (simp [*, errW_none, errW_some] <;> rfl), by repeat (first | (with_reducible first | exact HB.out | apply below_alloc | apply pw_below_drewN | apply below_drew1) | exact HB.out)⟩

end Go.Proofs.Ytbkmocebohdgnaa.PCurveExps
