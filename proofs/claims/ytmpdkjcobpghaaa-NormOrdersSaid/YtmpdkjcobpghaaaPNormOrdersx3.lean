-- Written by a program of this session (a driver over the kit's print), with hand-proved parts.
import Derived.Test.YtmpdkjcobpghaaaPNormOrdersx0
import Derived.Test.YtmpdkjcobpghaaaPNormOrdersx1
namespace Go.Proofs.Ytmpdkjcobpghaaa.PNormOrders
open Go.RowKit Go.Proofs.YtmpdkjcobpghaaaW.PrintWords Go.Proofs.YtmpdkjcobpghaaaW.PrintLast Go.Proofs.YtmpdkjcobpghaaaW.PrintMore
attribute [local go_sem] max2_int min2_int max_two min_two max_three min_three max_four min_four   -- for this text's walks alone
set_option linter.unusedVariables false
set_option linter.unusedSimpArgs false

/-! ### slices_Max_int32_int32: function 30 -/
def slices_Max_int32_int32.l0 : Nat → List Int → Int → Int → Option (Int)
  | 0, _, _, _ => none
  | k + 1, x0, x3, x4 => if x4 < (x0.length : Int) then (if 0 ≤ x4 then (slices_Max_int32_int32.l0 k x0 (mx x3 (rd x0 x4)) (wrap64 (x4 + 1))) else (none)) else (some x3)
def slices_Max_int32_int32.f (k : Nat) (l0 : List Int) : Option (Int) := if (l0.length : Int) < 1 then (none) else (if 0 < (l0.length : Int) then (slices_Max_int32_int32.l0 k l0 (rd l0 0) 1) else (none))
theorem slices_Max_int32_int32.mono_l : ∀ k, (∀ y0 y1 y2, LeO (slices_Max_int32_int32.l0 k y0 y1 y2) (slices_Max_int32_int32.l0 (k + 1) y0 y1 y2))
  | 0 => fun _ _ _ r h => by simp [slices_Max_int32_int32.l0] at h
  | k + 1 => by
    have ih0 := slices_Max_int32_int32.mono_l k
    · intro y0 y1 y2
      unfold slices_Max_int32_int32.l0
      repeat' first
      | (with_reducible exact ih0 _ _ _)
      | (with_reducible exact LeO.refl _)
      | (with_reducible exact LeO.none _)
      | (with_reducible refine LeO.ite ?_ ?_)
      | (with_reducible refine LeO.bind ?_ (fun _ => ?_))
      | exact ih0 _ _ _
      | exact LeO.none _
      | refine LeO.ite ?_ ?_
      | refine LeO.bind ?_ (fun _ => ?_)
theorem slices_Max_int32_int32.mono : ∀ a0 k, LeO (slices_Max_int32_int32.f k a0) (slices_Max_int32_int32.f (k + 1) a0) := by
  intro a0 k
  have ih0 := slices_Max_int32_int32.mono_l k
  unfold slices_Max_int32_int32.f
  repeat' first
      | (with_reducible exact ih0 _ _ _)
      | (with_reducible exact LeO.refl _)
      | (with_reducible exact LeO.none _)
      | (with_reducible refine LeO.ite ?_ ?_)
      | (with_reducible refine LeO.bind ?_ (fun _ => ?_))
      | exact ih0 _ _ _
      | exact LeO.none _
      | refine LeO.ite ?_ ?_
      | refine LeO.bind ?_ (fun _ => ?_)
set_option maxHeartbeats 8000000 in
set_option maxRecDepth 100000 in
theorem slices_Max_int32_int32.calls (k : Nat) (A0 : Option Addr) (c0 : Nat) (l0 : List Int) (r : Int) (w : World) (hr0 : Kd.C (Kd.int .i32) w A0 l0.length l0) (hc0 : l0.length ≤ c0) (h : slices_Max_int32_int32.f k l0 = some r) :
    Calls Try.prog 30 #[.slice A0 l0.length c0] w fun e w' => e = .returned (.int .i32 r) ∧ Below w.heap.size w w' := by
  have HR0 := Aside0.mk hr0
  have HC0 := Aside0.mk hc0
  clear hr0 hc0
  have HB := Aside0.mk (Below.refl w.heap.size w)
  have H : (if (l0.length : Int) < 1 then (none) else (if 0 < (l0.length : Int) then (slices_Max_int32_int32.l0 k l0 (rd l0 0) 1) else (none))) = some r := h
  clear h
  by_cases c2 : (l0.length : Int) < 1
  · rw [if_pos c2] at H
    exact absurd H (by simp)
  · rw [if_neg c2] at H
    have c2b0 : decide ((l0.length : Int) < 1) = false := decide_eq_false c2
    have c2b1 : decide (l0.length < 1) = false := decide_eq_false (by omega)
    clear c2
    by_cases c3 : 0 < (l0.length : Int)
    · rw [if_pos c3] at H
      have c3b0 : decide (0 < (l0.length : Int)) = true := decide_eq_true c3
      have c3b1 : decide (0 < l0.length) = true := decide_eq_true (by omega)
      clear c3
      have H' := Aside0.mk H
      clear H
      have p123 : 0 ≤ (0 : Int) := (by omega)
      have q123 : 0 < (l0.length : Int) := of_decide_eq_true (by first | (with_reducible assumption) | assumption)
      obtain ⟨ad123, e123, hx123_0⟩ := Kd.at_int HR0.out 0 p123 q123
      cases e123
      have qi123 : (0 < l0.length) = True := eq_true (by omega)
      (try rw [show ((0 : Int)).toNat = 0 from rfl] at hx123_0)
      (try rw [Addr.add_zero'] at hx123_0)
      replace p123 := eq_true p123
      replace q123 := eq_true q123
      go_enter Try.func30, Try.ntmps30
      go_wp2
      go_loopg [3, 4] k (fun kq v3 v4 w' => ∃ (x3_1 : Int) (x4_1 : Int), v3 = .int .i32 x3_1 ∧ v4 = .int .i64 x4_1 ∧ Aside0 (slices_Max_int32_int32.l0 kq l0 x3_1 x4_1 = some r) ∧ Aside0 (kq ≤ k) ∧ Aside0 (Below w.heap.size w w'))
      case atStart => exact ⟨(rd l0 0), (1), (by first | rfl | (simp; done) | (simp [*]; done)), (by first | rfl | (simp; done) | (simp [*]; done)), H', ⟨Nat.le_refl _⟩, ⟨by repeat (first | (with_reducible first | exact HB.out | apply below_alloc | apply pw_below_drewN | apply below_drew1) | exact HB.out)⟩⟩
      case round =>
        clear H'
        try clear p1
        try clear q1
        try clear hx1
        try clear qi1
        try clear c2
        try clear c2b0
        try clear c2b1
        try clear p2
        try clear c3
        try clear c3b0
        try clear c3b1
        try clear hx123_0
        try clear p123
        try clear q123
        obtain ⟨x3_1, x4_1, rfl, rfl, HA, HK1, HB⟩ := hrel
        cases gk with
        | zero => exact absurd HA.out (by simp [slices_Max_int32_int32.l0])
        | succ k1 =>
          have H := HA.out
          clear HA
          simp only [slices_Max_int32_int32.l0] at H
          by_cases c4 : x4_1 < (l0.length : Int)
          · rw [if_pos c4] at H
            have c4b0 : decide (x4_1 < (l0.length : Int)) = true := decide_eq_true c4
            clear c4
            by_cases c5 : 0 ≤ x4_1
            · rw [if_pos c5] at H
              have c5b0 : decide (0 ≤ x4_1) = true := decide_eq_true c5
              clear c5
              obtain ⟨ji6, hji6⟩ : ∃ j_ : Int, (mx x3_1 (rd l0 x4_1)) = j_ := ⟨_, rfl⟩
              replace H : (slices_Max_int32_int32.l0 k1 l0 ji6 (wrap64 (x4_1 + 1))) = some r := by first | (rw [hji6] at H; exact H) | (simp only [hji6] at H ⊢; exact H)
              have hji6_ : (if x3_1 < (rd l0 x4_1) then (rd l0 x4_1) else x3_1) = ji6 := hji6
              have H' := Aside0.mk H
              clear H
              have p124 : 0 ≤ (x4_1 : Int) := of_decide_eq_true (by first | (with_reducible assumption) | assumption)
              have q124 : x4_1 < (l0.length : Int) := of_decide_eq_true (by first | (with_reducible assumption) | assumption)
              obtain ⟨ad124, e124, hx124_0⟩ := Kd.at_int HR0.out x4_1 p124 q124
              obtain rfl : ad123 = ad124 := (by injection e124)
              replace hx124_0 := (HB.out.cell (World.block_lt_of_cell? w _ hx124_0)).trans hx124_0
              replace p124 := eq_true p124
              replace q124 := eq_true q124
              go_wp2
              go_roundg k1
              case measure => have := HK1.out; omega
              case rel => exact ⟨(ji6), (wrap64 (x4_1 + 1)), (by first | rfl | (simp; done) | (simp only [← hji6] <;> (first | rfl | simp)) | (simp [*]; done)), (by first | rfl | (simp; done) | (simp [*]; done)), H', ⟨by have := HK1.out; omega⟩, ⟨by repeat (first | (with_reducible first | exact HB.out | apply below_alloc | apply pw_below_drewN | apply below_drew1) | exact HB.out)⟩⟩
            · rw [if_neg c5] at H
              exact absurd H (by simp)
          · rw [if_neg c4] at H
            have c4b0 : decide (x4_1 < (l0.length : Int)) = false := decide_eq_false c4
            clear c4
            obtain rfl := Option.some.inj H
            go_wp2
            go_ret
            exact ⟨by first | rfl | (simp [errW_none, errW_some] <;> rfl) | (simp [*, errW_none, errW_some] <;> rfl), by repeat (first | (with_reducible first | exact HB.out | apply below_alloc | apply pw_below_drewN | apply below_drew1) | exact HB.out)⟩
    · rw [if_neg c3] at H
      exact absurd H (by simp)

/-! ### curve_step: function 43 (proved by hand) -/
def curve_step.tbl : List Int := [65536, 64132, 62757, 61413, 60097, 58809, 57549, 56316, 55109, 53928, 52773, 51642, 50535, 49452, 48393, 47356, 46341, 45348, 44376, 43425, 42495, 41584, 40693, 39821, 38968, 38133, 37316, 36516, 35734, 34968, 34219, 33486, 32768]
def curve_step.f (a0 : Int) : Option (Int) := if 0 ≤ a0 then (if a0 < 33 then (some (curve_step.tbl.getD a0.toNat 0)) else (none)) else (none)
def curve_step.cells : Array Value := (curve_step.tbl.map (Value.int .i32)).toArray
theorem curve_step.cell (w : World) (z : Array Value) (n : Nat) (hn : n < 33) : ((w.alloc (.cells z 79)).setRow w.heap.size curve_step.cells).cell? ⟨w.heap.size, n, none⟩ = some (.int .i32 (curve_step.tbl.getD n 0)) := by
  rw [cell_setRow_same _ _ _ z _ 79 (0, 0) (heap_alloc_new w _)]
  simp only [curve_step.cells, List.getElem?_toArray, List.getElem?_map]
  have hl : n < curve_step.tbl.length := hn
  rw [List.getElem?_eq_getElem hl, List.getD_eq_getElem?_getD, List.getElem?_eq_getElem hl]
  rfl
theorem curve_step.below (w : World) (z : Array Value) : Below w.heap.size w ((w.alloc (.cells z 79)).setRow w.heap.size curve_step.cells) := by
  refine ⟨rfl, rfl, rfl, by simp, fun k hk => ?_⟩
  rw [setRow_other _ _ _ _ (by omega)]
  exact Below.heap_alloc w _ k hk
theorem curve_step.wrap (n : Nat) (hn : n < 33) : wrap64 (curve_step.tbl[n]?.getD 0) = curve_step.tbl.getD n 0 := by
  have h : ∀ n : Fin 33, wrap64 (curve_step.tbl[n.val]?.getD 0) = curve_step.tbl.getD n.val 0 := by decide +kernel
  exact h ⟨n, hn⟩
attribute [local irreducible] curve_step.cells curve_step.tbl in
set_option maxHeartbeats 1000000 in
set_option maxRecDepth 100000 in
theorem curve_step.calls (a0 : Int) (r : Int) (w : World) (h : curve_step.f a0 = some r) :
    Calls Try.prog 43 #[.int .i64 a0] w fun e w' => e = .returned (.int .i64 r) ∧ Below w.heap.size w w' := by
  unfold curve_step.f at h
  by_cases h0 : 0 ≤ a0
  · rw [if_pos h0] at h
    by_cases h1 : a0 < 33
    · rw [if_pos h1] at h
      obtain ⟨n, rfl⟩ := Int.eq_ofNat_of_zero_le h0
      have hn : n < 33 := by omega
      obtain rfl := Option.some.inj h
      rw [Int.toNat_natCast]
      clear h h0
      have hcell := fun z => curve_step.cell w z n hn
      have hbel := Aside0.mk (curve_step.below w)
      go_enter Try.func43, Try.ntmps43
      go_wp2_with (first
        | (refine wpList_buildTo rfl 79 _ rfl (some 4) rfl curve_step.cells (by as_aux_lemma => kernel_rfl) ?_)
        | (refine wpList_store_rowTo rfl 79 _ _ rfl rfl w.heap.size curve_step.cells rfl rfl 79 _ (heap_alloc_new w _) (by as_aux_lemma => kernel_rfl) (by as_aux_lemma => kernel_rfl) (by as_aux_lemma => kernel_rfl) ?_))
      go_ret
      exact ⟨congrArg Ending.returned (congrArg (Value.int IntKind.i64) (curve_step.wrap n hn)), hbel.out _⟩
    · rw [if_neg h1] at h
      exact absurd h (by simp)
  · rw [if_neg h0] at h
    exact absurd h (by simp)


/-! ### curve_Exp: function 31 -/
def curve_Exp.f (a0 : Int) : Option (Int) := if a0 ≥ 0 then (some 65536) else (if a0 < (-4294967296) then (some 0) else (if (((wrap64 ((wrap64 (-a0)) * 94548)) / 65536) / 65536) > 31 then (some 0) else ((curve_step.f ((Go.bits .and .i64 ((wrap64 ((wrap64 (-a0)) * 94548)) / 65536) 65535) / 2048)).bind fun t125 => ((curve_step.f ((Go.bits .and .i64 ((wrap64 ((wrap64 (-a0)) * 94548)) / 65536) 65535) / 2048)).bind fun t126 => ((curve_step.f (wrap64 (((Go.bits .and .i64 ((wrap64 ((wrap64 (-a0)) * 94548)) / 65536) 65535) / 2048) + 1))).bind fun t127 => ((round_Shift.f (wrap64 ((wrap64 (t126 - t127)) * (Go.bits .and .i64 (Go.bits .and .i64 ((wrap64 ((wrap64 (-a0)) * 94548)) / 65536) 65535) 2047))) 11).bind fun t128 => ((round_Shift.f (wrap64 (t125 - t128)) (((wrap64 ((wrap64 (-a0)) * 94548)) / 65536) / 65536)).bind fun t129 => (some (wrap32 (t129))))))))))
set_option maxHeartbeats 8000000 in
set_option maxRecDepth 100000 in
theorem curve_Exp.calls (a0 : Int) (r : Int) (w : World) (h : curve_Exp.f a0 = some r) :
    Calls Try.prog 31 #[.int .i64 a0] w fun e w' => e = .returned (.int .i32 r) ∧ Below w.heap.size w w' := by
  have HB := Aside0.mk (Below.refl w.heap.size w)
  have H : (if a0 ≥ 0 then (some 65536) else (if a0 < (-4294967296) then (some 0) else (if (((wrap64 ((wrap64 (-a0)) * 94548)) / 65536) / 65536) > 31 then (some 0) else ((curve_step.f ((Go.bits .and .i64 ((wrap64 ((wrap64 (-a0)) * 94548)) / 65536) 65535) / 2048)).bind fun t125 => ((curve_step.f ((Go.bits .and .i64 ((wrap64 ((wrap64 (-a0)) * 94548)) / 65536) 65535) / 2048)).bind fun t126 => ((curve_step.f (wrap64 (((Go.bits .and .i64 ((wrap64 ((wrap64 (-a0)) * 94548)) / 65536) 65535) / 2048) + 1))).bind fun t127 => ((round_Shift.f (wrap64 ((wrap64 (t126 - t127)) * (Go.bits .and .i64 (Go.bits .and .i64 ((wrap64 ((wrap64 (-a0)) * 94548)) / 65536) 65535) 2047))) 11).bind fun t128 => ((round_Shift.f (wrap64 (t125 - t128)) (((wrap64 ((wrap64 (-a0)) * 94548)) / 65536) / 65536)).bind fun t129 => (some (wrap32 (t129))))))))))) = some r := h
  clear h
  by_cases c2 : a0 ≥ 0
  · rw [if_pos c2] at H
    have c2b0 : decide (0 ≤ a0) = true := decide_eq_true c2
    clear c2
    obtain rfl := Option.some.inj H
    go_enter Try.func31, Try.ntmps31
    go_wp2
    go_ret
    exact ⟨by first | rfl | (simp [errW_none, errW_some] <;> rfl) | (simp [*, errW_none, errW_some] <;> rfl), by repeat (first | (with_reducible first | exact HB.out | apply below_alloc | apply pw_below_drewN | apply below_drew1) | exact HB.out)⟩
  · rw [if_neg c2] at H
    have c2b0 : decide (0 ≤ a0) = false := decide_eq_false c2
    clear c2
    by_cases c3 : a0 < (-4294967296)
    · rw [if_pos c3] at H
      have c3b0 : decide (a0 < (-4294967296)) = true := decide_eq_true c3
      clear c3
      obtain rfl := Option.some.inj H
      go_enter Try.func31, Try.ntmps31
      go_wp2
      go_ret
      exact ⟨by first | rfl | (simp [errW_none, errW_some] <;> rfl) | (simp [*, errW_none, errW_some] <;> rfl), by repeat (first | (with_reducible first | exact HB.out | apply below_alloc | apply pw_below_drewN | apply below_drew1) | exact HB.out)⟩
    · rw [if_neg c3] at H
      have c3b0 : decide (a0 < (-4294967296)) = false := decide_eq_false c3
      clear c3
      by_cases c4 : (((wrap64 ((wrap64 (-a0)) * 94548)) / 65536) / 65536) > 31
      · rw [if_pos c4] at H
        have c4b0 : decide (31 < (((wrap64 ((wrap64 (-a0)) * 94548)) / 65536) / 65536)) = true := decide_eq_true c4
        clear c4
        obtain rfl := Option.some.inj H
        go_enter Try.func31, Try.ntmps31
        go_wp2
        go_ret
        exact ⟨by first | rfl | (simp [errW_none, errW_some] <;> rfl) | (simp [*, errW_none, errW_some] <;> rfl), by repeat (first | (with_reducible first | exact HB.out | apply below_alloc | apply pw_below_drewN | apply below_drew1) | exact HB.out)⟩
      · rw [if_neg c4] at H
        have c4b0 : decide (31 < (((wrap64 ((wrap64 (-a0)) * 94548)) / 65536) / 65536)) = false := decide_eq_false c4
        clear c4
        replace H := Option.bind_eq_some_iff.mp H
        obtain ⟨t125, A50, H⟩ := H
        replace H : ((curve_step.f ((Go.bits .and .i64 ((wrap64 ((wrap64 (-a0)) * 94548)) / 65536) 65535) / 2048)).bind fun t126 => ((curve_step.f (wrap64 (((Go.bits .and .i64 ((wrap64 ((wrap64 (-a0)) * 94548)) / 65536) 65535) / 2048) + 1))).bind fun t127 => ((round_Shift.f (wrap64 ((wrap64 (t126 - t127)) * (Go.bits .and .i64 (Go.bits .and .i64 ((wrap64 ((wrap64 (-a0)) * 94548)) / 65536) 65535) 2047))) 11).bind fun t128 => ((round_Shift.f (wrap64 (t125 - t128)) (((wrap64 ((wrap64 (-a0)) * 94548)) / 65536) / 65536)).bind fun t129 => (some (wrap32 (t129))))))) = some r := H
        have A5 := Aside0.mk A50
        clear A50
        replace H := Option.bind_eq_some_iff.mp H
        obtain ⟨t126, A60, H⟩ := H
        replace H : ((curve_step.f (wrap64 (((Go.bits .and .i64 ((wrap64 ((wrap64 (-a0)) * 94548)) / 65536) 65535) / 2048) + 1))).bind fun t127 => ((round_Shift.f (wrap64 ((wrap64 (t126 - t127)) * (Go.bits .and .i64 (Go.bits .and .i64 ((wrap64 ((wrap64 (-a0)) * 94548)) / 65536) 65535) 2047))) 11).bind fun t128 => ((round_Shift.f (wrap64 (t125 - t128)) (((wrap64 ((wrap64 (-a0)) * 94548)) / 65536) / 65536)).bind fun t129 => (some (wrap32 (t129)))))) = some r := H
        have A6 := Aside0.mk A60
        clear A60
        replace H := Option.bind_eq_some_iff.mp H
        obtain ⟨t127, A70, H⟩ := H
        replace H : ((round_Shift.f (wrap64 ((wrap64 (t126 - t127)) * (Go.bits .and .i64 (Go.bits .and .i64 ((wrap64 ((wrap64 (-a0)) * 94548)) / 65536) 65535) 2047))) 11).bind fun t128 => ((round_Shift.f (wrap64 (t125 - t128)) (((wrap64 ((wrap64 (-a0)) * 94548)) / 65536) / 65536)).bind fun t129 => (some (wrap32 (t129))))) = some r := H
        have A7 := Aside0.mk A70
        clear A70
        replace H := Option.bind_eq_some_iff.mp H
        obtain ⟨t128, A80, H⟩ := H
        replace H : ((round_Shift.f (wrap64 (t125 - t128)) (((wrap64 ((wrap64 (-a0)) * 94548)) / 65536) / 65536)).bind fun t129 => (some (wrap32 (t129)))) = some r := H
        have A8 := Aside0.mk A80
        clear A80
        replace H := Option.bind_eq_some_iff.mp H
        obtain ⟨t129, A90, H⟩ := H
        replace H : (some (wrap32 (t129))) = some r := H
        have A9 := Aside0.mk A90
        clear A90
        obtain rfl := Option.some.inj H
        go_enter Try.func31, Try.ntmps31
        go_wp2_with (first | ((with_reducible refine gate_callee (f := 43) rfl ?_); refine goesL_ (some 28) rfl rfl Try.func43 (by kernel_rfl) rfl #[.int .i64 ((Go.bits .and .i64 ((wrap64 ((wrap64 (-a0)) * 94548)) / 65536) 65535) / 2048)] rfl (by (try simp only [List.map_toArray, List.map_cons, List.map_nil]); first | done | rfl | (simp only [List.length_drop, List.length_take]; rfl)) ?_; (with_reducible refine (curve_step.calls ((Go.bits .and .i64 ((wrap64 ((wrap64 (-a0)) * 94548)) / 65536) 65535) / 2048) t125 _ A5.out).mono ?_); rintro e w10 ⟨rfl, hb⟩; refine ⟨_, rfl, ?_⟩; have n0_ := Aside0.mk (below_step (by repeat (first | (with_reducible first | exact HB.out | apply below_alloc | apply pw_below_drewN | apply below_drew1) | exact HB.out)) hb); clear HB; have HB := n0_; clear n0_; (try clear hb); (try clear hb2); (try clear hk); (try clear hi)) | ((with_reducible refine gate_callee (f := 43) rfl ?_); refine goesL_ (some 30) rfl rfl Try.func43 (by kernel_rfl) rfl #[.int .i64 ((Go.bits .and .i64 ((wrap64 ((wrap64 (-a0)) * 94548)) / 65536) 65535) / 2048)] rfl (by (try simp only [List.map_toArray, List.map_cons, List.map_nil]); first | done | rfl | (simp only [List.length_drop, List.length_take]; rfl)) ?_; (with_reducible refine (curve_step.calls ((Go.bits .and .i64 ((wrap64 ((wrap64 (-a0)) * 94548)) / 65536) 65535) / 2048) t126 _ A6.out).mono ?_); rintro e w11 ⟨rfl, hb⟩; refine ⟨_, rfl, ?_⟩; have n0_ := Aside0.mk (below_step (by repeat (first | (with_reducible first | exact HB.out | apply below_alloc | apply pw_below_drewN | apply below_drew1) | exact HB.out)) hb); clear HB; have HB := n0_; clear n0_; (try clear hb); (try clear hb2); (try clear hk); (try clear hi)) | ((with_reducible refine gate_callee (f := 43) rfl ?_); refine goesL_ (some 33) rfl rfl Try.func43 (by kernel_rfl) rfl #[.int .i64 (wrap64 (((Go.bits .and .i64 ((wrap64 ((wrap64 (-a0)) * 94548)) / 65536) 65535) / 2048) + 1))] rfl (by (try simp only [List.map_toArray, List.map_cons, List.map_nil]); first | done | rfl | (simp only [List.length_drop, List.length_take]; rfl)) ?_; (with_reducible refine (curve_step.calls (wrap64 (((Go.bits .and .i64 ((wrap64 ((wrap64 (-a0)) * 94548)) / 65536) 65535) / 2048) + 1)) t127 _ A7.out).mono ?_); rintro e w12 ⟨rfl, hb⟩; refine ⟨_, rfl, ?_⟩; have n0_ := Aside0.mk (below_step (by repeat (first | (with_reducible first | exact HB.out | apply below_alloc | apply pw_below_drewN | apply below_drew1) | exact HB.out)) hb); clear HB; have HB := n0_; clear n0_; (try clear hb); (try clear hb2); (try clear hk); (try clear hi)) | ((with_reducible refine gate_callee (f := 25) rfl ?_); refine goesL_ (some 37) rfl rfl Try.func25 (by kernel_rfl) rfl #[.int .i64 (wrap64 ((wrap64 (t126 - t127)) * (Go.bits .and .i64 (Go.bits .and .i64 ((wrap64 ((wrap64 (-a0)) * 94548)) / 65536) 65535) 2047))), .int .i64 11] rfl (by (try simp only [List.map_toArray, List.map_cons, List.map_nil]); first | done | rfl | (simp only [List.length_drop, List.length_take]; rfl)) ?_; (with_reducible refine (round_Shift.calls (wrap64 ((wrap64 (t126 - t127)) * (Go.bits .and .i64 (Go.bits .and .i64 ((wrap64 ((wrap64 (-a0)) * 94548)) / 65536) 65535) 2047))) 11 t128 _ A8.out).mono ?_); rintro e w13 ⟨rfl, hb⟩; refine ⟨_, rfl, ?_⟩; have n0_ := Aside0.mk (below_step (by repeat (first | (with_reducible first | exact HB.out | apply below_alloc | apply pw_below_drewN | apply below_drew1) | exact HB.out)) hb); clear HB; have HB := n0_; clear n0_; (try clear hb); (try clear hb2); (try clear hk); (try clear hi)) | ((with_reducible refine gate_callee (f := 25) rfl ?_); refine goesL_ (some 41) rfl rfl Try.func25 (by kernel_rfl) rfl #[.int .i64 (wrap64 (t125 - t128)), .int .i64 (((wrap64 ((wrap64 (-a0)) * 94548)) / 65536) / 65536)] rfl (by (try simp only [List.map_toArray, List.map_cons, List.map_nil]); first | done | rfl | (simp only [List.length_drop, List.length_take]; rfl)) ?_; (with_reducible refine (round_Shift.calls (wrap64 (t125 - t128)) (((wrap64 ((wrap64 (-a0)) * 94548)) / 65536) / 65536) t129 _ A9.out).mono ?_); rintro e w14 ⟨rfl, hb⟩; refine ⟨_, rfl, ?_⟩; have n0_ := Aside0.mk (below_step (by repeat (first | (with_reducible first | exact HB.out | apply below_alloc | apply pw_below_drewN | apply below_drew1) | exact HB.out)) hb); clear HB; have HB := n0_; clear n0_; (try clear hb); (try clear hb2); (try clear hk); (try clear hi)))
        go_ret
        exact ⟨by first | rfl | (simp [errW_none, errW_some] <;> rfl) | (simp [*, errW_none, errW_some] <;> rfl), by repeat (first | (with_reducible first | exact HB.out | apply below_alloc | apply pw_below_drewN | apply below_drew1) | exact HB.out)⟩

/-! ### curve_Shares: function 32 -/
mutual
def curve_Shares.l0 : Nat → Int → List Int → List Int → Int → List Int → Int → Int → Option (List Int)
  | 0, _, _, _, _, _, _, _ => none
  | k + 1, x0, x1, x5, x6, x14, x15, x16 => if x16 < x15 then (if 0 ≤ x16 then (if x16 < (x14.length : Int) then (curve_Shares.l0 k x0 x1 x5 (IntKind.u64.wrap (x6 + (IntKind.u64.wrap (mx (rd x14 x16) 0)))) x14 x15 (wrap64 (x16 + 1))) else (none)) else (none)) else (curve_Shares.l1 k x0 x5 x6 x1 (x1.length : Int) 0)
def curve_Shares.l1 : Nat → Int → List Int → Int → List Int → Int → Int → Option (List Int)
  | 0, _, _, _, _, _, _ => none
  | k + 1, x0, x5, x6, x26, x27, x28 => if x28 < x27 then (if 0 ≤ x28 then (if x28 < (x26.length : Int) then (if (rd x26 x28) > 0 then (if x0 > 0 then (if x6 = 0 then (none) else (if x28 < (x5.length : Int) then (curve_Shares.l1 k x0 (x5.set (x28 : Int).toNat (wrap32 (IntKind.u64.wrap (Int.tdiv (IntKind.u64.wrap ((IntKind.u64.wrap (rd x26 x28)) * (IntKind.u64.wrap (x0)))) x6)))) x6 x26 x27 (wrap64 (x28 + 1))) else (none))) else (curve_Shares.l1 k x0 x5 x6 x26 x27 (wrap64 (x28 + 1)))) else (curve_Shares.l1 k x0 x5 x6 x26 x27 (wrap64 (x28 + 1)))) else (none)) else (none)) else (some x5)
end
def curve_Shares.f (k : Nat) (a0 : Int) (l1 : List Int) : Option (List Int) := if 0 ≤ (l1.length : Int) then (if ((l1.length : Int) : Int).toNat ≤ 70368744177664 then (curve_Shares.l0 k a0 l1 (List.replicate ((l1.length : Int) : Int).toNat 0) 0 l1 (l1.length : Int) 0) else (none)) else (none)
theorem curve_Shares.mono_l : ∀ k, (∀ y0 y1 y2 y3 y4 y5 y6, LeO (curve_Shares.l0 k y0 y1 y2 y3 y4 y5 y6) (curve_Shares.l0 (k + 1) y0 y1 y2 y3 y4 y5 y6)) ∧ (∀ y0 y1 y2 y3 y4 y5, LeO (curve_Shares.l1 k y0 y1 y2 y3 y4 y5) (curve_Shares.l1 (k + 1) y0 y1 y2 y3 y4 y5))
  | 0 => ⟨fun _ _ _ _ _ _ _ r h => by simp [curve_Shares.l0] at h, fun _ _ _ _ _ _ r h => by simp [curve_Shares.l1] at h⟩
  | k + 1 => by
    obtain ⟨ih0, ih1⟩ := curve_Shares.mono_l k
    refine ⟨?_, ?_⟩
    · intro y0 y1 y2 y3 y4 y5 y6
      unfold curve_Shares.l0
      repeat' first
      | (with_reducible exact ih0 _ _ _ _ _ _ _)
      | (with_reducible exact ih1 _ _ _ _ _ _)
      | (with_reducible exact LeO.refl _)
      | (with_reducible exact LeO.none _)
      | (with_reducible refine LeO.ite ?_ ?_)
      | (with_reducible refine LeO.bind ?_ (fun _ => ?_))
      | exact ih0 _ _ _ _ _ _ _
      | exact ih1 _ _ _ _ _ _
      | exact LeO.none _
      | refine LeO.ite ?_ ?_
      | refine LeO.bind ?_ (fun _ => ?_)
    · intro y0 y1 y2 y3 y4 y5
      unfold curve_Shares.l1
      repeat' first
      | (with_reducible exact ih0 _ _ _ _ _ _ _)
      | (with_reducible exact ih1 _ _ _ _ _ _)
      | (with_reducible exact LeO.refl _)
      | (with_reducible exact LeO.none _)
      | (with_reducible refine LeO.ite ?_ ?_)
      | (with_reducible refine LeO.bind ?_ (fun _ => ?_))
      | exact ih0 _ _ _ _ _ _ _
      | exact ih1 _ _ _ _ _ _
      | exact LeO.none _
      | refine LeO.ite ?_ ?_
      | refine LeO.bind ?_ (fun _ => ?_)
theorem curve_Shares.mono : ∀ a0 a1 k, LeO (curve_Shares.f k a0 a1) (curve_Shares.f (k + 1) a0 a1) := by
  intro a0 a1 k
  obtain ⟨ih0, ih1⟩ := curve_Shares.mono_l k
  unfold curve_Shares.f
  repeat' first
      | (with_reducible exact ih0 _ _ _ _ _ _ _)
      | (with_reducible exact ih1 _ _ _ _ _ _)
      | (with_reducible exact LeO.refl _)
      | (with_reducible exact LeO.none _)
      | (with_reducible refine LeO.ite ?_ ?_)
      | (with_reducible refine LeO.bind ?_ (fun _ => ?_))
      | exact ih0 _ _ _ _ _ _ _
      | exact ih1 _ _ _ _ _ _
      | exact LeO.none _
      | refine LeO.ite ?_ ?_
      | refine LeO.bind ?_ (fun _ => ?_)
set_option maxHeartbeats 8000000 in
set_option maxRecDepth 100000 in
theorem curve_Shares.calls (k : Nat) (a0 : Int) (A1 : Option Addr) (c1 : Nat) (l1 : List Int) (r : List Int) (w : World) (hr1 : Kd.C (Kd.int .i32) w A1 l1.length l1) (hc1 : l1.length ≤ c1) (h : curve_Shares.f k a0 l1 = some r) :
    Calls Try.prog 32 #[.int .i32 a0, .slice A1 l1.length c1] w fun e w' => ∃ v0_ : Value, e = .returned (v0_) ∧ Kd.R (Kd.int .i32) 21 w' w.heap.size (fun _ => True) v0_ r ∧ Below w.heap.size w w' := by
  have HR1 := Aside0.mk hr1
  have HC1 := Aside0.mk hc1
  clear hr1 hc1
  have HB := Aside0.mk (Below.refl w.heap.size w)
  have H : (if 0 ≤ (l1.length : Int) then (if ((l1.length : Int) : Int).toNat ≤ 70368744177664 then (curve_Shares.l0 k a0 l1 (List.replicate ((l1.length : Int) : Int).toNat 0) 0 l1 (l1.length : Int) 0) else (none)) else (none)) = some r := h
  clear h
  by_cases c3 : 0 ≤ (l1.length : Int)
  · rw [if_pos c3] at H
    have c3b0 := eq_true c3
    have c3b1 : decide (0 ≤ (l1.length : Int)) = true := decide_eq_true c3
    clear c3
    by_cases c4 : ((l1.length : Int) : Int).toNat ≤ 70368744177664
    · rw [if_pos c4] at H
      have c4b0 := eq_true c4
      have c4b1 : decide (((l1.length : Int) : Int).toNat ≤ 70368744177664) = true := decide_eq_true c4
      clear c4
      obtain ⟨y130, hy130⟩ : ∃ y_ : List Int, y_ = (List.replicate ((l1.length : Int) : Int).toNat 0) := ⟨_, rfl⟩
      replace H : (curve_Shares.l0 k a0 l1 y130 0 l1 (l1.length : Int) 0) = some r := by first | (rw [hy130]; with_reducible exact H) | (have H2_ := (Option.bind_some _ _).symm.trans H; rw [hy130]; with_reducible exact H2_) | (have H2_ := (Option.bind_some _ _).symm.trans H; with_reducible exact H2_) | with_reducible exact H | (rw [hy130]; exact H) | exact H
      have Ny130 := Aside0.mk hy130
      clear hy130
      have H' := Aside0.mk H
      clear H
      go_enter Try.func32, Try.ntmps32
      go_wp2_with (first | ((with_reducible refine gate_dst (N := 13) rfl ?_); refine Kd.R_make (Kd.int .i32) _ 21 rfl (N := 13) rfl 23 _ _ rfl (l1.length : Int) rfl rfl Try.underlying23 (.int .i32 0) 4 info21 rfl (by decide) (by omega) 0 (ok := fun _ => True) (okp := fun _ => True) rfl (fun _ hk => hk) trivial (of_decide_eq_true (by first | (with_reducible assumption) | assumption)) (Nat.le_trans (Nat.mul_le_mul_right _ (of_decide_eq_true (by first | (with_reducible assumption) | assumption) : (l1.length : Int).toNat ≤ 70368744177664)) (by omega)) (Below.refl _ _) (Nat.le_refl _) ?_; intro v131 w5 ho6 hb hg_ hnew_; clear hg_ hnew_; (first | rw [← Ny130.out] at ho6 | (simp only [Int.reduceToNat] at ho6; rw [← Ny130.out] at ho6)); have n0_ := Aside0.mk (Kd.R_lower ho6 (below_size (by repeat (first | (with_reducible first | exact HB.out | apply below_alloc | apply pw_below_drewN | apply below_drew1) | exact HB.out)))); have n1_ := Aside0.mk (below_step (by repeat (first | (with_reducible first | exact HB.out | apply below_alloc | apply pw_below_drewN | apply below_drew1) | exact HB.out)) hb); clear HB; have HO132 := n0_; have HB := n1_; clear n0_ n1_; clear hb ho6))
      go_loopg [6, 16] k (fun kq v6 v16 w' => ∃ (x6_1 : Int) (x16_1 : Int), v6 = .int .u64 x6_1 ∧ v16 = .int .i64 x16_1 ∧ Aside0 (curve_Shares.l0 kq a0 l1 y130 x6_1 l1 (l1.length : Int) x16_1 = some r) ∧ Aside0 (kq ≤ k) ∧ Aside0 (Kd.R (Kd.int .i32) 21 w' w.heap.size (fun _ => True) v131 y130) ∧ Aside0 (Below w.heap.size w w'))
      case atStart => exact ⟨(0), (0), (by first | rfl | (simp; done) | (simp [*]; done)), (by first | rfl | (simp; done) | (simp [*]; done)), H', ⟨Nat.le_refl _⟩, ⟨by (with_reducible repeat (first | apply Kd.R_alloc | apply Kd.R_drewN | apply Kd.R_drew)); exact HO132.out⟩, ⟨by repeat (first | (with_reducible first | exact HB.out | apply below_alloc | apply pw_below_drewN | apply below_drew1) | exact HB.out)⟩⟩
      case round =>
        clear H'
        try clear c1
        try clear p2
        try clear c3
        try clear c3b0
        try clear c3b1
        try clear c4
        try clear c4b0
        try clear c4b1
        obtain ⟨x6_1, x16_1, rfl, rfl, HA, HK1, HO_5, HB⟩ := hrel
        cases gk with
        | zero => exact absurd HA.out (by simp [curve_Shares.l0])
        | succ k1 =>
          have H := HA.out
          clear HA
          simp only [curve_Shares.l0] at H
          by_cases c7 : x16_1 < (l1.length : Int)
          · rw [if_pos c7] at H
            have c7b0 : decide (x16_1 < (l1.length : Int)) = true := decide_eq_true c7
            clear c7
            by_cases c8 : 0 ≤ x16_1
            · rw [if_pos c8] at H
              have c8b0 : decide (0 ≤ x16_1) = true := decide_eq_true c8
              clear c8
              by_cases c9 : x16_1 < (l1.length : Int)
              · rw [if_pos c9] at H
                have c9b0 : decide (x16_1 < (l1.length : Int)) = true := decide_eq_true c9
                clear c9
                obtain ⟨ji10, hji10⟩ : ∃ j_ : Int, (mx (rd l1 x16_1) 0) = j_ := ⟨_, rfl⟩
                replace H : (curve_Shares.l0 k1 a0 l1 y130 (IntKind.u64.wrap (x6_1 + (IntKind.u64.wrap (ji10)))) l1 (l1.length : Int) (wrap64 (x16_1 + 1))) = some r := by first | (rw [hji10] at H; exact H) | (simp only [hji10] at H ⊢; exact H)
                have hji10_ : (if (rd l1 x16_1) < 0 then 0 else (rd l1 x16_1)) = ji10 := hji10
                have H' := Aside0.mk H
                clear H
                have p133 : 0 ≤ (x16_1 : Int) := of_decide_eq_true (by first | (with_reducible assumption) | assumption)
                have q133 : x16_1 < (l1.length : Int) := of_decide_eq_true (by first | (with_reducible assumption) | assumption)
                obtain ⟨ad133, e133, hx133_0⟩ := Kd.at_int HR1.out x16_1 p133 q133
                cases e133
                replace hx133_0 := (HB.out.cell (World.block_lt_of_cell? w _ hx133_0)).trans hx133_0
                replace p133 := eq_true p133
                replace q133 := eq_true q133
                go_wp2
                go_roundg k1
                case measure => have := HK1.out; omega
                case rel => exact ⟨(IntKind.u64.wrap (x6_1 + (IntKind.u64.wrap (ji10)))), (wrap64 (x16_1 + 1)), (by first | rfl | (simp; done) | (simp only [← hji10] <;> (first | rfl | simp)) | (simp [*]; done)), (by first | rfl | (simp; done) | (simp [*]; done)), H', ⟨by have := HK1.out; omega⟩, ⟨by (with_reducible repeat (first | apply Kd.R_alloc | apply Kd.R_drewN | apply Kd.R_drew)); exact HO_5.out⟩, ⟨by repeat (first | (with_reducible first | exact HB.out | apply below_alloc | apply pw_below_drewN | apply below_drew1) | exact HB.out)⟩⟩
              · rw [if_neg c9] at H
                exact absurd H (by simp)
            · rw [if_neg c8] at H
              exact absurd H (by simp)
          · rw [if_neg c7] at H
            have c7b0 : decide (x16_1 < (l1.length : Int)) = false := decide_eq_false c7
            clear c7
            have H' := Aside0.mk H
            clear H
            go_wp2
            go_loopg [28] k1 (fun kq v28 w' => ∃ (x5_2 : List Int) (x28_2 : Int), v28 = .int .i64 x28_2 ∧ Aside0 (curve_Shares.l1 kq a0 x5_2 x6_1 l1 (l1.length : Int) x28_2 = some r) ∧ Aside0 (kq ≤ k1) ∧ Aside0 (Kd.R (Kd.int .i32) 21 w' w.heap.size (fun _ => True) v131 x5_2) ∧ Aside0 (Below w.heap.size w w'))
            case atStart => exact ⟨(y130), (0), (by first | rfl | (simp; done) | (simp [*]; done)), H', ⟨Nat.le_refl _⟩, ⟨by (with_reducible repeat (first | apply Kd.R_alloc | apply Kd.R_drewN | apply Kd.R_drew)); exact HO_5.out⟩, ⟨by repeat (first | (with_reducible first | exact HB.out | apply below_alloc | apply pw_below_drewN | apply below_drew1) | exact HB.out)⟩⟩
            case round =>
              clear H'
              try clear c1
              try clear p1
              try clear q1
              try clear hx1
              try clear p2
              try clear c3
              try clear c3b0
              try clear c3b1
              try clear c4
              try clear c4b0
              try clear c4b1
              try clear p6
              try clear c7
              try clear c7b0
              try clear c8
              try clear c8b0
              try clear c9
              try clear c9b0
              try clear hx133_0
              try clear p133
              try clear p2
              try clear q133
              obtain ⟨x5_2, x28_2, rfl, HA, HK2, HO_5, HB⟩ := hrel
              cases gk with
              | zero => exact absurd HA.out (by simp [curve_Shares.l1])
              | succ k2 =>
                have H := HA.out
                clear HA
                simp only [curve_Shares.l1] at H
                by_cases c11 : x28_2 < (l1.length : Int)
                · rw [if_pos c11] at H
                  have c11b0 : decide (x28_2 < (l1.length : Int)) = true := decide_eq_true c11
                  clear c11
                  by_cases c12 : 0 ≤ x28_2
                  · rw [if_pos c12] at H
                    have c12b0 : decide (0 ≤ x28_2) = true := decide_eq_true c12
                    clear c12
                    by_cases c13 : x28_2 < (l1.length : Int)
                    · rw [if_pos c13] at H
                      have c13b0 : decide (x28_2 < (l1.length : Int)) = true := decide_eq_true c13
                      clear c13
                      by_cases c14 : (rd l1 x28_2) > 0
                      · rw [if_pos c14] at H
                        have c14b0 : decide (0 < (rd l1 x28_2)) = true := decide_eq_true c14
                        clear c14
                        by_cases c15 : a0 > 0
                        · rw [if_pos c15] at H
                          have c15b0 : decide (0 < a0) = true := decide_eq_true c15
                          clear c15
                          by_cases c16 : x6_1 = 0
                          · rw [if_pos c16] at H
                            exact absurd H (by simp)
                          · rw [if_neg c16] at H
                            have c16b0 : (x6_1 == 0) = false := beq_eq_false_iff_ne.mpr c16
                            have c16b1 : (x6_1 != 0) = true := bne_iff_ne.mpr c16
                            by_cases c17 : x28_2 < (x5_2.length : Int)
                            · rw [if_pos c17] at H
                              have c17b0 : decide (x28_2 < (x5_2.length : Int)) = true := decide_eq_true c17
                              clear c17
                              obtain ⟨y135, hy135⟩ : ∃ y_ : List Int, y_ = (x5_2.set (x28_2 : Int).toNat (wrap32 (IntKind.u64.wrap (Int.tdiv (IntKind.u64.wrap ((IntKind.u64.wrap (rd l1 x28_2)) * (IntKind.u64.wrap (a0)))) x6_1)))) := ⟨_, rfl⟩
                              replace H : (curve_Shares.l1 k2 a0 y135 x6_1 l1 (l1.length : Int) (wrap64 (x28_2 + 1))) = some r := by first | (rw [hy135]; with_reducible exact H) | (have H2_ := (Option.bind_some _ _).symm.trans H; rw [hy135]; with_reducible exact H2_) | (have H2_ := (Option.bind_some _ _).symm.trans H; with_reducible exact H2_) | with_reducible exact H | (rw [hy135]; exact H) | exact H
                              have Ny135 := Aside0.mk hy135
                              clear hy135
                              have H' := Aside0.mk H
                              clear H
                              have p134 : 0 ≤ (x28_2 : Int) := of_decide_eq_true (by first | (with_reducible assumption) | assumption)
                              have q134 : x28_2 < (l1.length : Int) := of_decide_eq_true (by first | (with_reducible assumption) | assumption)
                              obtain ⟨ad134, e134, hx134_0⟩ := Kd.at_int HR1.out x28_2 p134 q134
                              cases e134
                              replace hx134_0 := (HB.out.cell (World.block_lt_of_cell? w _ hx134_0)).trans hx134_0
                              replace p134 := eq_true p134
                              replace q134 := eq_true q134
                              have p18 : 0 ≤ (x28_2 : Int) := of_decide_eq_true (by first | (with_reducible assumption) | assumption)
                              have q18 : (x28_2 : Int) < ((x5_2.length : Int) : Int) := of_decide_eq_true (by first | (with_reducible assumption) | assumption)
                              obtain ⟨go18, co18, eo18, gb18, gl18, cl18, HG18⟩ := Kd.R_form HO_5.out (by omega)
                              (first | cases eo18 | (injection eo18 with ea_ en_ ec_; (first | subst ea_ | (injection ea_ with ea_; subst ea_)); subst ec_; clear en_))
                              have GB18 := Aside0.mk gb18
                              have GG18 := Aside0.mk HG18
                              clear gb18 gl18 HG18
                              obtain ⟨hx18_0, hf18_0⟩ := Kd.R_celln 0 HO_5.out (x28_2 : Int) p18 q18
                              replace p18 := eq_true p18
                              replace q18 := eq_true q18
                              have HP19 := Kd.R_putg HO_5.out (x28_2 : Int) (wrap32 (IntKind.u64.wrap (Int.tdiv (IntKind.u64.wrap ((IntKind.u64.wrap (rd l1 x28_2)) * (IntKind.u64.wrap (a0)))) x6_1)))
                              go_wp2_with (first | ((with_reducible refine gate_store (t := 21) (p := 49) rfl ?_); refine store_event (t := 21) (p := 49) (v := ?vo_w20) (w1 := (wr.setCell ⟨go18, (x28_2 : Int).toNat, none⟩ (.int .i32 (wrap32 (IntKind.u64.wrap (Int.tdiv (IntKind.u64.wrap ((IntKind.u64.wrap (rd l1 x28_2)) * (IntKind.u64.wrap (a0)))) x6_1)))))) ?hg ?ho ?hn ?hr ?_; (case ho => rfl); (case hg => rfl); (case hn => rfl); (case hr => first | (go_simp; done) | (go_simp; rfl)); intro w20 hw; have hg : wr.grownBy w20 (some go18) := (by rw [hw]; exact HP19.2); have hp_ : Kd.R (Kd.int .i32) 21 w20 w.heap.size (fun _ => True) (.slice (some ⟨go18, 0, none⟩) x5_2.length co18) y135 := (by rw [hw, Ny135.out]; exact HP19.1); clear HP19; have n0_ := Aside0.mk (hp_); have n1_ := Aside0.mk ((by rw [hw]; exact below_set (HB.out) GB18.out : Below w.heap.size w w20)); clear HO_5; clear HB; have HO_5 := n0_; have HB := n1_; clear n0_ n1_; clear hg hw hp_))
                              go_roundg k2
                              case measure => have := HK1.out; have := HK2.out; omega
                              case rel => exact ⟨(y135), (wrap64 (x28_2 + 1)), (by first | rfl | (simp; done) | (simp [*]; done)), H', ⟨by have := HK1.out; have := HK2.out; omega⟩, ⟨by (with_reducible repeat (first | apply Kd.R_alloc | apply Kd.R_drewN | apply Kd.R_drew)); exact HO_5.out⟩, ⟨by repeat (first | (with_reducible first | exact HB.out | apply below_alloc | apply pw_below_drewN | apply below_drew1) | exact HB.out)⟩⟩
                            · rw [if_neg c17] at H
                              exact absurd H (by simp)
                        · rw [if_neg c15] at H
                          have c15b0 : decide (0 < a0) = false := decide_eq_false c15
                          clear c15
                          have H' := Aside0.mk H
                          clear H
                          have p134 : 0 ≤ (x28_2 : Int) := of_decide_eq_true (by first | (with_reducible assumption) | assumption)
                          have q134 : x28_2 < (l1.length : Int) := of_decide_eq_true (by first | (with_reducible assumption) | assumption)
                          obtain ⟨ad134, e134, hx134_0⟩ := Kd.at_int HR1.out x28_2 p134 q134
                          cases e134
                          replace hx134_0 := (HB.out.cell (World.block_lt_of_cell? w _ hx134_0)).trans hx134_0
                          replace p134 := eq_true p134
                          replace q134 := eq_true q134
                          go_wp2
                          go_roundg k2
                          case measure => have := HK1.out; have := HK2.out; omega
                          case rel => exact ⟨(x5_2), (wrap64 (x28_2 + 1)), (by first | rfl | (simp; done) | (simp [*]; done)), H', ⟨by have := HK1.out; have := HK2.out; omega⟩, ⟨by (with_reducible repeat (first | apply Kd.R_alloc | apply Kd.R_drewN | apply Kd.R_drew)); exact HO_5.out⟩, ⟨by repeat (first | (with_reducible first | exact HB.out | apply below_alloc | apply pw_below_drewN | apply below_drew1) | exact HB.out)⟩⟩
                      · rw [if_neg c14] at H
                        have c14b0 : decide (0 < (rd l1 x28_2)) = false := decide_eq_false c14
                        clear c14
                        have H' := Aside0.mk H
                        clear H
                        have p134 : 0 ≤ (x28_2 : Int) := of_decide_eq_true (by first | (with_reducible assumption) | assumption)
                        have q134 : x28_2 < (l1.length : Int) := of_decide_eq_true (by first | (with_reducible assumption) | assumption)
                        obtain ⟨ad134, e134, hx134_0⟩ := Kd.at_int HR1.out x28_2 p134 q134
                        cases e134
                        replace hx134_0 := (HB.out.cell (World.block_lt_of_cell? w _ hx134_0)).trans hx134_0
                        replace p134 := eq_true p134
                        replace q134 := eq_true q134
                        go_wp2
                        go_roundg k2
                        case measure => have := HK1.out; have := HK2.out; omega
                        case rel => exact ⟨(x5_2), (wrap64 (x28_2 + 1)), (by first | rfl | (simp; done) | (simp [*]; done)), H', ⟨by have := HK1.out; have := HK2.out; omega⟩, ⟨by (with_reducible repeat (first | apply Kd.R_alloc | apply Kd.R_drewN | apply Kd.R_drew)); exact HO_5.out⟩, ⟨by repeat (first | (with_reducible first | exact HB.out | apply below_alloc | apply pw_below_drewN | apply below_drew1) | exact HB.out)⟩⟩
                    · rw [if_neg c13] at H
                      exact absurd H (by simp)
                  · rw [if_neg c12] at H
                    exact absurd H (by simp)
                · rw [if_neg c11] at H
                  have c11b0 : decide (x28_2 < (l1.length : Int)) = false := decide_eq_false c11
                  clear c11
                  obtain rfl := Option.some.inj H
                  go_wp2
                  go_ret
                  exact ⟨_, by first | rfl | (simp [errW_none, errW_some] <;> rfl) | (simp [*, errW_none, errW_some] <;> rfl), by (with_reducible repeat (first | apply Kd.R_alloc | apply Kd.R_drewN | apply Kd.R_drew)); exact HO_5.out, by repeat (first | (with_reducible first | exact HB.out | apply below_alloc | apply pw_below_drewN | apply below_drew1) | exact HB.out)⟩
    · rw [if_neg c4] at H
      exact absurd H (by simp)
  · rw [if_neg c3] at H
    exact absurd H (by simp)

/-! ### norm_Softmax: function 15 -/
def norm_Softmax.l0 : Nat → Int → Int → Int → List Int → List Int → Int → Int → Option (List Int)
  | 0, _, _, _, _, _, _, _ => none
  | k + 1, x0, x1, x7, x8, x20, x21, x22 => if x22 < x21 then (if 0 ≤ x22 then (if x22 < (x20.length : Int) then ((round_Shift.f (wrap64 ((wrap64 ((wrap64 (rd x20 x22)) - x7)) * (wrap64 (x0)))) x1).bind fun t141 => ((curve_Exp.f t141).bind fun t142 => (if x22 < (x8.length : Int) then (norm_Softmax.l0 k x0 x1 x7 (x8.set (x22 : Int).toNat t142) x20 x21 (wrap64 (x22 + 1))) else (none)))) else (none)) else (none)) else ((curve_Shares.f k 65536 x8).bind fun t144 => (some t144))
def norm_Softmax.f (k : Nat) (a0 : Int) (a1 : Int) (l2 : List Int) : Option (List Int) := if (l2.length : Int) = 0 then (some ([] : List Int)) else ((slices_Max_int32_int32.f k l2).bind fun t136 => (if 0 ≤ (l2.length : Int) then (if ((l2.length : Int) : Int).toNat ≤ 70368744177664 then (norm_Softmax.l0 k a0 a1 (wrap64 (t136)) (List.replicate ((l2.length : Int) : Int).toNat 0) l2 (l2.length : Int) 0) else (none)) else (none)))
theorem norm_Softmax.mono_l : ∀ k, (∀ y0 y1 y2 y3 y4 y5 y6, LeO (norm_Softmax.l0 k y0 y1 y2 y3 y4 y5 y6) (norm_Softmax.l0 (k + 1) y0 y1 y2 y3 y4 y5 y6))
  | 0 => fun _ _ _ _ _ _ _ r h => by simp [norm_Softmax.l0] at h
  | k + 1 => by
    have ih0 := norm_Softmax.mono_l k
    · intro y0 y1 y2 y3 y4 y5 y6
      unfold norm_Softmax.l0
      repeat' first
      | (with_reducible exact ih0 _ _ _ _ _ _ _)
      | (with_reducible exact curve_Shares.mono _ _ _)
      | (with_reducible exact slices_Max_int32_int32.mono _ _)
      | (with_reducible exact LeO.refl _)
      | (with_reducible exact LeO.none _)
      | (with_reducible refine LeO.ite ?_ ?_)
      | (with_reducible refine LeO.bind ?_ (fun _ => ?_))
      | exact ih0 _ _ _ _ _ _ _
      | exact curve_Shares.mono _ _ _
      | exact slices_Max_int32_int32.mono _ _
      | exact LeO.none _
      | refine LeO.ite ?_ ?_
      | refine LeO.bind ?_ (fun _ => ?_)
theorem norm_Softmax.mono : ∀ a0 a1 a2 k, LeO (norm_Softmax.f k a0 a1 a2) (norm_Softmax.f (k + 1) a0 a1 a2) := by
  intro a0 a1 a2 k
  have ih0 := norm_Softmax.mono_l k
  unfold norm_Softmax.f
  repeat' first
      | (with_reducible exact ih0 _ _ _ _ _ _ _)
      | (with_reducible exact curve_Shares.mono _ _ _)
      | (with_reducible exact slices_Max_int32_int32.mono _ _)
      | (with_reducible exact LeO.refl _)
      | (with_reducible exact LeO.none _)
      | (with_reducible refine LeO.ite ?_ ?_)
      | (with_reducible refine LeO.bind ?_ (fun _ => ?_))
      | exact ih0 _ _ _ _ _ _ _
      | exact curve_Shares.mono _ _ _
      | exact slices_Max_int32_int32.mono _ _
      | exact LeO.none _
      | refine LeO.ite ?_ ?_
      | refine LeO.bind ?_ (fun _ => ?_)
set_option maxHeartbeats 8000000 in
set_option maxRecDepth 100000 in
theorem norm_Softmax.calls (k : Nat) (a0 : Int) (a1 : Int) (A2 : Option Addr) (c2 : Nat) (l2 : List Int) (r : List Int) (w : World) (hr2 : Kd.C (Kd.int .i32) w A2 l2.length l2) (hc2 : l2.length ≤ c2) (h : norm_Softmax.f k a0 a1 l2 = some r) :
    Calls Try.prog 15 #[.int .i32 a0, .int .i64 a1, .slice A2 l2.length c2] w fun e w' => ∃ v0_ : Value, e = .returned (v0_) ∧ Kd.R (Kd.int .i32) 21 w' w.heap.size (fun _ => True) v0_ r ∧ Below w.heap.size w w' := by
  have HR2 := Aside0.mk hr2
  have HC2 := Aside0.mk hc2
  clear hr2 hc2
  have HB := Aside0.mk (Below.refl w.heap.size w)
  have H : (if (l2.length : Int) = 0 then (some ([] : List Int)) else ((slices_Max_int32_int32.f k l2).bind fun t136 => (if 0 ≤ (l2.length : Int) then (if ((l2.length : Int) : Int).toNat ≤ 70368744177664 then (norm_Softmax.l0 k a0 a1 (wrap64 (t136)) (List.replicate ((l2.length : Int) : Int).toNat 0) l2 (l2.length : Int) 0) else (none)) else (none)))) = some r := h
  clear h
  by_cases c4 : (l2.length : Int) = 0
  · rw [if_pos c4] at H
    have c4b0 : ((l2.length : Int) == 0) = true := beq_iff_eq.mpr c4
    have c4b1 : ((l2.length : Int) != 0) = false := bne_eq_false_iff_eq.mpr c4
    clear c4
    obtain rfl := Option.some.inj H
    go_enter Try.func15, Try.ntmps15
    go_wp2
    go_ret
    exact ⟨_, by first | rfl | (simp [errW_none, errW_some] <;> rfl) | (simp [*, errW_none, errW_some] <;> rfl), by first | exact Kd.R_nil _ _ _ _ _ | exact Kd.N_nil _ _ _ _ _ | exact Kd.V_nil _ _ _ _ _ | exact Kd.Q_nil _ _ _ _ _ | exact Kd.S_nil _ _ _ _ _, by repeat (first | (with_reducible first | exact HB.out | apply below_alloc | apply pw_below_drewN | apply below_drew1) | exact HB.out)⟩
  · rw [if_neg c4] at H
    have c4b0 : ((l2.length : Int) == 0) = false := beq_eq_false_iff_ne.mpr c4
    have c4b1 : ((l2.length : Int) != 0) = true := bne_iff_ne.mpr c4
    have c4b2 : ¬ (l2 = []) := fun h_ => c4 (by rw [h_]; rfl)
    replace H := Option.bind_eq_some_iff.mp H
    obtain ⟨t136, A50, H⟩ := H
    replace H : (if 0 ≤ (l2.length : Int) then (if ((l2.length : Int) : Int).toNat ≤ 70368744177664 then (norm_Softmax.l0 k a0 a1 (wrap64 (t136)) (List.replicate ((l2.length : Int) : Int).toNat 0) l2 (l2.length : Int) 0) else (none)) else (none)) = some r := H
    have A5 := Aside0.mk A50
    clear A50
    by_cases c6 : 0 ≤ (l2.length : Int)
    · rw [if_pos c6] at H
      have c6b0 := eq_true c6
      have c6b1 : decide (0 ≤ (l2.length : Int)) = true := decide_eq_true c6
      clear c6
      by_cases c7 : ((l2.length : Int) : Int).toNat ≤ 70368744177664
      · rw [if_pos c7] at H
        have c7b0 := eq_true c7
        have c7b1 : decide (((l2.length : Int) : Int).toNat ≤ 70368744177664) = true := decide_eq_true c7
        clear c7
        obtain ⟨y137, hy137⟩ : ∃ y_ : List Int, y_ = (List.replicate ((l2.length : Int) : Int).toNat 0) := ⟨_, rfl⟩
        replace H : (norm_Softmax.l0 k a0 a1 (wrap64 (t136)) y137 l2 (l2.length : Int) 0) = some r := by first | (rw [hy137]; with_reducible exact H) | (have H2_ := (Option.bind_some _ _).symm.trans H; rw [hy137]; with_reducible exact H2_) | (have H2_ := (Option.bind_some _ _).symm.trans H; with_reducible exact H2_) | with_reducible exact H | (rw [hy137]; exact H) | exact H
        have Ny137 := Aside0.mk hy137
        clear hy137
        have H' := Aside0.mk H
        clear H
        go_enter Try.func15, Try.ntmps15
        go_wp2_with (first | ((with_reducible refine gate_callee (f := 30) rfl ?_); refine goesL_ (some 15) rfl rfl Try.func30 (by kernel_rfl) rfl #[.slice A2 l2.length c2] rfl (by (try simp only [List.map_toArray, List.map_cons, List.map_nil]); first | done | rfl | (simp only [List.length_drop, List.length_take]; rfl)) ?_; (with_reducible refine (slices_Max_int32_int32.calls k _ _ l2 t136 _ ?side1 ?side2 A5.out).mono ?_); (case side1 => repeat (first | exact HR2.out | (with_reducible refine Kd.C_alloc ?_ _) | (with_reducible refine Kd.C_drewN ?_ _) | (with_reducible refine Kd.C_drew ?_))); (case side2 => exact HC2.out); rintro e w8 ⟨rfl, hb⟩; refine ⟨_, rfl, ?_⟩; have n0_ := Aside0.mk (below_step (by repeat (first | (with_reducible first | exact HB.out | apply below_alloc | apply pw_below_drewN | apply below_drew1) | exact HB.out)) hb); clear HB; have HB := n0_; clear n0_; (try clear hb); (try clear hb2); (try clear hk); (try clear hi)) | ((with_reducible refine gate_dst (N := 19) rfl ?_); refine Kd.R_make (Kd.int .i32) _ 21 rfl (N := 19) rfl 23 _ _ rfl (l2.length : Int) rfl rfl Try.underlying23 (.int .i32 0) 4 info21 rfl (by decide) (by omega) 0 (ok := fun _ => True) (okp := fun _ => True) rfl (fun _ hk => hk) trivial (of_decide_eq_true (by first | (with_reducible assumption) | assumption)) (Nat.le_trans (Nat.mul_le_mul_right _ (of_decide_eq_true (by first | (with_reducible assumption) | assumption) : (l2.length : Int).toNat ≤ 70368744177664)) (by omega)) (Below.refl _ _) (Nat.le_refl _) ?_; intro v138 w9 ho10 hb hg_ hnew_; clear hg_ hnew_; (first | rw [← Ny137.out] at ho10 | (simp only [Int.reduceToNat] at ho10; rw [← Ny137.out] at ho10)); have n0_ := Aside0.mk (Kd.R_lower ho10 (below_size (by repeat (first | (with_reducible first | exact HB.out | apply below_alloc | apply pw_below_drewN | apply below_drew1) | exact HB.out)))); have n1_ := Aside0.mk (below_step (by repeat (first | (with_reducible first | exact HB.out | apply below_alloc | apply pw_below_drewN | apply below_drew1) | exact HB.out)) hb); clear HB; have HO139 := n0_; have HB := n1_; clear n0_ n1_; clear hb ho10))
        go_loopg [22] k (fun kq v22 w' => ∃ (x8_1 : List Int) (x22_1 : Int), v22 = .int .i64 x22_1 ∧ Aside0 (norm_Softmax.l0 kq a0 a1 (wrap64 (t136)) x8_1 l2 (l2.length : Int) x22_1 = some r) ∧ Aside0 (kq ≤ k) ∧ Aside0 (Kd.R (Kd.int .i32) 21 w' w.heap.size (fun _ => True) v138 x8_1) ∧ Aside0 (Below w.heap.size w w'))
        case atStart => exact ⟨(y137), (0), (by first | rfl | (simp; done) | (simp [*]; done)), H', ⟨Nat.le_refl _⟩, ⟨by (with_reducible repeat (first | apply Kd.R_alloc | apply Kd.R_drewN | apply Kd.R_drew)); exact HO139.out⟩, ⟨by repeat (first | (with_reducible first | exact HB.out | apply below_alloc | apply pw_below_drewN | apply below_drew1) | exact HB.out)⟩⟩
        case round =>
          clear H'
          try clear c1
          try clear c2
          try clear p2
          try clear c3
          try clear c4
          try clear c4b0
          try clear c4b1
          try clear c4b2
          try clear c6
          try clear c6b0
          try clear c6b1
          try clear p6
          try clear c7
          try clear c7b0
          try clear c7b1
          obtain ⟨x8_1, x22_1, rfl, HA, HK1, HO_8, HB⟩ := hrel
          cases gk with
          | zero => exact absurd HA.out (by simp [norm_Softmax.l0])
          | succ k1 =>
            have H := HA.out
            clear HA
            simp only [norm_Softmax.l0] at H
            by_cases c11 : x22_1 < (l2.length : Int)
            · rw [if_pos c11] at H
              have c11b0 : decide (x22_1 < (l2.length : Int)) = true := decide_eq_true c11
              clear c11
              by_cases c12 : 0 ≤ x22_1
              · rw [if_pos c12] at H
                have c12b0 : decide (0 ≤ x22_1) = true := decide_eq_true c12
                clear c12
                by_cases c13 : x22_1 < (l2.length : Int)
                · rw [if_pos c13] at H
                  have c13b0 : decide (x22_1 < (l2.length : Int)) = true := decide_eq_true c13
                  clear c13
                  replace H := Option.bind_eq_some_iff.mp H
                  obtain ⟨t141, A140, H⟩ := H
                  replace H : ((curve_Exp.f t141).bind fun t142 => (if x22_1 < (x8_1.length : Int) then (norm_Softmax.l0 k1 a0 a1 (wrap64 (t136)) (x8_1.set (x22_1 : Int).toNat t142) l2 (l2.length : Int) (wrap64 (x22_1 + 1))) else (none))) = some r := H
                  have A14 := Aside0.mk A140
                  clear A140
                  replace H := Option.bind_eq_some_iff.mp H
                  obtain ⟨t142, A150, H⟩ := H
                  replace H : (if x22_1 < (x8_1.length : Int) then (norm_Softmax.l0 k1 a0 a1 (wrap64 (t136)) (x8_1.set (x22_1 : Int).toNat t142) l2 (l2.length : Int) (wrap64 (x22_1 + 1))) else (none)) = some r := H
                  have A15 := Aside0.mk A150
                  clear A150
                  by_cases c16 : x22_1 < (x8_1.length : Int)
                  · rw [if_pos c16] at H
                    have c16b0 : decide (x22_1 < (x8_1.length : Int)) = true := decide_eq_true c16
                    clear c16
                    obtain ⟨y143, hy143⟩ : ∃ y_ : List Int, y_ = (x8_1.set (x22_1 : Int).toNat t142) := ⟨_, rfl⟩
                    replace H : (norm_Softmax.l0 k1 a0 a1 (wrap64 (t136)) y143 l2 (l2.length : Int) (wrap64 (x22_1 + 1))) = some r := by first | (rw [hy143]; with_reducible exact H) | (have H2_ := (Option.bind_some _ _).symm.trans H; rw [hy143]; with_reducible exact H2_) | (have H2_ := (Option.bind_some _ _).symm.trans H; with_reducible exact H2_) | with_reducible exact H | (rw [hy143]; exact H) | exact H
                    have Ny143 := Aside0.mk hy143
                    clear hy143
                    have H' := Aside0.mk H
                    clear H
                    have p140 : 0 ≤ (x22_1 : Int) := of_decide_eq_true (by first | (with_reducible assumption) | assumption)
                    have q140 : x22_1 < (l2.length : Int) := of_decide_eq_true (by first | (with_reducible assumption) | assumption)
                    obtain ⟨ad140, e140, hx140_0⟩ := Kd.at_int HR2.out x22_1 p140 q140
                    cases e140
                    replace hx140_0 := (HB.out.cell (World.block_lt_of_cell? w _ hx140_0)).trans hx140_0
                    replace p140 := eq_true p140
                    replace q140 := eq_true q140
                    go_wp2_with (first | ((with_reducible refine gate_callee (f := 25) rfl ?_); refine goesL_ (some 37) rfl rfl Try.func25 (by kernel_rfl) rfl #[.int .i64 (wrap64 ((wrap64 ((wrap64 (rd l2 x22_1)) - (wrap64 (t136)))) * (wrap64 (a0)))), .int .i64 a1] rfl (by (try simp only [List.map_toArray, List.map_cons, List.map_nil]); first | done | rfl | (simp only [List.length_drop, List.length_take]; rfl)) ?_; (with_reducible refine (round_Shift.calls (wrap64 ((wrap64 ((wrap64 (rd l2 x22_1)) - (wrap64 (t136)))) * (wrap64 (a0)))) a1 t141 _ A14.out).mono ?_); rintro e w18 ⟨rfl, hb⟩; refine ⟨_, rfl, ?_⟩; have n0_ := Aside0.mk (Kd.R_below (by (with_reducible repeat (first | apply Kd.R_alloc | apply Kd.R_drewN | apply Kd.R_drew)); exact HO_8.out) hb); have n1_ := Aside0.mk (below_step (by repeat (first | (with_reducible first | exact HB.out | apply below_alloc | apply pw_below_drewN | apply below_drew1) | exact HB.out)) hb); clear HO_8; clear HB; have HO_8 := n0_; have HB := n1_; clear n0_ n1_; (try clear hb); (try clear hb2); (try clear hk); (try clear hi)) | ((with_reducible refine gate_callee (f := 31) rfl ?_); refine goesL_ (some 38) rfl rfl Try.func31 (by kernel_rfl) rfl #[.int .i64 t141] rfl (by (try simp only [List.map_toArray, List.map_cons, List.map_nil]); first | done | rfl | (simp only [List.length_drop, List.length_take]; rfl)) ?_; (with_reducible refine (curve_Exp.calls t141 t142 _ A15.out).mono ?_); rintro e w19 ⟨rfl, hb⟩; refine ⟨_, rfl, ?_⟩; have n0_ := Aside0.mk (Kd.R_below (by (with_reducible repeat (first | apply Kd.R_alloc | apply Kd.R_drewN | apply Kd.R_drew)); exact HO_8.out) hb); have n1_ := Aside0.mk (below_step (by repeat (first | (with_reducible first | exact HB.out | apply below_alloc | apply pw_below_drewN | apply below_drew1) | exact HB.out)) hb); clear HO_8; clear HB; have HO_8 := n0_; have HB := n1_; clear n0_ n1_; (try clear hb); (try clear hb2); (try clear hk); (try clear hi); have p17 : 0 ≤ (x22_1 : Int) := of_decide_eq_true (by first | (with_reducible assumption) | assumption); have q17 : (x22_1 : Int) < ((x8_1.length : Int) : Int) := of_decide_eq_true (by first | (with_reducible assumption) | assumption); obtain ⟨go17, co17, eo17, gb17, gl17, cl17, HG17⟩ := Kd.R_form HO_8.out (by omega); (first | cases eo17 | (injection eo17 with ea_ en_ ec_; (first | subst ea_ | (injection ea_ with ea_; subst ea_)); subst ec_; clear en_)); have GB17 := Aside0.mk gb17; have GG17 := Aside0.mk HG17; clear gb17 gl17 HG17; obtain ⟨hx17_0, hf17_0⟩ := Kd.R_celln 0 HO_8.out (x22_1 : Int) p17 q17; replace p17 := eq_true p17; replace q17 := eq_true q17; obtain ⟨hy20_, hz20_⟩ := Kd.R_celln 0 HO_8.out (x22_1 : Int) (of_decide_eq_true (by first | (with_reducible assumption) | assumption)) (of_decide_eq_true (by first | (with_reducible assumption) | assumption)); have HP20 := Kd.R_putg HO_8.out (x22_1 : Int) t142) | ((with_reducible refine gate_store (t := 21) (p := 39) rfl ?_); refine store_event (t := 21) (p := 39) (v := ?vo_w21) (w1 := (w19.setCell ⟨go17, (x22_1 : Int).toNat, none⟩ (.int .i32 t142))) ?hg ?ho ?hn ?hr ?_; (case ho => rfl); (case hg => rfl); (case hn => rfl); (case hr => first | (go_simp; done) | (go_simp; rfl)); intro w21 hw; have hg : w19.grownBy w21 (some go17) := (by rw [hw]; exact HP20.2); have hp_ : Kd.R (Kd.int .i32) 21 w21 w.heap.size (fun _ => True) (.slice (some ⟨go17, 0, none⟩) x8_1.length co17) y143 := (by rw [hw, Ny143.out]; exact HP20.1); clear HP20; have n0_ := Aside0.mk (hp_); have n1_ := Aside0.mk ((by rw [hw]; exact below_set (HB.out) GB17.out : Below w.heap.size w w21)); clear HO_8; clear HB; have HO_8 := n0_; have HB := n1_; clear n0_ n1_; clear hg hw hp_))
                    go_roundg k1
                    case measure => have := HK1.out; omega
                    case rel => exact ⟨(y143), (wrap64 (x22_1 + 1)), (by first | rfl | (simp; done) | (simp [*]; done)), H', ⟨by have := HK1.out; omega⟩, ⟨by (with_reducible repeat (first | apply Kd.R_alloc | apply Kd.R_drewN | apply Kd.R_drew)); exact HO_8.out⟩, ⟨by repeat (first | (with_reducible first | exact HB.out | apply below_alloc | apply pw_below_drewN | apply below_drew1) | exact HB.out)⟩⟩
                  · rw [if_neg c16] at H
                    exact absurd H (by simp)
                · rw [if_neg c13] at H
                  exact absurd H (by simp)
              · rw [if_neg c12] at H
                exact absurd H (by simp)
            · rw [if_neg c11] at H
              have c11b0 : decide (x22_1 < (l2.length : Int)) = false := decide_eq_false c11
              clear c11
              replace H := Option.bind_eq_some_iff.mp H
              obtain ⟨t144, A220, H⟩ := H
              replace H : (some t144) = some r := H
              have A22 := Aside0.mk A220
              clear A220
              obtain rfl := Option.some.inj H
              obtain ⟨Ao23, co23, eo23⟩ := Kd.R_slice HO_8.out
              subst eo23
              go_wp2_with (first | ((with_reducible refine gate_callee (f := 32) rfl ?_); refine goesL_ (some 42) rfl rfl Try.func32 (by kernel_rfl) rfl #[.int .i32 65536, .slice Ao23 x8_1.length co23] rfl (by (try simp only [List.map_toArray, List.map_cons, List.map_nil]); first | done | rfl | (simp only [List.length_drop, List.length_take]; rfl)) ?_; (with_reducible refine (curve_Shares.calls k1 65536 _ _ x8_1 t144 _ ?side1 ?side2 A22.out).mono ?_); (case side1 => repeat (first | exact (Kd.R_reads' HO_8.out).2.2 | (with_reducible refine Kd.C_alloc ?_ _) | (with_reducible refine Kd.C_drewN ?_ _) | (with_reducible refine Kd.C_drew ?_))); (case side2 => exact (Kd.R_reads' HO_8.out).2.1); rintro e w24 ⟨v145, rfl, ho0, hb⟩; refine ⟨_, rfl, ?_⟩; have n0_ := Aside0.mk (Kd.R_elder' (by (with_reducible repeat (first | apply Kd.R_alloc | apply Kd.R_drewN | apply Kd.R_drew)); exact HO_8.out) (Kd.R_base ho0) hb); have n1_ := Aside0.mk (Kd.R_lower (Kd.R_new' ho0 (Kd.R_lt (by (with_reducible repeat (first | apply Kd.R_alloc | apply Kd.R_drewN | apply Kd.R_drew)); exact HO_8.out))) (below_size (by repeat (first | (with_reducible first | exact HB.out | apply below_alloc | apply pw_below_drewN | apply below_drew1) | exact HB.out)))); have n2_ := Aside0.mk (below_step (by repeat (first | (with_reducible first | exact HB.out | apply below_alloc | apply pw_below_drewN | apply below_drew1) | exact HB.out)) hb); clear HO_8; clear HB; have HO_8 := n0_; have HO146 := n1_; have HB := n2_; clear n0_ n1_ n2_; (try clear hb); (try clear hb2); (try clear hk); (try clear hi); (try clear ho0)))
              go_ret
              exact ⟨_, by first | rfl | (simp [errW_none, errW_some] <;> rfl) | (simp [*, errW_none, errW_some] <;> rfl), by (with_reducible repeat (first | apply Kd.R_alloc | apply Kd.R_drewN | apply Kd.R_drew)); exact Kd.R_mono HO146.out (fun _ hk => trivial), by repeat (first | (with_reducible first | exact HB.out | apply below_alloc | apply pw_below_drewN | apply below_drew1) | exact HB.out)⟩
      · rw [if_neg c7] at H
        exact absurd H (by simp)
    · rw [if_neg c6] at H
      exact absurd H (by simp)

/-! ### slices_Clone_int8_int8: function 35 (proved by hand) -/
def slices_Clone_int8_int8.f (l0 : List Int) : Option (List Int) := if l0.length < 140737488355328 then (some l0) else (none)
set_option maxHeartbeats 1000000 in
theorem slices_Clone_int8_int8.calls (A0 : Option Addr) (c0 : Nat) (l0 : List Int) (r : List Int) (w : World) (hr0 : Kd.C (Kd.int .i8) w A0 l0.length l0) (hc0 : l0.length ≤ c0) (h : slices_Clone_int8_int8.f l0 = some r) :
    Calls Try.prog 35 #[.slice A0 l0.length c0] w fun e w' => ∃ v0_ : Value, e = .returned (v0_) ∧ Kd.R (Kd.int .i8) 38 w' w.heap.size (fun _ => True) v0_ r ∧ Below w.heap.size w w' := by
  unfold slices_Clone_int8_int8.f at h
  by_cases hl : l0.length < 140737488355328
  · rw [if_pos hl] at h
    obtain rfl := Option.some.inj h
    clear h
    rcases A0 with _ | ad
    · have hz : l0 = [] := by
        rcases Nat.eq_zero_or_pos l0.length with h0 | h0
        · exact List.eq_nil_of_length_eq_zero h0
        · obtain ⟨ad, hx, _⟩ := hr0.2.2 h0
          cases hx
      subst hz
      clear hr0 hl
      have he := fun wx => Lib.run_eql_slice_nil (P := Try.prog) wx 22 38 none 0 c0 0 0 Try.underlying22
      go_enter Try.func35, Try.ntmps35
      go_wp2
      go_ret
      exact ⟨_, rfl, Kd.R_nil _ _ _ _ _, Below.refl _ _⟩
    · have he := fun wx => Lib.run_eql_slice_nil (P := Try.prog) wx 22 38 (some ad) l0.length c0 0 0 Try.underlying22
      have HR0 := Aside0.mk hr0
      clear hr0
      have HR1 : Aside0 (Kd.R (Kd.int .i8) 38 (w.alloc (.cells #[] 38)) w.heap.size (fun _ => True) (.slice (some ⟨w.heap.size, 0, none⟩) 0 0) ([] : List Int)) :=
        ⟨fun _ _ => trivial, [], (by have h_ := World.ownsRow_lit (base := w.heap.size) (e := 38) (size := 1) w #[] 0 (Nat.le_refl _) (by simp [maxLen]) (by simp); simp at h_; exact h_), Reps.none _ _⟩
      have HB1 : Aside0 (Below w.heap.size w (w.alloc (.cells #[] 38))) := ⟨below_alloc (Below.refl _ _) _⟩
      go_enter Try.func35, Try.ntmps35
      go_wp2_with (at_builtin; refine Kd.R_append_rows (Kd.int .i8) (w0 := w) w.heap.size rfl (.tmp 5) (.tmp 6) 22 38 (.int .i8 0) 1 rfl Try.underlying22 info38 rfl (by decide) (by omega) (.slice (some ⟨w.heap.size, 0, none⟩) 0 0) ([] : List Int) l0 _ _ _ (fun _ => True) (fun _ => False) rfl rfl HR1.out (Kd.C_below HR0.out HB1.out) (fun _ _ h => h) (fun _ h => h.elim) (fun _ _ => trivial) HB1.out HB1.out.size (by simp; omega) ?_; intro v2 w2 hR2 hB2 _ _; have HR2 := Aside0.mk hR2; have HB2 := Aside0.mk hB2; clear hR2 hB2)
      go_ret
      exact ⟨v2, rfl, by simpa using HR2.out, HB2.out⟩
  · rw [if_neg hl] at h
    exact absurd h (by simp)


/-! ### norm_Gate: function 17 -/
def norm_Gate.l0 : Nat → List Int → Int → Int → Option (List Int)
  | 0, _, _, _ => none
  | k + 1, x3, x8, x9 => if x9 < x8 then (if 0 ≤ x9 then (if x9 < (x3.length : Int) then (norm_Gate.l0 k (x3.set (x9 : Int).toNat (mx (rd x3 x9) 0)) x8 (wrap64 (x9 + 1))) else (none)) else (none)) else (some x3)
def norm_Gate.f (k : Nat) (l0 : List Int) : Option (List Int) := (slices_Clone_int8_int8.f l0).bind fun t147 => (norm_Gate.l0 k t147 (t147.length : Int) 0)
theorem norm_Gate.mono_l : ∀ k, (∀ y0 y1 y2, LeO (norm_Gate.l0 k y0 y1 y2) (norm_Gate.l0 (k + 1) y0 y1 y2))
  | 0 => fun _ _ _ r h => by simp [norm_Gate.l0] at h
  | k + 1 => by
    have ih0 := norm_Gate.mono_l k
    · intro y0 y1 y2
      unfold norm_Gate.l0
      repeat' first
      | (with_reducible exact ih0 _ _ _)
      | (with_reducible exact LeO.refl _)
      | (with_reducible exact LeO.none _)
      | (with_reducible refine LeO.ite ?_ ?_)
      | (with_reducible refine LeO.bind ?_ (fun _ => ?_))
      | exact ih0 _ _ _
      | exact LeO.none _
      | refine LeO.ite ?_ ?_
      | refine LeO.bind ?_ (fun _ => ?_)
theorem norm_Gate.mono : ∀ a0 k, LeO (norm_Gate.f k a0) (norm_Gate.f (k + 1) a0) := by
  intro a0 k
  have ih0 := norm_Gate.mono_l k
  unfold norm_Gate.f
  repeat' first
      | (with_reducible exact ih0 _ _ _)
      | (with_reducible exact LeO.refl _)
      | (with_reducible exact LeO.none _)
      | (with_reducible refine LeO.ite ?_ ?_)
      | (with_reducible refine LeO.bind ?_ (fun _ => ?_))
      | exact ih0 _ _ _
      | exact LeO.none _
      | refine LeO.ite ?_ ?_
      | refine LeO.bind ?_ (fun _ => ?_)
set_option maxHeartbeats 8000000 in
set_option maxRecDepth 100000 in
theorem norm_Gate.calls (k : Nat) (A0 : Option Addr) (c0 : Nat) (l0 : List Int) (r : List Int) (w : World) (hr0 : Kd.C (Kd.int .i8) w A0 l0.length l0) (hc0 : l0.length ≤ c0) (h : norm_Gate.f k l0 = some r) :
    Calls Try.prog 17 #[.slice A0 l0.length c0] w fun e w' => ∃ v0_ : Value, e = .returned (v0_) ∧ Kd.R (Kd.int .i8) 38 w' w.heap.size (fun _ => True) v0_ r ∧ Below w.heap.size w w' := by
  have HR0 := Aside0.mk hr0
  have HC0 := Aside0.mk hc0
  clear hr0 hc0
  have HB := Aside0.mk (Below.refl w.heap.size w)
  have H : ((slices_Clone_int8_int8.f l0).bind fun t147 => (norm_Gate.l0 k t147 (t147.length : Int) 0)) = some r := h
  clear h
  replace H := Option.bind_eq_some_iff.mp H
  obtain ⟨t147, A20, H⟩ := H
  replace H : (norm_Gate.l0 k t147 (t147.length : Int) 0) = some r := H
  have A2 := Aside0.mk A20
  clear A20
  have H' := Aside0.mk H
  clear H
  go_enter Try.func17, Try.ntmps17
  go_wp2_with (first | ((with_reducible refine gate_callee (f := 35) rfl ?_); refine goesL_ (some 6) rfl rfl Try.func35 (by kernel_rfl) rfl #[.slice A0 l0.length c0] rfl (by (try simp only [List.map_toArray, List.map_cons, List.map_nil]); first | done | rfl | (simp only [List.length_drop, List.length_take]; rfl)) ?_; (with_reducible refine (slices_Clone_int8_int8.calls _ _ l0 t147 _ ?side1 ?side2 A2.out).mono ?_); (case side1 => repeat (first | exact HR0.out | (with_reducible refine Kd.C_alloc ?_ _) | (with_reducible refine Kd.C_drewN ?_ _) | (with_reducible refine Kd.C_drew ?_))); (case side2 => exact HC0.out); rintro e w3 ⟨v148, rfl, ho0, hb⟩; refine ⟨_, rfl, ?_⟩; have n0_ := Aside0.mk (Kd.R_lower ho0 (below_size (by repeat (first | (with_reducible first | exact HB.out | apply below_alloc | apply pw_below_drewN | apply below_drew1) | exact HB.out)))); have n1_ := Aside0.mk (below_step (by repeat (first | (with_reducible first | exact HB.out | apply below_alloc | apply pw_below_drewN | apply below_drew1) | exact HB.out)) hb); clear HB; have HO149 := n0_; have HB := n1_; clear n0_ n1_; (try clear hb); (try clear hb2); (try clear hk); (try clear hi); (try clear ho0); obtain ⟨Ao4, co4, eo4⟩ := Kd.R_slice HO149.out; subst eo4))
  go_loopg [9] k (fun kq v9 w' => ∃ (x3_1 : List Int) (x9_1 : Int), v9 = .int .i64 x9_1 ∧ Aside0 (norm_Gate.l0 kq x3_1 (t147.length : Int) x9_1 = some r) ∧ Aside0 (kq ≤ k) ∧ Aside0 (Kd.R (Kd.int .i8) 38 w' w.heap.size (fun _ => True) (.slice Ao4 t147.length co4) x3_1) ∧ Aside0 (Below w.heap.size w w'))
  case atStart => exact ⟨(t147), (0), (by first | rfl | (simp; done) | (simp [*]; done)), H', ⟨Nat.le_refl _⟩, ⟨by (with_reducible repeat (first | apply Kd.R_alloc | apply Kd.R_drewN | apply Kd.R_drew)); exact HO149.out⟩, ⟨by repeat (first | (with_reducible first | exact HB.out | apply below_alloc | apply pw_below_drewN | apply below_drew1) | exact HB.out)⟩⟩
  case round =>
    clear H'
    try clear c1
    try clear p2
    try clear c3
    obtain ⟨x3_1, x9_1, rfl, HA, HK1, HO_3, HB⟩ := hrel
    have hl3_1 := (Kd.R_reads' HO_3.out).1
    rw [hl3_1] at HO_3
    (try simp only [hl3_1])
    cases gk with
    | zero => exact absurd HA.out (by simp [norm_Gate.l0])
    | succ k1 =>
      have H := HA.out
      clear HA
      simp only [norm_Gate.l0] at H
      by_cases c5 : x9_1 < (t147.length : Int)
      · rw [if_pos c5] at H
        have c5b0 : decide (x9_1 < (t147.length : Int)) = true := decide_eq_true c5
        clear c5
        by_cases c6 : 0 ≤ x9_1
        · rw [if_pos c6] at H
          have c6b0 : decide (0 ≤ x9_1) = true := decide_eq_true c6
          clear c6
          by_cases c7 : x9_1 < (x3_1.length : Int)
          · rw [if_pos c7] at H
            have c7b0 : decide (x9_1 < (x3_1.length : Int)) = true := decide_eq_true c7
            clear c7
            obtain ⟨ji8, hji8⟩ : ∃ j_ : Int, (mx (rd x3_1 x9_1) 0) = j_ := ⟨_, rfl⟩
            replace H : (norm_Gate.l0 k1 (x3_1.set (x9_1 : Int).toNat (ji8)) (t147.length : Int) (wrap64 (x9_1 + 1))) = some r := by first | (rw [hji8] at H; exact H) | (simp only [hji8] at H ⊢; exact H)
            have hji8_ : (if (rd x3_1 x9_1) < 0 then 0 else (rd x3_1 x9_1)) = ji8 := hji8
            obtain ⟨y151, hy151⟩ : ∃ y_ : List Int, y_ = (x3_1.set (x9_1 : Int).toNat (ji8)) := ⟨_, rfl⟩
            replace H : (norm_Gate.l0 k1 y151 (t147.length : Int) (wrap64 (x9_1 + 1))) = some r := by first | (rw [hy151]; with_reducible exact H) | (have H2_ := (Option.bind_some _ _).symm.trans H; rw [hy151]; with_reducible exact H2_) | (have H2_ := (Option.bind_some _ _).symm.trans H; with_reducible exact H2_) | with_reducible exact H | (rw [hy151]; exact H) | exact H
            have Ny151 := Aside0.mk hy151
            clear hy151
            have H' := Aside0.mk H
            clear H
            have p150 : 0 ≤ (x9_1 : Int) := of_decide_eq_true (by first | (with_reducible assumption) | assumption)
            have q150 : x9_1 < (x3_1.length : Int) := of_decide_eq_true (by first | (with_reducible assumption) | assumption)
            obtain ⟨ad150, e150, hx150_0⟩ := Kd.at_int (Kd.R_reads' HO_3.out).2.2 x9_1 p150 q150
            cases e150
            replace p150 := eq_true p150
            replace q150 := eq_true q150
            have p9 : 0 ≤ (x9_1 : Int) := of_decide_eq_true (by first | (with_reducible assumption) | assumption)
            have q9 : (x9_1 : Int) < ((x3_1.length : Int) : Int) := of_decide_eq_true (by first | (with_reducible assumption) | assumption)
            obtain ⟨go9, co9, eo9, gb9, gl9, cl9, HG9⟩ := Kd.R_form HO_3.out (by omega)
            (first | cases eo9 | (injection eo9 with ea_ en_ ec_; (first | subst ea_ | (injection ea_ with ea_; subst ea_)); subst ec_; clear en_))
            have GB9 := Aside0.mk gb9
            have GG9 := Aside0.mk HG9
            clear gb9 gl9 HG9
            (first | simp only [add_plain] at hx150_0 | skip)
            obtain ⟨hx9_0, hf9_0⟩ := Kd.R_celln 0 HO_3.out (x9_1 : Int) p9 q9
            replace p9 := eq_true p9
            replace q9 := eq_true q9
            have HP10 := Kd.R_putg HO_3.out (x9_1 : Int) ji8
            go_wp2_with (first | ((with_reducible refine gate_store (t := 38) (p := 19) rfl ?_); refine store_event (t := 38) (p := 19) (v := ?vo_w11) (w1 := (wr.setCell ⟨go9, (x9_1 : Int).toNat, none⟩ (.int .i8 ji8))) ?hg ?ho ?hn ?hr ?_; (case ho => rfl); (case hg => rfl); (case hn => rfl); (case hr => first | (go_simp; done) | (go_simp; rfl)); intro w11 hw; have hg : wr.grownBy w11 (some go9) := (by rw [hw]; exact HP10.2); have hp_ : Kd.R (Kd.int .i8) 38 w11 w.heap.size (fun _ => True) (.slice (some ⟨go9, 0, none⟩) x3_1.length co4) y151 := (by rw [hw, Ny151.out]; exact HP10.1); clear HP10; have n0_ := Aside0.mk (hp_); have n1_ := Aside0.mk ((by rw [hw]; exact below_set (HB.out) GB9.out : Below w.heap.size w w11)); clear HO_3; clear HB; have HO_3 := n0_; have HB := n1_; clear n0_ n1_; clear hg hw hp_))
            (try simp only [← hl3_1])
            go_roundg k1
            case measure => have := HK1.out; omega
            case rel => exact ⟨(y151), (wrap64 (x9_1 + 1)), (by first | rfl | (simp; done) | (simp [*]; done)), H', ⟨by have := HK1.out; omega⟩, ⟨by (try simp only [hl3_1]); (with_reducible repeat (first | apply Kd.R_alloc | apply Kd.R_drewN | apply Kd.R_drew)); exact HO_3.out⟩, ⟨by repeat (first | (with_reducible first | exact HB.out | apply below_alloc | apply pw_below_drewN | apply below_drew1) | exact HB.out)⟩⟩
          · rw [if_neg c7] at H
            exact absurd H (by simp)
        · rw [if_neg c6] at H
          exact absurd H (by simp)
      · rw [if_neg c5] at H
        have c5b0 : decide (x9_1 < (t147.length : Int)) = false := decide_eq_false c5
        (try (have c5b1 := c5b0; rw [hl3_1] at c5b1))
        clear c5
        obtain rfl := Option.some.inj H
        go_wp2
        go_ret
        exact ⟨_, by first | rfl | (simp [errW_none, errW_some] <;> rfl) | (simp [*, errW_none, errW_some] <;> rfl), by (with_reducible repeat (first | apply Kd.R_alloc | apply Kd.R_drewN | apply Kd.R_drew)); exact HO_3.out, by repeat (first | (with_reducible first | exact HB.out | apply below_alloc | apply pw_below_drewN | apply below_drew1) | exact HB.out)⟩

end Go.Proofs.Ytmpdkjcobpghaaa.PNormOrders
