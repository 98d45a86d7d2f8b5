/- What the law needs. -/
import Derived.Test.YtbfiagimgokccaaGreatProg
import Derived.Lib.Strings
import Derived.Lib.Slices
import Derived.Lib.Small
import Derived.Lib.Walk
import Derived.Lib.BitFns
import Derived.Below
import Derived.Deep.Draws
import Derived.Deep.AppendLies
import Derived.Maps.AppendAt
import Derived.OwnWalk
import Derived.Laws.BytesArg
import Derived.Laws.MakeOwn
import Derived.Laws.OwnMore
import Derived.Deep.OwnRows
import Derived.Tactics
import Derived.Laws.Slices
import Derived.WalkKit
import Derived.KernelRfl
import Derived.RowKit3
import Derived.Laws.Rows
import Derived.RowKit
import Derived.Great.BuildSlice
import Derived.Laws.Tables
import Derived.Laws.IdiomRangeMap
section
namespace Go.Proofs.YtbfiagimgokccaaGreatE
open Go Go.RowKit
structure Aside1 (p : Prop) : Prop where
  out : p
def curve_step.tbl : List Int := [65536, 64132, 62757, 61413, 60097, 58809, 57549, 56316, 55109, 53928, 52773, 51642, 50535, 49452, 48393, 47356, 46341, 45348, 44376, 43425, 42495, 41584, 40693, 39821, 38968, 38133, 37316, 36516, 35734, 34968, 34219, 33486, 32768]
def curve_stepf (a0 : Int) : Option (Int) := if 0 ≤ a0 then (if a0 < 33 then (some (curve_step.tbl.getD a0.toNat 0)) else (none)) else (none)
def curve_step.cells : Array Value := (curve_step.tbl.map (Value.int .i32)).toArray
theorem curve_step.cell (w : World) (z : Array Value) (n : Nat) (hn : n < 33) : ((w.alloc (.cells z 214)).setRow w.heap.size curve_step.cells).cell? ⟨w.heap.size, n, none⟩ = some (.int .i32 (curve_step.tbl.getD n 0)) := by
  rw [cell_setRow_same _ _ _ z _ 214 (0, 0) (heap_alloc_new w _)]
  simp only [curve_step.cells, List.getElem?_toArray, List.getElem?_map]
  have hl : n < curve_step.tbl.length := hn
  rw [List.getElem?_eq_getElem hl, List.getD_eq_getElem?_getD, List.getElem?_eq_getElem hl]
  rfl
theorem curve_step.below (w : World) (z : Array Value) : Below w.heap.size w ((w.alloc (.cells z 214)).setRow w.heap.size curve_step.cells) := by
  refine ⟨rfl, rfl, rfl, by simp, fun k hk => ?_⟩
  rw [setRow_other _ _ _ _ (by omega)]
  exact Below.heap_alloc w _ k hk
theorem curve_step.wrap (n : Nat) (hn : n < 33) : wrap64 (curve_step.tbl[n]?.getD 0) = curve_step.tbl.getD n 0 := by
  have h : ∀ n : Fin 33, wrap64 (curve_step.tbl[n.val]?.getD 0) = curve_step.tbl.getD n.val 0 := by decide +kernel
  exact h ⟨n, hn⟩
attribute [local irreducible] curve_step.cells curve_step.tbl in
set_option maxHeartbeats 1000000 in
set_option maxRecDepth 100000 in
theorem curve_step.calls (a0 : Int) (r : Int) (w : World) (h : curve_stepf a0 = some r) :
    Calls Tryz.prog 127 #[.int .i64 a0] w fun e w' => e = .returned (.int .i64 r) ∧ Below w.heap.size w w' := by
  unfold curve_stepf at h
  by_cases h0 : 0 ≤ a0
  · rw [if_pos h0] at h
    by_cases h1 : a0 < 33
    · rw [if_pos h1] at h
      obtain ⟨n, rfl⟩ := Int.eq_ofNat_of_zero_le h0
      have hn : n < 33 := by omega
      obtain rfl := Option.some.inj h
      rw [Int.toNat_natCast]
      clear h h0
      have hcell := fun z => curve_step.cell w z n hn
      have hbel := Aside1.mk (curve_step.below w)
      go_enter Tryz.func127, Tryz.ntmps127
      go_wp2_with (first
        | (refine wpList_buildTo rfl 214 _ rfl (some 4) rfl curve_step.cells (by as_aux_lemma => kernel_rfl) ?_)
        | (refine wpList_store_rowTo rfl 214 _ _ rfl rfl w.heap.size curve_step.cells rfl rfl 214 _ (heap_alloc_new w _) (by as_aux_lemma => kernel_rfl) (by as_aux_lemma => kernel_rfl) (by as_aux_lemma => kernel_rfl) ?_))
      go_ret
      exact ⟨congrArg Ending.returned (congrArg (Value.int IntKind.i64) (curve_step.wrap n hn)), hbel.out _⟩
    · rw [if_neg h1] at h
      exact absurd h (by simp)
  · rw [if_neg h0] at h
    exact absurd h (by simp)


def rope_step.tbl : List Int := [0, 804, 1606, 2404, 3196, 3981, 4756, 5520, 6270, 7005, 7723, 8423, 9102, 9760, 10394, 11003, 11585, 12140, 12665, 13160, 13623, 14053, 14449, 14811, 15137, 15426, 15679, 15893, 16069, 16207, 16305, 16364, 16384]
def rope_stepf (a0 : Int) : Option (Int) := if 0 ≤ a0 then (some (rope_step.tbl.getD (min a0 32).toNat 0)) else (none)
def rope_step.cells : Array Value := (rope_step.tbl.map (Value.int .i16)).toArray
theorem rope_step.cell (w : World) (z : Array Value) (n : Nat) (hn : n < 33) : ((w.alloc (.cells z 213)).setRow w.heap.size rope_step.cells).cell? ⟨w.heap.size, n, none⟩ = some (.int .i16 (rope_step.tbl.getD n 0)) := by
  rw [cell_setRow_same _ _ _ z _ 213 (0, 0) (heap_alloc_new w _)]
  simp only [rope_step.cells, List.getElem?_toArray, List.getElem?_map]
  have hl : n < rope_step.tbl.length := hn
  rw [List.getElem?_eq_getElem hl, List.getD_eq_getElem?_getD, List.getElem?_eq_getElem hl]
  rfl
theorem rope_step.below (w : World) (z : Array Value) : Below w.heap.size w ((w.alloc (.cells z 213)).setRow w.heap.size rope_step.cells) := by
  refine ⟨rfl, rfl, rfl, by simp, fun k hk => ?_⟩
  rw [setRow_other _ _ _ _ (by omega)]
  exact Below.heap_alloc w _ k hk
theorem rope_step.wrap (n : Nat) (hn : n < 33) : wrap64 (rope_step.tbl[n]?.getD 0) = rope_step.tbl.getD n 0 := by
  have h : ∀ n : Fin 33, wrap64 (rope_step.tbl[n.val]?.getD 0) = rope_step.tbl.getD n.val 0 := by decide +kernel
  exact h ⟨n, hn⟩
attribute [local irreducible] rope_step.cells rope_step.tbl in
set_option maxHeartbeats 1000000 in
set_option maxRecDepth 100000 in
theorem rope_step.calls (a0 : Int) (r : Int) (w : World) (h : rope_stepf a0 = some r) :
    Calls Tryz.prog 126 #[.int .i64 a0] w fun e w' => e = .returned (.int .i64 r) ∧ Below w.heap.size w w' := by
  unfold rope_stepf at h
  by_cases h0 : 0 ≤ a0
  · rw [if_pos h0] at h
    obtain ⟨n, rfl⟩ := Int.eq_ofNat_of_zero_le h0
    have hn : (min (n : Int) 32).toNat < 33 := by omega
    obtain rfl := Option.some.inj h
    clear h h0
    have hcell := fun z => rope_step.cell w z _ hn
    have hbel := Aside1.mk (rope_step.below w)
    go_enter Tryz.func126, Tryz.ntmps126
    go_wp2_with (first
      | (refine wpList_buildTo rfl 213 _ rfl (some 4) rfl rope_step.cells (by as_aux_lemma => kernel_rfl) ?_)
      | (refine wpList_store_rowTo rfl 213 _ _ rfl rfl w.heap.size rope_step.cells rfl rfl 213 _ (heap_alloc_new w _) (by as_aux_lemma => kernel_rfl) (by as_aux_lemma => kernel_rfl) (by as_aux_lemma => kernel_rfl) ?_))
    go_ret
    exact ⟨congrArg Ending.returned (congrArg (Value.int IntKind.i64) (rope_step.wrap _ hn)), hbel.out _⟩
  · rw [if_neg h0] at h
    exact absurd h (by simp)


end Go.Proofs.YtbfiagimgokccaaGreatE
end
