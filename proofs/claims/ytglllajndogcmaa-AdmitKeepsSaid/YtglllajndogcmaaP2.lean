/- A refusal leaves no trace. -/
import Derived.Test.YtglllajndogcmaaP1
namespace Go.Proofs.Ytglllajndogcmaa
open Go Go.Hp
set_option linter.unusedVariables false
set_option linter.unusedSimpArgs false
def oddP (s : S_api_Shape) (y : Int) : Bool := if y < 0 then true else decide (y ≥ s.Vocab)
theorem idxf_any (xs : List Int) (f : Int → Option Bool) (p : Int → Bool) (hf : ∀ y, f y = some (p y)) (hx : xs.length < 1000) : ∀ (d m k : Nat), k + d = xs.length → d < m → ∃ r, slices_IndexFunc_s_int_int.L1 xs f m (k : Int) = some r ∧ (0 ≤ r ↔ ∃ y ∈ xs.drop k, p y = true) := by
  intro d
  induction d with
  | zero =>
    intro m k hk hm
    obtain ⟨m, rfl⟩ : ∃ q, m = q + 1 := ⟨m - 1, by omega⟩
    rw [slices_IndexFunc_s_int_int.L1, if_neg (by omega), List.drop_of_length_le (by omega)]
    exact ⟨_, rfl, by simp⟩
  | succ d ih =>
    intro m k hk hm
    obtain ⟨m, rfl⟩ : ∃ q, m = q + 1 := ⟨m - 1, by omega⟩
    have hlt : k < xs.length := by omega
    obtain ⟨r, h1, h2⟩ := ih m (k + 1) (by omega) (by omega)
    rw [slices_IndexFunc_s_int_int.L1, if_pos (by omega), idx_get _ _ hlt, List.drop_eq_getElem_cons hlt]
    simp only [Option.bind_some, hf]
    by_cases e : p xs[k] = true
    · rw [if_pos e]; exact ⟨(k : Int), rfl, ⟨fun _ => ⟨_, List.mem_cons_self, e⟩, fun _ => by omega⟩⟩
    · rw [if_neg e, W_succ k (by omega)]
      refine ⟨r, h1, ?_⟩
      rw [h2]
      constructor
      · rintro ⟨y, hy, hp⟩; exact ⟨y, List.mem_cons_of_mem _ hy, hp⟩
      · rintro ⟨y, hy, hp⟩
        rcases List.mem_cons.1 hy with rfl | hy
        · exact absurd hp e
        · exact ⟨y, hy, hp⟩
theorem rcheck_loop (s : S_api_Shape) (xs : List Int) (v : Int) (hx : xs.length < 1000) : ∀ (d m k : Nat), k + d = xs.length → d < m → ref09_Check.L1 s xs v m (k : Int) = if ∃ y ∈ xs.drop k, oddP s y = true then some 2 else ref09_Check.L1 s xs v 1 (xs.length : Int) := by
  intro d
  induction d with
  | zero =>
    intro m k hk hm
    obtain ⟨m, rfl⟩ : ∃ q, m = q + 1 := ⟨m - 1, by omega⟩
    rw [List.drop_of_length_le (by omega), if_neg (by simp), show k = xs.length by omega, ref09_Check.L1, ref09_Check.L1, if_neg (Int.lt_irrefl ((xs.length : Nat) : Int)), if_neg (Int.lt_irrefl ((xs.length : Nat) : Int))]
  | succ d ih =>
    intro m k hk hm
    obtain ⟨m, rfl⟩ : ∃ q, m = q + 1 := ⟨m - 1, by omega⟩
    have hlt : k < xs.length := by omega
    rw [ref09_Check.L1, if_pos (by omega), idx_get _ _ hlt, List.drop_eq_getElem_cons hlt]
    simp only [Option.bind_some]
    by_cases e : oddP s xs[k] = true
    · refine Eq.trans ?_ (if_pos ⟨xs[k], List.mem_cons_self, e⟩).symm
      unfold oddP at e
      split at e
      · rename_i h; rw [if_pos h]
      · rename_i h; rw [if_neg h, if_pos (by simpa using e)]
    · have e0 := e
      unfold oddP at e
      split at e
      · exact absurd rfl e
      · rename_i h
        rw [if_neg h, if_neg (by simpa using e), W_succ k (by omega), ih m (k + 1) (by omega) (by omega)]
        congr 1
        apply propext
        constructor
        · rintro ⟨y, hy, hp⟩; exact ⟨y, List.mem_cons_of_mem _ hy, hp⟩
        · rintro ⟨y, hy, hp⟩
          rcases List.mem_cons.1 hy with rfl | hy
          · exact absurd hp e0
          · exact ⟨y, hy, hp⟩
theorem check_same (xs : List Int) (v : Int) (hx : xs.length ≤ 300) (hv : -9223372036854775808 ≤ v ∧ v ≤ 9223372036854775807) : gen_Check 1000 shp xs v = ref09_Check 1000 shp xs v := by
  rw [gen_Check, ref09_Check]
  by_cases h0 : ((xs.length : Nat) : Int) = 0
  · rw [if_pos h0, if_pos h0]
  · rw [if_neg h0, if_neg h0]
    obtain ⟨r, h1, h2⟩ := idxf_any xs (fun y6 => if y6 < 0 then some true else some (decide (y6 ≥ shp.Vocab))) (oddP shp) (fun y => by unfold oddP; split <;> rfl) (by omega) xs.length 1000 0 (by omega) (by omega)
    have h10 : slices_IndexFunc_s_int_int.L1 xs (fun y6 => if y6 < 0 then some true else some (decide (y6 ≥ shp.Vocab))) 1000 0 = some r := h1
    have h3 := rcheck_loop shp xs v (by omega) xs.length 1000 0 (by omega) (by omega)
    have h30 : ref09_Check.L1 shp xs v 1000 0 = _ := h3
    rw [slices_ContainsFunc_s_int_int, slices_IndexFunc_s_int_int, h10, h30]
    simp only [Option.bind_some, decide_eq_true_eq, ge_iff_le, h2]
    by_cases e : ∃ y ∈ xs.drop 0, oddP shp y = true
    · rw [if_pos e, if_pos e]
    · rw [if_neg e, if_neg e, ref09_Check.L1, if_neg (Int.lt_irrefl ((xs.length : Nat) : Int))]
      have hP : shp.Places = 8 := rfl
      simp only [hP]
      by_cases a1 : v < 1
      · rw [if_pos a1, if_pos a1]
      · rw [if_neg a1, if_neg a1]
        by_cases a2 : ((xs.length : Nat) : Int) > 8
        · rw [if_pos a2, if_pos a2]
        · rw [if_neg a2, if_neg a2, W_in (by omega), W_in (x := 8 - _) (by omega), W_in (by omega)]
          by_cases a3 : v - 1 > 8 - ((xs.length : Nat) : Int)
          · rw [if_pos a3, if_pos (by omega)]
          · rw [if_neg a3, if_neg (by omega)]
theorem ridxf_loop (xs : List S_api_Request) (f : S_api_Request → Option Bool) (p : S_api_Request → Bool) (hf : ∀ y, f y = some (p y)) (hx : xs.length < 1000) : ∀ (d m k : Nat), k + d = xs.length → d < m → (∀ y ∈ xs.take k, p y = false) → ∃ r, slices_IndexFunc_s_api_Request_api_Request.L1 xs f m (k : Int) = some r ∧
    ((r = -1 ∧ ∀ y ∈ xs, p y = false) ∨ ∃ q : Nat, r = q ∧ ∃ h : q < xs.length, (∀ y ∈ xs.take q, p y = false) ∧ p xs[q] = true) := by
  intro d
  induction d with
  | zero =>
    intro m k hk hm ha
    obtain ⟨m, rfl⟩ : ∃ q, m = q + 1 := ⟨m - 1, by omega⟩
    rw [slices_IndexFunc_s_api_Request_api_Request.L1, if_neg (by omega)]
    rw [List.take_of_length_le (by omega)] at ha
    exact ⟨_, rfl, .inl ⟨rfl, ha⟩⟩
  | succ d ih =>
    intro m k hk hm ha
    obtain ⟨m, rfl⟩ : ∃ q, m = q + 1 := ⟨m - 1, by omega⟩
    have hlt : k < xs.length := by omega
    rw [slices_IndexFunc_s_api_Request_api_Request.L1, if_pos (by omega), idx_get _ _ hlt]
    simp only [Option.bind_some, hf]
    by_cases e : p xs[k] = true
    · rw [if_pos e]; exact ⟨_, rfl, .inr ⟨k, rfl, hlt, ha, e⟩⟩
    · rw [if_neg e, W_succ k (by omega)]
      refine ih m (k + 1) (by omega) (by omega) ?_
      intro y hy
      rw [List.take_succ_eq_append_getElem hlt, List.mem_append, List.mem_singleton] at hy
      rcases hy with hy | rfl
      · exact ha y hy
      · simpa using e
theorem rdel_loop (xs : List S_api_Request) (f : S_api_Request → Option Bool) (p : S_api_Request → Bool) (hf : ∀ y, f y = some (p y)) (hx : xs.length < 1000) : ∀ (d m k j : Nat) (l : List S_api_Request), k + d = xs.length → d < m → j ≤ k → l.length = xs.length → l.take j = (xs.take k).filter (fun y => !p y) → l.drop k = xs.drop k →
    slices_DeleteFunc_s_api_Request_api_Request.L1 xs f m l (j : Int) (k : Int) = some (xs.filter fun y => !p y) := by
  intro d
  induction d with
  | zero =>
    intro m k j l hk hm hj hl ht hd
    obtain ⟨m, rfl⟩ : ∃ q, m = q + 1 := ⟨m - 1, by omega⟩
    rw [slices_DeleteFunc_s_api_Request_api_Request.L1, if_neg (by omega), chk_ok _ (by omega), chk_ok _ (by omega)]
    rw [List.take_of_length_le (l := xs) (by omega)] at ht
    rw [Int.toNat_natCast, List.take_append_of_le_length (by simp; omega), List.take_take, Nat.min_self, ht]
  | succ d ih =>
    intro m k j l hk hm hj hl ht hd
    obtain ⟨m, rfl⟩ : ∃ q, m = q + 1 := ⟨m - 1, by omega⟩
    have hlt : k < xs.length := by omega
    have hlt' : k < l.length := by omega
    have he : l[k] = xs[k] := by
      rw [List.drop_eq_getElem_cons hlt, List.drop_eq_getElem_cons hlt'] at hd
      injection hd
    have hd' : l.drop (k + 1) = xs.drop (k + 1) := by rw [← List.drop_drop, hd, List.drop_drop]
    rw [slices_DeleteFunc_s_api_Request_api_Request.L1, if_pos (by omega), idx_get _ _ hlt']
    simp only [Option.bind_some, hf, he, slices_DeleteFunc_s_api_Request_api_Request.J3, slices_DeleteFunc_s_api_Request_api_Request.J2]
    rw [W_succ k (by omega), W_succ j (by omega)]
    by_cases e : p xs[k] = true
    · rw [if_pos e, if_neg (by simp)]
      refine ih m (k + 1) j l (by omega) (by omega) (by omega) hl ?_ hd'
      rw [List.take_succ_eq_append_getElem hlt, List.filter_append, ht]
      simp [e]
    · rw [if_neg e, if_pos trivial, idx_get _ _ (by omega : j < l.length)]
      simp only [Option.bind_some, Int.toNat_natCast]
      refine ih m (k + 1) (j + 1) _ (by omega) (by omega) (by omega) (by simpa using hl) ?_ ?_
      · rw [List.take_succ_eq_append_getElem hlt, List.filter_append, ← ht, List.take_succ_eq_append_getElem (by simp; omega)]
        simp [e, List.take_set]
        exact List.set_eq_of_length_le (by rw [List.length_take]; omega)
      · rw [List.drop_set_of_lt (by omega)]; exact hd'
theorem rdel_eq (xs : List S_api_Request) (f : S_api_Request → Option Bool) (p : S_api_Request → Bool) (hf : ∀ y, f y = some (p y)) (hx : xs.length < 1000) : slices_DeleteFunc_s_api_Request_api_Request 1000 xs f = some (xs.filter fun y => !p y) := by
  obtain ⟨r, h1, h2⟩ := ridxf_loop xs f p hf hx xs.length 1000 0 (by omega) (by omega) (by simp)
  rw [slices_DeleteFunc_s_api_Request_api_Request, slices_IndexFunc_s_api_Request_api_Request, show (0 : Int) = ((0 : Nat) : Int) from rfl, h1]
  simp only [Option.bind_some]
  rcases h2 with ⟨rfl, ha⟩ | ⟨q, rfl, hq, ha, hp⟩
  · rw [if_pos rfl]
    congr 1
    exact (List.filter_eq_self.2 (fun y hy => by simp [ha y hy])).symm
  · rw [if_neg (by omega), W_succ q (by omega)]
    refine rdel_loop xs f p hf hx (xs.length - (q + 1)) 1000 (q + 1) q xs (by omega) (by omega) (by omega) rfl ?_ rfl
    rw [List.take_succ_eq_append_getElem hq, List.filter_append]
    rw [List.filter_eq_self.2 (fun y hy => by simp [ha y hy])]
    simp [hp]
theorem has1 (y v : Int) : slices_Contains_s_int_int 1000 [v] y = some (decide (y = v)) := by
  rw [slices_Contains_s_int_int, slices_Index_s_int_int, show (1000 : Nat) = 998 + 1 + 1 from rfl, slices_Index_s_int_int.L1, if_pos (by simp), show (0 : Int) = ((0 : Nat) : Int) from rfl, idx_get _ _ (by simp)]
  simp only [Option.bind_some, List.getElem_cons_zero]
  by_cases e : y = v
  · rw [if_pos e]; simp [e]
  · rw [if_neg e, W_succ 0 (by omega), slices_Index_s_int_int.L1, if_neg (by simp)]
    simp [e]
def gone (l : List S_api_Request) (v : Int) : List S_api_Request := l.filter fun r => !decide (r.ID = v)
theorem cancel_eq (d : S_admit_Desk) (v : Int) (h : d.row.length < 1000) : admit_Desk_Cancel 1000 d [v] = some ((d.row.length : Int) - ((gone d.row v).length : Int), ⟨d.s, d.room, gone d.row v, d.took⟩) := by
  have hle : (gone d.row v).length ≤ d.row.length := List.length_filter_le _ _
  rw [admit_Desk_Cancel, rdel_eq d.row _ (fun r => decide (r.ID = v)) (fun r => by rw [has1]; rfl) h]
  simp only [Option.bind_some]
  rw [show (d.row.filter fun y => !decide (y.ID = v)) = gone d.row v from rfl, W_in (by omega)]
theorem rcancel_loop (q : S_ref21_Desk) (v : Int) (hl : q.L.length < 1000) : ∀ (d m k : Nat) (l : List S_api_Request), k + d = q.L.length → d < m → l.length ≤ k →
    ref21_Desk_Cancel.L1 q v m l (k : Int) = some ((q.L.length : Int) - ((l ++ gone (q.L.drop k) v).length : Int), ⟨q.S, q.Room, l ++ gone (q.L.drop k) v, q.Ids⟩) := by
  intro d
  induction d with
  | zero =>
    intro m k l hk hm hlk
    obtain ⟨m, rfl⟩ : ∃ q, m = q + 1 := ⟨m - 1, by omega⟩
    rw [ref21_Desk_Cancel.L1, if_neg (by omega), List.drop_of_length_le (by omega), W_in (by omega)]
    simp [gone]
  | succ d ih =>
    intro m k l hk hm hlk
    obtain ⟨m, rfl⟩ : ∃ q, m = q + 1 := ⟨m - 1, by omega⟩
    have hlt : k < q.L.length := by omega
    rw [ref21_Desk_Cancel.L1, if_pos (by omega), idx_get _ _ hlt, List.drop_eq_getElem_cons hlt]
    simp only [Option.bind_some, ref21_Desk_Cancel.J2]
    rw [app_ok _ _ (by simp; omega), W_succ k (by omega)]
    simp only [Option.bind_some]
    by_cases e : q.L[k].ID = v
    · rw [if_neg (by simpa using e), ih m (k + 1) l (by omega) (by omega) (by omega), show gone (q.L[k] :: q.L.drop (k + 1)) v = gone (q.L.drop (k + 1)) v from List.filter_cons_of_neg (by simp [e])]
    · rw [if_pos e, ih m (k + 1) _ (by omega) (by omega) (by simp; omega), show gone (q.L[k] :: q.L.drop (k + 1)) v = q.L[k] :: gone (q.L.drop (k + 1)) v from List.filter_cons_of_pos (by simp [e])]
      simp only [List.append_assoc, List.cons_append, List.nil_append]
theorem rcancel_eq (q : S_ref21_Desk) (v : Int) (hl : q.L.length < 1000) : ref21_Desk_Cancel 1000 q v = some ((q.L.length : Int) - ((gone q.L v).length : Int), ⟨q.S, q.Room, gone q.L v, q.Ids⟩) := by
  have := rcancel_loop q v hl q.L.length 1000 0 [] (by omega) (by omega) (by simp)
  simpa [ref21_Desk_Cancel] using this
end Go.Proofs.Ytglllajndogcmaa
