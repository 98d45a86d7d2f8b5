/- Whatever is done to a batch. -/
import Derived.Test.YthlildgmjidllaaP1
namespace Go.Proofs.Ythlildgmjidllaa
open Go Go.Hp
set_option linter.unusedVariables false
set_option linter.unusedSimpArgs false
def off (m : S_ref22_Member) : S_ref22_Member := { m with In := false }
def on (m : S_ref22_Member) : S_ref22_Member := { m with In := true }
def ids (L : List S_ref22_Member) : List Int := L.map (·.ID)
theorem ids_len (L : List S_ref22_Member) : (ids L).length = L.length := by simp [ids]
-- finding
theorem find_loop (r : S_ref22_Batch) (v : Int) (hx : r.L.length < 1000) : ∀ (d m k : Nat), k + d = r.L.length → d < m → (∀ x ∈ r.L.take k, x.ID ≠ v) → ∃ q, ref22_Batch_Find.L1 r v m (k : Int) = some q ∧
    ((q = -1 ∧ ∀ x ∈ r.L, x.ID ≠ v) ∨ ∃ j : Nat, q = j ∧ ∃ h : j < r.L.length, r.L[j].ID = v) := by
  intro d
  induction d with
  | zero =>
    intro m k hk hm ha
    obtain ⟨m, rfl⟩ : ∃ q, m = q + 1 := ⟨m - 1, by omega⟩
    rw [ref22_Batch_Find.L1, if_neg (by omega)]
    rw [List.take_of_length_le (by omega)] at ha
    exact ⟨_, rfl, .inl ⟨rfl, ha⟩⟩
  | succ d ih =>
    intro m k hk hm ha
    obtain ⟨m, rfl⟩ : ∃ q, m = q + 1 := ⟨m - 1, by omega⟩
    have hlt : k < r.L.length := by omega
    rw [ref22_Batch_Find.L1, if_pos (by omega), idx_get _ _ hlt]
    simp only [Option.bind_some]
    by_cases e : r.L[k].ID = v
    · rw [if_pos e]; exact ⟨_, rfl, .inr ⟨k, rfl, hlt, e⟩⟩
    · rw [if_neg e, W_succ k (by omega)]
      refine ih m (k + 1) (by omega) (by omega) ?_
      intro y hy
      rw [List.take_succ_eq_append_getElem hlt, List.mem_append, List.mem_singleton] at hy
      rcases hy with hy | rfl
      · exact ha y hy
      · exact e
/-- Found, with what stands before and behind it; or not there. -/
theorem find_eq (r : S_ref22_Batch) (v : Int) (hx : r.L.length < 1000) (hn : (ids r.L).Nodup) : (ref22_Batch_Find 1000 r v = some (-1) ∧ ∀ x ∈ r.L, x.ID ≠ v) ∨
    ∃ A m B, r.L = A ++ m :: B ∧ m.ID = v ∧ ref22_Batch_Find 1000 r v = some (A.length : Int) ∧ (∀ x ∈ A, x.ID ≠ v) ∧ (∀ x ∈ B, x.ID ≠ v) := by
  obtain ⟨q, h1, h2⟩ := find_loop r v hx r.L.length 1000 0 (by omega) (by omega) (by simp)
  rw [ref22_Batch_Find, show (0 : Int) = ((0 : Nat) : Int) from rfl, h1]
  rcases h2 with ⟨rfl, h⟩ | ⟨j, rfl, hj, h⟩
  · exact .inl ⟨rfl, h⟩
  · have hs : r.L = r.L.take j ++ r.L[j] :: r.L.drop (j + 1) := by
      rw [← List.drop_eq_getElem_cons hj, List.take_append_drop]
    refine .inr ⟨_, _, _, hs, h, ?_, ?_, ?_⟩
    · rw [List.length_take, Nat.min_eq_left (by omega)]
    all_goals
      intro x hx e
      rw [hs, ids, List.map_append, List.map_cons, List.nodup_append, List.nodup_cons] at hn
    · exact hn.2.2 x.ID (List.mem_map_of_mem hx) r.L[j].ID List.mem_cons_self (e.trans h.symm)
    · have h3 := hn.2.1.1
      rw [h, ← e] at h3
      exact h3 (List.mem_map_of_mem hx)
def without (L : List S_ref22_Member) (v : Int) : List S_ref22_Member := L.filter fun x => !decide (x.ID = v)
theorem without_mid {A B : List S_ref22_Member} {m : S_ref22_Member} {v : Int} (hm : m.ID = v) (hA : ∀ x ∈ A, x.ID ≠ v) (hB : ∀ x ∈ B, x.ID ≠ v) : without (A ++ m :: B) v = A ++ B := by
  unfold without
  rw [List.filter_append, List.filter_cons_of_neg (by simp [hm]), List.filter_eq_self.2 (fun x hx => by simp [hA x hx]), List.filter_eq_self.2 (fun x hx => by simp [hB x hx])]
theorem without_none {L : List S_ref22_Member} {v : Int} (h : ∀ x ∈ L, x.ID ≠ v) : without L v = L := List.filter_eq_self.2 (fun x hx => by simp [h x hx])
theorem rem_eq (r : S_ref22_Batch) (v : Int) (hx : r.L.length < 1000) (hn : (ids r.L).Nodup) : ref22_Batch_Remove 1000 r v = some ((r.L.length : Int) - ((without r.L v).length : Int), ⟨r.Width, without r.L v⟩) := by
  rw [ref22_Batch_Remove]
  rcases find_eq r v hx hn with ⟨h, ha⟩ | ⟨A, m, B, hL, hm, h, hA, hB⟩
  · rw [h]
    simp only [Option.bind_some]
    rw [if_pos (by omega), without_none ha]
    simp
  · rw [h]
    simp only [Option.bind_some]
    have hl : r.L.length = A.length + (B.length + 1) := by rw [hL]; simp
    rw [if_neg (by omega), chk_ok _ (by omega), Int.toNat_natCast, app_ok _ _ (by simp; omega)]
    simp only [Option.bind_some, List.nil_append]
    rw [W_succ _ (by omega), chk_ok _ (by omega), Int.toNat_natCast, Int.toNat_natCast, List.take_of_length_le (l := r.L) (i := r.L.length) (Nat.le_refl _), app_ok _ _ (by simp; omega)]
    simp only [Option.bind_some]
    have e1 : r.L.take A.length = A := by rw [hL]; simp
    have e2 : r.L.drop (A.length + 1) = B := by rw [hL]; simp
    rw [e1, e2]
    have hw : without r.L v = A ++ B := by rw [hL]; exact without_mid hm hA hB
    rw [hw, hl]
    congr 2
    simp; omega
def offAt (L : List S_ref22_Member) (v : Int) : List S_ref22_Member := L.map fun x => if x.ID = v then off x else x
theorem off_self {x : S_ref22_Member} (h : x.In = false) : off x = x := by cases x; simp only at h; subst h; rfl
theorem offAt_id {L : List S_ref22_Member} {v : Int} (h : ∀ x ∈ L, x.ID = v → x.In = false) : offAt L v = L := by
  unfold offAt
  conv => rhs; rw [← List.map_id L]
  refine List.map_congr_left fun x hx => ?_
  by_cases e : x.ID = v
  · rw [if_pos e, off_self (h x hx e)]; rfl
  · rw [if_neg e]; rfl
theorem ids_offAt (L : List S_ref22_Member) (v : Int) : ids (offAt L v) = ids L := by
  unfold ids offAt
  rw [List.map_map]
  refine List.map_congr_left fun x hx => ?_
  by_cases e : x.ID = v <;> simp [e, off]
theorem back_eq (r : S_ref22_Batch) (v : Int) (mp : List (Int × Bool)) (hx : r.L.length < 1000) (hn : (ids r.L).Nodup) (hI : ∀ x ∈ r.L, x.In = isIn mp x.ID) (hR : ∀ y, isIn mp y = true → y ∈ ids r.L) :
    ref22_Batch_Back 1000 r v = some (if isIn mp v = true then 1 else 0, ⟨r.Width, offAt r.L v⟩) := by
  rw [ref22_Batch_Back]
  rcases find_eq r v hx hn with ⟨h, ha⟩ | ⟨A, m, B, hL, hm, h, hA, hB⟩
  · rw [h]
    simp only [Option.bind_some]
    have hf : ¬ isIn mp v = true := fun e => by
      obtain ⟨x, hx, e⟩ := List.mem_map.1 (hR v e)
      exact ha x hx e
    rw [if_pos (by omega), if_neg hf, offAt_id (fun x hx e => absurd e (ha x hx))]
  · rw [h]
    simp only [Option.bind_some]
    have hlt : A.length < r.L.length := by rw [hL]; simp
    have hg : r.L[A.length] = m := by simp [hL]
    have hmem : m ∈ r.L := by rw [hL]; simp
    have hIm := hI m hmem
    rw [hm] at hIm
    rw [if_neg (by omega), idx_get _ _ hlt]
    simp only [Option.bind_some, hg, Int.toNat_natCast]
    by_cases e : m.In = true
    · rw [if_pos e, if_pos (by rw [← hIm]; exact e)]
      congr 2
      have : offAt r.L v = A ++ off m :: B := by
        rw [hL]
        unfold offAt
        rw [List.map_append, List.map_cons, if_pos hm]
        congr 1
        · conv => rhs; rw [← List.map_id A]
          exact List.map_congr_left fun x hx => by rw [if_neg (hA x hx)]; rfl
        · congr 1
          conv => rhs; rw [← List.map_id B]
          exact List.map_congr_left fun x hx => by rw [if_neg (hB x hx)]; rfl
      rw [this, hL]
      simp [off]
    · rw [if_neg e, if_neg (by rw [← hIm]; exact e)]
      rw [offAt_id]
      intro x hx ex
      have := hI x hx
      rw [ex, ← hIm] at this
      simpa [this] using e
theorem rewind_loop (W : Int) : ∀ (d m k : Nat) (L : List S_ref22_Member), k + d = L.length → d < m → L.length < 1000 → ref22_Batch_Rewind.L1 m ⟨W, L⟩ (k : Int) = some ⟨W, L.take k ++ (L.drop k).map off⟩ := by
  intro d
  induction d with
  | zero =>
    intro m k L hk hm hl
    obtain ⟨m, rfl⟩ : ∃ q, m = q + 1 := ⟨m - 1, by omega⟩
    rw [ref22_Batch_Rewind.L1, if_neg (by simp only []; omega), List.drop_of_length_le (by omega), List.take_of_length_le (by omega)]
    simp
  | succ d ih =>
    intro m k L hk hm hl
    obtain ⟨m, rfl⟩ : ∃ q, m = q + 1 := ⟨m - 1, by omega⟩
    have hlt : k < L.length := by omega
    rw [ref22_Batch_Rewind.L1, if_pos (by simp only []; omega), idx_get _ _ hlt]
    simp only [Option.bind_some, Int.toNat_natCast]
    rw [W_succ k (by omega), ih m (k + 1) _ (by simp; omega) (by omega) (by simpa using hl)]
    congr 2
    rw [List.drop_set_of_lt (by omega), List.drop_eq_getElem_cons hlt, List.map_cons, List.take_succ_eq_append_getElem (by simpa using hlt)]
    simp [List.take_set, off]
    exact List.set_eq_of_length_le (by rw [List.length_take]; omega)
theorem rewind_eq (r : S_ref22_Batch) (hl : r.L.length < 1000) : ref22_Batch_Rewind 1000 r = some ⟨r.Width, r.L.map off⟩ := by
  have := rewind_loop r.Width r.L.length 1000 0 r.L (by omega) (by omega) hl
  simpa [ref22_Batch_Rewind] using this
theorem lists_loop (r : S_ref22_Batch) (hx : r.L.length < 1000) : ∀ (d m k : Nat) (a c : List Int), k + d = r.L.length → d < m → a.length = k → c.length ≤ k →
    ref22_Batch_Lists.L1 r m a c (k : Int) = some (a ++ ids (r.L.drop k), c ++ ids ((r.L.drop k).filter (·.In))) := by
  intro d
  induction d with
  | zero =>
    intro m k a c hk hm ha hc
    obtain ⟨m, rfl⟩ : ∃ q, m = q + 1 := ⟨m - 1, by omega⟩
    rw [ref22_Batch_Lists.L1, if_neg (by omega), List.drop_of_length_le (by omega)]
    simp [ids]
  | succ d ih =>
    intro m k a c hk hm ha hc
    obtain ⟨m, rfl⟩ : ∃ q, m = q + 1 := ⟨m - 1, by omega⟩
    have hlt : k < r.L.length := by omega
    rw [ref22_Batch_Lists.L1, if_pos (by omega), idx_get _ _ hlt]
    simp only [Option.bind_some, ref22_Batch_Lists.J2]
    rw [app_ok _ _ (by simp; omega), W_succ k (by omega), List.drop_eq_getElem_cons hlt]
    simp only [Option.bind_some]
    by_cases e : r.L[k].In = true
    · rw [if_pos e, app_ok _ _ (by simp; omega), List.filter_cons_of_pos e]
      simp only [Option.bind_some]
      rw [ih m (k + 1) _ _ (by omega) (by omega) (by simp; omega) (by simp; omega)]
      simp only [ids, List.map_cons, List.append_assoc, List.cons_append, List.nil_append]
    · rw [if_neg e, List.filter_cons_of_neg e, ih m (k + 1) _ _ (by omega) (by omega) (by simp; omega) (by omega)]
      simp only [ids, List.map_cons, List.append_assoc, List.cons_append, List.nil_append]
theorem lists_eq (r : S_ref22_Batch) (hl : r.L.length < 1000) : ref22_Batch_Lists 1000 r = some (ids r.L, ids (r.L.filter (·.In))) := by
  have := lists_loop r hl r.L.length 1000 0 [] [] (by omega) (by omega) rfl (by simp)
  simpa [ref22_Batch_Lists] using this
-- adding
theorem radd_L2 (xs : List Int) (hx : xs.length < 1000) : ∀ (d m k : Nat) (r : S_ref22_Batch), k + d = xs.length → d < m → r.L.length ≤ 1000 + k → ref22_Batch_Add.L2 xs m r (k : Int) = some (0, ⟨r.Width, r.L ++ (xs.drop k).map fun y => ⟨y, false⟩⟩) := by
  intro d
  induction d with
  | zero =>
    intro m k r hk hm hr
    obtain ⟨m, rfl⟩ : ∃ q, m = q + 1 := ⟨m - 1, by omega⟩
    rw [ref22_Batch_Add.L2, if_neg (by omega), List.drop_of_length_le (by omega)]
    simp
  | succ d ih =>
    intro m k r hk hm hr
    obtain ⟨m, rfl⟩ : ∃ q, m = q + 1 := ⟨m - 1, by omega⟩
    have hlt : k < xs.length := by omega
    rw [ref22_Batch_Add.L2, if_pos (by omega), idx_get _ _ hlt, List.drop_eq_getElem_cons hlt]
    simp only [Option.bind_some]
    rw [app_ok _ _ (by simp; omega)]
    simp only [Option.bind_some]
    rw [W_succ k (by omega), ih m (k + 1) _ (by omega) (by omega) (by simp; omega)]
    simp only [List.map_cons, List.append_assoc, List.cons_append, List.nil_append]
theorem radd_L3 (r : S_ref22_Batch) (xs : List Int) (hx : xs.length < 1000) (j : Nat) (hj : j < xs.length) (k1 : Int → Option (Int × S_ref22_Batch)) : ∀ (d m k : Nat) (t : Bool), k + d = j → d < m →
    ref22_Batch_Add.L3 r xs (j : Int) k1 m t (k : Int) = if t = true ∨ xs[j] ∈ (xs.take j).drop k then some (210, r) else k1 ((j + 1 : Nat) : Int) := by
  intro d
  induction d with
  | zero =>
    intro m k t hk hm
    obtain ⟨m, rfl⟩ : ∃ q, m = q + 1 := ⟨m - 1, by omega⟩
    rw [ref22_Batch_Add.L3, if_neg (by omega), List.drop_of_length_le (by simp; omega), W_succ j (by omega)]
    simp
  | succ d ih =>
    intro m k t hk hm
    obtain ⟨m, rfl⟩ : ∃ q, m = q + 1 := ⟨m - 1, by omega⟩
    have hlt : k < (xs.take j).length := by simp; omega
    have hkx : k < xs.length := by omega
    rw [ref22_Batch_Add.L3, if_pos (by omega), List.drop_eq_getElem_cons hlt]
    simp only [ref22_Batch_Add.J4]
    rw [W_succ k (by omega), ih m (k + 1) _ (by omega) (by omega)]
    cases t
    · rw [if_neg (by simp), idx_get _ _ hkx, idx_get _ _ hj]
      simp only [Option.bind_some]
      rw [ih m (k + 1) _ (by omega) (by omega)]
      simp only [List.getElem_take, decide_eq_true_eq, List.mem_cons, Bool.false_eq_true, false_or]
      by_cases e : xs[k] = xs[j]
      · rw [if_pos (.inl e), if_pos (.inl e.symm)]
      · simp [e, Ne.symm e]
    · simp
theorem radd_loop (b : S_batch_Batch) (r : S_ref22_Batch) (xs : List Int) (hb : b.row = ids r.L) (hw : b.width = r.Width) (hw2 : 0 ≤ b.width ∧ b.width ≤ 256) (hr : r.L.length < 1000) (hx : xs.length < 1000) (hn : (ids r.L).Nodup) : ∀ (d m k : Nat), k + d = xs.length → d < m → (∀ y ∈ xs.take k, y ∉ b.row) → (xs.take k).Nodup →
    ref22_Batch_Add.L1 1000 r xs m (k : Int) = some (if addOk b xs then (if (xs.length : Int) > b.width - b.row.length then (80, r) else (0, ⟨r.Width, r.L ++ xs.map fun y => ⟨y, false⟩⟩)) else (210, r)) := by
  have hbl : b.row.length = r.L.length := by rw [hb, ids_len]
  intro d
  induction d with
  | zero =>
    intro m k hk hm h1 h2
    obtain ⟨m, rfl⟩ : ∃ q, m = q + 1 := ⟨m - 1, by omega⟩
    rw [List.take_of_length_le (by omega)] at h1 h2
    have ha : addOk b xs := ⟨h1, h2⟩
    rw [ref22_Batch_Add.L1, if_neg (by omega), if_pos ha, W_in (by omega)]
    by_cases e : (xs.length : Int) > b.width - b.row.length
    · rw [if_pos (by omega), if_pos e]
    · rw [if_neg (by omega), if_neg e, show (0 : Int) = ((0 : Nat) : Int) from rfl, radd_L2 xs hx xs.length 1000 0 r (by omega) (by omega) (by omega)]
      simp
  | succ d ih =>
    intro m k hk hm h1 h2
    obtain ⟨m, rfl⟩ : ∃ q, m = q + 1 := ⟨m - 1, by omega⟩
    have hlt : k < xs.length := by omega
    rw [ref22_Batch_Add.L1, if_pos (by omega), idx_get _ _ hlt]
    simp only [Option.bind_some]
    have hf : ∃ q, ref22_Batch_Find 1000 r xs[k] = some q ∧ (q ≥ 0 ↔ xs[k] ∈ b.row) := by
      rcases find_eq r xs[k] hr hn with ⟨h, ha⟩ | ⟨A, m, B, hL, hm, h, hA, hB⟩
      · refine ⟨_, h, ⟨fun h => by omega, fun h => ?_⟩⟩
        rw [hb] at h
        obtain ⟨x, hx, e⟩ := List.mem_map.1 h
        exact absurd e (ha x hx)
      · refine ⟨_, h, ⟨fun _ => ?_, fun _ => by omega⟩⟩
        rw [hb, hL, ← hm]
        simp [ids]
    obtain ⟨q, hq, hq2⟩ := hf
    rw [hq]
    simp only [Option.bind_some]
    rw [show (0 : Int) = ((0 : Nat) : Int) from rfl, radd_L3 r xs hx k hlt _ k 1000 0 _ (by omega) (by omega)]
    rw [List.drop_zero]
    have hq3 : decide (q ≥ ((0 : Nat) : Int)) = true ↔ xs[k] ∈ b.row := by rw [decide_eq_true_eq]; exact hq2
    by_cases e : xs[k] ∈ b.row ∨ xs[k] ∈ xs.take k
    · have ha : ¬ addOk b xs := by
        rintro ⟨ha, hb⟩
        rcases e with e | e
        · exact ha _ (List.getElem_mem hlt) e
        · exact ((nodup_take xs k hlt).1 (hb.sublist (List.take_sublist _ _))).2 e
      rw [if_pos (e.imp_left hq3.2), if_neg ha]
    · rw [if_neg (fun h => e (h.imp_left hq3.1))]
      refine ih m (k + 1) (by omega) (by omega) ?_ ((nodup_take xs k hlt).2 ⟨h2, fun h => e (.inr h)⟩)
      intro y hy
      rw [List.take_succ_eq_append_getElem hlt, List.mem_append, List.mem_singleton] at hy
      rcases hy with hy | rfl
      · exact h1 y hy
      · exact fun h => e (.inl h)
end Go.Proofs.Ythlildgmjidllaa
