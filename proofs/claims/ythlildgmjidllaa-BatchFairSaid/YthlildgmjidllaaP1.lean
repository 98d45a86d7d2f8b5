/- What a batch's functions come to. -/
import Derived.Test.YthlildgmjidllaaT1b
import Derived.Test.YthlildgmjidllaaPl
namespace Go.Proofs.Ythlildgmjidllaa
open Go Go.Hp
set_option linter.unusedVariables false
set_option linter.unusedSimpArgs false
theorem awake22 : law22_awake 1000 = some true := by decide +kernel
theorem index_loop (xs : List Int) (v : Int) (hx : xs.length < 1000) : ∀ (d m k : Nat), k + d = xs.length → d < m → ∃ r, slices_Index_s_int_int.L1 xs v m (k : Int) = some r ∧ (0 ≤ r ↔ v ∈ xs.drop k) := by
  intro d
  induction d with
  | zero =>
    intro m k hk hm
    obtain ⟨m, rfl⟩ : ∃ q, m = q + 1 := ⟨m - 1, by omega⟩
    rw [slices_Index_s_int_int.L1, if_neg (by omega), List.drop_of_length_le (by omega)]
    exact ⟨_, rfl, by simp⟩
  | succ d ih =>
    intro m k hk hm
    obtain ⟨m, rfl⟩ : ∃ q, m = q + 1 := ⟨m - 1, by omega⟩
    have hlt : k < xs.length := by omega
    obtain ⟨r, h1, h2⟩ := ih m (k + 1) (by omega) (by omega)
    rw [slices_Index_s_int_int.L1, if_pos (by omega), idx_get _ _ hlt, List.drop_eq_getElem_cons hlt]
    simp only [Option.bind_some]
    by_cases e : v = xs[k]
    · rw [if_pos e]; exact ⟨(k : Int), rfl, ⟨fun _ => by rw [e]; exact List.mem_cons_self, fun _ => by omega⟩⟩
    · rw [if_neg e, W_succ k (by omega)]
      refine ⟨r, h1, ?_⟩
      rw [h2, List.mem_cons]
      exact ⟨.inr, fun h => h.resolve_left e⟩
theorem contains_eq (xs : List Int) (v : Int) (hx : xs.length < 1000) : slices_Contains_s_int_int 1000 xs v = some (decide (v ∈ xs)) := by
  obtain ⟨r, h1, h2⟩ := index_loop xs v hx xs.length 1000 0 (by omega) (by omega)
  rw [slices_Contains_s_int_int, slices_Index_s_int_int, show (0 : Int) = ((0 : Nat) : Int) from rfl, h1]
  simp only [Option.bind_some, ge_iff_le, List.drop_zero] at h2 ⊢
  congr 1
  exact decide_eq_decide.2 h2
theorem has_loop (xs : List Int) (v : Int) (hx : xs.length < 1000) : ∀ (d m k : Nat), k + d = xs.length → d < m → law22_has.L1 xs v m (k : Int) = some (decide (v ∈ xs.drop k)) := by
  intro d
  induction d with
  | zero =>
    intro m k hk hm
    obtain ⟨m, rfl⟩ : ∃ q, m = q + 1 := ⟨m - 1, by omega⟩
    rw [law22_has.L1, if_neg (by omega), List.drop_of_length_le (by omega)]
    simp
  | succ d ih =>
    intro m k hk hm
    obtain ⟨m, rfl⟩ : ∃ q, m = q + 1 := ⟨m - 1, by omega⟩
    have hlt : k < xs.length := by omega
    have h1 := ih m (k + 1) (by omega) (by omega)
    rw [law22_has.L1, if_pos (by omega), idx_get _ _ hlt, List.drop_eq_getElem_cons hlt]
    simp only [Option.bind_some]
    by_cases e : xs[k] = v
    · rw [if_pos e]; simp [e]
    · rw [if_neg e, W_succ k (by omega), h1]
      congr 1
      rw [decide_eq_decide, List.mem_cons]
      exact ⟨.inr, fun h => h.resolve_left (fun h => e h.symm)⟩
theorem has_eq (xs : List Int) (v : Int) (hx : xs.length < 1000) : law22_has 1000 xs v = some (decide (v ∈ xs)) := has_loop xs v hx xs.length 1000 0 (by omega) (by omega)
theorem ints_loop (xs : List Int) (hx : xs.length < 1000) : ∀ (d m k : Nat), k + d = xs.length → d < m → ref09_Ints.L1 xs xs m (k : Int) = some true := by
  intro d
  induction d with
  | zero =>
    intro m k hk hm
    obtain ⟨m, rfl⟩ : ∃ q, m = q + 1 := ⟨m - 1, by omega⟩
    rw [ref09_Ints.L1, if_neg (by omega)]
  | succ d ih =>
    intro m k hk hm
    obtain ⟨m, rfl⟩ : ∃ q, m = q + 1 := ⟨m - 1, by omega⟩
    have hlt : k < xs.length := by omega
    rw [ref09_Ints.L1, if_pos (by omega), idx_get _ _ hlt]
    simp only [Option.bind_some, ne_eq, not_true_eq_false, if_false]
    rw [W_succ k (by omega)]
    exact ih m (k + 1) (by omega) (by omega)
theorem ints_refl (xs : List Int) (hx : xs.length < 1000) : ref09_Ints 1000 xs xs = some true := by
  rw [ref09_Ints, if_neg (by simp)]
  exact ints_loop xs hx xs.length 1000 0 (by omega) (by omega)
theorem idxf_loop (xs : List Int) (f : Int → Option Bool) (p : Int → Bool) (hf : ∀ y, f y = some (p y)) (hx : xs.length < 1000) : ∀ (d m k : Nat), k + d = xs.length → d < m → (∀ y ∈ xs.take k, p y = false) → ∃ r, slices_IndexFunc_s_int_int.L1 xs f m (k : Int) = some r ∧
    ((r = -1 ∧ ∀ y ∈ xs, p y = false) ∨ ∃ q : Nat, r = q ∧ ∃ h : q < xs.length, (∀ y ∈ xs.take q, p y = false) ∧ p xs[q] = true) := by
  intro d
  induction d with
  | zero =>
    intro m k hk hm ha
    obtain ⟨m, rfl⟩ : ∃ q, m = q + 1 := ⟨m - 1, by omega⟩
    rw [slices_IndexFunc_s_int_int.L1, if_neg (by omega)]
    rw [List.take_of_length_le (by omega)] at ha
    exact ⟨_, rfl, .inl ⟨rfl, ha⟩⟩
  | succ d ih =>
    intro m k hk hm ha
    obtain ⟨m, rfl⟩ : ∃ q, m = q + 1 := ⟨m - 1, by omega⟩
    have hlt : k < xs.length := by omega
    rw [slices_IndexFunc_s_int_int.L1, if_pos (by omega), idx_get _ _ hlt]
    simp only [Option.bind_some, hf]
    by_cases e : p xs[k] = true
    · rw [if_pos e]; exact ⟨_, rfl, .inr ⟨k, rfl, hlt, ha, e⟩⟩
    · rw [if_neg e, W_succ k (by omega)]
      refine ih m (k + 1) (by omega) (by omega) ?_
      intro y hy
      rw [List.take_succ_eq_append_getElem hlt, List.mem_append, List.mem_singleton] at hy
      rcases hy with hy | rfl
      · exact ha y hy
      · simpa using e
theorem del_loop (xs : List Int) (f : Int → Option Bool) (p : Int → Bool) (hf : ∀ y, f y = some (p y)) (hx : xs.length < 1000) : ∀ (d m k j : Nat) (l : List Int), k + d = xs.length → d < m → j ≤ k → l.length = xs.length → l.take j = (xs.take k).filter (fun y => !p y) → l.drop k = xs.drop k →
    slices_DeleteFunc_s_int_int.L1 xs f m l (j : Int) (k : Int) = some (xs.filter fun y => !p y) := by
  intro d
  induction d with
  | zero =>
    intro m k j l hk hm hj hl ht hd
    obtain ⟨m, rfl⟩ : ∃ q, m = q + 1 := ⟨m - 1, by omega⟩
    rw [slices_DeleteFunc_s_int_int.L1, if_neg (by omega), chk_ok _ (by omega), chk_ok _ (by omega)]
    rw [List.take_of_length_le (l := xs) (by omega)] at ht
    rw [Int.toNat_natCast, List.take_append_of_le_length (by simp; omega), List.take_take, Nat.min_self, ht]
  | succ d ih =>
    intro m k j l hk hm hj hl ht hd
    obtain ⟨m, rfl⟩ : ∃ q, m = q + 1 := ⟨m - 1, by omega⟩
    have hlt : k < xs.length := by omega
    have hlt' : k < l.length := by omega
    have he : l[k] = xs[k] := by
      rw [List.drop_eq_getElem_cons hlt, List.drop_eq_getElem_cons hlt'] at hd
      injection hd
    have hd' : l.drop (k + 1) = xs.drop (k + 1) := by rw [← List.drop_drop, hd, List.drop_drop]
    rw [slices_DeleteFunc_s_int_int.L1, if_pos (by omega), idx_get _ _ hlt']
    simp only [Option.bind_some, hf, he, slices_DeleteFunc_s_int_int.J3, slices_DeleteFunc_s_int_int.J2]
    rw [W_succ k (by omega), W_succ j (by omega)]
    by_cases e : p xs[k] = true
    · rw [if_pos e, if_neg (by simp)]
      refine ih m (k + 1) j l (by omega) (by omega) (by omega) hl ?_ hd'
      rw [List.take_succ_eq_append_getElem hlt, List.filter_append, ht]
      simp [e]
    · rw [if_neg e, if_pos trivial, idx_get _ _ (by omega : j < l.length)]
      simp only [Option.bind_some, Int.toNat_natCast]
      refine ih m (k + 1) (j + 1) _ (by omega) (by omega) (by omega) (by simpa using hl) ?_ ?_
      · rw [List.take_succ_eq_append_getElem hlt, List.filter_append, ← ht, List.take_succ_eq_append_getElem (by simp; omega)]
        simp [e, List.take_set]
        exact List.set_eq_of_length_le (by rw [List.length_take]; omega)
      · rw [List.drop_set_of_lt (by omega)]; exact hd'
theorem del_eq (xs : List Int) (f : Int → Option Bool) (p : Int → Bool) (hf : ∀ y, f y = some (p y)) (hx : xs.length < 1000) : slices_DeleteFunc_s_int_int 1000 xs f = some (xs.filter fun y => !p y) := by
  obtain ⟨r, h1, h2⟩ := idxf_loop xs f p hf hx xs.length 1000 0 (by omega) (by omega) (by simp)
  rw [slices_DeleteFunc_s_int_int, slices_IndexFunc_s_int_int, show (0 : Int) = ((0 : Nat) : Int) from rfl, h1]
  simp only [Option.bind_some]
  rcases h2 with ⟨rfl, ha⟩ | ⟨q, rfl, hq, ha, hp⟩
  · rw [if_pos rfl]
    congr 1
    exact (List.filter_eq_self.2 (fun y hy => by simp [ha y hy])).symm
  · rw [if_neg (by omega), W_succ q (by omega)]
    refine del_loop xs f p hf hx (xs.length - (q + 1)) 1000 (q + 1) q xs (by omega) (by omega) (by omega) rfl ?_ rfl
    rw [List.take_succ_eq_append_getElem hq, List.filter_append]
    rw [List.filter_eq_self.2 (fun y hy => by simp [ha y hy])]
    simp [hp]
theorem remove_loop (b : S_batch_Batch) (ids : List Int) (hx : ids.length < 1000) : ∀ (d m k : Nat) (c : S_batch_Batch), k + d = ids.length → d < m →
    batch_Batch_Remove.L1 b ids m c (k : Int) = some (IntKind.i64.wrap (((b.row.length : Nat) : Int) - ((c.row.length : Nat) : Int)), ⟨c.width, c.row, (ids.drop k).foldl mdel c.in_⟩) := by
  intro d
  induction d with
  | zero =>
    intro m k c hk hm
    obtain ⟨m, rfl⟩ : ∃ q, m = q + 1 := ⟨m - 1, by omega⟩
    rw [batch_Batch_Remove.L1, if_neg (by omega), List.drop_of_length_le (by omega)]
    rfl
  | succ d ih =>
    intro m k c hk hm
    obtain ⟨m, rfl⟩ : ∃ q, m = q + 1 := ⟨m - 1, by omega⟩
    have hlt : k < ids.length := by omega
    rw [batch_Batch_Remove.L1, if_pos (by omega), idx_get _ _ hlt, List.drop_eq_getElem_cons hlt]
    simp only [Option.bind_some, List.foldl_cons]
    rw [W_succ k (by omega)]
    exact ih m (k + 1) _ (by omega) (by omega)
theorem remove_eq (b : S_batch_Batch) (ids : List Int) (hb : b.row.length < 1000) (hx : ids.length < 1000) :
    batch_Batch_Remove 1000 b ids = some (((b.row.length : Nat) : Int) - (((b.row.filter fun y => !decide (y ∈ ids)).length : Nat) : Int), ⟨b.width, b.row.filter fun y => !decide (y ∈ ids), ids.foldl mdel b.in_⟩) := by
  rw [batch_Batch_Remove, del_eq b.row _ (fun y => decide (y ∈ ids)) (fun y => by rw [contains_eq ids y hx]; rfl) hb]
  simp only [Option.bind_some]
  have hle := List.length_filter_le (fun y => !decide (y ∈ ids)) b.row
  rw [show (0 : Int) = ((0 : Nat) : Int) from rfl, remove_loop b ids hx ids.length 1000 0 _ (by omega) (by omega), W_in (by simp only []; omega)]
  rfl
theorem members_eq (b : S_batch_Batch) (hb : b.row.length < 1000) : batch_Batch_Members b = some b.row := by
  rw [batch_Batch_Members, slices_Clone_s_int_int, app_ok _ _ (by simp; omega)]
  rfl
theorem room_eq (b : S_batch_Batch) (hb : b.row.length < 1000) (hw : 0 ≤ b.width ∧ b.width ≤ 256) : batch_Batch_Room b = some (b.width - b.row.length) := by
  rw [batch_Batch_Room, W_in (by omega)]
-- adding
def addOk (b : S_batch_Batch) (ids : List Int) : Prop := (∀ y ∈ ids, y ∉ b.row) ∧ ids.Nodup
instance (b : S_batch_Batch) (ids : List Int) : Decidable (addOk b ids) := by unfold addOk; infer_instance
theorem nodup_take (l : List Int) (k : Nat) (h : k < l.length) : (l.take (k + 1)).Nodup ↔ (l.take k).Nodup ∧ l[k] ∉ l.take k := by
  rw [List.take_succ_eq_append_getElem h, List.nodup_append]
  constructor
  · rintro ⟨h1, _, h3⟩
    exact ⟨h1, fun hm => h3 _ hm _ (by simp) rfl⟩
  · rintro ⟨h1, h2⟩
    refine ⟨h1, by simp, ?_⟩
    intro a ha c hc e
    rw [List.mem_singleton] at hc
    subst hc e
    exact h2 ha
theorem add_loop (b : S_batch_Batch) (ids : List Int) (hb : b.row.length < 1000) (hx : ids.length < 1000) (hw : 0 ≤ b.width ∧ b.width ≤ 256) : ∀ (d m k : Nat), k + d = ids.length → d < m → (∀ y ∈ ids.take k, y ∉ b.row) → (ids.take k).Nodup →
    batch_Batch_Add.L1 1000 b ids m (k : Int) = some (if addOk b ids then (if (ids.length : Int) > b.width - b.row.length then (80, b) else (0, ⟨b.width, b.row ++ ids, b.in_⟩)) else (210, b)) := by
  intro d
  induction d with
  | zero =>
    intro m k hk hm h1 h2
    obtain ⟨m, rfl⟩ : ∃ q, m = q + 1 := ⟨m - 1, by omega⟩
    rw [List.take_of_length_le (by omega)] at h1 h2
    rw [batch_Batch_Add.L1, if_neg (by omega), room_eq b hb hw, if_pos ⟨h1, h2⟩]
    simp only [Option.bind_some]
    split
    · rfl
    · rw [app_ok _ _ (by omega)]; rfl
  | succ d ih =>
    intro m k hk hm h1 h2
    obtain ⟨m, rfl⟩ : ∃ q, m = q + 1 := ⟨m - 1, by omega⟩
    have hlt : k < ids.length := by omega
    rw [batch_Batch_Add.L1, if_pos (by omega), idx_get _ _ hlt]
    simp only [Option.bind_some, contains_eq b.row _ hb, decide_eq_true_eq]
    by_cases e : ids[k] ∈ b.row
    · rw [if_pos e, if_neg]
      intro h; exact h.1 _ (List.getElem_mem hlt) e
    · rw [if_neg e, chk_ok _ (by omega), Int.toNat_natCast, contains_eq _ _ (by simp; omega)]
      simp only [Option.bind_some, decide_eq_true_eq]
      by_cases e2 : ids[k] ∈ ids.take k
      · rw [if_pos e2, if_neg]
        intro h
        have := ((nodup_take ids k hlt).1 (h.2.sublist (List.take_sublist _ _))).2
        exact this e2
      · rw [if_neg e2, W_succ k (by omega)]
        refine ih m (k + 1) (by omega) (by omega) ?_ ((nodup_take ids k hlt).2 ⟨h2, e2⟩)
        intro y hy
        rw [List.take_succ_eq_append_getElem hlt, List.mem_append, List.mem_singleton] at hy
        rcases hy with hy | rfl
        · exact h1 y hy
        · exact e
theorem add_eq (b : S_batch_Batch) (ids : List Int) (hb : b.row.length < 1000) (hx : ids.length < 1000) (hw : 0 ≤ b.width ∧ b.width ≤ 256) :
    batch_Batch_Add 1000 b ids = some (if addOk b ids then (if (ids.length : Int) > b.width - b.row.length then (80, b) else (0, ⟨b.width, b.row ++ ids, b.in_⟩)) else (210, b)) :=
  add_loop b ids hb hx hw ids.length 1000 0 (by omega) (by omega) (by simp) (by simp)
-- picking
def isIn (l : List (Int × Bool)) (y : Int) : Bool := (mget l y).getD false
theorem isIn_mset (l : List (Int × Bool)) (k y : Int) : isIn (mset l k true) y = (decide (y = k) || isIn l y) := by
  induction l with
  | nil =>
    simp only [mset, isIn, mget]
    by_cases e : k = y
    · rw [if_pos e]; simp [e]
    · have e' : ¬ y = k := fun h => e h.symm
      rw [if_neg e]; simp [e']
  | cons x l ih =>
    obtain ⟨k', x'⟩ := x
    simp only [mset, isIn] at ih ⊢
    by_cases e : k' = k
    · rw [if_pos e]
      subst e
      simp only [mget]
      by_cases e2 : k' = y
      · simp [e2]
      · have e' : ¬ y = k' := fun h => e2 h.symm
        simp [e2, e']
    · rw [if_neg e]
      simp only [mget]
      by_cases e2 : k' = y
      · subst e2; simp [e]
      · rw [if_neg e2, if_neg e2]; exact ih
def pk (ni : Int → Bool) : List Int → Nat → List Int × List Int
  | [], _ => ([], [])
  | y :: l, n => if ni y = true ∧ 0 < n then (y :: (pk ni l (n - 1)).1, (pk ni l (n - 1)).2) else ((pk ni l n).1, y :: (pk ni l n).2)
theorem pk_congr {ni ni' : Int → Bool} : ∀ (l : List Int) (n : Nat), (∀ y ∈ l, ni y = ni' y) → pk ni l n = pk ni' l n
  | [], _, _ => rfl
  | y :: l, n, h => by rw [pk, pk, pk_congr l _ (fun y hy => h y (by simp [hy])), pk_congr l _ (fun y hy => h y (by simp [hy])), h y (by simp)]
theorem pk_len (ni : Int → Bool) : ∀ (l : List Int) (n : Nat), (pk ni l n).1.length + (pk ni l n).2.length = l.length
  | [], _ => rfl
  | y :: l, n => by
    rw [pk]
    split
    · have := pk_len ni l (n - 1); simp; omega
    · have := pk_len ni l n; simp; omega
theorem pk_mem (ni : Int → Bool) : ∀ (l : List Int) (n : Nat) y, y ∈ (pk ni l n).1 → y ∈ l
  | [], _, _, h => by simp [pk] at h
  | x :: l, n, y, h => by
    rw [pk] at h
    split at h
    · rcases List.mem_cons.1 h with rfl | h
      · simp
      · exact List.mem_cons_of_mem _ (pk_mem ni l _ y h)
    · exact List.mem_cons_of_mem _ (pk_mem ni l _ y h)
theorem pick_loop (b : S_batch_Batch) (v : Int) (hb : b.row.length < 1000) (hn : b.row.Nodup) : ∀ (d m k : Nat) (mp : List (Int × Bool)) (got rest : List Int), k + d = b.row.length → d < m → got.length + rest.length = k →
    ∃ mp', batch_Batch_Pick.L1 b v m mp got rest (k : Int) = some (got ++ (pk (fun y => !isIn mp y) (b.row.drop k) (v - got.length).toNat).1, ⟨b.width, (rest ++ (pk (fun y => !isIn mp y) (b.row.drop k) (v - got.length).toNat).2) ++ (got ++ (pk (fun y => !isIn mp y) (b.row.drop k) (v - got.length).toNat).1), mp'⟩) ∧
      mp' = (pk (fun y => !isIn mp y) (b.row.drop k) (v - got.length).toNat).1.foldl (fun m y => mset m y true) mp := by
  intro d
  induction d with
  | zero =>
    intro m k mp got rest hk hm hl
    obtain ⟨m, rfl⟩ : ∃ q, m = q + 1 := ⟨m - 1, by omega⟩
    rw [batch_Batch_Pick.L1, if_neg (by omega), List.drop_of_length_le (by omega), app_ok _ _ (by omega)]
    simp [pk]
  | succ d ih =>
    intro m k mp got rest hk hm hl
    obtain ⟨m, rfl⟩ : ∃ q, m = q + 1 := ⟨m - 1, by omega⟩
    have hlt : k < b.row.length := by omega
    have hnd : b.row[k] ∉ b.row.drop (k + 1) := by
      have h1 := hn.sublist (List.drop_sublist k b.row)
      rw [List.drop_eq_getElem_cons hlt] at h1
      exact (List.nodup_cons.1 h1).1
    rw [batch_Batch_Pick.L1, if_pos (by omega), idx_get _ _ hlt, List.drop_eq_getElem_cons hlt]
    simp only [Option.bind_some, batch_Batch_Pick.J3, batch_Batch_Pick.J2, show (mget mp b.row[k]).getD false = isIn mp b.row[k] from rfl]
    rw [W_succ k (by omega), app_ok _ _ (by simp; omega), app_ok _ _ (by simp; omega)]
    simp only [Option.bind_some]
    by_cases e : isIn mp b.row[k] = true
    · obtain ⟨mp', h1, h2⟩ := ih m (k + 1) mp got (rest ++ [b.row[k]]) (by omega) (by omega) (by simp; omega)
      rw [if_pos e, if_neg (by simp), h1, pk, if_neg (by simp [e])]
      exact ⟨mp', by simp, h2⟩
    · rw [if_neg e]
      by_cases e2 : (got.length : Int) < v
      · obtain ⟨mp', h1, h2⟩ := ih m (k + 1) (mset mp b.row[k] true) (got ++ [b.row[k]]) rest (by omega) (by omega) (by simp; omega)
        have hc : pk (fun y => !isIn (mset mp b.row[k] true) y) (b.row.drop (k + 1)) (v - ((got ++ [b.row[k]]).length : Nat)).toNat = pk (fun y => !isIn mp y) (b.row.drop (k + 1)) ((v - got.length).toNat - 1) := by
          rw [show (v - ((got ++ [b.row[k]]).length : Nat)).toNat = (v - got.length).toNat - 1 by simp; omega]
          refine pk_congr _ _ fun y hy => ?_
          rw [isIn_mset]
          have : y ≠ b.row[k] := fun h => hnd (h ▸ hy)
          simp [this]
        rw [hc] at h1 h2
        rw [if_pos (by simpa using e2), h1, pk, if_pos ⟨by simpa using e, by omega⟩]
        exact ⟨mp', by simp, by simpa using h2⟩
      · obtain ⟨mp', h1, h2⟩ := ih m (k + 1) mp got (rest ++ [b.row[k]]) (by omega) (by omega) (by simp; omega)
        rw [if_neg (by simpa using e2), h1, pk, if_neg (by omega)]
        exact ⟨mp', by simp, h2⟩
theorem pick_eq (b : S_batch_Batch) (v : Int) (hb : b.row.length < 1000) (hn : b.row.Nodup) : batch_Batch_Pick 1000 b v = some ((pk (fun y => !isIn b.in_ y) b.row v.toNat).1,
    ⟨b.width, (pk (fun y => !isIn b.in_ y) b.row v.toNat).2 ++ (pk (fun y => !isIn b.in_ y) b.row v.toNat).1, (pk (fun y => !isIn b.in_ y) b.row v.toNat).1.foldl (fun m y => mset m y true) b.in_⟩) := by
  obtain ⟨mp', h1, h2⟩ := pick_loop b v hb hn b.row.length 1000 0 b.in_ [] [] (by omega) (by omega) rfl
  rw [batch_Batch_Pick, show (0 : Int) = ((0 : Nat) : Int) from rfl, h1, h2]
  simp
theorem pk_all {ni : Int → Bool} : ∀ (l : List Int) (n : Nat), (∀ y ∈ l, ni y = true) → pk ni l n = (l.take n, l.drop n)
  | [], _, _ => by simp [pk]
  | y :: l, n, h => by
    rw [pk, h y (by simp), pk_all l _ (fun y hy => h y (by simp [hy])), pk_all l _ (fun y hy => h y (by simp [hy]))]
    rcases n with _ | n
    · simp
    · simp
-- what is kept
theorem keeps_loop2 (ids : List Int) (hi : ids.length ≤ 20) (r : List Int × S_batch_Batch) (z : List Int) (hz : r.2.row = z) (hl : z.length ≤ 40) (hw : r.2.width = 40) : ∀ (d m k : Nat), k + d = z.length → d < m →
    law22_BatchKeeps.L2 1000 ids r z m ((z.take k).filter fun y => !decide (y ∈ ids)) (k : Int) = some true := by
  have hb : r.2.row.length ≤ 40 := by rw [hz]; exact hl
  intro d
  induction d with
  | zero =>
    intro m k hk hm
    obtain ⟨m, rfl⟩ : ∃ q, m = q + 1 := ⟨m - 1, by omega⟩
    rw [law22_BatchKeeps.L2, if_neg (by omega), List.take_of_length_le (by omega), remove_eq r.2 ids (by omega) (by omega), hz]
    have hle := List.length_filter_le (fun y => !decide (y ∈ ids)) z
    simp only [Option.bind_some]
    rw [if_pos (by rw [W_in (by omega)]), members_eq _ (by simp only []; omega)]
    simp only [Option.bind_some]
    rw [ints_refl _ (by omega)]
    simp only [Option.bind_some, if_true]
    rw [room_eq _ (by simp only []; omega) (by simp only []; omega), W_in (by omega)]
    simp [hw]
  | succ d ih =>
    intro m k hk hm
    obtain ⟨m, rfl⟩ : ∃ q, m = q + 1 := ⟨m - 1, by omega⟩
    have hlt : k < z.length := by omega
    have h2 := ih m (k + 1) (by omega) (by omega)
    have hle := List.length_filter_le (fun y => !decide (y ∈ ids)) (z.take k)
    rw [List.take_succ_eq_append_getElem hlt, List.filter_append] at h2
    rw [law22_BatchKeeps.L2, if_pos (by omega), idx_get _ _ hlt]
    simp only [Option.bind_some, law22_BatchKeeps.J4, law22_BatchKeeps.J3, idx_get _ _ hlt]
    rw [has_eq _ _ (by omega)]
    simp only [Option.bind_some, decide_eq_true_eq]
    rw [W_succ k (by omega)]
    by_cases e : z[k] ∈ ids
    · rw [if_pos e, if_neg (by simp)]
      simpa [e] using h2
    · rw [if_neg e, if_pos trivial, app_ok _ _ (by simp at hle ⊢; omega)]
      simpa [e] using h2
theorem keeps_loop (xs : List Int) (v : Int) (hv : -9223372036854775808 ≤ v ∧ v ≤ 9223372036854775807) (ids : List Int) (hx : xs.length ≤ 40) (hi : ids.length ≤ 20) : ∀ (d m k : Nat) (R : List Int), k + d = xs.length → d < m → R.length ≤ k → R.Nodup →
    law22_BatchKeeps.L1 1000 xs v ids m ⟨40, R, []⟩ R (k : Int) = some true := by
  intro d
  induction d with
  | zero =>
    intro m k R hk hm hR hn
    obtain ⟨m, rfl⟩ : ∃ q, m = q + 1 := ⟨m - 1, by omega⟩
    rw [law22_BatchKeeps.L1, if_neg (by omega)]
    simp only [Option.bind_some]
    have hp := pick_eq ⟨40, R, []⟩ v (by simp only []; omega) hn
    simp only [pk_all R v.toNat (ni := fun y => !isIn [] y) (fun y _ => rfl)] at hp
    rw [hp]
    simp only [Option.bind_some]
    obtain ⟨e, he, hle⟩ : ∃ e : Nat, max (min v ((R.length : Nat) : Int)) 0 = (e : Int) ∧ e ≤ R.length := ⟨(max (min v ((R.length : Nat) : Int)) 0).toNat, by omega, by omega⟩
    have ht : R.take v.toNat = R.take e := by
      by_cases h : v.toNat ≤ R.length
      · rw [show v.toNat = e by omega]
      · rw [List.take_of_length_le (by omega), List.take_of_length_le (by omega)]
    have hd : R.drop v.toNat = R.drop e := by
      by_cases h : v.toNat ≤ R.length
      · rw [show v.toNat = e by omega]
      · rw [List.drop_of_length_le (by omega), List.drop_of_length_le (by omega)]
    rw [he, ht, hd, chk_ok _ (by omega)]
    simp only [Int.toNat_natCast, Int.toNat_zero, List.drop_zero]
    rw [ints_refl _ (by simp; omega)]
    simp only [Option.bind_some, if_true]
    rw [chk_ok _ (by omega), List.take_of_length_le (by omega), app_ok _ _ (by simp; omega)]
    simp only [Option.bind_some, List.nil_append]
    rw [chk_ok _ (by omega), app_ok _ _ (by simp; omega)]
    simp only [Option.bind_some]
    rw [members_eq _ (by simp; omega)]
    simp only [Option.bind_some]
    rw [ints_refl _ (by simp; omega)]
    simp only [Option.bind_some, if_true]
    exact keeps_loop2 ids hi _ _ rfl (by simp; omega) rfl _ 1000 0 (Nat.zero_add _) (by simp; omega)
  | succ d ih =>
    intro m k R hk hm hR hn
    obtain ⟨m, rfl⟩ : ∃ q, m = q + 1 := ⟨m - 1, by omega⟩
    have hlt : k < xs.length := by omega
    rw [law22_BatchKeeps.L1, if_pos (by omega), idx_get _ _ hlt]
    simp only [Option.bind_some, law22_BatchKeeps.J5, idx_get _ _ hlt]
    rw [has_eq _ _ (by omega)]
    simp only [Option.bind_some, decide_eq_true_eq]
    rw [add_eq _ _ (by simp only []; omega) (by simp) (by simp)]
    simp only [Option.bind_some, List.length_singleton]
    rw [W_succ k (by omega)]
    by_cases e : xs[k] ∈ R
    · have ha : ¬ addOk ⟨40, R, []⟩ [xs[k]] := fun h => h.1 _ List.mem_cons_self e
      rw [if_pos e, if_neg ha, if_neg (by simp)]
      exact ih m (k + 1) R (by omega) (by omega) (by omega) hn
    · have ha : addOk ⟨40, R, []⟩ [xs[k]] := ⟨by simpa using e, by simp⟩
      rw [if_neg e, app_ok _ _ (by simp; omega), if_pos ha, if_neg (by omega)]
      simp only [Option.bind_some, ne_eq, not_true_eq_false, if_false]
      refine ih m (k + 1) (R ++ [xs[k]]) (by omega) (by omega) (by simp; omega) ?_
      rw [List.nodup_append]
      refine ⟨hn, by simp, ?_⟩
      intro a ha c hc h
      rw [List.mem_singleton] at hc
      subst hc h
      exact e ha
theorem batchKeeps (xs : List Int) (v : Int) (hv : -9223372036854775808 ≤ v ∧ v ≤ 9223372036854775807) (ids : List Int) : law22_BatchKeeps 1000 xs v ids = some true := by
  rw [law22_BatchKeeps, awake22]
  simp only [Option.bind_some, if_true]
  split
  · rfl
  · split
    · rfl
    · rw [batch_New, if_neg (by omega), if_neg (by omega)]
      simp only [Option.bind_some, optc, ne_eq, not_true_eq_false, if_false]
      exact keeps_loop xs v hv ids (by omega) (by omega) xs.length 1000 0 [] (by omega) (by omega) (by simp) (by simp)
end Go.Proofs.Ythlildgmjidllaa
