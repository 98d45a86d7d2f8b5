/- Whatever is done to a batch: the book and the document, side by side. -/
import Derived.Test.YthlildgmjidllaaP2
namespace Go.Proofs.Ythlildgmjidllaa
open Go Go.Hp
set_option linter.unusedVariables false
set_option linter.unusedSimpArgs false
set_option linter.unusedSectionVars false
-- keys
def keys (l : List (Int × Bool)) : List Int := l.map (·.1)
theorem mget_none {l : List (Int × Bool)} {k : Int} (h : k ∉ keys l) : mget l k = none := by
  induction l with
  | nil => rfl
  | cons x l ih =>
    obtain ⟨k', x'⟩ := x
    simp only [keys, List.map_cons, List.mem_cons, not_or] at h
    rw [mget, if_neg (fun e => h.1 e.symm), ih h.2]
theorem keys_mset_mem {l : List (Int × Bool)} {k y : Int} (h : y ∈ keys (mset l k true)) : y = k ∨ y ∈ keys l := by
  induction l with
  | nil => simp [mset, keys] at h; exact .inl h
  | cons x l ih =>
    obtain ⟨k', x'⟩ := x
    rw [mset] at h
    split at h
    · simp only [keys, List.map_cons, List.mem_cons] at h ⊢
      rcases h with h | h
      · exact .inl h
      · exact .inr (.inr h)
    · simp only [keys, List.map_cons, List.mem_cons] at h ⊢
      rcases h with h | h
      · exact .inr (.inl h)
      · rcases ih h with h | h
        · exact .inl h
        · exact .inr (.inr h)
theorem nodup_mset {l : List (Int × Bool)} {k : Int} (h : (keys l).Nodup) : (keys (mset l k true)).Nodup := by
  induction l with
  | nil => simp [mset, keys]
  | cons x l ih =>
    obtain ⟨k', x'⟩ := x
    simp only [keys, List.map_cons, List.nodup_cons] at h
    rw [mset]
    split
    · rename_i e
      subst e
      simp only [keys, List.map_cons, List.nodup_cons]
      exact h
    · rename_i e
      have h1 := ih h.2
      have h2 : k' ∉ keys (mset l k true) := fun hm => by
        rcases keys_mset_mem hm with hm | hm
        · exact e hm
        · exact h.1 hm
      simp only [keys, List.map_cons, List.nodup_cons]
      exact ⟨h2, h1⟩
theorem keys_mdel_sub (l : List (Int × Bool)) (k : Int) : (keys (mdel l k)).Sublist (keys l) := by
  induction l with
  | nil => exact List.Sublist.refl _
  | cons x l ih =>
    obtain ⟨k', x'⟩ := x
    rw [mdel]
    split
    · exact List.sublist_cons_self _ _
    · exact List.Sublist.cons_cons _ ih
theorem nodup_mdel {l : List (Int × Bool)} {k : Int} (h : (keys l).Nodup) : (keys (mdel l k)).Nodup := h.sublist (keys_mdel_sub l k)
theorem isIn_mdel {l : List (Int × Bool)} {k : Int} (h : (keys l).Nodup) (y : Int) : isIn (mdel l k) y = (isIn l y && !decide (y = k)) := by
  induction l with
  | nil => simp [mdel, isIn, mget]
  | cons x l ih =>
    obtain ⟨k', x'⟩ := x
    have h0 := h
    simp only [keys, List.map_cons, List.nodup_cons] at h
    rw [mdel]
    split
    · rename_i e
      subst e
      by_cases e2 : y = k'
      · subst e2
        have : isIn l y = false := by rw [isIn, mget_none h.1]; rfl
        rw [this]; simp
      · have : isIn ((k', x') :: l) y = isIn l y := by rw [isIn, mget, if_neg (fun e => e2 e.symm)]; rfl
        rw [this]; simp [e2]
    · rename_i e
      by_cases e2 : k' = y
      · subst e2
        simp [isIn, mget, e]
      · have h1 : isIn ((k', x') :: l) y = isIn l y := by rw [isIn, mget, if_neg e2]; rfl
        have h2 : isIn ((k', x') :: mdel l k) y = isIn (mdel l k) y := by rw [isIn, mget, if_neg e2]; rfl
        rw [h1, h2, ih h.2]
theorem isIn_dels : ∀ (ys : List Int) {l : List (Int × Bool)}, (keys l).Nodup → (keys (ys.foldl mdel l)).Nodup ∧ ∀ y, isIn (ys.foldl mdel l) y = (isIn l y && !decide (y ∈ ys))
  | [], l, h => ⟨h, fun y => by simp⟩
  | z :: ys, l, h => by
    obtain ⟨h1, h2⟩ := isIn_dels ys (nodup_mdel (k := z) h)
    refine ⟨h1, fun y => ?_⟩
    rw [List.foldl_cons, h2, isIn_mdel h]
    by_cases e : y = z <;> simp [e]
theorem isIn_sets : ∀ (ys : List Int) {l : List (Int × Bool)}, (keys l).Nodup → (keys (ys.foldl (fun m y => mset m y true) l)).Nodup ∧ ∀ y, isIn (ys.foldl (fun m y => mset m y true) l) y = (decide (y ∈ ys) || isIn l y)
  | [], l, h => ⟨h, fun y => by simp⟩
  | z :: ys, l, h => by
    obtain ⟨h1, h2⟩ := isIn_sets ys (nodup_mset (k := z) h)
    refine ⟨h1, fun y => ?_⟩
    rw [List.foldl_cons, h2, isIn_mset]
    by_cases e : y = z
    · simp [e]
    · by_cases e2 : y ∈ ys <;> simp [e, e2]
-- what goes together
structure Rel (x0 : Int) (b : S_batch_Batch) (r : S_ref22_Batch) : Prop where
  w : b.width = x0
  w' : r.Width = x0
  row : b.row = ids r.L
  nd : (ids r.L).Nodup
  sm : ∀ x ∈ r.L, x.In = isIn b.in_ x.ID
  inr : ∀ y, isIn b.in_ y = true → y ∈ ids r.L
  kn : (keys b.in_).Nodup
  len : (r.L.length : Int) ≤ x0
theorem filter_ids (L : List S_ref22_Member) (p : Int → Bool) : (ids L).filter p = ids (L.filter fun x => p x.ID) := by
  unfold ids
  rw [List.filter_map]; rfl
theorem in_eq (b : S_batch_Batch) (hb : b.row.length < 1000) : batch_Batch_In 1000 b = some (b.row.filter (isIn b.in_)) := by
  rw [batch_Batch_In, members_eq b hb]
  simp only [Option.bind_some]
  rw [del_eq b.row _ (fun y => !isIn b.in_ y) (fun y => by simp only [show (mget b.in_ y).getD false = isIn b.in_ y from rfl]; cases isIn b.in_ y <;> rfl) hb]
  simp
section
variable {x0 : Int} (h0 : 1 ≤ x0 ∧ x0 ≤ 256)
include h0
theorem J3_eq {b : S_batch_Batch} {r : S_ref22_Batch} (h : Rel x0 b r) (j : Int) (k2 : S_ref22_Batch → S_batch_Batch → Int → Option Bool) : law22_BatchActs.J3 1000 x0 j k2 r b = k2 r b (IntKind.i64.wrap (j + 1)) := by
  have hl := h.len
  have hbl : b.row.length = r.L.length := by rw [h.row, ids_len]
  have hw := h.w
  rw [law22_BatchActs.J3, lists_eq r (by omega)]
  simp only [Option.bind_some]
  rw [members_eq b (by omega), h.row]
  simp only [Option.bind_some]
  rw [ints_refl _ (by rw [ids_len]; omega)]
  simp only [Option.bind_some, if_true]
  rw [in_eq b (by omega), h.row, filter_ids, List.filter_congr (q := fun x => x.In) (fun x hx => (h.sm x hx).symm)]
  simp only [Option.bind_some]
  rw [ints_refl _ (by rw [ids_len]; have := List.length_filter_le (fun x => x.In) r.L; omega)]
  simp only [Option.bind_some, if_true]
  rw [room_eq b (by omega) (by omega)]
  simp only [Option.bind_some]
  rw [ids_len, W_in (by omega), if_neg (by rw [hw, hbl]; simp), if_neg (by omega)]
-- adding
theorem rel_add {b : S_batch_Batch} {r : S_ref22_Batch} (h : Rel x0 b r) (xs : List Int) (ha : addOk b xs) (hr : ¬ (xs.length : Int) > b.width - b.row.length) : Rel x0 ⟨b.width, b.row ++ xs, b.in_⟩ ⟨r.Width, r.L ++ xs.map fun y => ⟨y, false⟩⟩ := by
  have hbl : b.row.length = r.L.length := by rw [h.row, ids_len]
  have hw := h.w
  have hi : ids (r.L ++ xs.map fun y => (⟨y, false⟩ : S_ref22_Member)) = ids r.L ++ xs := by
    unfold ids
    rw [List.map_append, List.map_map]
    congr 1
    conv => rhs; rw [← List.map_id xs]
    rfl
  have hout : ∀ y ∈ xs, isIn b.in_ y = false := fun y hy => by
    cases e : isIn b.in_ y
    · rfl
    · exact absurd (h.row ▸ h.inr y e) (ha.1 y hy)
  refine ⟨h.w, h.w', by simp only [hi, h.row], ?_, ?_, ?_, h.kn, ?_⟩
  · simp only [hi]
    rw [List.nodup_append]
    refine ⟨h.nd, ha.2, ?_⟩
    intro a hA c hC e
    subst e
    exact ha.1 a hC (h.row ▸ hA)
  · intro x hx
    rcases List.mem_append.1 hx with hx | hx
    · exact h.sm x hx
    · obtain ⟨y, hy, rfl⟩ := List.mem_map.1 hx
      exact (hout y hy).symm
  · intro y hy
    simp only [hi]
    exact List.mem_append_left _ (h.inr y hy)
  · simp only [List.length_append, List.length_map]; omega
-- removing
theorem without_fold : ∀ (ys : List Int) (L : List S_ref22_Member), ys.foldl without L = L.filter fun x => !decide (x.ID ∈ ys)
  | [], L => by rw [List.foldl_nil]; exact (List.filter_eq_self.2 (fun x _ => by simp)).symm
  | y :: ys, L => by
    rw [List.foldl_cons, without_fold ys, without, List.filter_filter]
    refine List.filter_congr fun x hx => ?_
    by_cases e : x.ID = y <;> simp [e]
theorem nd_filter {L : List S_ref22_Member} (p : S_ref22_Member → Bool) (h : (ids L).Nodup) : (ids (L.filter p)).Nodup := h.sublist (List.Sublist.map _ List.filter_sublist)
theorem L5_eq (b : S_batch_Batch) (j : Int) (act : S_law22_Act) (ha : act.Ids.length ≤ 30) (k2 : S_ref22_Batch → S_batch_Batch → Int → Option Bool) : ∀ (d m k c : Nat) (r : S_ref22_Batch), k + d = act.Ids.length → d < m → r.L.length ≤ 256 → c ≤ 300000 - r.L.length * 1 → (ids r.L).Nodup →
    law22_BatchActs.L5 1000 x0 b j act k2 m r (c : Int) (k : Int) = ((batch_Batch_Remove 1000 b act.Ids).bind fun q => if q.1 ≠ ((c + (r.L.length - ((act.Ids.drop k).foldl without r.L).length) : Nat) : Int) then some false else law22_BatchActs.J3 1000 x0 j k2 ⟨r.Width, (act.Ids.drop k).foldl without r.L⟩ q.2) := by
  intro d
  induction d with
  | zero =>
    intro m k c r hk hm hr hc hn
    obtain ⟨m, rfl⟩ : ∃ q, m = q + 1 := ⟨m - 1, by omega⟩
    rw [law22_BatchActs.L5, if_neg (by omega), List.drop_of_length_le (by omega)]
    simp
  | succ d ih =>
    intro m k c r hk hm hr hc hn
    obtain ⟨m, rfl⟩ : ∃ q, m = q + 1 := ⟨m - 1, by omega⟩
    have hlt : k < act.Ids.length := by omega
    have hle : (without r.L act.Ids[k]).length ≤ r.L.length := List.length_filter_le _ _
    have hle2 : ((act.Ids.drop (k + 1)).foldl without (without r.L act.Ids[k])).length ≤ (without r.L act.Ids[k]).length := by rw [without_fold h0]; exact List.length_filter_le _ _
    rw [law22_BatchActs.L5, if_pos (by omega), idx_get _ _ hlt, List.drop_eq_getElem_cons hlt, List.foldl_cons]
    simp only [Option.bind_some]
    rw [rem_eq r _ (by omega) hn]
    simp only [Option.bind_some]
    rw [W_succ k (by omega), W_in (by omega), show (c : Int) + ((r.L.length : Int) - ((without r.L act.Ids[k]).length : Int)) = ((c + (r.L.length - (without r.L act.Ids[k]).length) : Nat) : Int) by omega,
      ih m (k + 1) _ ⟨r.Width, without r.L act.Ids[k]⟩ (by omega) (by omega) (by simp only []; omega) (by simp only []; omega) (nd_filter h0 _ hn)]
    simp only []
    rw [show c + (r.L.length - (without r.L act.Ids[k]).length) + ((without r.L act.Ids[k]).length - ((act.Ids.drop (k + 1)).foldl without (without r.L act.Ids[k])).length) = c + (r.L.length - ((act.Ids.drop (k + 1)).foldl without (without r.L act.Ids[k])).length) by omega]
theorem rel_remove {b : S_batch_Batch} {r : S_ref22_Batch} (h : Rel x0 b r) (xs : List Int) : Rel x0 ⟨b.width, b.row.filter fun y => !decide (y ∈ xs), xs.foldl mdel b.in_⟩ ⟨r.Width, r.L.filter fun x => !decide (x.ID ∈ xs)⟩ := by
  obtain ⟨h1, h2⟩ := isIn_dels xs h.kn
  refine ⟨h.w, h.w', by simp only [h.row]; exact filter_ids r.L fun y => !decide (y ∈ xs), nd_filter h0 _ h.nd, ?_, ?_, h1, ?_⟩
  · intro x hx
    obtain ⟨hx, hp⟩ := List.mem_filter.1 hx
    simp only [h2, h.sm x hx, hp, Bool.and_true]
  · intro y hy
    simp only [h2, Bool.and_eq_true] at hy
    simp only []
    rw [← filter_ids r.L fun y => !decide (y ∈ xs), List.mem_filter]
    exact ⟨h.inr y hy.1, hy.2⟩
  · have := List.length_filter_le (fun x : S_ref22_Member => !decide (x.ID ∈ xs)) r.L
    have := h.len
    simp only []; omega
-- back
def bstep (mp : List (Int × Bool)) (y : Int) : List (Int × Bool) := if isIn mp y = true then mdel mp y else mp
def cnt : List (Int × Bool) → List Int → Nat
  | _, [] => 0
  | mp, y :: ys => (if isIn mp y = true then 1 else 0) + cnt (bstep mp y) ys
omit h0 in
theorem cnt_le : ∀ (ys : List Int) (mp : List (Int × Bool)), cnt mp ys ≤ ys.length
  | [], _ => by simp [cnt]
  | y :: ys, mp => by have := cnt_le ys (bstep mp y); rw [cnt, List.length_cons]; split <;> omega
omit h0 in
theorem bback_loop (w : Int) (row xs : List Int) (hx : xs.length < 1000) : ∀ (d m k c : Nat) (mp : List (Int × Bool)), k + d = xs.length → d < m → c ≤ k →
    batch_Batch_Back.L1 xs m ⟨w, row, mp⟩ (c : Int) (k : Int) = some (((c + cnt mp (xs.drop k) : Nat) : Int), ⟨w, row, (xs.drop k).foldl bstep mp⟩) := by
  intro d
  induction d with
  | zero =>
    intro m k c mp hk hm hc
    obtain ⟨m, rfl⟩ : ∃ q, m = q + 1 := ⟨m - 1, by omega⟩
    rw [batch_Batch_Back.L1, if_neg (by omega), List.drop_of_length_le (by omega)]
    simp [cnt]
  | succ d ih =>
    intro m k c mp hk hm hc
    obtain ⟨m, rfl⟩ : ∃ q, m = q + 1 := ⟨m - 1, by omega⟩
    have hlt : k < xs.length := by omega
    rw [batch_Batch_Back.L1, if_pos (by omega), idx_get _ _ hlt, List.drop_eq_getElem_cons hlt, List.foldl_cons, cnt, bstep]
    simp only [Option.bind_some, batch_Batch_Back.J2, show (mget mp xs[k]).getD false = isIn mp xs[k] from rfl]
    rw [W_succ k (by omega)]
    by_cases e : isIn mp xs[k] = true
    · rw [if_pos e, if_pos e, if_pos e, W_succ c (by omega), ih m (k + 1) (c + 1) _ (by omega) (by omega) (by omega)]
      congr 3
      omega
    · rw [if_neg e, if_neg e, if_neg e, ih m (k + 1) c _ (by omega) (by omega) (by omega)]
      congr 3
      omega
theorem rel_back {b : S_batch_Batch} {r : S_ref22_Batch} (h : Rel x0 b r) (y : Int) : Rel x0 ⟨b.width, b.row, bstep b.in_ y⟩ ⟨r.Width, offAt r.L y⟩ := by
  have hb : ∀ z, isIn (bstep b.in_ y) z = (isIn b.in_ z && !decide (z = y)) := fun z => by
    unfold bstep
    by_cases e : isIn b.in_ y = true
    · rw [if_pos e, isIn_mdel h.kn]
    · rw [if_neg e]
      by_cases e2 : z = y
      · subst e2; simp [e]
      · simp [e2]
  have hkn : (keys (bstep b.in_ y)).Nodup := by
    unfold bstep
    split
    · exact nodup_mdel h.kn
    · exact h.kn
  refine ⟨h.w, h.w', by simp only [ids_offAt, h.row], by simp only [ids_offAt]; exact h.nd, ?_, ?_, hkn, ?_⟩
  · intro x hx
    obtain ⟨z, hz, rfl⟩ := List.mem_map.1 hx
    simp only [hb]
    by_cases e : z.ID = y
    · rw [if_pos e]; simp [off, e]
    · rw [if_neg e, h.sm z hz]; simp [e]
  · intro z hz
    simp only [hb, Bool.and_eq_true] at hz
    simp only [ids_offAt]
    exact h.inr z hz.1
  · simp only [offAt, List.length_map]; exact h.len
theorem L4_eq (b0 : S_batch_Batch) (j : Int) (act : S_law22_Act) (ha : act.Ids.length ≤ 30) (k2 : S_ref22_Batch → S_batch_Batch → Int → Option Bool) : ∀ (d m k c : Nat) (b : S_batch_Batch) (r : S_ref22_Batch), k + d = act.Ids.length → d < m → c ≤ k → Rel x0 b r →
    ∃ r', Rel x0 ⟨b.width, b.row, (act.Ids.drop k).foldl bstep b.in_⟩ r' ∧ law22_BatchActs.L4 1000 x0 b0 j act k2 m r (c : Int) (k : Int) = ((batch_Batch_Back 1000 b0 act.Ids).bind fun q => if q.1 ≠ ((c + cnt b.in_ (act.Ids.drop k) : Nat) : Int) then some false else law22_BatchActs.J3 1000 x0 j k2 r' q.2) := by
  intro d
  induction d with
  | zero =>
    intro m k c b r hk hm hc h
    obtain ⟨m, rfl⟩ : ∃ q, m = q + 1 := ⟨m - 1, by omega⟩
    rw [law22_BatchActs.L4, if_neg (by omega), List.drop_of_length_le (by omega)]
    exact ⟨r, h, by simp only [List.foldl_nil, cnt, Nat.add_zero]; rfl⟩
  | succ d ih =>
    intro m k c b r hk hm hc h
    obtain ⟨m, rfl⟩ : ∃ q, m = q + 1 := ⟨m - 1, by omega⟩
    have hlt : k < act.Ids.length := by omega
    have hl := h.len
    rw [law22_BatchActs.L4, if_pos (by omega), idx_get _ _ hlt, List.drop_eq_getElem_cons hlt, List.foldl_cons, cnt]
    simp only [Option.bind_some]
    rw [back_eq r _ b.in_ (by omega) h.nd h.sm h.inr]
    simp only [Option.bind_some]
    rw [W_succ k (by omega)]
    by_cases e : isIn b.in_ act.Ids[k] = true
    · obtain ⟨r', h1, h2⟩ := ih m (k + 1) (c + 1) _ _ (by omega) (by omega) (by omega) (rel_back h0 h act.Ids[k])
      rw [if_pos e, if_pos e, W_succ c (by omega), h2]
      exact ⟨r', h1, by simp only []; rw [show c + 1 + cnt (bstep b.in_ act.Ids[k]) (act.Ids.drop (k + 1)) = c + (1 + cnt (bstep b.in_ act.Ids[k]) (act.Ids.drop (k + 1))) by omega]⟩
    · obtain ⟨r', h1, h2⟩ := ih m (k + 1) c _ _ (by omega) (by omega) (by omega) (rel_back h0 h act.Ids[k])
      rw [if_neg e, if_neg e, Int.add_zero, W_in (by omega), h2]
      exact ⟨r', h1, by simp only []; rw [Nat.zero_add]⟩
theorem rel_rewind {b : S_batch_Batch} {r : S_ref22_Batch} (h : Rel x0 b r) : Rel x0 ⟨b.width, b.row, []⟩ ⟨r.Width, r.L.map off⟩ := by
  have hi : ids (r.L.map off) = ids r.L := by unfold ids; rw [List.map_map]; rfl
  refine ⟨h.w, h.w', by simp only [hi, h.row], by simp only [hi]; exact h.nd, ?_, ?_, by simp [keys], by simp only [List.length_map]; exact h.len⟩
  · intro x hx
    obtain ⟨z, hz, rfl⟩ := List.mem_map.1 hx
    rfl
  · intro y hy; simp [isIn, mget] at hy
end
-- picking
def pkm : List S_ref22_Member → Nat → List S_ref22_Member × List S_ref22_Member
  | [], _ => ([], [])
  | y :: l, n => if y.In = false ∧ 0 < n then (y :: (pkm l (n - 1)).1, (pkm l (n - 1)).2) else ((pkm l n).1, y :: (pkm l n).2)
theorem pkm_ids {mp : List (Int × Bool)} : ∀ (L : List S_ref22_Member) (n : Nat), (∀ x ∈ L, x.In = isIn mp x.ID) → pk (fun y => !isIn mp y) (ids L) n = (ids (pkm L n).1, ids (pkm L n).2)
  | [], _, _ => rfl
  | y :: l, n, h => by
    have h1 := h y (by simp)
    have h2 := fun n => pkm_ids l n (fun x hx => h x (by simp [hx]))
    simp only [ids, List.map_cons] at h2 ⊢
    rw [pk, pkm, h2, h2, ← h1]
    cases e : y.In
    · by_cases en : 0 < n <;> simp [en]
    · simp
theorem pkm_pre : ∀ (A X : List S_ref22_Member) (n : Nat), (∀ x ∈ A, x.In = true) → pkm (A ++ X) n = ((pkm X n).1, A ++ (pkm X n).2)
  | [], _, _, _ => rfl
  | a :: A, X, n, h => by
    rw [List.cons_append, pkm, h a (by simp), pkm_pre A X n (fun x hx => h x (by simp [hx]))]
    simp
theorem pkm_snoc (m : S_ref22_Member) (hm : m.In = true) : ∀ (X : List S_ref22_Member) (n : Nat), pkm (X ++ [m]) n = ((pkm X n).1, (pkm X n).2 ++ [m])
  | [], n => by simp [pkm, hm]
  | x :: X, n => by
    rw [List.cons_append, pkm, pkm, pkm_snoc m hm X, pkm_snoc m hm X]
    split <;> simp
theorem pkm_zero : ∀ (X : List S_ref22_Member), pkm X 0 = ([], X)
  | [] => rfl
  | x :: X => by rw [pkm, if_neg (by omega), pkm_zero X]
theorem pkm_big : ∀ (X : List S_ref22_Member) (n n' : Nat), X.length ≤ n → X.length ≤ n' → pkm X n = pkm X n'
  | [], _, _, _, _ => rfl
  | x :: X, n, n', h, h' => by
    simp only [List.length_cons] at h h'
    rw [pkm, pkm, pkm_big X (n - 1) (n' - 1) (by omega) (by omega), pkm_big X n n' (by omega) (by omega)]
    by_cases e : x.In = false
    · rw [if_pos ⟨e, by omega⟩, if_pos ⟨e, by omega⟩]
    · rw [if_neg (fun h => e h.1), if_neg (fun h => e h.1)]
theorem pkm_perm : ∀ (X : List S_ref22_Member) (n : Nat), ((pkm X n).2 ++ (pkm X n).1).Perm X
  | [], _ => List.Perm.refl _
  | x :: X, n => by
    rw [pkm]
    split
    · exact List.perm_middle.trans ((pkm_perm X (n - 1)).cons x)
    · exact (pkm_perm X n).cons x
/-- A search for the first that isn't in. -/
theorem rpick_scan (W : Int) (L : List S_ref22_Member) (got : List Int) (hl : L.length < 1000) (hg : got.length ≤ 1000) (k1 : S_ref22_Batch → List Int → Option (List Int × S_ref22_Batch)) (hn : (ids L).Nodup) : ∀ (d m k : Nat), k + d = L.length → d + 1 < m → (∀ x ∈ L.take k, x.In = true) →
    ((∀ x ∈ L, x.In = true) ∧ ref22_Batch_Pick.L2 1000 ⟨W, L⟩ got k1 m (-1) (k : Int) = some (got, ⟨W, L⟩)) ∨
    ∃ A x B, L = A ++ x :: B ∧ (∀ x ∈ A, x.In = true) ∧ x.In = false ∧ ref22_Batch_Pick.L2 1000 ⟨W, L⟩ got k1 m (-1) (k : Int) = k1 ⟨W, A ++ B ++ [on x]⟩ (got ++ [x.ID]) := by
  intro d
  induction d with
  | zero =>
    intro m k hk hm ha
    obtain ⟨m, rfl⟩ : ∃ q, m = q + 1 := ⟨m - 1, by omega⟩
    rw [List.take_of_length_le (by omega)] at ha
    left
    refine ⟨ha, ?_⟩
    rw [ref22_Batch_Pick.L2, if_neg (by simp only []; omega), ref22_Batch_Pick.J3, if_neg (by simp), if_pos (by omega)]
  | succ d ih =>
    intro m k hk hm ha
    obtain ⟨m, rfl⟩ : ∃ q, m = q + 1 := ⟨m - 1, by omega⟩
    have hlt : k < L.length := by omega
    have hs : L = L.take k ++ L[k] :: L.drop (k + 1) := by
      rw [← List.drop_eq_getElem_cons hlt, List.take_append_drop]
    rw [ref22_Batch_Pick.L2, if_pos (by simp only []; omega), ref22_Batch_Pick.J3, if_pos (by decide), idx_get _ _ hlt]
    simp only [Option.bind_some, ref22_Batch_Pick.J5, ref22_Batch_Pick.J4]
    rw [W_succ k (by omega)]
    by_cases e : L[k].In = true
    · rw [if_pos e, if_neg (by simp)]
      refine ih m (k + 1) (by omega) (by omega) ?_
      intro y hy
      rw [List.take_succ_eq_append_getElem hlt, List.mem_append, List.mem_singleton] at hy
      rcases hy with hy | rfl
      · exact ha y hy
      · exact e
    · right
      refine ⟨L.take k, L[k], L.drop (k + 1), hs, ha, by simpa using e, ?_⟩
      rw [if_neg e, if_pos trivial]
      obtain ⟨m, rfl⟩ : ∃ q, m = q + 1 := ⟨m - 1, by omega⟩
      have hw : without L L[k].ID = L.take k ++ L.drop (k + 1) := by
        have hn2 := hn
        rw [hs, ids, List.map_append, List.map_cons, List.nodup_append, List.nodup_cons] at hn2
        conv => lhs; arg 1; rw [hs]
        refine without_mid rfl ?_ ?_
        · intro x hx ex
          exact hn2.2.2 x.ID (List.mem_map_of_mem hx) L[k].ID List.mem_cons_self ex
        · intro x hx ex
          exact hn2.2.1.1 (ex ▸ List.mem_map_of_mem hx)
      have hgo : ∀ t : Bool, t = false → ref22_Batch_Pick.J3 1000 ⟨W, L⟩ got (k : Int) ((k + 1 : Nat) : Int) k1 (ref22_Batch_Pick.L2 1000 ⟨W, L⟩ got k1 m) t = k1 ⟨W, L.take k ++ L.drop (k + 1) ++ [on L[k]]⟩ (got ++ [L[k].ID]) := by
        rintro t rfl
        rw [ref22_Batch_Pick.J3, if_neg (by simp), if_neg (by omega), idx_get _ _ hlt]
        simp only [Option.bind_some]
        rw [rem_eq _ _ (by simp only []; omega) hn]
        simp only [Option.bind_some, hw]
        rw [app_ok _ _ (by simp; omega), app_ok _ _ (by simp; omega)]
        rfl
      rw [ref22_Batch_Pick.L2]
      split
      · exact hgo _ (by simp)
      · exact hgo _ rfl
theorem rpick_loop (v : Int) (hv : v ≤ 1000) (W : Int) : ∀ (c m : Nat) (L : List S_ref22_Member) (got : List Int), (L.filter fun x => !x.In).length = c → c < m → L.length < 999 → (ids L).Nodup → got.length ≤ 1000 →
    ref22_Batch_Pick.L1 1000 v m ⟨W, L⟩ got = some (got ++ ids (pkm L (v - got.length).toNat).1, ⟨W, (pkm L (v - got.length).toNat).2 ++ (pkm L (v - got.length).toNat).1.map on⟩) := by
  intro c
  induction c with
  | zero =>
    intro m L got hc hm hl hn hg
    obtain ⟨m, rfl⟩ : ∃ q, m = q + 1 := ⟨m - 1, by omega⟩
    have hall : ∀ x ∈ L, x.In = true := fun x hx => by
      have := List.length_eq_zero_iff.1 hc
      rw [List.filter_eq_nil_iff] at this
      simpa using this x hx
    have hp : ∀ n, pkm L n = ([], L) := fun n => by have := pkm_pre L [] n hall; simpa [pkm] using this
    rw [hp, ref22_Batch_Pick.L1]
    split
    · rcases rpick_scan W L got (by omega) hg (ref22_Batch_Pick.L1 1000 v m) hn L.length 1000 0 (by omega) (by omega) (by simp) with ⟨_, h⟩ | ⟨A, x, B, hL, _, hx, _⟩
      · rw [show ((0 : Nat) : Int) = 0 from rfl] at h
        rw [h]; simp [ids]
      · have := hall x (by rw [hL]; simp)
        rw [hx] at this; cases this
    · simp [ids]
  | succ c ih =>
    intro m L got hc hm hl hn hg
    obtain ⟨m, rfl⟩ : ∃ q, m = q + 1 := ⟨m - 1, by omega⟩
    rw [ref22_Batch_Pick.L1]
    by_cases e : (got.length : Int) < v
    · rw [if_pos e]
      rcases rpick_scan W L got (by omega) hg (ref22_Batch_Pick.L1 1000 v m) hn L.length 1000 0 (by omega) (by omega) (by simp) with ⟨ha, _⟩ | ⟨A, x, B, hL, hA, hx, h⟩
      · rw [List.filter_eq_nil_iff.2 (fun x hx => by simp [ha x hx])] at hc
        simp at hc
      · rw [show ((0 : Nat) : Int) = 0 from rfl] at h
        rw [h]
        have hc' : ((A ++ B ++ [on x]).filter fun x => !x.In).length = c := by
          rw [hL, List.filter_append, List.filter_cons_of_pos (by simp [hx])] at hc
          rw [List.filter_append, List.filter_append, List.filter_cons_of_neg (by simp [on])]
          simp at hc ⊢
          omega
        have hll : L.length = A.length + (B.length + 1) := by rw [hL]; simp
        have hn' : (ids (A ++ B ++ [on x])).Nodup := by
          refine (List.Perm.nodup_iff ?_).1 hn
          rw [hL]
          have h1 : ids (A ++ B ++ [on x]) = ids (A ++ B) ++ [x.ID] := by simp [ids, on]
          have h2 : ids (A ++ x :: B) = ids A ++ x.ID :: ids B := by simp [ids]
          rw [h1, h2, show ids (A ++ B) = ids A ++ ids B by simp [ids]]
          exact List.perm_middle.trans (List.perm_append_singleton _ _).symm
        rw [ih m (A ++ B ++ [on x]) _ hc' (by omega) (by simp; omega) hn' (by simp; omega)]
        rw [pkm_snoc (on x) rfl, pkm_pre A B _ hA]
        have hd : (v - ((got ++ [x.ID]).length : Nat)).toNat = (v - got.length).toNat - 1 := by simp; omega
        have hL2 : pkm L (v - got.length).toNat = (x :: (pkm B ((v - got.length).toNat - 1)).1, A ++ (pkm B ((v - got.length).toNat - 1)).2) := by
          rw [hL, pkm_pre A _ _ hA, pkm, if_pos ⟨hx, by omega⟩]
        rw [hL2, hd]
        simp [ids]
    · rw [if_neg e, show (v - got.length).toNat = 0 by omega, pkm_zero]
      simp [ids]
theorem rel_pick {x0 : Int} {b : S_batch_Batch} {r : S_ref22_Batch} (h : Rel x0 b r) (n : Nat) : Rel x0 ⟨b.width, ids (pkm r.L n).2 ++ ids (pkm r.L n).1, (ids (pkm r.L n).1).foldl (fun m y => mset m y true) b.in_⟩ ⟨r.Width, (pkm r.L n).2 ++ (pkm r.L n).1.map on⟩ := by
  obtain ⟨h1, h2⟩ := isIn_sets (ids (pkm r.L n).1) h.kn
  have hp := pkm_perm r.L n
  have hi : ids ((pkm r.L n).2 ++ (pkm r.L n).1.map on) = ids ((pkm r.L n).2 ++ (pkm r.L n).1) := by simp [ids, on, Function.comp_def]
  have hpi : (ids ((pkm r.L n).2 ++ (pkm r.L n).1)).Perm (ids r.L) := hp.map _
  have hnd : (ids ((pkm r.L n).2 ++ (pkm r.L n).1)).Nodup := (List.Perm.nodup_iff hpi).2 h.nd
  have happ : ids ((pkm r.L n).2 ++ (pkm r.L n).1) = ids (pkm r.L n).2 ++ ids (pkm r.L n).1 := by simp [ids]
  refine ⟨h.w, h.w', by simp only [hi, happ], by simp only [hi]; exact hnd, ?_, ?_, h1, ?_⟩
  · intro x hx
    rcases List.mem_append.1 hx with hx | hx
    · simp only [h2]
      rw [happ, List.nodup_append] at hnd
      have hne : x.ID ∉ ids (pkm r.L n).1 := fun hm => hnd.2.2 x.ID (List.mem_map_of_mem hx) x.ID hm rfl
      rw [h.sm x (hp.mem_iff.1 (List.mem_append_left _ hx))]
      simp [hne]
    · obtain ⟨z, hz, rfl⟩ := List.mem_map.1 hx
      simp only [h2, on]
      have : z.ID ∈ ids (pkm r.L n).1 := List.mem_map_of_mem hz
      simp [this]
  · intro y hy
    simp only [h2, Bool.or_eq_true, decide_eq_true_eq] at hy
    simp only [hi]
    rcases hy with hy | hy
    · rw [happ]; exact List.mem_append_right _ hy
    · exact hpi.mem_iff.2 (h.inr y hy)
  · have := hp.length_eq
    have := h.len
    simp at *
    omega
-- all of it
theorem acts_loop {x0 : Int} (h0 : 1 ≤ x0 ∧ x0 ≤ 256) (acts : List S_law22_Act) (hA : acts.length ≤ 80) : ∀ (d m k : Nat) (b : S_batch_Batch) (r : S_ref22_Batch), k + d = acts.length → d < m → Rel x0 b r →
    law22_BatchActs.L2 1000 x0 acts m r b (k : Int) = some true := by
  intro d
  induction d with
  | zero =>
    intro m k b r hk hm h
    obtain ⟨m, rfl⟩ : ∃ q, m = q + 1 := ⟨m - 1, by omega⟩
    rw [law22_BatchActs.L2, if_neg (by omega)]
  | succ d ih =>
    intro m k b r hk hm h
    obtain ⟨m, rfl⟩ : ∃ q, m = q + 1 := ⟨m - 1, by omega⟩
    have hlt : k < acts.length := by omega
    have hl := h.len
    have hbl : b.row.length = r.L.length := by rw [h.row, ids_len]
    have hw := h.w
    have hw' := h.w'
    have next : ∀ b' r', Rel x0 b' r' → law22_BatchActs.J3 1000 x0 (k : Int) (law22_BatchActs.L2 1000 x0 acts m) r' b' = some true := fun b' r' h' => by
      rw [J3_eq h0 h', W_succ k (by omega)]
      exact ih m (k + 1) b' r' (by omega) (by omega) h'
    rw [law22_BatchActs.L2, if_pos (by omega), idx_get _ _ hlt]
    simp only [Option.bind_some]
    by_cases e30 : ((acts[k].Ids.length : Nat) : Int) > 30
    · rw [if_pos e30]
    rw [if_neg e30]
    by_cases k0 : acts[k].Kind = 0
    · rw [if_pos k0, add_eq b _ (by omega) (by omega) (by omega), ref22_Batch_Add, show (0 : Int) = ((0 : Nat) : Int) from rfl, radd_loop b r _ h.row (by omega) (by omega) (by omega) (by omega) h.nd _ 1000 0 (Nat.zero_add _) (by omega) (by simp) (by simp)]
      simp only [Option.bind_some]
      by_cases ha : addOk b acts[k].Ids
      · rw [if_pos ha, if_pos ha]
        by_cases hr : ((acts[k].Ids.length : Nat) : Int) > b.width - b.row.length
        · rw [if_pos hr, if_pos hr, if_neg (by simp)]; exact next _ _ h
        · rw [if_neg hr, if_neg hr, if_neg (by simp)]; exact next _ _ (rel_add h0 h _ ha hr)
      · rw [if_neg ha, if_neg ha, if_neg (by simp)]; exact next _ _ h
    rw [if_neg k0]
    by_cases k1 : acts[k].Kind = 1
    · rw [if_pos k1]
      have := L5_eq h0 b (k : Int) acts[k] (by omega) (law22_BatchActs.L2 1000 x0 acts m) _ 1000 0 0 r (Nat.zero_add _) (by omega) (by omega) (by omega) h.nd
      rw [show ((0 : Nat) : Int) = 0 from rfl] at this
      rw [this, remove_eq b _ (by omega) (by omega), List.drop_zero, without_fold h0]
      simp only [Option.bind_some]
      have hle := List.length_filter_le (fun x : S_ref22_Member => !decide (x.ID ∈ acts[k].Ids)) r.L
      have hfl : (b.row.filter fun y => !decide (y ∈ acts[k].Ids)).length = (r.L.filter fun x => !decide (x.ID ∈ acts[k].Ids)).length := by rw [h.row, filter_ids, ids_len]
      rw [if_neg (by rw [hfl, hbl]; omega)]
      exact next _ _ (rel_remove h0 h _)
    rw [if_neg k1]
    by_cases k2 : acts[k].Kind = 2
    · rw [if_pos k2, pick_eq b _ (by omega) (by rw [h.row]; exact h.nd)]
      simp only [Option.bind_some]
      have hc := List.length_filter_le (fun x : S_ref22_Member => !x.In) r.L
      have hr := rpick_loop (min acts[k].N 1000) (by omega) r.Width _ 1000 r.L [] rfl (by omega) (by omega) h.nd (by simp)
      rw [ref22_Batch_Pick, hr, h.row, pkm_ids r.L _ h.sm]
      have hsame : pkm r.L (min acts[k].N 1000 - (([] : List Int).length : Nat)).toNat = pkm r.L acts[k].N.toNat := by
        by_cases hb : acts[k].N ≤ 1000
        · congr 1; simp; omega
        · exact pkm_big _ _ _ (by simp; omega) (by omega)
      rw [hsame]
      have hp := (pkm_perm r.L acts[k].N.toNat).length_eq
      rw [List.length_append] at hp
      simp only [Option.bind_some, List.nil_append]
      rw [ints_refl _ (by rw [ids_len]; omega)]
      simp only [Option.bind_some, if_true]
      exact next _ _ (rel_pick h _)
    rw [if_neg k2]
    by_cases k3 : acts[k].Kind = 3
    · rw [if_pos k3]
      obtain ⟨r', h1, h2⟩ := L4_eq h0 b (k : Int) acts[k] (by omega) (law22_BatchActs.L2 1000 x0 acts m) _ 1000 0 0 b r (Nat.zero_add _) (by omega) (by omega) h
      rw [show ((0 : Nat) : Int) = 0 from rfl] at h2
      have hb := bback_loop b.width b.row acts[k].Ids (by omega) acts[k].Ids.length 1000 0 0 b.in_ (by omega) (by omega) (by omega)
      rw [show ((0 : Nat) : Int) = 0 from rfl] at hb
      rw [h2, batch_Batch_Back, show b = ⟨b.width, b.row, b.in_⟩ from rfl, hb]
      simp only [Option.bind_some]
      rw [if_neg (by simp)]
      exact next _ _ h1
    rw [if_neg k3]
    by_cases k4 : acts[k].Kind = 4
    · rw [if_pos k4, batch_Batch_Rewind, rewind_eq r (by omega)]
      simp only [Option.bind_some]
      exact next _ _ (rel_rewind h0 h)
    rw [if_neg k4]
    exact next _ _ h
theorem batchActs (x0 : Int) (acts : List S_law22_Act) : law22_BatchActs 1000 x0 acts = some true := by
  rw [law22_BatchActs, awake22]
  simp only [Option.bind_some, if_true]
  split
  · rfl
  · rw [batch_New]
    by_cases e1 : x0 < 1
    · rw [if_pos e1]
      simp [e1, law22_BatchActs.J1, optc]
    · rw [if_neg e1]
      by_cases e2 : x0 > 256
      · rw [if_pos e2]
        simp only [Option.bind_some]
        rw [if_neg e1]
        simp [e2, law22_BatchActs.J1, optc]
      · rw [if_neg e2]
        simp only [Option.bind_some]
        rw [if_neg e1, law22_BatchActs.J1, if_neg (by simpa using e2)]
        simp only [optc, ne_eq, not_true_eq_false, if_false]
        exact acts_loop (by omega) acts (by omega) acts.length 1000 0 _ _ (by omega) (by omega) ⟨rfl, rfl, rfl, by simp [ids], by simp, by simp [isIn, mget], by simp [keys], by simp; omega⟩
end Go.Proofs.Ythlildgmjidllaa
