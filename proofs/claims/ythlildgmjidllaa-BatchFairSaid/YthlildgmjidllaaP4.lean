/- Whoever isn't in is picked before another one is picked twice. -/
import Derived.Test.YthlildgmjidllaaP3
namespace Go.Proofs.Ythlildgmjidllaa
open Go Go.Hp
set_option linter.unusedVariables false
set_option linter.unusedSimpArgs false
set_option linter.unusedSectionVars false
theorem optc_some {α β : Type} (x : α) (a : Option β) (f : α → Option β) : optc (some x) a f = f x := rfl
theorem pk_zero (ni : Int → Bool) : ∀ l : List Int, pk ni l 0 = ([], l)
  | [] => rfl
  | y :: l => by rw [pk, if_neg (by simp), pk_zero ni l]
theorem pk_perm (ni : Int → Bool) : ∀ (l : List Int) (n : Nat), ((pk ni l n).2 ++ (pk ni l n).1).Perm l
  | [], _ => .refl _
  | y :: l, n => by
    rw [pk]
    split
    · exact (List.perm_middle.trans ((pk_perm ni l (n - 1)).cons y))
    · exact (pk_perm ni l n).cons y
/-- Of two that wait, or one that waits and one that is picked: who stands first. -/
theorem pk_before (ni : Int → Bool) : ∀ (l : List Int) (n : Nat), l.Nodup → ∀ x ∈ (pk ni l n).2, ni x = true → ∀ y ∈ (pk ni l n).1, [y, x].Sublist l
  | [], _, _, x, hx, _, _, _ => by simp [pk] at hx
  | z :: l, n, hn, x, hx, hni, y, hy => by
    have hn' := (List.nodup_cons.1 hn)
    rw [pk] at hx hy
    split at hx
    · rename_i h
      rw [if_pos h] at hy
      rcases List.mem_cons.1 hy with rfl | hy
      · have hxl : x ∈ l := (pk_perm ni l (n - 1)).mem_iff.1 (List.mem_append_left _ hx)
        exact (List.singleton_sublist.2 hxl).cons_cons _
      · exact (pk_before ni l (n - 1) hn'.2 x hx hni y hy).cons _
    · rename_i h
      rw [if_neg h] at hy
      rcases List.mem_cons.1 hx with rfl | hx
      · have h0 : n = 0 := by
          rcases Nat.eq_zero_or_pos n with h0 | h0
          · exact h0
          · exact (h ⟨hni, h0⟩).elim
        subst h0
        rw [pk_zero] at hy
        cases hy
      · exact (pk_before ni l n hn'.2 x hx hni y hy).cons _
theorem pk_keep (ni : Int → Bool) : ∀ (l : List Int) (n : Nat), l.Nodup → ∀ x y, [x, y].Sublist l → x ∈ (pk ni l n).2 → y ∈ (pk ni l n).2 → [x, y].Sublist (pk ni l n).2
  | [], _, _, x, y, h, _, _ => by cases h
  | z :: l, n, hn, x, y, h, hx, hy => by
    have hn' := (List.nodup_cons.1 hn)
    have hin : ∀ m u, u ∈ (pk ni l m).2 → u ∈ l := fun m u hu => (pk_perm ni l m).mem_iff.1 (List.mem_append_left _ hu)
    rw [pk] at hx hy ⊢
    split
    · rename_i hc
      rw [if_pos hc] at hx hy
      have hxl := hin _ _ hx
      have hyl := hin _ _ hy
      rcases List.sublist_cons_iff.1 h with h1 | ⟨r, h1, h2⟩
      · exact pk_keep ni l (n - 1) hn'.2 x y h1 hx hy
      · injection h1 with e1 e2
        subst e1
        exact (hn'.1 hxl).elim
    · rename_i hc
      rw [if_neg hc] at hx hy
      rcases List.sublist_cons_iff.1 h with h1 | ⟨r, h1, h2⟩
      · have hxl : x ∈ l := h1.subset (by simp)
        have hyl : y ∈ l := h1.subset (by simp)
        have hx' : x ∈ (pk ni l n).2 := (List.mem_cons.1 hx).resolve_left fun e => hn'.1 (e ▸ hxl)
        have hy' : y ∈ (pk ni l n).2 := (List.mem_cons.1 hy).resolve_left fun e => hn'.1 (e ▸ hyl)
        exact (pk_keep ni l n hn'.2 x y h1 hx' hy').cons _
      · injection h1 with e1 e2
        subst e1 e2
        have hyl : y ∈ l := h2.subset (by simp)
        have hy' : y ∈ (pk ni l n).2 := (List.mem_cons.1 hy).resolve_left fun e => hn'.1 (e ▸ hyl)
        exact (List.singleton_sublist.2 hy').cons_cons _
theorem not_both : ∀ {l : List Int} {x y : Int}, l.Nodup → [x, y].Sublist l → [y, x].Sublist l → False
  | [], _, _, _, h, _ => by cases h
  | z :: l, x, y, hn, h1, h2 => by
    have hn' := (List.nodup_cons.1 hn)
    rcases List.sublist_cons_iff.1 h1 with a | ⟨r, a, a'⟩ <;> rcases List.sublist_cons_iff.1 h2 with b | ⟨s, b, b'⟩
    · exact not_both hn'.2 a b
    · injection b with e _; subst e; exact hn'.1 (a.subset (by simp))
    · injection a with e _; subst e; exact hn'.1 (b.subset (by simp))
    · injection a with e e2; injection b with e3 e4; subst e e2
      exact hn'.1 (a'.subset (by rw [← e3]; simp))
/-- How often, for one that waits, others were picked. -/
def tab2 (K : Nat) (f : Nat → Nat → Int) : List (List Int) := tabl K fun x => tabl K fun y => f x y
structure Fair (K : Nat) (b : S_batch_Batch) (f : Nat → Nat → Int) : Prop where
  nd : b.row.Nodup
  mem : ∀ y, y ∈ b.row ↔ 0 ≤ y ∧ y < (K : Int)
  len : b.row.length = K
  kn : (keys b.in_).Nodup
  f : ∀ x y, x < K → y < K → f x y = 0 ∨ (f x y = 1 ∧ [(x : Int), (y : Int)].Sublist b.row)
theorem tabl_set_same {α : Type} {K x : Nat} {f : Nat → α} {v : α} : (tabl K f).set x v = tabl K fun q => if q = x then v else f q := tabl_set K f x v
theorem fair_L8 (K : Nat) (hK : K ≤ 20) (l : List Int) (bb : S_batch_Batch) (hl : ∀ y ∈ l, 0 ≤ y ∧ y < (K : Int)) (hn : l.Nodup) (hll : l.length ≤ 20) (x : Nat) (hx : x < K) (f : Nat → Nat → Int) (h0 : ∀ y : Nat, (y : Int) ∈ l → f x y = 0) (k4 : List (List Int) → Int → Option Bool) : ∀ (d m c : Nat), c + d = l.length → d < m →
    law22_BatchFair.L8 (K : Int) (l, bb) (x : Int) k4 m (tab2 K fun q y => if q = x then f x y + (if (y : Int) ∈ l.take c then 1 else 0) else f q y) (c : Int) =
      k4 (tab2 K fun q y => if q = x then f x y + (if (y : Int) ∈ l then 1 else 0) else f q y) ((x + 1 : Nat) : Int) := by
  intro d
  induction d with
  | zero =>
    intro m c hc hm
    obtain ⟨m, rfl⟩ : ∃ q, m = q + 1 := ⟨m - 1, by omega⟩
    rw [law22_BatchFair.L8, if_neg (by simp; omega), law22_BatchFair.J6, W_succ x (by omega), List.take_of_length_le (by omega)]
  | succ d ih =>
    intro m c hc hm
    obtain ⟨m, rfl⟩ : ∃ q, m = q + 1 := ⟨m - 1, by omega⟩
    have hlt : c < l.length := by omega
    obtain ⟨hy0, hyK⟩ := hl l[c] (List.getElem_mem hlt)
    obtain ⟨y, hy⟩ := Int.eq_ofNat_of_zero_le hy0
    have hym : (y : Int) ∈ l := by rw [← hy]; exact List.getElem_mem hlt
    have hyt : (y : Int) ∉ l.take c := by
      rw [← hy]
      intro hm2
      obtain ⟨j, hj, he⟩ := List.getElem_of_mem hm2
      rw [List.getElem_take] at he
      have hjc : j < c := by simp at hj; omega
      have h5 : j = c := (List.getElem?_inj (by omega) hn).1 (by rw [List.getElem?_eq_getElem (by omega), List.getElem?_eq_getElem hlt, he])
      omega
    rw [hy] at hyK
    have hyK' : y < K := by omega
    rw [law22_BatchFair.L8, if_pos (by simp; omega)]
    simp only [idx_get _ _ hlt, Option.bind_some, hy]
    rw [if_neg (by omega), if_neg (by omega)]
    have hrow : ∀ g : Nat → Nat → Int, idx (tab2 K g) (x : Int) = some (tabl K fun y => g x y) := fun g => by rw [idx_nat, tab2, tabl_get? hx]
    have hcell : ∀ g : Nat → Int, idx (tabl K g) (y : Int) = some (g y) := fun g => by rw [idx_nat, tabl_get? hyK']
    simp only [hrow, hcell, Option.bind_some, if_true, hyt, if_false, h0 y hym, Int.toNat_natCast, tabl_set_same]
    rw [show IntKind.i64.wrap (0 + 0 + 1) = 1 by decide, if_neg (by decide), W_succ c (by omega)]
    have hih := ih m (c + 1) (by omega) (by omega)
    rw [← hih]
    congr 1
    -- one more
    rw [tab2, tabl_set_same, tab2]
    apply tabl_congr
    intro q hq
    by_cases hqx : q = x
    · subst hqx
      simp only [if_true]
      apply tabl_congr
      intro z hz
      have htk : (z : Int) ∈ l.take (c + 1) ↔ (z : Int) ∈ l.take c ∨ z = y := by
        rw [List.take_succ_eq_append_getElem hlt, List.mem_append, List.mem_singleton, hy]
        constructor
        · rintro (h | h)
          · exact .inl h
          · exact .inr (by omega)
        · rintro (h | h)
          · exact .inl h
          · exact .inr (by omega)
      by_cases hzy : z = y
      · subst hzy
        simp [h0 z hym, htk]
      · simp only [hzy, if_false, htk, or_false]
    · simp only [hqx, if_false]
theorem fair_L4 (K M : Nat) (hK : K ≤ 20) (xs : List Int) (j : Int) (inn l : List Int) (hin : inn.length ≤ 20) (bb : S_batch_Batch) (hl : ∀ y ∈ l, 0 ≤ y ∧ y < (K : Int)) (hn : l.Nodup) (hll : l.length ≤ 20) (f : Nat → Nat → Int)
    (h0 : ∀ x y : Nat, x < K → (x : Int) ∉ inn → (x : Int) ∉ l → (y : Int) ∈ l → f x y = 0) (k2 : List (List Int) → S_batch_Batch → Int → Option Bool) : ∀ (d m c : Nat), c + d = K → d < m →
    law22_BatchFair.L4 1000 xs (K : Int) j inn (l, bb) k2 m (tab2 K fun x y => if x < c then (if (x : Int) ∈ inn ∨ (x : Int) ∈ l then 0 else f x y + (if (y : Int) ∈ l then 1 else 0)) else f x y) (c : Int) =
    law22_BatchFair.L4 1000 xs (K : Int) j inn (l, bb) k2 (m - d) (tab2 K fun x y => if (x : Int) ∈ inn ∨ (x : Int) ∈ l then 0 else f x y + (if (y : Int) ∈ l then 1 else 0)) (K : Int) := by
  intro d
  induction d with
  | zero =>
    intro m c hc hm
    have : c = K := by omega
    subst this
    congr 1
    apply tabl_congr
    intro x hx
    apply tabl_congr
    intro y hy
    try dsimp only
    rw [if_pos hx]
  | succ d ih =>
    intro m c hc hm
    obtain ⟨m, rfl⟩ : ∃ q, m = q + 1 := ⟨m - 1, by omega⟩
    have hih := ih m (c + 1) (by omega) (by omega)
    rw [show m + 1 - (d + 1) = m - d by omega, ← hih]
    rw [law22_BatchFair.L4, if_pos (by omega), has_eq _ _ (by omega), has_eq _ _ (by show l.length < 1000; omega)]
    simp only [Option.bind_some, decide_eq_true_eq]
    -- what becomes of this row
    have reset : ((c : Int) ∈ inn ∨ (c : Int) ∈ l) → law22_BatchFair.J7 1000 (K : Int) (l, bb) (tab2 K fun x y => if x < c then (if (x : Int) ∈ inn ∨ (x : Int) ∈ l then 0 else f x y + (if (y : Int) ∈ l then 1 else 0)) else f x y) (c : Int) (law22_BatchFair.L4 1000 xs (K : Int) j inn (l, bb) k2 m) true =
        law22_BatchFair.L4 1000 xs (K : Int) j inn (l, bb) k2 m (tab2 K fun x y => if x < c + 1 then (if (x : Int) ∈ inn ∨ (x : Int) ∈ l then 0 else f x y + (if (y : Int) ∈ l then 1 else 0)) else f x y) ((c + 1 : Nat) : Int) := by
      intro hsel
      rw [law22_BatchFair.J7, if_pos rfl, chk_ok _ (by omega)]
      have hrow : ∀ g : Nat → Nat → Int, idx (tab2 K g) (c : Int) = some (tabl K fun y => g c y) := fun g => by rw [idx_nat, tab2, tabl_get? (by omega)]
      simp only [hrow, Option.bind_some, law22_BatchFair.J6, W_succ c (by omega), Int.toNat_natCast]
      congr 1
      rw [tab2, tabl_set_same, tab2]
      apply tabl_congr
      intro x hx
      by_cases hxc : x = c
      · subst hxc
        simp only [if_true]
        rw [tabl_rep]
        apply tabl_congr
        intro y hy
        try dsimp only
        rw [if_pos hsel, if_pos (by omega)]
      · simp only [hxc, if_false]
        apply tabl_congr
        intro y hy
        try dsimp only
        by_cases hlt : x < c
        · rw [if_pos hlt, if_pos (show x < c + 1 by omega)]
        · rw [if_neg hlt, if_neg (show ¬ x < c + 1 by omega)]
    by_cases h1 : (c : Int) ∈ inn
    · rw [if_pos h1]; exact reset (.inl h1)
    · rw [if_neg h1]
      by_cases h2 : (c : Int) ∈ l
      · rw [decide_eq_true h2]; exact reset (.inr h2)
      · rw [decide_eq_false h2, law22_BatchFair.J7, if_neg (by simp)]
        have h8 := fair_L8 K hK l bb hl hn hll c (by omega) (fun x y => if x < c then (if (x : Int) ∈ inn ∨ (x : Int) ∈ l then 0 else f x y + (if (y : Int) ∈ l then 1 else 0)) else f x y) (fun y hy => by simp only [Nat.lt_irrefl, if_false]; exact h0 c y (by omega) h1 h2 hy) (law22_BatchFair.L4 1000 xs (K : Int) j inn (l, bb) k2 m) l.length 1000 0 (by omega) (by omega)
        have e1 : (tab2 K fun q y => if q = c then (fun x y => if x < c then (if (x : Int) ∈ inn ∨ (x : Int) ∈ l then 0 else f x y + (if (y : Int) ∈ l then 1 else 0)) else f x y) c y + (if (y : Int) ∈ l.take 0 then 1 else 0) else (fun x y => if x < c then (if (x : Int) ∈ inn ∨ (x : Int) ∈ l then 0 else f x y + (if (y : Int) ∈ l then 1 else 0)) else f x y) q y) =
            tab2 K fun x y => if x < c then (if (x : Int) ∈ inn ∨ (x : Int) ∈ l then 0 else f x y + (if (y : Int) ∈ l then 1 else 0)) else f x y := by
          apply tabl_congr
          intro q hq
          apply tabl_congr
          intro y hy
          try dsimp only
          by_cases hqc : q = c
          · subst hqc; simp
          · simp [hqc]
        rw [e1] at h8
        refine Eq.trans (show _ = _ from h8) ?_
        congr 1
        apply tabl_congr
        intro q hq
        apply tabl_congr
        intro y hy
        try dsimp only
        by_cases hqc : q = c
        · subst hqc
          simp only [if_true, Nat.lt_irrefl, if_false]
          rw [if_pos (show q < q + 1 by omega), if_neg (show ¬ ((q : Int) ∈ inn ∨ (q : Int) ∈ l) by simp [h1, h2])]
        · simp only [hqc, if_false]
          by_cases hlt : q < c
          · rw [if_pos hlt, if_pos (show q < c + 1 by omega)]
          · rw [if_neg hlt, if_neg (show ¬ q < c + 1 by omega)]
theorem bstep_kn {mp : List (Int × Bool)} (h : (keys mp).Nodup) (y : Int) : (keys (bstep mp y)).Nodup := by
  rw [bstep]; split
  · exact nodup_mdel h
  · exact h
theorem bsteps_kn : ∀ (ys : List Int) {mp : List (Int × Bool)}, (keys mp).Nodup → (keys (ys.foldl bstep mp)).Nodup
  | [], _, h => h
  | y :: ys, _, h => bsteps_kn ys (bstep_kn h y)
theorem back_any (b : S_batch_Batch) (ys : List Int) (hx : ys.length < 1000) : ∃ c, batch_Batch_Back 1000 b ys = some (c, ⟨b.width, b.row, ys.foldl bstep b.in_⟩) := by
  have := bback_loop b.width b.row ys hx ys.length 1000 0 0 b.in_ (by omega) (by omega) (by omega)
  exact ⟨_, by rw [batch_Batch_Back, show (0 : Int) = ((0 : Nat) : Int) from rfl, this]; rfl⟩
theorem fair_loop (K M : Nat) (hK0 : 0 < K) (hK : K ≤ 20) (xs : List Int) (hx : xs.length ≤ 100) : ∀ (d m c : Nat) (b : S_batch_Batch) (f : Nat → Nat → Int), c + d = xs.length → d < m → Fair K b f →
    law22_BatchFair.L2 1000 xs (K : Int) (M : Int) m (tab2 K f) b (c : Int) = some true := by
  intro d
  induction d with
  | zero =>
    intro m c b f hc hm hF
    obtain ⟨m, rfl⟩ : ∃ q, m = q + 1 := ⟨m - 1, by omega⟩
    have := hF.len
    rw [law22_BatchFair.L2, if_neg (by omega), members_eq b (by omega)]
    simp [this]
  | succ d ih =>
    intro m c b f hc hm hF
    obtain ⟨m, rfl⟩ : ∃ q, m = q + 1 := ⟨m - 1, by omega⟩
    have hlt : c < xs.length := by omega
    have hlen := hF.len
    rw [law22_BatchFair.L2, if_pos (by omega), in_eq b (by omega), pick_eq b _ (by omega) hF.nd]
    simp only [Option.bind_some, Int.toNat_natCast]
    have hperm := pk_perm (fun y => !isIn b.in_ y) b.row M
    have hbef := pk_before (fun y => !isIn b.in_ y) b.row M hF.nd
    have hkeep := pk_keep (fun y => !isIn b.in_ y) b.row M hF.nd
    generalize pk (fun y => !isIn b.in_ y) b.row M = pq at *
    obtain ⟨p, q⟩ := pq
    simp only at hperm hbef hkeep ⊢
    have hpn : (q ++ p).Nodup := hperm.nodup_iff.2 hF.nd
    have hpl : p.length ≤ K ∧ q.length + p.length = K := by have := hperm.length_eq; rw [List.length_append] at this; omega
    have hmem : ∀ y, y ∈ q ∨ y ∈ p ↔ y ∈ b.row := fun y => by rw [← hperm.mem_iff, List.mem_append]
    have hpK : ∀ y ∈ p, 0 ≤ y ∧ y < (K : Int) := fun y hy => (hF.mem y).1 ((hmem y).1 (.inr hy))
    -- one that waits: nobody was picked twice
    have h0 : ∀ x y : Nat, x < K → (x : Int) ∉ b.row.filter (isIn b.in_) → (x : Int) ∉ p → (y : Int) ∈ p → f x y = 0 := by
      intro x y hxK hxi hxp hyp
      have hxr : (x : Int) ∈ b.row := (hF.mem x).2 (by omega)
      have hni : isIn b.in_ (x : Int) = false := by
        cases h : isIn b.in_ (x : Int)
        · rfl
        · exact (hxi (List.mem_filter.2 ⟨hxr, h⟩)).elim
      have hxq : (x : Int) ∈ q := ((hmem _).2 hxr).resolve_right hxp
      have h1 := hbef x hxq (by simp [hni]) y hyp
      have hyK := hpK y hyp
      rcases hF.f x y hxK (by omega) with h | ⟨_, h⟩
      · exact h
      · exact (not_both hF.nd h h1).elim
    have h4 := fair_L4 K M hK xs (c : Int) (b.row.filter (isIn b.in_)) p (by have := List.length_filter_le (isIn b.in_) b.row; omega) ⟨b.width, q ++ p, p.foldl (fun m y => mset m y true) b.in_⟩ hpK (List.nodup_append.1 hpn).2.1 (by omega) f h0 (law22_BatchFair.L2 1000 xs (K : Int) (M : Int) m) K 1000 0 (by omega) (by omega)
    have e1 : (tab2 K fun x y => if x < 0 then (if (x : Int) ∈ b.row.filter (isIn b.in_) ∨ (x : Int) ∈ p then 0 else f x y + (if (y : Int) ∈ p then 1 else 0)) else f x y) = tab2 K f := by
      apply tabl_congr
      intro x hx
      apply tabl_congr
      intro y hy
      try dsimp only
      rw [if_neg (by omega)]
    rw [e1] at h4
    rw [show (0 : Int) = ((0 : Nat) : Int) from rfl, h4]
    -- what is behind
    have hF' : ∀ mp : List (Int × Bool), (keys mp).Nodup → Fair K ⟨b.width, q ++ p, mp⟩ (fun x y => if (x : Int) ∈ b.row.filter (isIn b.in_) ∨ (x : Int) ∈ p then 0 else f x y + (if (y : Int) ∈ p then 1 else 0)) := by
      intro mp hmp
      refine ⟨hpn, fun y => by rw [← hF.mem, List.mem_append]; exact hmem y, by simp; omega, hmp, fun x y hxK hyK => ?_⟩
      by_cases hsel : (x : Int) ∈ b.row.filter (isIn b.in_) ∨ (x : Int) ∈ p
      · left; simp only [hsel, if_true]
      · simp only [hsel, if_false]
        have hxi : (x : Int) ∉ b.row.filter (isIn b.in_) := fun h => hsel (.inl h)
        have hxp : (x : Int) ∉ p := fun h => hsel (.inr h)
        have hxr : (x : Int) ∈ b.row := (hF.mem x).2 (by omega)
        have hyr : (y : Int) ∈ b.row := (hF.mem y).2 (by omega)
        have hxq : (x : Int) ∈ q := ((hmem _).2 hxr).resolve_right hxp
        by_cases hyp : (y : Int) ∈ p
        · right
          rw [if_pos hyp, h0 x y hxK hxi hxp hyp]
          exact ⟨by decide, List.Sublist.append (List.singleton_sublist.2 hxq) (List.singleton_sublist.2 hyp)⟩
        · rw [if_neg hyp, Int.add_zero]
          rcases hF.f x y hxK hyK with h | ⟨h, hs⟩
          · exact .inl h
          · exact .inr ⟨h, (hkeep x y hs hxq (((hmem _).2 hyr).resolve_right hyp)).trans (List.sublist_append_left _ _)⟩
    generalize (fun x y : Nat => if (x : Int) ∈ b.row.filter (isIn b.in_) ∨ (x : Int) ∈ p then (0 : Int) else f x y + (if (y : Int) ∈ p then 1 else 0)) = f' at *
    have hkn1 : (keys (p.foldl (fun m y => mset m y true) b.in_)).Nodup := (isIn_sets p hF.kn).1
    obtain ⟨m4, hm4⟩ : ∃ q, 1000 - K = q + 1 := ⟨1000 - K - 1, by omega⟩
    rw [hm4, law22_BatchFair.L4, if_neg (by omega), in_eq _ (by simp; omega)]
    simp only [Option.bind_some]
    generalize hin2 : (q ++ p).filter (isIn (p.foldl (fun m y => mset m y true) b.in_)) = in2
    have hin2l : in2.length ≤ 20 := by rw [← hin2]; have := List.length_filter_le (isIn (p.foldl (fun m y => mset m y true) b.in_)) (q ++ p); rw [List.length_append] at this; omega
    -- the rounds' ends
    have fin : ∀ mp : List (Int × Bool), (keys mp).Nodup → law22_BatchFair.J5 1000 xs (c : Int) (tab2 K f') in2 (law22_BatchFair.L2 1000 xs (K : Int) (M : Int) m) ⟨b.width, q ++ p, mp⟩ = some true := by
      intro mp hmp
      rw [law22_BatchFair.J5, idx_get _ _ hlt]
      simp only [Option.bind_some]
      split
      · obtain ⟨cc, hcc⟩ := back_any ⟨b.width, q ++ p, mp⟩ in2 (by omega)
        rw [hcc]
        simp only [Option.bind_some, law22_BatchFair.J3, W_succ c (by omega)]
        exact ih m (c + 1) _ _ (by omega) (by omega) (hF' _ (bsteps_kn in2 hmp))
      · simp only [law22_BatchFair.J3, W_succ c (by omega)]
        exact ih m (c + 1) _ _ (by omega) (by omega) (hF' _ hmp)
    split
    · rename_i hpos
      rw [idx_get _ _ hlt]
      simp only [Option.bind_some]
      rw [chk_ok _ (by omega), chk_ok _ (by omega)]
      obtain ⟨k, hk, hke⟩ := W_restN xs[c] in2.length (by omega) (by omega)
      rw [hke, idx_get _ _ hk]
      simp only [Option.bind_some]
      obtain ⟨cc, hcc⟩ := back_any ⟨b.width, q ++ p, p.foldl (fun m y => mset m y true) b.in_⟩ [in2[k]] (by simp)
      rw [hcc]
      exact fin _ (bsteps_kn _ hkn1)
    · exact fin _ hkn1
theorem fair_first (K M : Nat) (hK0 : 0 < K) (hK : K ≤ 20) (xs : List Int) (hx : xs.length ≤ 100) : ∀ (d m c : Nat), c + d = K → d < m →
    law22_BatchFair.L1 1000 xs (K : Int) (M : Int) m (tabl K fun q => if q < c then tabl K (fun _ => 0) else []) ⟨20, tabl c fun q => (q : Int), []⟩ (c : Int) = some true := by
  intro d
  induction d with
  | zero =>
    intro m c hc hm
    obtain ⟨m, rfl⟩ : ∃ q, m = q + 1 := ⟨m - 1, by omega⟩
    have : c = K := by omega
    subst this
    rw [law22_BatchFair.L1, if_neg (by omega)]
    have e1 : (tabl c fun q => if q < c then tabl c (fun _ => (0 : Int)) else []) = tab2 c fun _ _ => 0 := by
      apply tabl_congr
      intro q hq
      rw [if_pos hq]
    rw [e1, show (0 : Int) = ((0 : Nat) : Int) from rfl]
    refine fair_loop c M hK0 hK xs hx xs.length 1000 0 _ _ (by omega) (by omega) ⟨?_, fun y => ?_, tabl_len _ _, by simp [keys], fun x y _ _ => .inl rfl⟩
    · show (tabl c fun q => (q : Int)).Nodup
      rw [tabl, List.Nodup, List.pairwise_map]
      have himp : ∀ {a b : Nat}, a ≠ b → (a : Int) ≠ (b : Int) := fun hab e => hab (by omega)
      exact List.Pairwise.imp himp (List.nodup_range (n := c))
    · show y ∈ (List.range c).map (fun q : Nat => (q : Int)) ↔ _
      rw [List.mem_map]
      constructor
      · rintro ⟨q, hq, rfl⟩
        have := List.mem_range.1 hq
        omega
      · rintro ⟨h1, h2⟩
        exact ⟨y.toNat, List.mem_range.2 (by omega), by omega⟩
  | succ d ih =>
    intro m c hc hm
    obtain ⟨m, rfl⟩ : ∃ q, m = q + 1 := ⟨m - 1, by omega⟩
    rw [law22_BatchFair.L1, if_pos (by omega), chk_ok _ (by omega), idx_nat, tabl_get? (by omega)]
    simp only [Option.bind_some]
    have hl : (tabl c fun q => (q : Int)).length = c := tabl_len _ _
    rw [add_eq _ _ (by show (tabl c fun q => (q : Int)).length < 1000; omega) (by simp) (by simp)]
    have hok : addOk ⟨20, tabl c fun q => (q : Int), []⟩ [(c : Int)] := by
      refine ⟨fun y hy => ?_, by simp⟩
      rw [List.mem_singleton] at hy
      subst hy
      show (c : Int) ∉ (List.range c).map (fun q : Nat => (q : Int))
      rw [List.mem_map]
      rintro ⟨q, hq, he⟩
      have := List.mem_range.1 hq
      omega
    rw [if_pos hok, if_neg (by simp only [hl, List.length_singleton]; omega)]
    simp only [Option.bind_some, ne_eq, not_true_eq_false, if_false, W_succ c (by omega), Int.toNat_natCast]
    have hih := ih m (c + 1) (by omega) (by omega)
    rw [← hih]
    congr 1
    · rw [tabl_set_same, tabl_rep]
      apply tabl_congr
      intro q hq
      by_cases hqc : q = c
      · subst hqc; rw [if_pos rfl, if_pos (by omega)]
      · rw [if_neg hqc]
        by_cases hlt : q < c
        · rw [if_pos hlt, if_pos (by omega)]
        · rw [if_neg hlt, if_neg (by omega)]
    · rw [show (tabl (c + 1) fun q => (q : Int)) = (tabl c fun q => (q : Int)) ++ [(c : Int)] by simp [tabl, List.range_succ]]
theorem batchFair (a b : Int) (xs : List Int) : law22_BatchFair 1000 a b xs = some true := by
  rw [law22_BatchFair]
  simp only [awake22, Option.bind_some, if_true]
  split
  · rfl
  · rename_i hxs
    obtain ⟨K, hK, hKe⟩ := W_restN a 20 (by omega) (by omega)
    obtain ⟨M, hM, hMe⟩ := W_restN b 5 (by omega) (by omega)
    have e1 : IntKind.i64.wrap (1 + Int.tmod (IntKind.i64.wrap (Int.tmod a 20 + 20)) 20) = ((K + 1 : Nat) : Int) := by
      rw [show (20 : Int) = ((20 : Nat) : Int) from rfl, hKe, W_in (by omega)]; omega
    have e2 : IntKind.i64.wrap (1 + Int.tmod (IntKind.i64.wrap (Int.tmod b 5 + 5)) 5) = ((M + 1 : Nat) : Int) := by
      rw [show (5 : Int) = ((5 : Nat) : Int) from rfl, hMe, W_in (by omega)]; omega
    rw [e1, e2]
    have hnew : batch_New 20 = some (some ⟨20, [], []⟩, 0) := by rw [batch_New]; rfl
    rw [hnew]
    rw [Option.bind_some, optc_some, if_neg (by simp)]
    rw [chk_ok _ (by omega)]
    have h1 := fair_first (K + 1) (M + 1) (by omega) (by omega) xs (by omega) (K + 1) 1000 0 (by omega) (by omega)
    have e3 : (tabl (K + 1) fun q => if q < 0 then tabl (K + 1) (fun _ => (0 : Int)) else []) = List.replicate (((K + 1 : Nat) : Int)).toNat ([] : List Int) := by
      rw [Int.toNat_natCast, tabl_rep]
      apply tabl_congr
      intro q hq
      rw [if_neg (by omega)]
    have e4 : (tabl 0 fun q => (q : Int)) = [] := rfl
    rw [e3, e4] at h1
    exact h1
end Go.Proofs.Ythlildgmjidllaa
