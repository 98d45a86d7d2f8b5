/- What a store's functions come to. -/
import Derived.Test.YtdalpckomnkilaaT1
import Derived.Test.YtdalpckomnkilaaPl2
namespace Go.Proofs.Ytdalpckomnkilaa
open Go Go.Hp
set_option linter.unusedVariables false
set_option linter.unusedSimpArgs false
theorem awake12 : law12_awake 1000 = some true := by decide +kernel
theorem index_loop (xs : List Int) (v : Int) (hx : xs.length < 1000) : ∀ (d m k : Nat), k + d = xs.length → d < m → ∃ r, slices_Index_s_int_int.L1 xs v m (k : Int) = some r ∧ (0 ≤ r ↔ v ∈ xs.drop k) := by
  intro d
  induction d with
  | zero =>
    intro m k hk hm
    obtain ⟨m, rfl⟩ : ∃ q, m = q + 1 := ⟨m - 1, by omega⟩
    rw [slices_Index_s_int_int.L1, if_neg (by omega), List.drop_of_length_le (by omega)]
    exact ⟨_, rfl, by simp⟩
  | succ d ih =>
    intro m k hk hm
    obtain ⟨m, rfl⟩ : ∃ q, m = q + 1 := ⟨m - 1, by omega⟩
    have hlt : k < xs.length := by omega
    obtain ⟨r, h1, h2⟩ := ih m (k + 1) (by omega) (by omega)
    rw [slices_Index_s_int_int.L1, if_pos (by omega), idx_get _ _ hlt, List.drop_eq_getElem_cons hlt]
    simp only [Option.bind_some]
    by_cases e : v = xs[k]
    · rw [if_pos e]; exact ⟨(k : Int), rfl, ⟨fun _ => by rw [e]; exact List.mem_cons_self, fun _ => by omega⟩⟩
    · rw [if_neg e, W_succ k (by omega)]
      refine ⟨r, h1, ?_⟩
      rw [h2, List.mem_cons]
      exact ⟨.inr, fun h => h.resolve_left e⟩
theorem contains_eq (xs : List Int) (v : Int) (hx : xs.length < 1000) : slices_Contains_s_int_int 1000 xs v = some (decide (v ∈ xs)) := by
  obtain ⟨r, h1, h2⟩ := index_loop xs v hx xs.length 1000 0 (by omega) (by omega)
  rw [slices_Contains_s_int_int, slices_Index_s_int_int, show (0 : Int) = ((0 : Nat) : Int) from rfl, h1]
  simp only [Option.bind_some, ge_iff_le, List.drop_zero] at h2 ⊢
  congr 1
  exact decide_eq_decide.2 h2
theorem clone_eq (xs : List Int) (hx : xs.length ≤ 4294967296) : slices_Clone_s_int8_int8 xs = some xs := by
  rw [slices_Clone_s_int8_int8, app_ok _ _ (by simpa using hx)]; rfl
theorem drop_ne {xs ys : List Int} {k : Nat} (h1 : k < xs.length) (h2 : k < ys.length) : (xs.drop k = ys.drop k) ↔ xs[k] = ys[k] ∧ xs.drop (k + 1) = ys.drop (k + 1) := by
  have e1 := List.drop_eq_getElem_cons h1
  have e2 := List.drop_eq_getElem_cons h2
  rw [e1, e2, List.cons.injEq]
theorem equal_loop (xs ys : List Int) (hl : xs.length = ys.length) (hx : xs.length < 1000) : ∀ (d m k : Nat), k + d = xs.length → d < m → slices_Equal_s_int8_int8.L1 xs ys m (k : Int) = some (decide (xs.drop k = ys.drop k)) := by
  intro d
  induction d with
  | zero =>
    intro m k hk hm
    obtain ⟨m, rfl⟩ : ∃ q, m = q + 1 := ⟨m - 1, by omega⟩
    rw [slices_Equal_s_int8_int8.L1, if_neg (by omega), List.drop_of_length_le (by omega), List.drop_of_length_le (by omega)]
    simp
  | succ d ih =>
    intro m k hk hm
    obtain ⟨m, rfl⟩ : ∃ q, m = q + 1 := ⟨m - 1, by omega⟩
    have hlt : k < xs.length := by omega
    have hlt2 : k < ys.length := by omega
    rw [slices_Equal_s_int8_int8.L1, if_pos (by omega), idx_get _ _ hlt, idx_get _ _ hlt2]
    simp only [Option.bind_some, W_succ k (by omega), ih m (k + 1) (by omega) (by omega), drop_ne hlt hlt2]
    by_cases e : xs[k] = ys[k] <;> simp [e]
theorem equal_eq (xs ys : List Int) (hx : xs.length < 1000) : slices_Equal_s_int8_int8 1000 xs ys = some (decide (xs = ys)) := by
  rw [slices_Equal_s_int8_int8]
  by_cases hl : xs.length = ys.length
  · rw [if_neg (by simp [hl]), show (0 : Int) = ((0 : Nat) : Int) from rfl, equal_loop xs ys hl hx xs.length 1000 0 (by omega) (by omega)]; simp
  · rw [if_pos (by omega)]
    have : xs ≠ ys := fun h => hl (by rw [h])
    simp [this]
theorem bytes_loop' (xs ys : List Int) (hl : xs.length = ys.length) (hx : xs.length < 1000) : ∀ (d m k : Nat), k + d = xs.length → d < m → ref04_Bytes.L1 xs ys m (k : Int) = some (decide (xs.drop k = ys.drop k)) := by
  intro d
  induction d with
  | zero =>
    intro m k hk hm
    obtain ⟨m, rfl⟩ : ∃ q, m = q + 1 := ⟨m - 1, by omega⟩
    rw [ref04_Bytes.L1, if_neg (by omega), List.drop_of_length_le (by omega), List.drop_of_length_le (by omega)]
    simp
  | succ d ih =>
    intro m k hk hm
    obtain ⟨m, rfl⟩ : ∃ q, m = q + 1 := ⟨m - 1, by omega⟩
    have hlt : k < xs.length := by omega
    have hlt2 : k < ys.length := by omega
    rw [ref04_Bytes.L1, if_pos (by omega), idx_get _ _ hlt, idx_get _ _ hlt2]
    simp only [Option.bind_some, W_succ k (by omega), ih m (k + 1) (by omega) (by omega), drop_ne hlt hlt2]
    by_cases e : xs[k] = ys[k] <;> simp [e]
theorem bytes_eq' (xs ys : List Int) (hx : xs.length < 1000) : ref04_Bytes 1000 xs ys = some (decide (xs = ys)) := by
  rw [ref04_Bytes]
  by_cases hl : xs.length = ys.length
  · rw [if_neg (by simp [hl]), show (0 : Int) = ((0 : Nat) : Int) from rfl, bytes_loop' xs ys hl hx xs.length 1000 0 (by omega) (by omega)]; simp
  · rw [if_pos (by omega)]
    have : xs ≠ ys := fun h => hl (by rw [h])
    simp [this]
/-- Is there a spot at the place ahead, if one is needed? -/
def aheadB (x : S_cache_Store) (at_ : S_api_Spot) : Bool := if at_.Place = 0 then true else (mget x.m ⟨at_.Request, at_.Layer, IntKind.i64.wrap (at_.Place - 1)⟩).isSome
theorem ahead_eq (x : S_cache_Store) (at_ : S_api_Spot) : cache_Store_ahead x at_ = some (aheadB x at_) := by
  rw [cache_Store_ahead, aheadB]
  split
  · rfl
  · simp only [Option.bind_some]
/-- What 'Put' comes to. -/
def putF (x : S_cache_Store) (at_ : S_api_Spot) (k v : List Int) : Int × S_cache_Store :=
  if at_.Request < 0 ∨ at_.Layer < 0 ∨ at_.Place < 0 then (2, x)
  else if k.length ≠ v.length then (30, x)
  else if aheadB x at_ = false then (120, x)
  else match mget x.m at_ with
    | some o => if o.k = k ∧ o.v = v then (0, x) else (2, x)
    | none => if ((x.m.length : Nat) : Int) ≥ x.room then (80, x) else (0, ⟨x.room, mset x.m at_ ⟨k, v⟩⟩)
theorem put_eq (x : S_cache_Store) (at_ : S_api_Spot) (k v : List Int) (hs : ∀ p ∈ x.m, p.2.k.length < 1000 ∧ p.2.v.length < 1000) (hk : k.length < 1000) (hv : v.length < 1000) : cache_Store_Put 1000 x at_ k v = some (putF x at_ k v) := by
  have heta : (⟨at_.Request, at_.Layer, at_.Place⟩ : S_api_Spot) = at_ := rfl
  rw [cache_Store_Put, putF]
  simp only [heta, Option.bind_some, ahead_eq]
  by_cases h1 : at_.Request < 0
  · simp [h1]
  · by_cases h2 : at_.Layer < 0
    · simp [h1, h2]
    · by_cases h3 : at_.Place < 0
      · simp [h1, h2, h3]
      · simp only [h1, h2, h3, if_false, or_false, false_or]
        by_cases h4 : k.length = v.length
        · have h4' : ¬ ((k.length : Nat) : Int) ≠ ((v.length : Nat) : Int) := by omega
          simp only [h4', h4, if_false, ne_eq, not_true_eq_false]
          cases h5 : aheadB x at_
          · simp
          · simp only [if_true, Bool.true_eq_false, if_false, reduceCtorEq]
            cases h6 : mget x.m at_ with
            | none =>
              simp only [Option.isSome_none, Bool.false_eq_true, if_false, cache_Store_Put.J1, heta, h6]
              split
              · rfl
              · rw [clone_eq k (by omega), clone_eq v (by omega)]; rfl
            | some o =>
              have hm := hs _ (mget_mem h6)
              simp only [Option.isSome_some, if_true, Option.getD_some, equal_eq o.k k hm.1, equal_eq o.v v hm.2, Option.bind_some, cache_Store_Put.J1, heta, h6]
              by_cases e1 : o.k = k
              · by_cases e2 : o.v = v <;> simp [e1, e2]
              · simp [e1]
        · have h4' : ((k.length : Nat) : Int) ≠ ((v.length : Nat) : Int) := by omega
          simp only [h4', h4, if_true, ne_eq, not_false_eq_true]
theorem get_eq (x : S_cache_Store) (at_ : S_api_Spot) (hs : ∀ p ∈ x.m, p.2.k.length < 1000 ∧ p.2.v.length < 1000) : cache_Store_Get x at_ = some (match mget x.m at_ with | some o => (o.k, o.v, true) | none => ([], [], false)) := by
  have heta : (⟨at_.Request, at_.Layer, at_.Place⟩ : S_api_Spot) = at_ := rfl
  rw [cache_Store_Get]
  simp only [heta, Option.bind_some]
  cases h6 : mget x.m at_ with
  | none => simp [clone_eq]
  | some o =>
    have hm := hs _ (mget_mem h6)
    have hm1 : o.k.length < 1000 := hm.1
    have hm2 : o.v.length < 1000 := hm.2
    simp only [Option.getD_some, clone_eq o.k (by omega), clone_eq o.v (by omega), Option.bind_some, Option.isSome_some]
/-- A line of n places, and no more. -/
def LineN (x : S_cache_Store) (r l : Int) (n : Nat) : Prop := (∀ j : Nat, j < n → (mget x.m ⟨r, l, (j : Int)⟩).isSome = true) ∧ mget x.m ⟨r, l, (n : Int)⟩ = none
def rowAt (x : S_cache_Store) (r l : Int) (j : Nat) : S_cache_rows := (mget x.m ⟨r, l, (j : Int)⟩).getD ⟨[], []⟩
theorem line_loop (x : S_cache_Store) (r l : Int) (hs : ∀ p ∈ x.m, p.2.k.length < 1000 ∧ p.2.v.length < 1000) (n : Nat) (hn : n < 1000) (hL : LineN x r l n) : ∀ (d m j : Nat), j + d = n → d < m →
    cache_Store_Line.L1 x r l m (tabl j fun q => (rowAt x r l q).k) (tabl j fun q => (rowAt x r l q).v) (j : Int) = some (tabl n fun q => (rowAt x r l q).k, tabl n fun q => (rowAt x r l q).v) := by
  intro d
  induction d with
  | zero =>
    intro m j hj hm
    obtain ⟨m, rfl⟩ : ∃ q, m = q + 1 := ⟨m - 1, by omega⟩
    have : j = n := by omega
    subst this
    rw [cache_Store_Line.L1, get_eq _ _ hs, hL.2]
    simp
  | succ d ih =>
    intro m j hj hm
    obtain ⟨m, rfl⟩ : ∃ q, m = q + 1 := ⟨m - 1, by omega⟩
    have h1 := hL.1 j (by omega)
    obtain ⟨o, ho⟩ := Option.isSome_iff_exists.1 h1
    have hr : rowAt x r l j = o := by simp [rowAt, ho]
    rw [cache_Store_Line.L1, get_eq _ _ hs, ho]
    simp only [Option.bind_some, if_true]
    have ht : ∀ (f : Nat → List Int), tabl (j + 1) f = tabl j f ++ [f j] := fun f => by simp [tabl, List.range_succ]
    rw [app_ok _ _ (by simp [tabl]; omega), app_ok _ _ (by simp [tabl]; omega)]
    simp only [Option.bind_some, W_succ j (by omega)]
    have := ih m (j + 1) (by omega) (by omega)
    rw [ht, ht, hr] at this
    exact this
theorem line_eq (x : S_cache_Store) (r l : Int) (hs : ∀ p ∈ x.m, p.2.k.length < 1000 ∧ p.2.v.length < 1000) (n : Nat) (hn : n < 1000) (hL : LineN x r l n) : cache_Store_Line 1000 x r l = some (tabl n fun q => (rowAt x r l q).k, tabl n fun q => (rowAt x r l q).v) :=
  line_loop x r l hs n hn hL n 1000 0 (by omega) hn
theorem nodup_len {α : Type} [DecidableEq α] : ∀ {l1 l2 : List α}, l1.Nodup → (∀ a ∈ l1, a ∈ l2) → l1.length ≤ l2.length
  | [], _, _, _ => by simp
  | a :: l1, l2, hn, hs => by
    have ha := hs a (by simp)
    have h1 := List.length_erase_of_mem ha
    have h2 := List.length_pos_of_mem ha
    have h3 := nodup_len (l1 := l1) (l2 := l2.erase a) (List.nodup_cons.1 hn).2 fun b hb => (List.mem_erase_of_ne (show b ≠ a from fun e => (List.nodup_cons.1 hn).1 (by rw [← e]; exact hb))).2 (hs b (by simp [hb]))
    simp only [List.length_cons]
    omega
/-- There is such a length. -/
theorem line_ex (x : S_cache_Store) (r l : Int) : ∃ n, n ≤ x.m.length ∧ LineN x r l n := by
  -- else there would be more keys than entries
  have key : ∀ n : Nat, (∀ j : Nat, j < n → (mget x.m ⟨r, l, (j : Int)⟩).isSome = true) → n ≤ x.m.length := by
    intro n h
    have hsub : ((List.range n).map fun j : Nat => (⟨r, l, (j : Int)⟩ : S_api_Spot)).Nodup := by
      rw [List.Nodup, List.pairwise_map]
      have himp : ∀ {a b : Nat}, a ≠ b → (⟨r, l, (a : Int)⟩ : S_api_Spot) ≠ ⟨r, l, (b : Int)⟩ := fun {a b} hab e => hab (by injection e with _ _ e; omega)
      exact List.Pairwise.imp himp (List.nodup_range (n := n))
    have h2 := nodup_len hsub (l2 := x.m.map Prod.fst) (fun k hk => by
      obtain ⟨j, hj, rfl⟩ := List.mem_map.1 hk
      obtain ⟨o, ho⟩ := Option.isSome_iff_exists.1 (h j (List.mem_range.1 hj))
      exact List.mem_map.2 ⟨_, mget_mem ho, rfl⟩)
    simpa using h2
  -- the least one
  have least : ∀ (d n : Nat), n + d = x.m.length + 1 → (∀ j : Nat, j < n → (mget x.m ⟨r, l, (j : Int)⟩).isSome = true) → ∃ n, n ≤ x.m.length ∧ LineN x r l n := by
    intro d
    induction d with
    | zero => intro n hn h; have := key n h; omega
    | succ d ih =>
      intro n hn h
      cases hg : mget x.m ⟨r, l, (n : Int)⟩ with
      | none => exact ⟨n, key n h, h, hg⟩
      | some o =>
        refine ih (n + 1) (by omega) (fun j hj => ?_)
        by_cases hjn : j = n
        · rw [hjn, hg]; rfl
        · exact h j (by omega)
  exact least (x.m.length + 1) 0 (by omega) (fun j hj => by omega)
/-- What is left behind 'DeleteFunc'. -/
theorem mdel_filter {κ β : Type} [DecidableEq κ] {l : List (κ × β)} (hn : (l.map Prod.fst).Nodup) (k : κ) : mdel l k = l.filter fun p => decide (p.1 ≠ k) := by
  induction l with
  | nil => rfl
  | cons p l ih =>
    obtain ⟨k', x'⟩ := p
    simp only [List.map_cons, List.nodup_cons] at hn
    by_cases hk : k' = k
    · subst hk
      simp only [mdel, if_true, List.filter_cons, ne_eq, not_true_eq_false, decide_false, Bool.false_eq_true, if_false]
      symm
      apply List.filter_eq_self.2
      intro p hp
      have : p.1 ≠ k' := fun e => hn.1 (by rw [← e]; exact List.mem_map.2 ⟨p, hp, rfl⟩)
      simp [this]
    · simp only [mdel, hk, if_false, List.filter_cons, ne_eq, not_false_eq_true, decide_true, if_true, ih hn.2]
theorem delf_loop (l0 : List (S_api_Spot × S_cache_rows)) (hn : (l0.map Prod.fst).Nodup) (g : S_api_Spot → S_cache_rows → Option Bool) (f : S_api_Spot → Bool) (hg : ∀ k v, g k v = some (f k)) : ∀ (d m : Nat) (seen : List S_api_Spot), (remK l0 seen).length ≤ d → d < m →
    maps_DeleteFunc_map_api_Spot_cache_rows_api_Spot_cache_rows.L1 g m (l0.filter fun p => !(decide (p.1 ∈ seen) && f p.1)) seen = some (l0.filter fun p => !f p.1) := by
  have hnf : ∀ q : S_api_Spot × S_cache_rows → Bool, ((l0.filter q).map Prod.fst).Nodup := fun q => hn.sublist ((List.filter_sublist (l := l0)).map _)
  have hrem : ∀ seen : List S_api_Spot, remK (l0.filter fun p => !(decide (p.1 ∈ seen) && f p.1)) seen = remK l0 seen := by
    intro seen
    unfold remK
    rw [List.filter_map, List.filter_map, List.filter_filter]
    congr 1
    apply List.filter_congr
    intro p _
    simp only [Function.comp]
    by_cases h : p.1 ∈ seen <;> simp [h]
  have hdone : ∀ seen : List S_api_Spot, remK l0 seen = [] → (l0.filter fun p => !(decide (p.1 ∈ seen) && f p.1)) = l0.filter fun p => !f p.1 := by
    intro seen h
    apply List.filter_congr
    intro p hp
    have : p.1 ∈ seen := by
      apply Classical.byContradiction
      intro hc
      have : p.1 ∈ remK l0 seen := mem_remK.2 ⟨List.mem_map.2 ⟨p, hp, rfl⟩, hc⟩
      rw [h] at this; cases this
    simp [this]
  intro d
  induction d with
  | zero =>
    intro m seen hd hm
    obtain ⟨m, rfl⟩ : ∃ q, m = q + 1 := ⟨m - 1, by omega⟩
    have h0 : remK l0 seen = [] := List.eq_nil_of_length_eq_zero (by omega)
    rw [maps_DeleteFunc_map_api_Spot_cache_rows_api_Spot_cache_rows.L1, hrem, h0, anyK, hdone seen h0]
  | succ d ih =>
    intro m seen hd hm
    obtain ⟨m, rfl⟩ : ∃ q, m = q + 1 := ⟨m - 1, by omega⟩
    rw [maps_DeleteFunc_map_api_Spot_cache_rows_api_Spot_cache_rows.L1, hrem]
    by_cases h0 : remK l0 seen = []
    · rw [h0, anyK, hdone seen h0]
    · refine anyK_eq (fun k hk => ?_) h0
      have hkm := mem_remK.1 hk
      obtain ⟨⟨k', e⟩, hp, hke⟩ := List.mem_map.1 hkm.1
      simp only at hke; subst hke
      have hg2 : mget (l0.filter fun p => !(decide (p.1 ∈ seen) && f p.1)) k' = some e := mget_of_mem (hnf _) (List.mem_filter.2 ⟨hp, by simp [hkm.2]⟩)
      have hlen := remK_len l0 seen hn hk
      have hnext := ih m (k' :: seen) (by omega) (by omega)
      have heta : (⟨k'.Request, k'.Layer, k'.Place⟩ : S_api_Spot) = k' := rfl
      simp only [hg2, Option.bind_some, hg, heta]
      split
      · rename_i hf
        rw [mdel_filter (hnf _), List.filter_filter, ← hnext]
        congr 1
        apply List.filter_congr
        intro p _
        by_cases hpk : p.1 = k'
        · simp [hpk, hf]
        · simp [hpk]
      · rename_i hf
        rw [← hnext]
        congr 1
        apply List.filter_congr
        intro p _
        by_cases hpk : p.1 = k'
        · simp [hpk, hf]
        · simp [hpk]
theorem drop_eq (x : S_cache_Store) (rs : List Int) (hn : (x.m.map Prod.fst).Nodup) (hl : x.m.length < 1000) (hr : rs.length < 1000) :
    cache_Store_Drop 1000 x rs = some (((x.m.length - (x.m.filter fun p => !decide (p.1.Request ∈ rs)).length : Nat) : Int), ⟨x.room, x.m.filter fun p => !decide (p.1.Request ∈ rs)⟩) := by
  have h := delf_loop x.m hn (fun y6 _ => (slices_Contains_s_int_int 1000 rs y6.Request).bind fun r22 => some r22) (fun k => decide (k.Request ∈ rs)) (fun k v => by rw [contains_eq _ _ hr]; rfl) x.m.length 1000 [] (by rw [remK_all]; simp) hl
  have h2 : maps_DeleteFunc_map_api_Spot_cache_rows_api_Spot_cache_rows 1000 x.m (fun (y6 : S_api_Spot) (y7 : S_cache_rows) => (slices_Contains_s_int_int 1000 rs y6.Request).bind fun r22 => some r22) = some (x.m.filter fun p => !decide (p.1.Request ∈ rs)) := by
    rw [maps_DeleteFunc_map_api_Spot_cache_rows_api_Spot_cache_rows, chk_ok _ hn, ← h]
    congr 1
    exact (List.filter_eq_self.2 (fun p _ => by simp)).symm
  rw [cache_Store_Drop, h2]
  have hle := List.length_filter_le (fun p : S_api_Spot × S_cache_rows => !decide (p.1.Request ∈ rs)) x.m
  simp only [Option.bind_some]
  rw [W_in (by omega)]
  congr 2
  omega
end Go.Proofs.Ytdalpckomnkilaa
