/- A store takes just as many spots as its room says. -/
import Derived.Test.YtdalpckomnkilaaP1
namespace Go.Proofs.Ytdalpckomnkilaa
open Go Go.Hp
set_option linter.unusedVariables false
set_option linter.unusedSimpArgs false
theorem mget_app {κ β : Type} [DecidableEq κ] (l : List (κ × β)) (p : κ × β) (k : κ) : mget (l ++ [p]) k = match mget l k with | some x => some x | none => if p.1 = k then some p.2 else none := by
  induction l with
  | nil => obtain ⟨a, b⟩ := p; simp [mget]
  | cons q l ih =>
    obtain ⟨a, b⟩ := q
    simp only [List.cons_append, mget]
    by_cases h : a = k
    · simp [h]
    · simp [h, ih]
theorem mset_new {κ β : Type} [DecidableEq κ] {l : List (κ × β)} {k : κ} (h : mget l k = none) (x : β) : mset l k x = l ++ [(k, x)] := by
  induction l with
  | nil => rfl
  | cons q l ih =>
    obtain ⟨a, b⟩ := q
    simp only [mget] at h
    by_cases e : a = k
    · simp [e] at h
    · simp only [e, if_false] at h
      simp [mset, e, ih h]
theorem tabl_succ {α : Type} (n : Nat) (f : Nat → α) : tabl (n + 1) f = tabl n f ++ [f n] := by simp [tabl, List.range_succ]
def spotN (M j : Nat) : S_api_Spot := ⟨((j % M : Nat) : Int), 2, ((j / M : Nat) : Int)⟩
def rowN (j : Nat) : S_cache_rows := ⟨[IntKind.i8.wrap (j : Int)], [1]⟩
def stN (K M c : Nat) : S_cache_Store := ⟨(K : Int), tabl c fun j => (spotN M j, rowN j)⟩
theorem spotN_inj {M i j : Nat} (h : spotN M i = spotN M j) : i = j := by
  injection h with h1 _ h2
  have e1 : i % M = j % M := by omega
  have e2 : i / M = j / M := by omega
  rw [← Nat.div_add_mod i M, ← Nat.div_add_mod j M, e1, e2]
theorem mget_tab (M : Nat) : ∀ (c i : Nat), mget (tabl c fun j => (spotN M j, rowN j)) (spotN M i) = if i < c then some (rowN i) else none
  | 0, i => by simp [tabl, mget]
  | c + 1, i => by
    rw [tabl_succ, mget_app, mget_tab M c i]
    by_cases h : i < c
    · simp [h, show i < c + 1 by omega]
    · by_cases e : c = i
      · subst e; simp
      · have hne : spotN M c ≠ spotN M i := fun h => e (spotN_inj h)
        simp [h, hne, show ¬ i < c + 1 by omega]
theorem spot_of {M r p : Nat} (hr : r < M) : (⟨(r : Int), 2, (p : Int)⟩ : S_api_Spot) = spotN M (p * M + r) := by
  have h1 : (p * M + r) % M = r := by rw [Nat.mul_comm, Nat.mul_add_mod]; exact Nat.mod_eq_of_lt hr
  have h2 : (p * M + r) / M = p := by rw [Nat.mul_comm, Nat.mul_add_div (by omega), Nat.div_eq_of_lt hr]; omega
  rw [spotN, h1, h2]
theorem st_small (K M c : Nat) : ∀ p ∈ (stN K M c).m, p.2.k.length < 1000 ∧ p.2.v.length < 1000 := by
  intro p hp
  obtain ⟨j, _, rfl⟩ := List.mem_map.1 hp
  exact ⟨by simp [rowN], by simp [rowN]⟩
theorem ahead_st (K M c i : Nat) (hM : 0 < M) (hi : i < 1000) : aheadB (stN K M c) (spotN M i) = decide (i / M = 0 ∨ i - M < c) := by
  rw [aheadB]
  have hdl := Nat.div_le_self i M
  by_cases h : i / M = 0
  · rw [if_pos (by show ((i / M : Nat) : Int) = 0; omega)]; simp [h]
  · have hge : M ≤ i := by
      rcases Nat.lt_or_ge i M with h' | h'
      · rw [Nat.div_eq_of_lt h'] at h; exact (h rfl).elim
      · exact h'
    rw [if_neg (by show ¬ ((i / M : Nat) : Int) = 0; omega)]
    have e : (⟨(spotN M i).Request, (spotN M i).Layer, IntKind.i64.wrap ((spotN M i).Place - 1)⟩ : S_api_Spot) = spotN M (i - M) := by
      show (⟨((i % M : Nat) : Int), 2, IntKind.i64.wrap (((i / M : Nat) : Int) - 1)⟩ : S_api_Spot) = ⟨(((i - M) % M : Nat) : Int), 2, (((i - M) / M : Nat) : Int)⟩
      have h1 : (i - M) % M = i % M := (Nat.mod_eq_sub_mod hge).symm
      have h2 : i / M = (i - M) / M + 1 := Nat.div_eq_sub_div hM hge
      generalize (i - M) / M = q at *
      generalize i / M = q' at *
      rw [W_in (by omega), h1, h2]
      congr 1
      omega
    rw [e, show (stN K M c).m = tabl c fun j => (spotN M j, rowN j) from rfl, mget_tab]
    split <;> rename_i hh <;> simp [hh, h]
theorem len_st (K M c : Nat) : (stN K M c).m.length = c := tabl_len _ _
theorem put_st (K M i : Nat) (hM : 0 < M) (hi : i < 1000) (hK : K < 1000) : ∃ f, putF (stN K M (min i K)) (spotN M i) [IntKind.i8.wrap (i : Int)] [1] = (f, stN K M (min (i + 1) K)) ∧ (i < K → f = 0) ∧ (¬ i < K → f = 80 ∨ f = 120) := by
  have g1 := Int.natCast_nonneg (i / M)
  have g2 := Int.natCast_nonneg (i % M)
  rw [putF, if_neg (by show ¬ (((i % M : Nat) : Int) < 0 ∨ (2 : Int) < 0 ∨ ((i / M : Nat) : Int) < 0); omega), if_neg (by simp), ahead_st K M _ i hM hi]
  have hmg : mget (stN K M (min i K)).m (spotN M i) = none := by
    rw [show (stN K M (min i K)).m = tabl (min i K) fun j => (spotN M j, rowN j) from rfl, mget_tab, if_neg (by omega)]
  rw [hmg, len_st]
  by_cases hiK : i < K
  · have e1 : min i K = i := by omega
    have e2 : min (i + 1) K = i + 1 := by omega
    have ha : i / M = 0 ∨ i - M < i := by
      by_cases h : i / M = 0
      · exact .inl h
      · right
        have : i ≠ 0 := fun e => by subst e; simp at h
        omega
    rw [e1, e2, if_neg (by simp only [decide_eq_false_iff_not]; exact fun h => h ha)]
    simp only [show ¬ ((i : Nat) : Int) ≥ (stN K M i).room from by show ¬ (i : Int) ≥ (K : Int); omega, if_false]
    refine ⟨0, ?_, fun _ => rfl, fun h => (h hiK).elim⟩
    rw [e1] at hmg
    rw [mset_new hmg]
    rw [show stN K M (i + 1) = ⟨(K : Int), tabl (i + 1) fun j => (spotN M j, rowN j)⟩ from rfl, tabl_succ]
    rfl
  · have e1 : min i K = K := by omega
    have e2 : min (i + 1) K = K := by omega
    rw [e1, e2]
    split
    · exact ⟨120, rfl, fun h => (hiK h).elim, fun _ => .inr rfl⟩
    · simp only [show ((K : Nat) : Int) ≥ (stN K M K).room from Int.le_refl _, if_true]
      exact ⟨80, rfl, fun h => (hiK h).elim, fun _ => .inl rfl⟩
theorem count_st : ∀ M, M < 6 → 0 < M → ∀ K, K < 40 → ((stN K M K).m.filter fun p => !decide (p.1.Request ∈ [(0 : Int)])).length + (K + M - 1) / M = K := by decide +kernel
theorem j2_drop (K M : Nat) (hM : 0 < M) (hM6 : M < 6) (hK : K < 40) (h0 : 0 < K) : law12_CacheFills.J2 1000 (K : Int) (M : Int) (stN K M K) true = some true := by
  have hnd : ((stN K M K).m.map Prod.fst).Nodup := by
    show ((tabl K fun j => (spotN M j, rowN j)).map Prod.fst).Nodup
    rw [tabl_map, tabl, List.Nodup, List.pairwise_map]
    have himp : ∀ {a b : Nat}, a ≠ b → spotN M a ≠ spotN M b := fun hab e => hab (spotN_inj e)
    exact List.Pairwise.imp himp (List.nodup_range (n := K))
  have hc := count_st M hM6 hM K hK
  have hq : (K + M - 1) / M ≤ K ∧ 0 < (K + M - 1) / M := ⟨by omega, Nat.div_pos (by omega) hM⟩
  rw [law12_CacheFills.J2, if_pos rfl, drop_eq _ _ hnd (by rw [len_st]; omega) (by simp)]
  simp only [Option.bind_some]
  rw [chk_ok _ (by omega), len_st]
  have hsm : ∀ p ∈ ((stN K M K).m.filter fun p => !decide (p.1.Request ∈ [(0 : Int)])), p.2.k.length < 1000 ∧ p.2.v.length < 1000 := fun p hp => st_small K M K p (List.mem_filter.1 hp).1
  have hng : mget ((stN K M K).m.filter fun p => !decide (p.1.Request ∈ [(0 : Int)])) (⟨0, 0, 0⟩ : S_api_Spot) = none := by
    rw [mget_none]
    intro hm
    obtain ⟨p, hp, hpe⟩ := List.mem_map.1 hm
    obtain ⟨j, _, hj⟩ := List.mem_map.1 (List.mem_filter.1 hp).1
    rw [← hj] at hpe
    injection hpe with _ h2 _
    omega
  generalize ((stN K M K).m.filter fun p => !decide (p.1.Request ∈ [(0 : Int)])) = y at *
  have e1 : IntKind.i64.wrap (Int.tdiv (IntKind.i64.wrap (IntKind.i64.wrap ((K : Int) + M) - 1)) M) = (((K + M - 1) / M : Nat) : Int) := by
    rw [W_in (x := (K : Int) + M) (by omega), W_in (x := (K : Int) + M - 1) (by omega), show (K : Int) + M - 1 = ((K + M - 1 : Nat) : Int) by omega, ← Int.ofNat_tdiv]
    have g1 := Int.natCast_nonneg ((K + M - 1) / M)
    exact W_in (by omega)
  rw [e1, show ((K - y.length : Nat) : Int) = (((K + M - 1) / M : Nat) : Int) by omega, if_pos rfl]
  simp only [cache_Store_Len, Option.bind_some]
  rw [W_in (by omega), if_pos (by show ((y.length : Nat) : Int) = _; omega)]
  simp only [law12_spot, Option.bind_some]
  rw [put_eq _ _ _ _ hsm (by simp) (by simp), putF, if_neg (by simp), if_neg (by simp), if_neg (by simp [aheadB]), hng]
  simp only [show ¬ ((y.length : Nat) : Int) ≥ (stN K M K).room from by show ¬ ((y.length : Nat) : Int) ≥ (K : Int); omega, if_false, Option.bind_some, decide_true]
theorem j2_clear (K M : Nat) (x : S_cache_Store) (hx : x.room = (K : Int)) : law12_CacheFills.J2 1000 (K : Int) (M : Int) x false = some true := by
  rw [law12_CacheFills.J2, if_neg (by simp)]
  simp only [cache_Store_Clear, cache_Store_Len, Option.bind_some, law12_spot, List.length_nil]
  rw [if_pos (by simp), put_eq _ _ _ _ (by simp) (by simp) (by simp), putF, if_neg (by simp), if_neg (by simp), if_neg (by simp [aheadB])]
  simp only [mget, hx, List.length_nil]
  by_cases hK : K = 0
  · subst hK; simp
  · rw [if_neg (by simp; omega)]
    simp; omega
theorem fills_loop (K M : Nat) (hM : 0 < M) (hM6 : M < 6) (hK : K < 40) (drop : Bool) : ∀ (d m i : Nat), i + d = 60 → d < m → law12_CacheFills.L1 1000 drop (K : Int) (M : Int) m (stN K M (min i K)) (i : Int) = some true := by
  intro d
  induction d with
  | zero =>
    intro m i hi hm
    obtain ⟨m, rfl⟩ : ∃ q, m = q + 1 := ⟨m - 1, by omega⟩
    rw [law12_CacheFills.L1, if_neg (by omega), show min i K = K by omega]
    simp only [cache_Store_Len, Option.bind_some, len_st, ne_eq, not_true_eq_false, if_false]
    split
    · by_cases h0 : 0 < K
      · rw [decide_eq_true (by omega)]; exact j2_drop K M hM hM6 hK h0
      · rw [decide_eq_false (by omega)]; exact j2_clear K M _ rfl
    · exact j2_clear K M _ rfl
  | succ d ih =>
    intro m i hi hm
    obtain ⟨m, rfl⟩ : ∃ q, m = q + 1 := ⟨m - 1, by omega⟩
    have hdl := Nat.div_le_self i M
    have e1 : Int.tmod (i : Int) (M : Int) = ((i % M : Nat) : Int) := (Int.ofNat_tmod i M).symm
    have e2 : IntKind.i64.wrap (Int.tdiv (i : Int) (M : Int)) = ((i / M : Nat) : Int) := by
      have g1 := Int.natCast_nonneg (i / M)
      rw [← Int.ofNat_tdiv]
      exact W_in (by omega)
    rw [law12_CacheFills.L1, if_pos (by omega), chk_ok _ (by omega), e1, e2]
    simp only [law12_spot, Option.bind_some]
    obtain ⟨f, hp, hf1, hf2⟩ := put_st K M i hM (by omega) (by omega)
    rw [put_eq _ _ _ _ (st_small _ _ _) (by simp) (by simp), show (⟨((i % M : Nat) : Int), 2, ((i / M : Nat) : Int)⟩ : S_api_Spot) = spotN M i from rfl, hp]
    simp only [Option.bind_some]
    have hx := st_small K M (min (i + 1) K)
    obtain ⟨n, hn, hL⟩ := line_ex (stN K M (min (i + 1) K)) ((i % M : Nat) : Int) 2
    rw [len_st] at hn
    have hline := line_eq _ _ _ hx n (by omega) hL
    have hih := ih m (i + 1) (by omega) (by omega)
    have h4 : law12_CacheFills.J4 1000 (K : Int) (M : Int) (i : Int) (stN K M (min (i + 1) K)) (law12_CacheFills.L1 1000 drop (K : Int) (M : Int) m) false = some true := by
      rw [law12_CacheFills.J4, if_neg (by simp), chk_ok _ (by omega), e1, hline]
      simp only [Option.bind_some, tabl_len]
      have h5 : law12_CacheFills.J5 (i : Int) (stN K M (min (i + 1) K)) (law12_CacheFills.L1 1000 drop (K : Int) (M : Int) m) false = some true := by
        rw [law12_CacheFills.J5, if_neg (by simp), W_succ i (by omega)]; exact hih
      split
      · rename_i hlt
        have g1 := Int.natCast_nonneg (i / M)
        rw [chk_ok _ (by omega), e2, W_in (x := ((i / M : Nat) : Int) + 1) (by omega)]
        have hmod : i % M < M := Nat.mod_lt _ hM
        have hdm := Nat.div_add_mod i M
        have hmin : min (i + 1) K = i + 1 := by omega
        rw [hmin] at hL
        -- the line's length
        have hnl : n = i / M + 1 := by
          rcases Nat.lt_trichotomy n (i / M + 1) with h | h | h
          · exfalso
            have h1 := hL.2
            rw [spot_of hmod, show (stN K M (i + 1)).m = tabl (i + 1) fun j => (spotN M j, rowN j) from rfl, mget_tab, if_pos] at h1
            · cases h1
            · have : n * M ≤ (i / M) * M := Nat.mul_le_mul_right _ (by omega)
              rw [Nat.mul_comm (i / M) M] at this
              omega
          · exact h
          · exfalso
            have h1 := hL.1 (i / M + 1) h
            rw [spot_of hmod, show (stN K M (i + 1)).m = tabl (i + 1) fun j => (spotN M j, rowN j) from rfl, mget_tab, if_neg] at h1
            · cases h1
            · rw [Nat.add_mul, Nat.mul_comm (i / M) M]; omega
        rw [hnl, decide_eq_false (by simp)]
        exact h5
      · exact h5
    rw [law12_CacheFills.J3]
    by_cases hiK : i < K
    · rw [if_pos (by omega), hf1 hiK]
      simp only [ne_eq, not_true_eq_false, if_false]
      rw [if_neg (by omega)]
      exact h4
    · rw [if_neg (by omega), if_pos (by omega)]
      rcases hf2 hiK with h | h
      · rw [h]; simpa using h4
      · rw [h]; simpa using h4
theorem cacheFills (a b : Int) (c : Bool) : law12_CacheFills 1000 a b c = some true := by
  rw [law12_CacheFills]
  simp only [awake12, Option.bind_some, if_true]
  obtain ⟨K, hK, hKe⟩ := W_restN a 40 (by omega) (by omega)
  obtain ⟨M, hM, hMe⟩ := W_restN b 5 (by omega) (by omega)
  rw [show (40 : Int) = ((40 : Nat) : Int) from rfl, show (5 : Int) = ((5 : Nat) : Int) from rfl, hKe, hMe, cache_New, if_neg (by omega), if_neg (by omega)]
  simp only [Option.bind_some, optc, ne_eq, not_true_eq_false, if_false]
  rw [show IntKind.i64.wrap (1 + (M : Int)) = ((M + 1 : Nat) : Int) by rw [W_in (by omega)]; omega]
  exact fills_loop K (M + 1) (by omega) (by omega) (by omega) c 60 1000 0 (by omega) (by omega)
end Go.Proofs.Ytdalpckomnkilaa
