/- Shares together are never more than the total, and less by fewer than how many there are. -/
import Derived.Test.YtbkmocebohdgnaaPCurveWholex1
import Derived.Test.YtbkmocebohdgnaaPCurveWholex2
import Derived.Test.YtbkmocebohdgnaaPCurveWholex3
import Derived.Test.YtbkmocebohdgnaaEPlain
namespace Go.Proofs.Ytbkmocebohdgnaa.Pure
open Go.RowKit Go.Proofs.Ytbkmocebohdgnaa.PCurveWhole Go.Proofs.YtbkmocebohdgnaaW.PrintWords Go.Proofs.YtbkmocebohdgnaaW.PrintLast Go.Proofs.YtbkmocebohdgnaaW.PrintMore Go.Proofs.YtbkmocebohdgnaaPlain
set_option linter.unusedVariables false
set_option linter.unusedSimpArgs false

theorem shares_l1 (total : Int) (xs : List Int) (ht : -2147483648 ≤ total ∧ total < 2147483648) (hx : ∀ x ∈ xs, -2147483648 ≤ x ∧ x < 2147483648) (hl : xs.length ≤ 1000) (d : Nat) :
    ∀ (k i : Nat), i + d = xs.length → d < k →
      curve_Shares.l1 k total ((xs.take i).map (share total (wsum xs)) ++ List.replicate d 0) (wsum xs) xs (xs.length : Int) (i : Int) = some (xs.map (share total (wsum xs))) := by
  have hsum := wsum_le xs 2147483647 (by decide) fun x h => by have := hx x h; omega
  have hs0 := wsum_nonneg xs
  induction d with
  | zero =>
    intro k i hi hk
    obtain ⟨k, rfl⟩ : ∃ m, k = m + 1 := ⟨k - 1, by omega⟩
    simp only [curve_Shares.l1]
    rw [if_neg (by omega), List.take_of_length_le (by omega)]
    simp
  | succ d ih =>
    intro k i hi hk
    obtain ⟨k, rfl⟩ : ∃ m, k = m + 1 := ⟨k - 1, by omega⟩
    have hlt : i < xs.length := by omega
    have ih' := ih k (i + 1) (by omega) (by omega)
    rw [take_map_succ _ _ _ hlt, List.append_assoc, List.singleton_append] at ih'
    have hxi := hx xs[i] (List.getElem_mem hlt)
    have hge := wsum_ge xs xs[i] (List.getElem_mem hlt)
    have hw : wrap64 ((i : Int) + 1) = ((i + 1 : Nat) : Int) := by rw [w64] <;> omega
    simp only [curve_Shares.l1]
    rw [if_pos (by omega), if_pos (by omega), if_pos (by omega), rd_at _ _ hlt, hw]
    have hset : ∀ v : Int, ((xs.take i).map (share total (wsum xs)) ++ List.replicate (d + 1) 0).set i v = (xs.take i).map (share total (wsum xs)) ++ v :: List.replicate d 0 := by
      intro v
      have e := set_zeros ((xs.take i).map (share total (wsum xs))) d 0 v
      rwa [List.length_map, List.length_take, Nat.min_eq_left (by omega)] at e
    by_cases h1 : xs[i] > 0
    · by_cases h2 : total > 0
      · have hp : pos xs[i] = xs[i] := by unfold pos; rw [if_pos h1]
        rw [hp] at hge
        have hq := quot_le h1 h2 hge
        have e : wrap32 (IntKind.u64.wrap (Int.tdiv (IntKind.u64.wrap (IntKind.u64.wrap xs[i] * IntKind.u64.wrap total)) (wsum xs))) = share total (wsum xs) xs[i] := by
          have hm : 0 ≤ xs[i] * total ∧ xs[i] * total < 18446744073709551616 := mul_u64 (by omega) (by omega) (by omega) (by omega)
          rw [u64w (n := xs[i]) (by omega) (by omega), u64w (n := total) (by omega) (by omega), u64w (n := xs[i] * total) hm.1 hm.2, Int.tdiv_eq_ediv_of_nonneg hm.1]
          unfold share
          rw [if_pos h1, if_pos h2]
          generalize xs[i] * total / wsum xs = q at hq ⊢
          rw [u64w (by omega) (by omega), w32 (by omega) (by omega)]
        rw [if_pos h1, if_pos h2, if_neg (by omega), if_pos (by simp; omega), Int.toNat_natCast, hset, e]
        exact ih'
      · have e : share total (wsum xs) xs[i] = 0 := by unfold share; rw [if_pos h1, if_neg (by omega)]
        rw [if_pos h1, if_neg h2]
        rw [e] at ih'
        exact ih'
    · have e : share total (wsum xs) xs[i] = 0 := by unfold share; rw [if_neg (by omega)]
      rw [if_neg h1]
      rw [e] at ih'
      exact ih'

theorem shares_l0 (total : Int) (xs : List Int) (ht : -2147483648 ≤ total ∧ total < 2147483648) (hx : ∀ x ∈ xs, -2147483648 ≤ x ∧ x < 2147483648) (hl : xs.length ≤ 1000) (d : Nat) :
    ∀ (k i : Nat), i + d = xs.length → d + xs.length + 1 < k →
      curve_Shares.l0 k total xs (List.replicate xs.length 0) (wsum (xs.take i)) xs (xs.length : Int) (i : Int) = some (xs.map (share total (wsum xs))) := by
  have hsum := wsum_le xs 2147483647 (by decide) fun x h => by have := hx x h; omega
  induction d with
  | zero =>
    intro k i hi hk
    obtain ⟨k, rfl⟩ : ∃ m, k = m + 1 := ⟨k - 1, by omega⟩
    have := shares_l1 total xs ht hx hl xs.length k 0 (by omega) (by omega)
    simp only [curve_Shares.l0]
    rw [if_neg (by omega), List.take_of_length_le (by omega)]
    simpa using this
  | succ d ih =>
    intro k i hi hk
    obtain ⟨k, rfl⟩ : ∃ m, k = m + 1 := ⟨k - 1, by omega⟩
    have hlt : i < xs.length := by omega
    have hxi := hx xs[i] (List.getElem_mem hlt)
    have hw : wrap64 ((i : Int) + 1) = ((i + 1 : Nat) : Int) := by rw [w64] <;> omega
    have hn := wsum_nonneg (xs.take i)
    have hle := wsum_take_le xs (i + 1)
    have hs := wsum_take_succ xs i hlt
    have hm : mx xs[i] 0 = pos xs[i] := by unfold mx pos; split <;> split <;> omega
    have hp := pos_nonneg xs[i]
    have hpb : pos xs[i] ≤ 2147483647 := by unfold pos; split <;> omega
    simp only [curve_Shares.l0]
    rw [if_pos (by omega), if_pos (by omega), if_pos (by omega), rd_at _ _ hlt, hw, hm, u64w (n := pos xs[i]) (by omega) (by omega), u64w (by omega) (by omega), ← hs]
    exact ih k (i + 1) (by omega) (by omega)

theorem shares_is (total : Int) (xs : List Int) (ht : -2147483648 ≤ total ∧ total < 2147483648) (hx : ∀ x ∈ xs, -2147483648 ≤ x ∧ x < 2147483648) (hl : xs.length ≤ 1000) (k : Nat) (hk : 2 * xs.length + 2 ≤ k) :
    curve_Shares.f k total xs = some (xs.map (share total (wsum xs))) := by
  unfold curve_Shares.f
  rw [if_pos (by omega), if_pos (by omega), Int.toNat_natCast]
  have := shares_l0 total xs ht hx hl xs.length k 0 (by omega) (by omega)
  simpa [wsum] using this

theorem ints_loop (a b : List Int) (hl : a.length = b.length) (hb : a.length < 9223372036854775807) (he : a = b) (d : Nat) : ∀ (k i : Nat), i + d = a.length → d < k → pelotonlaw02_ints.l0 k a b (i : Int) = some true := by
  induction d with
  | zero =>
    intro k i hi hk
    obtain ⟨k, rfl⟩ : ∃ m, k = m + 1 := ⟨k - 1, by omega⟩
    simp only [pelotonlaw02_ints.l0]
    rw [if_neg (by omega)]
  | succ d ih =>
    intro k i hi hk
    obtain ⟨k, rfl⟩ : ∃ m, k = m + 1 := ⟨k - 1, by omega⟩
    have hw : wrap64 ((i : Int) + 1) = ((i + 1 : Nat) : Int) := by rw [w64] <;> omega
    simp only [pelotonlaw02_ints.l0]
    rw [if_pos (by omega), if_pos (by omega), if_pos (by omega), if_pos (by rw [he]), hw]
    exact ih k (i + 1) (by omega) (by omega)
theorem ints_same (a : List Int) (hb : a.length < 9223372036854775807) (k : Nat) (hk : a.length < k) : pelotonlaw02_ints.f k a a = some true := by
  unfold pelotonlaw02_ints.f
  rw [if_pos rfl]
  exact ints_loop a a rfl hb rfl a.length k 0 (by omega) hk

theorem awake_is : ∃ K, ∀ k, K ≤ k → pelotonlaw02_awake.f k = some true := Ev.of pelotonlaw02_awake.mono (k := 100) (by decide +kernel)

def cnt : List Int → Int
  | [] => 0
  | x :: xs => (if 0 < x then 1 else 0) + cnt xs
def ssum (total S : Int) : List Int → Int
  | [] => 0
  | x :: xs => share total S x + ssum total S xs
theorem cnt_nonneg (xs : List Int) : 0 ≤ cnt xs ∧ cnt xs ≤ xs.length := by
  induction xs with
  | nil => simp [cnt]
  | cons x xs ih => simp only [cnt, List.length_cons]; split <;> omega
theorem cnt_append (xs ys : List Int) : cnt (xs ++ ys) = cnt xs + cnt ys := by
  induction xs with
  | nil => simp [cnt]
  | cons x xs ih => simp only [List.cons_append, cnt, ih]; omega
theorem ssum_append (total S : Int) (xs ys : List Int) : ssum total S (xs ++ ys) = ssum total S xs + ssum total S ys := by
  induction xs with
  | nil => simp [ssum]
  | cons x xs ih => simp only [List.cons_append, ssum, ih]; omega
theorem cnt_take (xs : List Int) (i : Nat) (h : i < xs.length) : cnt (xs.take (i + 1)) = cnt (xs.take i) + (if 0 < xs[i] then 1 else 0) := by
  rw [List.take_succ_eq_append_getElem h, cnt_append]
  simp [cnt]
theorem ssum_take (total S : Int) (xs : List Int) (i : Nat) (h : i < xs.length) : ssum total S (xs.take (i + 1)) = ssum total S (xs.take i) + share total S xs[i] := by
  rw [List.take_succ_eq_append_getElem h, ssum_append]
  simp [ssum]
theorem share_range {total S x : Int} (hS : 0 ≤ S) (hx : pos x ≤ S) (ht : total < 2147483648) : 0 ≤ share total S x ∧ share total S x ≤ 2147483647 := by
  unfold share
  split
  · rename_i h
    have hp : pos x = x := by unfold pos; rw [if_pos h]
    rw [hp] at hx
    split
    · rename_i h2
      have := quot_le h h2 hx
      omega
    · omega
  · omega
theorem ssum_zero_of {total S : Int} (xs : List Int) (h : total ≤ 0 ∨ cnt xs = 0) : ssum total S xs = 0 := by
  induction xs with
  | nil => rfl
  | cons x xs ih =>
    have hc := cnt_nonneg xs
    simp only [ssum]
    have h1 : share total S x = 0 := by
      unfold share
      rcases h with h | h
      · split
        · rw [if_neg (by omega)]
        · rfl
      · simp only [cnt] at h
        rw [if_neg]
        intro hx
        rw [if_pos hx] at h
        omega
    have h2 : ssum total S xs = 0 := ih (by
      rcases h with h | h
      · exact Or.inl h
      · right
        simp only [cnt] at h
        split at h <;> omega)
    omega
theorem ssum_bounds {total S : Int} (ht : 0 < total) (hS : 0 < S) (xs : List Int) : S * ssum total S xs ≤ total * wsum xs ∧ total * wsum xs ≤ S * ssum total S xs + cnt xs * (S - 1) := by
  induction xs with
  | nil => simp [ssum, wsum, cnt]
  | cons x xs ih =>
    simp only [ssum, wsum, cnt]
    by_cases hx : 0 < x
    · have hp : pos x = x := by unfold pos; rw [if_pos hx]
      have hs : share total S x = x * total / S := by unfold share; rw [if_pos hx, if_pos ht]
      rw [hp, hs, if_pos hx]
      have h1 := Int.mul_ediv_self_le (x := x * total) (k := S) (by omega)
      have h2 := Int.lt_mul_ediv_self_add (x := x * total) (k := S) hS
      have e1 : S * (x * total / S + ssum total S xs) = S * (x * total / S) + S * ssum total S xs := Int.mul_add _ _ _
      have e2 : total * (x + wsum xs) = x * total + total * wsum xs := by rw [Int.mul_add, Int.mul_comm total x]
      have e3 : (1 + cnt xs) * (S - 1) = (S - 1) + cnt xs * (S - 1) := by rw [Int.add_mul, Int.one_mul]
      rw [e1, e2, e3]
      generalize S * (x * total / S) = A at *
      generalize S * ssum total S xs = B at *
      generalize total * wsum xs = C at *
      generalize cnt xs * (S - 1) = D at *
      generalize x * total = E at *
      omega
    · have hp : pos x = 0 := by unfold pos; rw [if_neg hx]
      have hs : share total S x = 0 := by unfold share; rw [if_neg hx]
      rw [hp, hs, if_neg hx, Int.zero_add, Int.zero_add, Int.zero_add]
      exact ih
theorem wsum_pos_of_cnt (xs : List Int) (h : cnt xs ≠ 0) : 0 < wsum xs := by
  induction xs with
  | nil => simp [cnt] at h
  | cons x xs ih =>
    have hw := wsum_nonneg xs
    have hp := pos_nonneg x
    simp only [cnt] at h
    simp only [wsum]
    by_cases hx : 0 < x
    · have : pos x = x := by unfold pos; rw [if_pos hx]
      omega
    · rw [if_neg hx] at h
      have := ih (by omega)
      omega
theorem whole_end {total : Int} (xs : List Int) (ht : 0 < total) (hc : cnt xs ≠ 0) : ssum total (wsum xs) xs ≤ total ∧ total - ssum total (wsum xs) xs < cnt xs := by
  have hS := wsum_pos_of_cnt xs hc
  have hn := cnt_nonneg xs
  obtain ⟨h1, h2⟩ := ssum_bounds ht hS xs
  generalize ssum total (wsum xs) xs = s at *
  generalize wsum xs = S at *
  generalize cnt xs = c at *
  refine ⟨?_, ?_⟩
  · rw [Int.mul_comm total S] at h1
    exact Int.le_of_mul_le_mul_left h1 hS
  · have e1 : c * (S - 1) = S * c - c := by rw [Int.mul_sub, Int.mul_one, Int.mul_comm]
    have e2 : S * (total - s) = total * S - S * s := by rw [Int.mul_sub, Int.mul_comm S total]
    have h3 : S * (total - s) < S * c := by
      rw [e2]
      rw [e1] at h2
      generalize S * s = A at *
      generalize total * S = B at *
      generalize S * c = C at *
      omega
    exact Int.lt_of_mul_lt_mul_left h3 (by omega)

theorem whole_loop (total : Int) (xs : List Int) (ht : -2147483648 ≤ total ∧ total < 2147483648) (hx : ∀ x ∈ xs, -2147483648 ≤ x ∧ x < 2147483648) (hl : xs.length ≤ 200) (d : Nat) :
    ∀ (k i : Nat), i + d = xs.length → 2 * d + 1 < k →
      pelotonlaw02_CurveWhole.l0 k total xs (xs.map (share total (wsum xs))) (ssum total (wsum xs) (xs.take i)) (cnt (xs.take i)) (i : Int) = some true := by
  have hS := wsum_nonneg xs
  have hsb : ∀ i, i ≤ xs.length → 0 ≤ ssum total (wsum xs) (xs.take i) ∧ ssum total (wsum xs) (xs.take i) ≤ i * 2147483647 := by
    intro i
    induction i with
    | zero => intro _; simp [ssum]
    | succ i ih =>
      intro h
      have h1 := ih (by omega)
      have h2 := share_range hS (wsum_ge xs xs[i] (List.getElem_mem (by omega))) ht.2
      rw [ssum_take _ _ _ _ (by omega)]
      omega
  induction d with
  | zero =>
    intro k i hi hk
    obtain ⟨k, rfl⟩ : ∃ m, k = m + 1 := ⟨k - 1, by omega⟩
    have hfull : xs.take i = xs := List.take_of_length_le (by omega)
    have hb := hsb i (by omega)
    rw [hfull] at hb ⊢
    simp only [pelotonlaw02_CurveWhole.l0]
    rw [if_neg (by rw [List.length_map]; omega)]
    by_cases hc : cnt xs = 0
    · rw [if_pos hc, ssum_zero_of xs (Or.inr hc)]
      rfl
    · rw [if_neg hc]
      by_cases h0 : total ≤ 0
      · rw [if_pos h0, ssum_zero_of xs (Or.inl h0)]
        rfl
      · obtain ⟨e1, e2⟩ := whole_end (total := total) xs (by omega) hc
        rw [if_neg h0, w64 (n := total) (by omega) (by omega), if_pos e1, w64 (n := total - ssum total (wsum xs) xs) (by omega) (by omega), decide_eq_true e2]
  | succ d ih =>
    intro k i hi hk
    obtain ⟨k, rfl⟩ : ∃ m, k = m + 2 := ⟨k - 2, by omega⟩
    have hlt : i < xs.length := by omega
    have hlen : (xs.map (share total (wsum xs))).length = xs.length := List.length_map _
    have hli : rd (xs.map (share total (wsum xs))) (i : Int) = share total (wsum xs) xs[i] := by rw [rd_at _ _ (by rw [hlen]; exact hlt), List.getElem_map]
    have hr := share_range hS (wsum_ge xs xs[i] (List.getElem_mem hlt)) ht.2
    have hw : wrap64 ((i : Int) + 1) = ((i + 1 : Nat) : Int) := by rw [w64] <;> omega
    have step : pelotonlaw02_CurveWhole.j2 (k + 1) total xs (xs.map (share total (wsum xs))) (ssum total (wsum xs) (xs.take i)) (cnt (xs.take i)) (i : Int) false = some true := by
      have hb := hsb i (by omega)
      have hc := cnt_nonneg (xs.take i)
      have hcl : (xs.take i).length ≤ 200 := by simp; omega
      have ih' := ih k (i + 1) (by omega) (by omega)
      rw [ssum_take _ _ _ _ hlt, cnt_take _ _ hlt] at ih'
      simp only [pelotonlaw02_CurveWhole.j2]
      rw [if_neg (by decide), if_pos (by omega), if_pos (by omega), if_pos (by omega), rd_at _ _ hlt, hli, hw, w64 (n := share total (wsum xs) xs[i]) (by omega) (by omega), w64 (n := ssum total (wsum xs) (xs.take i) + share total (wsum xs) xs[i]) (by omega) (by omega)]
      by_cases hp : xs[i] > 0
      · rw [if_pos hp] at ih'
        rw [if_pos hp, w64 (by omega) (by omega)]
        exact ih'
      · rw [if_neg hp, Int.add_zero] at ih'
        rw [if_neg hp]
        exact ih'
    simp only [pelotonlaw02_CurveWhole.l0]
    rw [if_pos (by omega), if_pos (by omega), hli, if_neg (by omega), if_pos (by omega), rd_at _ _ hlt]
    have tail : (if (i : Int) > 0 then (if 0 ≤ (wrap64 ((i : Int) - 1)) then (if (wrap64 ((i : Int) - 1)) < (xs.length : Int) then (if xs[i] = (rd xs (wrap64 ((i : Int) - 1))) then (if (wrap64 ((i : Int) - 1)) < ((xs.map (share total (wsum xs))).length : Int) then (pelotonlaw02_CurveWhole.j2 (k + 1) total xs (xs.map (share total (wsum xs))) (ssum total (wsum xs) (xs.take i)) (cnt (xs.take i)) (i : Int) ((share total (wsum xs) xs[i]) != (rd (xs.map (share total (wsum xs))) (wrap64 ((i : Int) - 1))))) else (none)) else (pelotonlaw02_CurveWhole.j2 (k + 1) total xs (xs.map (share total (wsum xs))) (ssum total (wsum xs) (xs.take i)) (cnt (xs.take i)) (i : Int) false)) else (none)) else (none)) else (pelotonlaw02_CurveWhole.j2 (k + 1) total xs (xs.map (share total (wsum xs))) (ssum total (wsum xs) (xs.take i)) (cnt (xs.take i)) (i : Int) false)) = some true := by
      by_cases h0 : (i : Int) > 0
      · have hw1 : wrap64 ((i : Int) - 1) = ((i - 1 : Nat) : Int) := by rw [w64] <;> omega
        rw [if_pos h0, hw1, if_pos (by omega), if_pos (by omega), rd_at xs _ (by omega : i - 1 < xs.length)]
        by_cases he : xs[i] = xs[i - 1]
        · rw [if_pos he, if_pos (by omega), rd_at _ _ (by omega : i - 1 < (xs.map (share total (wsum xs))).length), List.getElem_map, ← he]
          rw [show (share total (wsum xs) xs[i] != share total (wsum xs) xs[i]) = false from bne_self_eq_false _]
          exact step
        · rw [if_neg he]
          exact step
      · rw [if_neg h0]
        exact step
    by_cases hn : xs[i] ≤ 0
    · have hz : share total (wsum xs) xs[i] = 0 := by unfold share; rw [if_neg (by omega)]
      rw [if_pos hn, if_pos hz]
      exact tail
    · rw [if_neg hn]
      exact tail

theorem CurveWhole : pelotonlaw02_CurveWhole.Pure := by
  intro total xs hwt _ _ hwx
  obtain ⟨K, hK⟩ := awake_is
  have ht := wf_i32 hwt
  have hx : ∀ x ∈ xs, -2147483648 ≤ x ∧ x < 2147483648 := fun x h => wf_i32 (hwx x h)
  refine ⟨K + 1000, ?_⟩
  unfold pelotonlaw02_CurveWhole.f
  rw [hK _ (by omega)]
  simp only [Option.bind_some]
  rw [if_pos trivial]
  obtain ⟨k, hk⟩ : ∃ m, K + 1000 = m + 1 := ⟨K + 999, rfl⟩
  rw [hk]
  simp only [pelotonlaw02_CurveWhole.j0]
  by_cases h : (xs.length : Int) > 200
  · rw [decide_eq_true h, if_pos rfl, hK _ (by omega)]
    rfl
  · rw [decide_eq_false h, if_neg (by decide), shares_is total xs ht hx (by omega) k (by omega)]
    simp only [Option.bind_some]
    rw [if_pos (by rw [List.length_map])]
    have := whole_loop total xs ht hx (by omega) xs.length k 0 (by omega) (by omega)
    simpa [ssum, cnt] using this

end Go.Proofs.Ytbkmocebohdgnaa.Pure
