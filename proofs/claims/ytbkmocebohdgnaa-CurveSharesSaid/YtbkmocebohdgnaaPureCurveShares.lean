/- Shares of a total are the reference's, of every total and every weights. -/
import Derived.Test.YtbkmocebohdgnaaPCurveSharesx2
import Derived.Test.YtbkmocebohdgnaaPCurveSharesx2
import Derived.Test.YtbkmocebohdgnaaEPlain
namespace Go.Proofs.Ytbkmocebohdgnaa.Pure
open Go.RowKit Go.Proofs.Ytbkmocebohdgnaa.PCurveShares Go.Proofs.YtbkmocebohdgnaaW.PrintWords Go.Proofs.YtbkmocebohdgnaaW.PrintLast Go.Proofs.YtbkmocebohdgnaaW.PrintMore Go.Proofs.YtbkmocebohdgnaaPlain
set_option linter.unusedVariables false
set_option linter.unusedSimpArgs false

theorem shares_l1 (total : Int) (xs : List Int) (ht : -2147483648 ≤ total ∧ total < 2147483648) (hx : ∀ x ∈ xs, -2147483648 ≤ x ∧ x < 2147483648) (hl : xs.length ≤ 1000) (d : Nat) :
    ∀ (k i : Nat), i + d = xs.length → d < k →
      curve_Shares.l1 k total ((xs.take i).map (share total (wsum xs)) ++ List.replicate d 0) (wsum xs) xs (xs.length : Int) (i : Int) = some (xs.map (share total (wsum xs))) := by
  have hsum := wsum_le xs 2147483647 (by decide) fun x h => by have := hx x h; omega
  have hs0 := wsum_nonneg xs
  induction d with
  | zero =>
    intro k i hi hk
    obtain ⟨k, rfl⟩ : ∃ m, k = m + 1 := ⟨k - 1, by omega⟩
    simp only [curve_Shares.l1]
    rw [if_neg (by omega), List.take_of_length_le (by omega)]
    simp
  | succ d ih =>
    intro k i hi hk
    obtain ⟨k, rfl⟩ : ∃ m, k = m + 1 := ⟨k - 1, by omega⟩
    have hlt : i < xs.length := by omega
    have ih' := ih k (i + 1) (by omega) (by omega)
    rw [take_map_succ _ _ _ hlt, List.append_assoc, List.singleton_append] at ih'
    have hxi := hx xs[i] (List.getElem_mem hlt)
    have hge := wsum_ge xs xs[i] (List.getElem_mem hlt)
    have hw : wrap64 ((i : Int) + 1) = ((i + 1 : Nat) : Int) := by rw [w64] <;> omega
    simp only [curve_Shares.l1]
    rw [if_pos (by omega), if_pos (by omega), if_pos (by omega), rd_at _ _ hlt, hw]
    have hset : ∀ v : Int, ((xs.take i).map (share total (wsum xs)) ++ List.replicate (d + 1) 0).set i v = (xs.take i).map (share total (wsum xs)) ++ v :: List.replicate d 0 := by
      intro v
      have e := set_zeros ((xs.take i).map (share total (wsum xs))) d 0 v
      rwa [List.length_map, List.length_take, Nat.min_eq_left (by omega)] at e
    by_cases h1 : xs[i] > 0
    · by_cases h2 : total > 0
      · have hp : pos xs[i] = xs[i] := by unfold pos; rw [if_pos h1]
        rw [hp] at hge
        have hq := quot_le h1 h2 hge
        have e : wrap32 (IntKind.u64.wrap (Int.tdiv (IntKind.u64.wrap (IntKind.u64.wrap xs[i] * IntKind.u64.wrap total)) (wsum xs))) = share total (wsum xs) xs[i] := by
          have hm : 0 ≤ xs[i] * total ∧ xs[i] * total < 18446744073709551616 := mul_u64 (by omega) (by omega) (by omega) (by omega)
          rw [u64w (n := xs[i]) (by omega) (by omega), u64w (n := total) (by omega) (by omega), u64w (n := xs[i] * total) hm.1 hm.2, Int.tdiv_eq_ediv_of_nonneg hm.1]
          unfold share
          rw [if_pos h1, if_pos h2]
          generalize xs[i] * total / wsum xs = q at hq ⊢
          rw [u64w (by omega) (by omega), w32 (by omega) (by omega)]
        rw [if_pos h1, if_pos h2, if_neg (by omega), if_pos (by simp; omega), Int.toNat_natCast, hset, e]
        exact ih'
      · have e : share total (wsum xs) xs[i] = 0 := by unfold share; rw [if_pos h1, if_neg (by omega)]
        rw [if_pos h1, if_neg h2]
        rw [e] at ih'
        exact ih'
    · have e : share total (wsum xs) xs[i] = 0 := by unfold share; rw [if_neg (by omega)]
      rw [if_neg h1]
      rw [e] at ih'
      exact ih'

theorem shares_l0 (total : Int) (xs : List Int) (ht : -2147483648 ≤ total ∧ total < 2147483648) (hx : ∀ x ∈ xs, -2147483648 ≤ x ∧ x < 2147483648) (hl : xs.length ≤ 1000) (d : Nat) :
    ∀ (k i : Nat), i + d = xs.length → d + xs.length + 1 < k →
      curve_Shares.l0 k total xs (List.replicate xs.length 0) (wsum (xs.take i)) xs (xs.length : Int) (i : Int) = some (xs.map (share total (wsum xs))) := by
  have hsum := wsum_le xs 2147483647 (by decide) fun x h => by have := hx x h; omega
  induction d with
  | zero =>
    intro k i hi hk
    obtain ⟨k, rfl⟩ : ∃ m, k = m + 1 := ⟨k - 1, by omega⟩
    have := shares_l1 total xs ht hx hl xs.length k 0 (by omega) (by omega)
    simp only [curve_Shares.l0]
    rw [if_neg (by omega), List.take_of_length_le (by omega)]
    simpa using this
  | succ d ih =>
    intro k i hi hk
    obtain ⟨k, rfl⟩ : ∃ m, k = m + 1 := ⟨k - 1, by omega⟩
    have hlt : i < xs.length := by omega
    have hxi := hx xs[i] (List.getElem_mem hlt)
    have hw : wrap64 ((i : Int) + 1) = ((i + 1 : Nat) : Int) := by rw [w64] <;> omega
    have hn := wsum_nonneg (xs.take i)
    have hle := wsum_take_le xs (i + 1)
    have hs := wsum_take_succ xs i hlt
    have hm : mx xs[i] 0 = pos xs[i] := by unfold mx pos; split <;> split <;> omega
    have hp := pos_nonneg xs[i]
    have hpb : pos xs[i] ≤ 2147483647 := by unfold pos; split <;> omega
    simp only [curve_Shares.l0]
    rw [if_pos (by omega), if_pos (by omega), if_pos (by omega), rd_at _ _ hlt, hw, hm, u64w (n := pos xs[i]) (by omega) (by omega), u64w (by omega) (by omega), ← hs]
    exact ih k (i + 1) (by omega) (by omega)

theorem shares_is (total : Int) (xs : List Int) (ht : -2147483648 ≤ total ∧ total < 2147483648) (hx : ∀ x ∈ xs, -2147483648 ≤ x ∧ x < 2147483648) (hl : xs.length ≤ 1000) (k : Nat) (hk : 2 * xs.length + 2 ≤ k) :
    curve_Shares.f k total xs = some (xs.map (share total (wsum xs))) := by
  unfold curve_Shares.f
  rw [if_pos (by omega), if_pos (by omega), Int.toNat_natCast]
  have := shares_l0 total xs ht hx hl xs.length k 0 (by omega) (by omega)
  simpa [wsum] using this

theorem ints_loop (a b : List Int) (hl : a.length = b.length) (hb : a.length < 9223372036854775807) (he : a = b) (d : Nat) : ∀ (k i : Nat), i + d = a.length → d < k → pelotonlaw02_ints.l0 k a b (i : Int) = some true := by
  induction d with
  | zero =>
    intro k i hi hk
    obtain ⟨k, rfl⟩ : ∃ m, k = m + 1 := ⟨k - 1, by omega⟩
    simp only [pelotonlaw02_ints.l0]
    rw [if_neg (by omega)]
  | succ d ih =>
    intro k i hi hk
    obtain ⟨k, rfl⟩ : ∃ m, k = m + 1 := ⟨k - 1, by omega⟩
    have hw : wrap64 ((i : Int) + 1) = ((i + 1 : Nat) : Int) := by rw [w64] <;> omega
    simp only [pelotonlaw02_ints.l0]
    rw [if_pos (by omega), if_pos (by omega), if_pos (by omega), if_pos (by rw [he]), hw]
    exact ih k (i + 1) (by omega) (by omega)
theorem ints_same (a : List Int) (hb : a.length < 9223372036854775807) (k : Nat) (hk : a.length < k) : pelotonlaw02_ints.f k a a = some true := by
  unfold pelotonlaw02_ints.f
  rw [if_pos rfl]
  exact ints_loop a a rfl hb rfl a.length k 0 (by omega) hk

theorem awake_is : ∃ K, ∀ k, K ≤ k → pelotonlaw02_awake.f k = some true := Ev.of pelotonlaw02_awake.mono (k := 100) (by decide +kernel)

theorem ref_l1 (total : Int) (xs : List Int) (ht : -2147483648 ≤ total ∧ total < 2147483648) (hx : ∀ x ∈ xs, -2147483648 ≤ x ∧ x < 2147483648) (hl : xs.length ≤ 1000) (d : Nat) :
    ∀ (k i : Nat), i + d = xs.length → d < k →
      pelotonref02_Shares.l1 k total xs (wsum xs) ((xs.take i).map (share total (wsum xs))) (i : Int) = some (xs.map (share total (wsum xs))) := by
  have hsum := wsum_le xs 2147483647 (by decide) fun x h => by have := hx x h; omega
  have hs0 := wsum_nonneg xs
  induction d with
  | zero =>
    intro k i hi hk
    obtain ⟨k, rfl⟩ : ∃ m, k = m + 1 := ⟨k - 1, by omega⟩
    simp only [pelotonref02_Shares.l1]
    rw [if_neg (by omega), List.take_of_length_le (by omega)]
  | succ d ih =>
    intro k i hi hk
    obtain ⟨k, rfl⟩ : ∃ m, k = m + 1 := ⟨k - 1, by omega⟩
    have hlt : i < xs.length := by omega
    have ih' := ih k (i + 1) (by omega) (by omega)
    rw [take_map_succ _ _ _ hlt] at ih'
    have hxi := hx xs[i] (List.getElem_mem hlt)
    have hge := wsum_ge xs xs[i] (List.getElem_mem hlt)
    have hw : wrap64 ((i : Int) + 1) = ((i + 1 : Nat) : Int) := by rw [w64] <;> omega
    have hlen : ((xs.take i).map (share total (wsum xs))).length < 35184372088832 := by simp; omega
    simp only [pelotonref02_Shares.l1]
    rw [if_pos (by omega), if_pos (by omega), rd_at _ _ hlt, hw]
    by_cases h1 : xs[i] > 0
    · by_cases h2 : total > 0
      · have hp : pos xs[i] = xs[i] := by unfold pos; rw [if_pos h1]
        rw [hp] at hge
        have hq := quot_le h1 h2 hge
        have e : wrap32 (wrap64 (Int.tdiv (wrap64 (wrap64 xs[i] * wrap64 total)) (wsum xs))) = share total (wsum xs) xs[i] := by
          have hm0 : 0 ≤ xs[i] * total := Int.mul_nonneg (by omega) (by omega)
          have hm1 : xs[i] * total ≤ 2147483647 * total := Int.mul_le_mul_of_nonneg_right (by omega) (by omega)
          rw [w64 (n := xs[i]) (by omega) (by omega), w64 (n := total) (by omega) (by omega), w64 (n := xs[i] * total) (by omega) (by omega), Int.tdiv_eq_ediv_of_nonneg hm0]
          unfold share
          rw [if_pos h1, if_pos h2]
          generalize xs[i] * total / wsum xs = q at hq ⊢
          rw [w64 (by omega) (by omega), w32 (by omega) (by omega)]
        rw [if_pos h1, if_pos h2, if_neg (by omega), if_pos hlen, e]
        exact ih'
      · have e : share total (wsum xs) xs[i] = 0 := by unfold share; rw [if_pos h1, if_neg (by omega)]
        rw [if_pos h1, if_neg h2, if_pos hlen]
        rw [e] at ih'
        exact ih'
    · have e : share total (wsum xs) xs[i] = 0 := by unfold share; rw [if_neg (by omega)]
      rw [if_neg h1, if_pos hlen]
      rw [e] at ih'
      exact ih'

theorem ref_l0 (total : Int) (xs : List Int) (ht : -2147483648 ≤ total ∧ total < 2147483648) (hx : ∀ x ∈ xs, -2147483648 ≤ x ∧ x < 2147483648) (hl : xs.length ≤ 1000) (d : Nat) :
    ∀ (k i : Nat), i + d = xs.length → d + xs.length + 1 < k →
      pelotonref02_Shares.l0 k total xs (wsum (xs.take i)) (i : Int) = some (xs.map (share total (wsum xs))) := by
  have hsum := wsum_le xs 2147483647 (by decide) fun x h => by have := hx x h; omega
  induction d with
  | zero =>
    intro k i hi hk
    obtain ⟨k, rfl⟩ : ∃ m, k = m + 1 := ⟨k - 1, by omega⟩
    have := ref_l1 total xs ht hx hl xs.length k 0 (by omega) (by omega)
    simp only [pelotonref02_Shares.l0]
    rw [if_neg (by omega), List.take_of_length_le (by omega)]
    simpa using this
  | succ d ih =>
    intro k i hi hk
    obtain ⟨k, rfl⟩ : ∃ m, k = m + 1 := ⟨k - 1, by omega⟩
    have hlt : i < xs.length := by omega
    have hxi := hx xs[i] (List.getElem_mem hlt)
    have hw : wrap64 ((i : Int) + 1) = ((i + 1 : Nat) : Int) := by rw [w64] <;> omega
    have hn := wsum_nonneg (xs.take i)
    have hle := wsum_take_le xs (i + 1)
    have hs := wsum_take_succ xs i hlt
    have ih' := ih k (i + 1) (by omega) (by omega)
    simp only [pelotonref02_Shares.l0]
    rw [if_pos (by omega), if_pos (by omega), rd_at _ _ hlt, hw]
    by_cases h1 : xs[i] > 0
    · have hp : pos xs[i] = xs[i] := by unfold pos; rw [if_pos h1]
      rw [hp] at hs
      rw [if_pos h1, w64 (n := xs[i]) (by omega) (by omega), w64 (by omega) (by omega), ← hs]
      exact ih'
    · have hp : pos xs[i] = 0 := by unfold pos; rw [if_neg (by omega)]
      rw [hp, Int.add_zero] at hs
      rw [if_neg h1, ← hs]
      exact ih'

theorem ref_is (total : Int) (xs : List Int) (ht : -2147483648 ≤ total ∧ total < 2147483648) (hx : ∀ x ∈ xs, -2147483648 ≤ x ∧ x < 2147483648) (hl : xs.length ≤ 1000) (k : Nat) (hk : 2 * xs.length + 2 ≤ k) :
    pelotonref02_Shares.f k total xs = some (xs.map (share total (wsum xs))) := by
  unfold pelotonref02_Shares.f
  have := ref_l0 total xs ht hx hl xs.length k 0 (by omega) (by omega)
  simpa [wsum] using this

theorem CurveShares : pelotonlaw02_CurveShares.Pure := by
  intro total xs hwt _ _ hwx
  obtain ⟨K, hK⟩ := awake_is
  have ht := wf_i32 hwt
  have hx : ∀ x ∈ xs, -2147483648 ≤ x ∧ x < 2147483648 := fun x h => wf_i32 (hwx x h)
  refine ⟨K + 1000, ?_⟩
  unfold pelotonlaw02_CurveShares.f
  rw [hK _ (by omega)]
  simp only [Option.bind_some]
  rw [if_pos trivial]
  obtain ⟨k, hk⟩ : ∃ m, K + 1000 = m + 1 := ⟨K + 999, rfl⟩
  rw [hk]
  simp only [pelotonlaw02_CurveShares.j0]
  by_cases h : (xs.length : Int) > 200
  · rw [decide_eq_true h, if_pos rfl, hK _ (by omega)]
    rfl
  · rw [decide_eq_false h, if_neg (by decide), shares_is total xs ht hx (by omega) k (by omega), ref_is total xs ht hx (by omega) k (by omega)]
    simp only [Option.bind_some]
    rw [ints_same _ (by simp; omega) k (by simp; omega)]
    rfl

end Go.Proofs.Ytbkmocebohdgnaa.Pure
