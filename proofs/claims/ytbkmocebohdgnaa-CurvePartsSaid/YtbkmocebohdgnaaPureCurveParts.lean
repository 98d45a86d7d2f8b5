/- Shares laid in any order are the same shares. -/
import Derived.Test.YtbkmocebohdgnaaPCurvePartsx1
import Derived.Test.YtbkmocebohdgnaaPCurvePartsx2
import Derived.Test.YtbkmocebohdgnaaPCurvePartsx3
import Derived.Test.YtbkmocebohdgnaaEPlain
namespace Go.Proofs.Ytbkmocebohdgnaa.Pure
open Go.RowKit Go.Proofs.Ytbkmocebohdgnaa.PCurveParts Go.Proofs.YtbkmocebohdgnaaW.PrintWords Go.Proofs.YtbkmocebohdgnaaW.PrintLast Go.Proofs.YtbkmocebohdgnaaW.PrintMore Go.Proofs.YtbkmocebohdgnaaPlain
set_option linter.unusedVariables false
set_option linter.unusedSimpArgs false

theorem shares_l1 (total : Int) (xs : List Int) (ht : -2147483648 ≤ total ∧ total < 2147483648) (hx : ∀ x ∈ xs, -2147483648 ≤ x ∧ x < 2147483648) (hl : xs.length ≤ 1000) (d : Nat) :
    ∀ (k i : Nat), i + d = xs.length → d < k →
      curve_Shares.l1 k total ((xs.take i).map (share total (wsum xs)) ++ List.replicate d 0) (wsum xs) xs (xs.length : Int) (i : Int) = some (xs.map (share total (wsum xs))) := by
  have hsum := wsum_le xs 2147483647 (by decide) fun x h => by have := hx x h; omega
  have hs0 := wsum_nonneg xs
  induction d with
  | zero =>
    intro k i hi hk
    obtain ⟨k, rfl⟩ : ∃ m, k = m + 1 := ⟨k - 1, by omega⟩
    simp only [curve_Shares.l1]
    rw [if_neg (by omega), List.take_of_length_le (by omega)]
    simp
  | succ d ih =>
    intro k i hi hk
    obtain ⟨k, rfl⟩ : ∃ m, k = m + 1 := ⟨k - 1, by omega⟩
    have hlt : i < xs.length := by omega
    have ih' := ih k (i + 1) (by omega) (by omega)
    rw [take_map_succ _ _ _ hlt, List.append_assoc, List.singleton_append] at ih'
    have hxi := hx xs[i] (List.getElem_mem hlt)
    have hge := wsum_ge xs xs[i] (List.getElem_mem hlt)
    have hw : wrap64 ((i : Int) + 1) = ((i + 1 : Nat) : Int) := by rw [w64] <;> omega
    simp only [curve_Shares.l1]
    rw [if_pos (by omega), if_pos (by omega), if_pos (by omega), rd_at _ _ hlt, hw]
    have hset : ∀ v : Int, ((xs.take i).map (share total (wsum xs)) ++ List.replicate (d + 1) 0).set i v = (xs.take i).map (share total (wsum xs)) ++ v :: List.replicate d 0 := by
      intro v
      have e := set_zeros ((xs.take i).map (share total (wsum xs))) d 0 v
      rwa [List.length_map, List.length_take, Nat.min_eq_left (by omega)] at e
    by_cases h1 : xs[i] > 0
    · by_cases h2 : total > 0
      · have hp : pos xs[i] = xs[i] := by unfold pos; rw [if_pos h1]
        rw [hp] at hge
        have hq := quot_le h1 h2 hge
        have e : wrap32 (IntKind.u64.wrap (Int.tdiv (IntKind.u64.wrap (IntKind.u64.wrap xs[i] * IntKind.u64.wrap total)) (wsum xs))) = share total (wsum xs) xs[i] := by
          have hm : 0 ≤ xs[i] * total ∧ xs[i] * total < 18446744073709551616 := mul_u64 (by omega) (by omega) (by omega) (by omega)
          rw [u64w (n := xs[i]) (by omega) (by omega), u64w (n := total) (by omega) (by omega), u64w (n := xs[i] * total) hm.1 hm.2, Int.tdiv_eq_ediv_of_nonneg hm.1]
          unfold share
          rw [if_pos h1, if_pos h2]
          generalize xs[i] * total / wsum xs = q at hq ⊢
          rw [u64w (by omega) (by omega), w32 (by omega) (by omega)]
        rw [if_pos h1, if_pos h2, if_neg (by omega), if_pos (by simp; omega), Int.toNat_natCast, hset, e]
        exact ih'
      · have e : share total (wsum xs) xs[i] = 0 := by unfold share; rw [if_pos h1, if_neg (by omega)]
        rw [if_pos h1, if_neg h2]
        rw [e] at ih'
        exact ih'
    · have e : share total (wsum xs) xs[i] = 0 := by unfold share; rw [if_neg (by omega)]
      rw [if_neg h1]
      rw [e] at ih'
      exact ih'

theorem shares_l0 (total : Int) (xs : List Int) (ht : -2147483648 ≤ total ∧ total < 2147483648) (hx : ∀ x ∈ xs, -2147483648 ≤ x ∧ x < 2147483648) (hl : xs.length ≤ 1000) (d : Nat) :
    ∀ (k i : Nat), i + d = xs.length → d + xs.length + 1 < k →
      curve_Shares.l0 k total xs (List.replicate xs.length 0) (wsum (xs.take i)) xs (xs.length : Int) (i : Int) = some (xs.map (share total (wsum xs))) := by
  have hsum := wsum_le xs 2147483647 (by decide) fun x h => by have := hx x h; omega
  induction d with
  | zero =>
    intro k i hi hk
    obtain ⟨k, rfl⟩ : ∃ m, k = m + 1 := ⟨k - 1, by omega⟩
    have := shares_l1 total xs ht hx hl xs.length k 0 (by omega) (by omega)
    simp only [curve_Shares.l0]
    rw [if_neg (by omega), List.take_of_length_le (by omega)]
    simpa using this
  | succ d ih =>
    intro k i hi hk
    obtain ⟨k, rfl⟩ : ∃ m, k = m + 1 := ⟨k - 1, by omega⟩
    have hlt : i < xs.length := by omega
    have hxi := hx xs[i] (List.getElem_mem hlt)
    have hw : wrap64 ((i : Int) + 1) = ((i + 1 : Nat) : Int) := by rw [w64] <;> omega
    have hn := wsum_nonneg (xs.take i)
    have hle := wsum_take_le xs (i + 1)
    have hs := wsum_take_succ xs i hlt
    have hm : mx xs[i] 0 = pos xs[i] := by unfold mx pos; split <;> split <;> omega
    have hp := pos_nonneg xs[i]
    have hpb : pos xs[i] ≤ 2147483647 := by unfold pos; split <;> omega
    simp only [curve_Shares.l0]
    rw [if_pos (by omega), if_pos (by omega), if_pos (by omega), rd_at _ _ hlt, hw, hm, u64w (n := pos xs[i]) (by omega) (by omega), u64w (by omega) (by omega), ← hs]
    exact ih k (i + 1) (by omega) (by omega)

theorem shares_is (total : Int) (xs : List Int) (ht : -2147483648 ≤ total ∧ total < 2147483648) (hx : ∀ x ∈ xs, -2147483648 ≤ x ∧ x < 2147483648) (hl : xs.length ≤ 1000) (k : Nat) (hk : 2 * xs.length + 2 ≤ k) :
    curve_Shares.f k total xs = some (xs.map (share total (wsum xs))) := by
  unfold curve_Shares.f
  rw [if_pos (by omega), if_pos (by omega), Int.toNat_natCast]
  have := shares_l0 total xs ht hx hl xs.length k 0 (by omega) (by omega)
  simpa [wsum] using this

theorem ints_loop (a b : List Int) (hl : a.length = b.length) (hb : a.length < 9223372036854775807) (he : a = b) (d : Nat) : ∀ (k i : Nat), i + d = a.length → d < k → pelotonlaw02_ints.l0 k a b (i : Int) = some true := by
  induction d with
  | zero =>
    intro k i hi hk
    obtain ⟨k, rfl⟩ : ∃ m, k = m + 1 := ⟨k - 1, by omega⟩
    simp only [pelotonlaw02_ints.l0]
    rw [if_neg (by omega)]
  | succ d ih =>
    intro k i hi hk
    obtain ⟨k, rfl⟩ : ∃ m, k = m + 1 := ⟨k - 1, by omega⟩
    have hw : wrap64 ((i : Int) + 1) = ((i + 1 : Nat) : Int) := by rw [w64] <;> omega
    simp only [pelotonlaw02_ints.l0]
    rw [if_pos (by omega), if_pos (by omega), if_pos (by omega), if_pos (by rw [he]), hw]
    exact ih k (i + 1) (by omega) (by omega)
theorem ints_same (a : List Int) (hb : a.length < 9223372036854775807) (k : Nat) (hk : a.length < k) : pelotonlaw02_ints.f k a a = some true := by
  unfold pelotonlaw02_ints.f
  rw [if_pos rfl]
  exact ints_loop a a rfl hb rfl a.length k 0 (by omega) hk

theorem awake_is : ∃ K, ∀ k, K ≤ k → pelotonlaw02_awake.f k = some true := Ev.of pelotonlaw02_awake.mono (k := 100) (by decide +kernel)

theorem turn_is (x : Int) (n : Nat) (hn : 0 < n) (hb : n ≤ 1000) (hx : -9223372036854775808 ≤ x ∧ x < 9223372036854775808) : ∃ m : Nat, Int.tmod (wrap64 (Int.tmod x (n : Int) + (n : Int))) (n : Int) = (m : Int) ∧ m < n := by
  have h1 := Int.tmod_lt_of_pos x (show (0 : Int) < n by omega)
  have h2 : -(n : Int) < Int.tmod x (n : Int) := by
    rcases Int.le_total 0 x with h | h
    · have := Int.tmod_nonneg (n : Int) h
      omega
    · have e : Int.tmod (-x) (n : Int) = - Int.tmod x (n : Int) := Int.neg_tmod x _
      have := Int.tmod_lt_of_pos (-x) (show (0 : Int) < n by omega)
      omega
  rw [w64 (by omega) (by omega), Int.tmod_eq_emod_of_nonneg (by omega)]
  have h3 := Int.emod_nonneg (Int.tmod x (n : Int) + (n : Int)) (show (n : Int) ≠ 0 by omega)
  have h4 := Int.emod_lt_of_pos (Int.tmod x (n : Int) + (n : Int)) (show (0 : Int) < n by omega)
  obtain ⟨m, hm⟩ := Int.eq_ofNat_of_zero_le h3
  exact ⟨m, hm, by omega⟩

theorem wsum_turn (xs : List Int) (m : Nat) : wsum ((xs.drop m ++ xs.take m) ++ [0, -5]) = wsum xs := by
  have h := wsum_append (xs.take m) (xs.drop m)
  rw [List.take_append_drop] at h
  rw [wsum_append, wsum_append, h]
  have : wsum [0, -5] = 0 := by decide
  omega

theorem turned_at (xs : List Int) (m i : Nat) (hm : m < xs.length) (hi : i < xs.length) (h : i < (xs.drop m ++ xs.take m).length) : (xs.drop m ++ xs.take m)[i] = xs[(i + m) % xs.length]'(Nat.mod_lt _ (by omega)) := by
  rw [List.getElem_append]
  split
  · rename_i h1
    rw [List.getElem_drop]
    rw [List.length_drop] at h1
    have e : (i + m) % xs.length = m + i := by rw [Nat.mod_eq_of_lt (by omega), Nat.add_comm]
    simp only [e]
  · rename_i h1
    rw [List.getElem_take]
    rw [List.length_drop] at h1
    have e : (i + m) % xs.length = i - (xs.length - m) := by
      rw [Nat.mod_eq_sub_mod (by omega), Nat.mod_eq_of_lt (by omega)]
      omega
    simp only [List.length_drop, e]

theorem parts_loop (total : Int) (xs : List Int) (m : Nat) (hm : m < xs.length) (hl : xs.length ≤ 100) (d : Nat) : ∀ (k i : Nat), i + d = xs.length → d < k →
    pelotonlaw02_CurveParts.l0 k xs (m : Int) (xs.map (share total (wsum xs))) (((xs.drop m ++ xs.take m) ++ [0, -5]).map (share total (wsum xs))) (i : Int) = some true := by
  have hlen : (((xs.drop m ++ xs.take m) ++ [0, -5]).map (share total (wsum xs))).length = xs.length + 2 := by simp; omega
  have hlen2 : (xs.drop m ++ xs.take m).length = xs.length := by simp; omega
  induction d with
  | zero =>
    intro k i hi hk
    obtain ⟨k, rfl⟩ : ∃ m, k = m + 1 := ⟨k - 1, by omega⟩
    simp only [pelotonlaw02_CurveParts.l0]
    rw [if_neg (by omega)]
  | succ d ih =>
    intro k i hi hk
    obtain ⟨k, rfl⟩ : ∃ m, k = m + 1 := ⟨k - 1, by omega⟩
    have hlt : i < xs.length := by omega
    have hw : wrap64 ((i : Int) + 1) = ((i + 1 : Nat) : Int) := by rw [w64] <;> omega
    have hmod : (i + m) % xs.length < xs.length := Nat.mod_lt _ (by omega)
    have e : Int.tmod (wrap64 ((i : Int) + (m : Int))) (xs.length : Int) = (((i + m) % xs.length : Nat) : Int) := by
      rw [w64 (by omega) (by omega), Int.tmod_eq_emod_of_nonneg (by omega)]
      simp
    have r1 : rd (xs.map (share total (wsum xs))) (((i + m) % xs.length : Nat) : Int) = share total (wsum xs) (xs[(i + m) % xs.length]'hmod) := by
      rw [rd_at _ _ (by rw [List.length_map]; exact hmod), List.getElem_map]
    have r2 : rd (((xs.drop m ++ xs.take m) ++ [0, -5]).map (share total (wsum xs))) (i : Int) = share total (wsum xs) (xs[(i + m) % xs.length]'hmod) := by
      rw [rd_at _ _ (by omega), List.getElem_map, List.getElem_append_left (by omega), turned_at xs m i hm hlt]
    simp only [pelotonlaw02_CurveParts.l0]
    rw [if_pos (by omega), if_neg (by omega), e, r1, r2, if_pos (by omega), if_pos (by rw [List.length_map]; omega), if_pos (by omega), if_pos (by omega), if_pos rfl, hw]
    exact ih k (i + 1) (by omega) (by omega)

theorem wadd1 (n : Nat) (h : n ≤ 1000) : wrap64 ((n : Int) + 1) = ((n + 1 : Nat) : Int) := by rw [w64] <;> omega
theorem wadd2 (n : Nat) (h : n ≤ 1000) : wrap64 ((n : Int) + 2) = ((n + 2 : Nat) : Int) := by rw [w64] <;> omega

theorem CurveParts : pelotonlaw02_CurveParts.Pure := by
  intro total xs turn hwt _ _ hwx hwn
  obtain ⟨K, hK⟩ := awake_is
  have ht := wf_i32 hwt
  have htn := wf_i64 hwn
  have hx : ∀ x ∈ xs, -2147483648 ≤ x ∧ x < 2147483648 := fun x h => wf_i32 (hwx x h)
  refine ⟨K + 1000, ?_⟩
  unfold pelotonlaw02_CurveParts.f
  rw [hK _ (by omega)]
  simp only [Option.bind_some]
  rw [if_pos trivial]
  obtain ⟨k, hk⟩ : ∃ m, K + 1000 = m + 2 := ⟨K + 998, rfl⟩
  rw [hk]
  have yes : pelotonlaw02_CurveParts.j0 (k + 2) total xs turn true = some true := by
    simp only [pelotonlaw02_CurveParts.j0]
    rw [if_pos trivial, hK _ (by omega)]
    rfl
  by_cases h : (xs.length : Int) > 100
  · rw [if_pos h]
    exact yes
  · rw [if_neg h]
    by_cases h0 : (xs.length : Int) = 0
    · rw [show ((xs.length : Int) == 0) = true from beq_iff_eq.2 h0]
      exact yes
    · rw [show ((xs.length : Int) == 0) = false from beq_eq_false_iff_ne.2 h0]
      obtain ⟨m, hm, hml⟩ := turn_is turn xs.length (by omega) (by omega) htn
      have hlen : (((xs.drop m ++ xs.take m) ++ [0, -5]).map (share total (wsum xs))).length = xs.length + 2 := by simp; omega
      have hlen2 : (xs.drop m ++ xs.take m).length = xs.length := by simp; omega
      have hy : ∀ y ∈ (xs.drop m ++ xs.take m) ++ [0, -5], -2147483648 ≤ y ∧ y < 2147483648 := by
        intro y hy
        rcases List.mem_append.1 hy with hy | hy
        · rcases List.mem_append.1 hy with hy | hy
          · exact hx y (List.mem_of_mem_drop hy)
          · exact hx y (List.mem_of_mem_take hy)
        · simp at hy
          omega
      have sb := shares_is total ((xs.drop m ++ xs.take m) ++ [0, -5]) ht hy (by rw [List.length_append, hlen2]; simp; omega) (k + 1) (by rw [List.length_append, hlen2]; simp; omega)
      rw [wsum_turn] at sb
      simp only [pelotonlaw02_CurveParts.j0]
      rw [if_neg (by decide), if_neg h0, hm]
      clear hm
      simp only [Option.bind_some, List.nil_append, List.length_nil, Int.toNat_natCast]
      rw [if_pos (by omega), if_pos (by omega), if_pos (by rw [List.length_drop]; omega)]
      rw [if_pos (by simp; omega), shares_is total xs ht hx (by omega) (k + 1) (by omega)]
      simp only [Option.bind_some]
      rw [if_pos (by rw [hlen2]; simp; omega), sb]
      simp only [Option.bind_some]
      have hb100 : xs.length ≤ 1000 := by omega
      have hfin := parts_loop total xs m hml (by omega) xs.length k 0 (by omega) (by omega)
      have w1 := wadd1 xs.length hb100
      have hc : (((((xs.drop m ++ xs.take m) ++ [0, -5]).map (share total (wsum xs))).length : Nat) : Int) = wrap64 ((xs.length : Int) + 2) := by
        rw [hlen, wadd2 xs.length hb100]
      have hc1 : (((xs.map (share total (wsum xs))).length : Nat) : Int) = (xs.length : Int) := by rw [List.length_map]
      have hc2 : (xs.length : Int) < (((((xs.drop m ++ xs.take m) ++ [0, -5]).map (share total (wsum xs))).length : Nat) : Int) := by
        rw [hlen]
        exact Int.ofNat_lt.2 (Nat.lt_succ_of_lt (Nat.lt_succ_self _))
      have hc3 : ((xs.length + 1 : Nat) : Int) < (((((xs.drop m ++ xs.take m) ++ [0, -5]).map (share total (wsum xs))).length : Nat) : Int) := by
        rw [hlen]
        exact Int.ofNat_lt.2 (Nat.lt_succ_self _)
      have hn1 : xs.length < (((xs.drop m ++ xs.take m) ++ [0, -5]).map (share total (wsum xs))).length := Int.ofNat_lt.1 hc2
      have hn2 : xs.length + 1 < (((xs.drop m ++ xs.take m) ++ [0, -5]).map (share total (wsum xs))).length := Int.ofNat_lt.1 hc3
      have z1 : rd (((xs.drop m ++ xs.take m) ++ [0, -5]).map (share total (wsum xs))) (xs.length : Int) = 0 := by
        rw [rd_at _ _ hn1, List.getElem_map, List.getElem_append_right (Nat.le_of_eq hlen2)]
        simp only [hlen2, Nat.sub_self]
        rfl
      have z2 : rd (((xs.drop m ++ xs.take m) ++ [0, -5]).map (share total (wsum xs))) ((xs.length + 1 : Nat) : Int) = 0 := by
        rw [rd_at _ _ hn2, List.getElem_map, List.getElem_append_right (by rw [hlen2]; exact Nat.le_succ _)]
        simp only [hlen2, Nat.add_sub_cancel_left]
        rfl
      rw [if_pos hc1, if_pos hc, if_pos (Int.natCast_nonneg _), if_pos hc2, z1, if_pos rfl, w1, if_pos (Int.natCast_nonneg _), if_pos hc3, z2]
      clear z1 z2
      simp only [pelotonlaw02_CurveParts.j1]
      rw [if_neg (by decide)]
      exact hfin

end Go.Proofs.Ytbkmocebohdgnaa.Pure
