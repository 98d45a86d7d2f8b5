/- Weights are in the order of their numbers, and together the whole but for a part. -/
import Derived.Test.YtmpdkjcobpghaaaPNormOrdersx1
import Derived.Test.YtmpdkjcobpghaaaPNormOrdersx2
import Derived.Test.YtmpdkjcobpghaaaPNormOrdersx3
import Derived.Test.YtmpdkjcobpghaaaPNormOrdersx4
import Derived.Test.YtmpdkjcobpghaaaPNormOrdersx5
import Derived.Test.YtmpdkjcobpghaaaPNormOrdersx6
import Derived.Test.YtmpdkjcobpghaaaEPlain
import Derived.Test.YtmpdkjcobpghaaaEShift
import Derived.Test.YtmpdkjcobpghaaaESNorm
namespace Go.Proofs.Ytmpdkjcobpghaaa.Pure
open Go.RowKit Go.Proofs.Ytmpdkjcobpghaaa.PNormOrders Go.Proofs.YtmpdkjcobpghaaaW.PrintWords Go.Proofs.YtmpdkjcobpghaaaW.PrintLast Go.Proofs.YtmpdkjcobpghaaaW.PrintMore Go.Proofs.YtmpdkjcobpghaaaPlain
set_option linter.unusedVariables false
set_option linter.unusedSimpArgs false

theorem shift_is (x a : Int) (hx : -9223372036854775808 ≤ x ∧ x < 9223372036854775808) : round_Shift.f x a = some (sh x (mn (mx a 0) 62).toNat) := by
  have hn0 : 0 ≤ mn (mx a 0) 62 ∧ mn (mx a 0) 62 ≤ 62 := by unfold mn mx; split <;> split <;> omega
  unfold round_Shift.f
  generalize hN : mn (mx a 0) 62 = N at *
  obtain ⟨n, rfl⟩ := Int.eq_ofNat_of_zero_le hn0.1
  rw [Int.toNat_natCast]
  have hn : n ≤ 62 := by omega
  have hlt : 2 ^ n ≤ 2 ^ 62 := Nat.pow_le_pow_right (by decide) hn
  have hp := pow_pos' n
  have hcast : ((2 ^ n : Nat) : Int) = (2 : Int) ^ n := by simp
  have hle : (2 : Int) ^ n ≤ 4611686018427387904 := by rw [← hcast]; omega
  have e1 : IntKind.u64.wrap ((2 : Int) ^ n) = 2 ^ n := u64w (by omega) (by omega)
  have e2 : IntKind.u64.wrap ((2 : Int) ^ n - 1) = 2 ^ n - 1 := u64w (by omega) (by omega)
  have e3 : IntKind.u64.wrap x % 2 ^ n = x % 2 ^ n := by
    rw [IntKind.wrap_u64]
    refine Int.emod_emod_of_dvd x ⟨2 ^ (64 - n), ?_⟩
    rw [← Int.pow_add, show n + (64 - n) = 64 by omega]
    decide
  rw [e1, e2, and_any .u64 (Or.inr rfl) n (by omega), e3]
  have e4 : Go.bits .and .i64 (x / 2 ^ n) 1 = x / 2 ^ n % 2 := and_any .i64 (Or.inl rfl) 1 (by decide) _
  rw [e4]
  have hw : (0 < n → wrap64 (x / 2 ^ n + 1) = x / 2 ^ n + 1) := by
    intro h
    have h2 : (2 : Int) ≤ 2 ^ n := by
      have : 2 ^ 1 ≤ 2 ^ n := Nat.pow_le_pow_right (by decide) h
      rw [← hcast]
      omega
    have hd1 : x / 2 ^ n < 9223372036854775807 := by
      have hm : 9223372036854775807 * 2 ≤ 9223372036854775807 * (2 : Int) ^ n := Int.mul_le_mul_of_nonneg_left h2 (by decide)
      exact Int.ediv_lt_of_lt_mul hp (by omega)
    have hd0 : -9223372036854775808 ≤ x / 2 ^ n := by
      have hm : -9223372036854775808 * (2 : Int) ^ n ≤ -9223372036854775808 * 1 := Int.mul_le_mul_of_nonpos_left (by decide) (by omega)
      exact Int.le_ediv_of_mul_le hp (by omega)
    rw [w64 (by omega) (by omega)]
  unfold sh
  by_cases c1 : x % 2 ^ n > 2 ^ n / 2
  · have h0 : 0 < n := by
      rcases Nat.eq_zero_or_pos n with h | h
      · subst h
        have : x % 2 ^ 0 = 0 := by simp
        rw [this] at c1
        exact absurd c1 (by decide)
      · exact h
    rw [if_pos c1, if_pos c1, hw h0]
  · rw [if_neg c1, if_neg c1]
    by_cases c2 : x % 2 ^ n = 2 ^ n / 2
    · rw [if_pos c2, if_pos c2]
      by_cases h0 : 0 < n
      · rw [if_pos (by omega), if_pos h0, hw h0]
        split <;> rfl
      · rw [if_neg (by omega), if_neg h0]
    · rw [if_neg c2, if_neg c2]

theorem step_is (i : Nat) (h : i < 33) : curve_step.f (i : Int) = some (tb i) := by
  unfold curve_step.f
  rw [if_pos (by omega), if_pos (by omega), Int.toNat_natCast]
  rfl

theorem exp_is (x : Int) (hx : -9223372036854775808 ≤ x ∧ x < 9223372036854775808) : curve_Exp.f x = some (ep x) := by
  unfold curve_Exp.f ep
  by_cases h0 : x ≥ 0
  · rw [if_pos h0, if_pos h0]
  · rw [if_neg h0, if_neg (show ¬ 0 ≤ x by omega)]
    by_cases h1 : x < (-4294967296)
    · rw [if_pos h1]
      unfold pw
      rw [if_pos (by omega)]
    · rw [if_neg h1, w64 (n := -x) (by omega) (by omega), w64 (n := -x * 94548) (by omega) (by omega)]
      obtain ⟨t, ht⟩ : ∃ t : Nat, -x * 94548 / 65536 = (t : Int) := Int.eq_ofNat_of_zero_le (by omega)
      rw [ht, Int.toNat_natCast]
      unfold pw
      by_cases hq : t / 65536 > 31
      · rw [if_pos (by omega), if_pos hq]
      · have e1 : Go.bits .and .i64 (t : Int) 65535 = ((t % 65536 : Nat) : Int) := by
          have := and_any .i64 (Or.inl rfl) 16 (by decide) (t : Int)
          have e : ((2 : Int) ^ 16 - 1) = 65535 := by decide
          have e' : ((2 : Int) ^ 16) = 65536 := by decide
          rw [e, e'] at this
          rw [this]
          simp
        have hf : t % 65536 < 65536 := Nat.mod_lt _ (by decide)
        have hqd : (t : Int) / 65536 = ((t / 65536 : Nat) : Int) := by simp
        rw [if_neg (by omega), if_neg hq, e1, hqd]
        generalize t % 65536 = f at *
        generalize t / 65536 = q at *
        have e2 : Go.bits .and .i64 (f : Int) 2047 = ((f % 2048 : Nat) : Int) := by
          have := and_any .i64 (Or.inl rfl) 11 (by decide) (f : Int)
          have e : ((2 : Int) ^ 11 - 1) = 2047 := by decide
          have e' : ((2 : Int) ^ 11) = 2048 := by decide
          rw [e, e'] at this
          rw [this]
          simp
        have e3 : (f : Int) / 2048 = ((f / 2048 : Nat) : Int) := by simp
        have e4 : wrap64 (((f / 2048 : Nat) : Int) + 1) = ((f / 2048 + 1 : Nat) : Int) := by rw [w64] <;> omega
        rw [e2, e3, e4, step_is _ (by omega), step_is _ (by omega)]
        simp only [Option.bind_some]
        have hr0 := tb_range (f / 2048) (by omega)
        have hr1 := tb_range (f / 2048 + 1) (by omega)
        have hd := tb_falls (f / 2048) (f / 2048 + 1) (by omega) (by omega)
        have hv := vf_range f hf
        have hvf : tb (f / 2048) - sh ((tb (f / 2048) - tb (f / 2048 + 1)) * ((f % 2048 : Nat) : Int)) 11 = vf f := rfl
        have hm0 : 0 ≤ (tb (f / 2048) - tb (f / 2048 + 1)) * ((f % 2048 : Nat) : Int) := Int.mul_nonneg (by omega) (by omega)
        have hm1 : (tb (f / 2048) - tb (f / 2048 + 1)) * ((f % 2048 : Nat) : Int) ≤ 65536 * ((f % 2048 : Nat) : Int) := Int.mul_le_mul_of_nonneg_right (by omega) (by omega)
        rw [w64 (n := tb (f / 2048) - tb (f / 2048 + 1)) (by omega) (by omega), w64 (n := (tb (f / 2048) - tb (f / 2048 + 1)) * ((f % 2048 : Nat) : Int)) (by omega) (by omega), shift_is _ _ (by omega)]
        have n11 : (mn (mx 11 0) 62).toNat = 11 := by decide
        rw [n11]
        simp only [Option.bind_some]
        rw [hvf, w64 (by omega) (by omega), shift_is _ _ (by omega)]
        have nq : (mn (mx (q : Int) 0) 62).toNat = q := by unfold mn mx; split <;> split <;> omega
        rw [nq]
        simp only [Option.bind_some]
        have s0 := sh_nonneg (x := vf f) (by omega) q
        have s1 := sh_self (x := vf f) (by omega) q
        rw [w32 (by omega) (by omega)]

theorem shares_l1 (total : Int) (xs : List Int) (ht : -2147483648 ≤ total ∧ total < 2147483648) (hx : ∀ x ∈ xs, -2147483648 ≤ x ∧ x < 2147483648) (hl : xs.length ≤ 1000) (d : Nat) :
    ∀ (k i : Nat), i + d = xs.length → d < k →
      curve_Shares.l1 k total ((xs.take i).map (share total (wsum xs)) ++ List.replicate d 0) (wsum xs) xs (xs.length : Int) (i : Int) = some (xs.map (share total (wsum xs))) := by
  have hsum := wsum_le xs 2147483647 (by decide) fun x h => by have := hx x h; omega
  have hs0 := wsum_nonneg xs
  induction d with
  | zero =>
    intro k i hi hk
    obtain ⟨k, rfl⟩ : ∃ m, k = m + 1 := ⟨k - 1, by omega⟩
    simp only [curve_Shares.l1]
    rw [if_neg (by omega), List.take_of_length_le (by omega)]
    simp
  | succ d ih =>
    intro k i hi hk
    obtain ⟨k, rfl⟩ : ∃ m, k = m + 1 := ⟨k - 1, by omega⟩
    have hlt : i < xs.length := by omega
    have ih' := ih k (i + 1) (by omega) (by omega)
    rw [take_map_succ _ _ _ hlt, List.append_assoc, List.singleton_append] at ih'
    have hxi := hx xs[i] (List.getElem_mem hlt)
    have hge := wsum_ge xs xs[i] (List.getElem_mem hlt)
    have hw : wrap64 ((i : Int) + 1) = ((i + 1 : Nat) : Int) := by rw [w64] <;> omega
    simp only [curve_Shares.l1]
    rw [if_pos (by omega), if_pos (by omega), if_pos (by omega), rd_at _ _ hlt, hw]
    have hset : ∀ v : Int, ((xs.take i).map (share total (wsum xs)) ++ List.replicate (d + 1) 0).set i v = (xs.take i).map (share total (wsum xs)) ++ v :: List.replicate d 0 := by
      intro v
      have e := set_zeros ((xs.take i).map (share total (wsum xs))) d 0 v
      rwa [List.length_map, List.length_take, Nat.min_eq_left (by omega)] at e
    by_cases h1 : xs[i] > 0
    · by_cases h2 : total > 0
      · have hp : pos xs[i] = xs[i] := by unfold pos; rw [if_pos h1]
        rw [hp] at hge
        have hq := quot_le h1 h2 hge
        have e : wrap32 (IntKind.u64.wrap (Int.tdiv (IntKind.u64.wrap (IntKind.u64.wrap xs[i] * IntKind.u64.wrap total)) (wsum xs))) = share total (wsum xs) xs[i] := by
          have hm : 0 ≤ xs[i] * total ∧ xs[i] * total < 18446744073709551616 := mul_u64 (by omega) (by omega) (by omega) (by omega)
          rw [u64w (n := xs[i]) (by omega) (by omega), u64w (n := total) (by omega) (by omega), u64w (n := xs[i] * total) hm.1 hm.2, Int.tdiv_eq_ediv_of_nonneg hm.1]
          unfold share
          rw [if_pos h1, if_pos h2]
          generalize xs[i] * total / wsum xs = q at hq ⊢
          rw [u64w (by omega) (by omega), w32 (by omega) (by omega)]
        rw [if_pos h1, if_pos h2, if_neg (by omega), if_pos (by simp; omega), Int.toNat_natCast, hset, e]
        exact ih'
      · have e : share total (wsum xs) xs[i] = 0 := by unfold share; rw [if_pos h1, if_neg (by omega)]
        rw [if_pos h1, if_neg h2]
        rw [e] at ih'
        exact ih'
    · have e : share total (wsum xs) xs[i] = 0 := by unfold share; rw [if_neg (by omega)]
      rw [if_neg h1]
      rw [e] at ih'
      exact ih'

theorem shares_l0 (total : Int) (xs : List Int) (ht : -2147483648 ≤ total ∧ total < 2147483648) (hx : ∀ x ∈ xs, -2147483648 ≤ x ∧ x < 2147483648) (hl : xs.length ≤ 1000) (d : Nat) :
    ∀ (k i : Nat), i + d = xs.length → d + xs.length + 1 < k →
      curve_Shares.l0 k total xs (List.replicate xs.length 0) (wsum (xs.take i)) xs (xs.length : Int) (i : Int) = some (xs.map (share total (wsum xs))) := by
  have hsum := wsum_le xs 2147483647 (by decide) fun x h => by have := hx x h; omega
  induction d with
  | zero =>
    intro k i hi hk
    obtain ⟨k, rfl⟩ : ∃ m, k = m + 1 := ⟨k - 1, by omega⟩
    have := shares_l1 total xs ht hx hl xs.length k 0 (by omega) (by omega)
    simp only [curve_Shares.l0]
    rw [if_neg (by omega), List.take_of_length_le (by omega)]
    simpa using this
  | succ d ih =>
    intro k i hi hk
    obtain ⟨k, rfl⟩ : ∃ m, k = m + 1 := ⟨k - 1, by omega⟩
    have hlt : i < xs.length := by omega
    have hxi := hx xs[i] (List.getElem_mem hlt)
    have hw : wrap64 ((i : Int) + 1) = ((i + 1 : Nat) : Int) := by rw [w64] <;> omega
    have hn := wsum_nonneg (xs.take i)
    have hle := wsum_take_le xs (i + 1)
    have hs := wsum_take_succ xs i hlt
    have hm : mx xs[i] 0 = pos xs[i] := by unfold mx pos; split <;> split <;> omega
    have hp := pos_nonneg xs[i]
    have hpb : pos xs[i] ≤ 2147483647 := by unfold pos; split <;> omega
    simp only [curve_Shares.l0]
    rw [if_pos (by omega), if_pos (by omega), if_pos (by omega), rd_at _ _ hlt, hw, hm, u64w (n := pos xs[i]) (by omega) (by omega), u64w (by omega) (by omega), ← hs]
    exact ih k (i + 1) (by omega) (by omega)

theorem shares_is (total : Int) (xs : List Int) (ht : -2147483648 ≤ total ∧ total < 2147483648) (hx : ∀ x ∈ xs, -2147483648 ≤ x ∧ x < 2147483648) (hl : xs.length ≤ 1000) (k : Nat) (hk : 2 * xs.length + 2 ≤ k) :
    curve_Shares.f k total xs = some (xs.map (share total (wsum xs))) := by
  unfold curve_Shares.f
  rw [if_pos (by omega), if_pos (by omega), Int.toNat_natCast]
  have := shares_l0 total xs ht hx hl xs.length k 0 (by omega) (by omega)
  simpa [wsum] using this

def cnt : List Int → Int
  | [] => 0
  | x :: xs => (if 0 < x then 1 else 0) + cnt xs
def ssum (total S : Int) : List Int → Int
  | [] => 0
  | x :: xs => share total S x + ssum total S xs
theorem cnt_nonneg (xs : List Int) : 0 ≤ cnt xs ∧ cnt xs ≤ xs.length := by
  induction xs with
  | nil => simp [cnt]
  | cons x xs ih => simp only [cnt, List.length_cons]; split <;> omega
theorem cnt_append (xs ys : List Int) : cnt (xs ++ ys) = cnt xs + cnt ys := by
  induction xs with
  | nil => simp [cnt]
  | cons x xs ih => simp only [List.cons_append, cnt, ih]; omega
theorem ssum_append (total S : Int) (xs ys : List Int) : ssum total S (xs ++ ys) = ssum total S xs + ssum total S ys := by
  induction xs with
  | nil => simp [ssum]
  | cons x xs ih => simp only [List.cons_append, ssum, ih]; omega
theorem cnt_take (xs : List Int) (i : Nat) (h : i < xs.length) : cnt (xs.take (i + 1)) = cnt (xs.take i) + (if 0 < xs[i] then 1 else 0) := by
  rw [List.take_succ_eq_append_getElem h, cnt_append]
  simp [cnt]
theorem ssum_take (total S : Int) (xs : List Int) (i : Nat) (h : i < xs.length) : ssum total S (xs.take (i + 1)) = ssum total S (xs.take i) + share total S xs[i] := by
  rw [List.take_succ_eq_append_getElem h, ssum_append]
  simp [ssum]
theorem share_range {total S x : Int} (hS : 0 ≤ S) (hx : pos x ≤ S) (ht : total < 2147483648) : 0 ≤ share total S x ∧ share total S x ≤ 2147483647 := by
  unfold share
  split
  · rename_i h
    have hp : pos x = x := by unfold pos; rw [if_pos h]
    rw [hp] at hx
    split
    · rename_i h2
      have := quot_le h h2 hx
      omega
    · omega
  · omega
theorem ssum_zero_of {total S : Int} (xs : List Int) (h : total ≤ 0 ∨ cnt xs = 0) : ssum total S xs = 0 := by
  induction xs with
  | nil => rfl
  | cons x xs ih =>
    have hc := cnt_nonneg xs
    simp only [ssum]
    have h1 : share total S x = 0 := by
      unfold share
      rcases h with h | h
      · split
        · rw [if_neg (by omega)]
        · rfl
      · simp only [cnt] at h
        rw [if_neg]
        intro hx
        rw [if_pos hx] at h
        omega
    have h2 : ssum total S xs = 0 := ih (by
      rcases h with h | h
      · exact Or.inl h
      · right
        simp only [cnt] at h
        split at h <;> omega)
    omega
theorem ssum_bounds {total S : Int} (ht : 0 < total) (hS : 0 < S) (xs : List Int) : S * ssum total S xs ≤ total * wsum xs ∧ total * wsum xs ≤ S * ssum total S xs + cnt xs * (S - 1) := by
  induction xs with
  | nil => simp [ssum, wsum, cnt]
  | cons x xs ih =>
    simp only [ssum, wsum, cnt]
    by_cases hx : 0 < x
    · have hp : pos x = x := by unfold pos; rw [if_pos hx]
      have hs : share total S x = x * total / S := by unfold share; rw [if_pos hx, if_pos ht]
      rw [hp, hs, if_pos hx]
      have h1 := Int.mul_ediv_self_le (x := x * total) (k := S) (by omega)
      have h2 := Int.lt_mul_ediv_self_add (x := x * total) (k := S) hS
      have e1 : S * (x * total / S + ssum total S xs) = S * (x * total / S) + S * ssum total S xs := Int.mul_add _ _ _
      have e2 : total * (x + wsum xs) = x * total + total * wsum xs := by rw [Int.mul_add, Int.mul_comm total x]
      have e3 : (1 + cnt xs) * (S - 1) = (S - 1) + cnt xs * (S - 1) := by rw [Int.add_mul, Int.one_mul]
      rw [e1, e2, e3]
      generalize S * (x * total / S) = A at *
      generalize S * ssum total S xs = B at *
      generalize total * wsum xs = C at *
      generalize cnt xs * (S - 1) = D at *
      generalize x * total = E at *
      omega
    · have hp : pos x = 0 := by unfold pos; rw [if_neg hx]
      have hs : share total S x = 0 := by unfold share; rw [if_neg hx]
      rw [hp, hs, if_neg hx, Int.zero_add, Int.zero_add, Int.zero_add]
      exact ih
theorem wsum_pos_of_cnt (xs : List Int) (h : cnt xs ≠ 0) : 0 < wsum xs := by
  induction xs with
  | nil => simp [cnt] at h
  | cons x xs ih =>
    have hw := wsum_nonneg xs
    have hp := pos_nonneg x
    simp only [cnt] at h
    simp only [wsum]
    by_cases hx : 0 < x
    · have : pos x = x := by unfold pos; rw [if_pos hx]
      omega
    · rw [if_neg hx] at h
      have := ih (by omega)
      omega
theorem whole_end {total : Int} (xs : List Int) (ht : 0 < total) (hc : cnt xs ≠ 0) : ssum total (wsum xs) xs ≤ total ∧ total - ssum total (wsum xs) xs < cnt xs := by
  have hS := wsum_pos_of_cnt xs hc
  have hn := cnt_nonneg xs
  obtain ⟨h1, h2⟩ := ssum_bounds ht hS xs
  generalize ssum total (wsum xs) xs = s at *
  generalize wsum xs = S at *
  generalize cnt xs = c at *
  refine ⟨?_, ?_⟩
  · rw [Int.mul_comm total S] at h1
    exact Int.le_of_mul_le_mul_left h1 hS
  · have e1 : c * (S - 1) = S * c - c := by rw [Int.mul_sub, Int.mul_one, Int.mul_comm]
    have e2 : S * (total - s) = total * S - S * s := by rw [Int.mul_sub, Int.mul_comm S total]
    have h3 : S * (total - s) < S * c := by
      rw [e2]
      rw [e1] at h2
      generalize S * s = A at *
      generalize total * S = B at *
      generalize S * c = C at *
      omega
    exact Int.lt_of_mul_lt_mul_left h3 (by omega)

theorem top_take (xs : List Int) (t : Int) (i : Nat) (h : i < xs.length) (ht : IsTop t (xs.take i)) : IsTop (mx t xs[i]) (xs.take (i + 1)) := by
  rw [take_step xs i h]
  unfold mx
  refine ⟨?_, fun y hy => ?_⟩
  · split
    · exact List.mem_append_right _ (List.mem_singleton.2 rfl)
    · exact List.mem_append_left _ ht.1
  · rcases List.mem_append.1 hy with hy | hy
    · have := ht.2 y hy
      split <;> omega
    · have := List.mem_singleton.1 hy
      subst this
      split <;> omega
theorem max_loop (xs : List Int) (hl : xs.length ≤ 1000) (d : Nat) : ∀ (k i : Nat) (t : Int), i + d = xs.length → d < k → IsTop t (xs.take i) → ∃ u, slices_Max_int32_int32.l0 k xs t (i : Int) = some u ∧ IsTop u xs := by
  induction d with
  | zero =>
    intro k i t hi hk ht
    obtain ⟨k, rfl⟩ : ∃ m, k = m + 1 := ⟨k - 1, by omega⟩
    simp only [slices_Max_int32_int32.l0]
    rw [if_neg (by omega)]
    rw [List.take_of_length_le (by omega)] at ht
    exact ⟨t, rfl, ht⟩
  | succ d ih =>
    intro k i t hi hk ht
    obtain ⟨k, rfl⟩ : ∃ m, k = m + 1 := ⟨k - 1, by omega⟩
    have hlt : i < xs.length := by omega
    simp only [slices_Max_int32_int32.l0]
    rw [if_pos (by omega), if_pos (by omega), rd_at _ _ hlt, succ_is i (by omega)]
    exact ih k (i + 1) _ (by omega) (by omega) (top_take xs t i hlt ht)
theorem max_is (xs : List Int) (hl : xs.length ≤ 1000) (h0 : 0 < xs.length) (t : Int) (ht : IsTop t xs) (k : Nat) (hk : xs.length < k) : slices_Max_int32_int32.f k xs = some t := by
  unfold slices_Max_int32_int32.f
  have e : rd xs 0 = xs[0] := rd_at xs 0 h0
  have h1 : IsTop xs[0] (xs.take 1) := by
    rw [take_step xs 0 h0]
    refine ⟨by simp, fun y hy => ?_⟩
    simp at hy
    omega
  obtain ⟨u, hu, hu2⟩ := max_loop xs hl (xs.length - 1) k 1 xs[0] (by omega) (by omega) h1
  have e1 : ((1 : Nat) : Int) = 1 := rfl
  rw [e1] at hu
  rw [if_neg (by omega), if_pos (by omega), e, hu, top_one hu2 ht]
theorem top_has (xs : List Int) (h0 : 0 < xs.length) : ∃ t, IsTop t xs := by
  induction xs with
  | nil => simp at h0
  | cons x xs ih =>
    cases xs with
    | nil => exact ⟨x, by simp, fun y hy => by simp at hy; omega⟩
    | cons z zs =>
      obtain ⟨t, h1, h2⟩ := ih (by simp)
      by_cases h : t ≤ x
      · refine ⟨x, List.mem_cons_self, fun y hy => ?_⟩
        rcases List.mem_cons.1 hy with rfl | hy
        · exact Int.le_refl _
        · have := h2 y hy
          omega
      · refine ⟨t, List.mem_cons_of_mem _ h1, fun y hy => ?_⟩
        rcases List.mem_cons.1 hy with rfl | hy
        · omega
        · exact h2 y hy
theorem pwr_step (x t b n : Int) (hx : -2147483648 ≤ x ∧ x < 2147483648) (ht : -2147483648 ≤ t ∧ t < 2147483648) (hxt : x ≤ t) (hb : -2147483648 ≤ b ∧ b < 2147483648) : ((round_Shift.f (wrap64 ((wrap64 ((wrap64 x) - t)) * (wrap64 b))) n).bind fun t141 => curve_Exp.f t141) = some (pwr t b (mn (mx n 0) 62).toNat x) := by
  have h := diff_range hx ht hxt hb
  rw [w64 (n := x) (by omega) (by omega), w64 (n := b) (by omega) (by omega), w64 (n := x - t) (by omega) (by omega), w64 h.1 h.2, shift_is _ _ h]
  simp only [Option.bind_some]
  rw [exp_is _ (sh_low h _)]
  rfl
theorem bind2 {α β γ : Type} {a : Option α} {f : α → Option β} {v : β} (h : (a.bind f) = some v) (g : β → Option γ) : (a.bind fun x => (f x).bind g) = g v := by
  cases a with
  | none => simp at h
  | some x =>
    simp only [Option.bind_some] at h ⊢
    rw [h]
    rfl
theorem softmax_loop (b n t : Int) (xs : List Int) (hb : -2147483648 ≤ b ∧ b < 2147483648) (hx : ∀ x ∈ xs, -2147483648 ≤ x ∧ x < 2147483648) (ht : IsTop t xs) (hl : xs.length ≤ 1000) (d : Nat) : ∀ (k i : Nat), i + d = xs.length → d + 2 * xs.length + 2 < k →
    norm_Softmax.l0 k b n t ((xs.take i).map (pwr t b (mn (mx n 0) 62).toNat) ++ List.replicate d 0) xs (xs.length : Int) (i : Int) = some (sm t b (mn (mx n 0) 62).toNat xs) := by
  induction d with
  | zero =>
    intro k i hi hk
    obtain ⟨k, rfl⟩ : ∃ m, k = m + 1 := ⟨k - 1, by omega⟩
    have hp : ∀ x ∈ xs.map (pwr t b (mn (mx n 0) 62).toNat), -2147483648 ≤ x ∧ x < 2147483648 := by
      intro x h
      obtain ⟨y, _, rfl⟩ := List.mem_map.1 h
      have := pwr_range t b (mn (mx n 0) 62).toNat y
      omega
    have hs := shares_is 65536 (xs.map (pwr t b (mn (mx n 0) 62).toNat)) (by decide) hp (by rw [List.length_map]; exact hl) k (by rw [List.length_map]; omega)
    simp only [norm_Softmax.l0]
    rw [if_neg (by omega), List.take_of_length_le (by omega), List.replicate_zero, List.append_nil, hs]
    rfl
  | succ d ih =>
    intro k i hi hk
    obtain ⟨k, rfl⟩ : ∃ m, k = m + 1 := ⟨k - 1, by omega⟩
    have hlt : i < xs.length := by omega
    have ih' := ih k (i + 1) (by omega) (by omega)
    rw [take_map_succ _ _ _ hlt, List.append_assoc, List.singleton_append] at ih'
    have e := set_zeros ((xs.take i).map (pwr t b (mn (mx n 0) 62).toNat)) d 0 (pwr t b (mn (mx n 0) 62).toNat xs[i])
    rw [List.length_map, List.length_take, Nat.min_eq_left (by omega)] at e
    have hp := pwr_step xs[i] t b n (hx _ (List.getElem_mem hlt)) (hx _ ht.1) (ht.2 _ (List.getElem_mem hlt)) hb
    simp only [norm_Softmax.l0]
    rw [if_pos (by omega), if_pos (by omega), if_pos (by omega), rd_at _ _ hlt, bind2 hp, if_pos (by simp; omega), Int.toNat_natCast, e, succ_is i (by omega)]
    exact ih'
theorem softmax_is (b n : Int) (xs : List Int) (hb : -2147483648 ≤ b ∧ b < 2147483648) (hx : ∀ x ∈ xs, -2147483648 ≤ x ∧ x < 2147483648) (hl : xs.length ≤ 1000) (t : Int) (ht : IsTop t xs) (k : Nat) (hk : 3 * xs.length + 10 ≤ k) :
    norm_Softmax.f k b n xs = some (sm t b (mn (mx n 0) 62).toNat xs) := by
  have h0 : 0 < xs.length := List.length_pos_of_mem ht.1
  have htr := hx _ ht.1
  unfold norm_Softmax.f
  rw [if_neg (by omega), max_is xs hl h0 t ht k (by omega)]
  simp only [Option.bind_some]
  rw [if_pos (by omega), if_pos (by omega), Int.toNat_natCast, w64 (n := t) (by omega) (by omega)]
  have := softmax_loop b n t xs hb hx ht hl xs.length k 0 (by omega) (by omega)
  simpa using this
theorem softmax_nil (b n : Int) (k : Nat) : norm_Softmax.f k b n [] = some [] := rfl
theorem sm_len (t b : Int) (N : Nat) (xs : List Int) : (sm t b N xs).length = xs.length := by unfold sm; rw [List.length_map, List.length_map]
theorem sm_at (t b : Int) (N : Nat) (xs : List Int) (i : Nat) (h : i < (sm t b N xs).length) (h1 : i < xs.length) : (sm t b N xs)[i] = share 65536 (wsum (xs.map (pwr t b N))) (pwr t b N xs[i]) := by
  have e : (List.map (share 65536 (wsum (xs.map (pwr t b N)))) (xs.map (pwr t b N)))[i]'h = share 65536 (wsum (xs.map (pwr t b N))) (pwr t b N xs[i]) := by
    have e2 : (xs.map (pwr t b N))[i]'(by rw [List.length_map]; exact h1) = pwr t b N xs[i] := List.getElem_map _
    rw [← e2]
    exact List.getElem_map _
  exact e

theorem awake_is : ∃ K, ∀ k, K ≤ k → pelotonlaw05_awake.f k = some true := Ev.of pelotonlaw05_awake.mono (k := 200) (by decide +kernel)

theorem share_mono {S x y : Int} (hS : 0 ≤ S) (h : x ≤ y) : share 65536 S x ≤ share 65536 S y := by
  unfold share
  by_cases hx : 0 < x
  · rw [if_pos hx, if_pos (show 0 < y by omega), if_pos (show (0 : Int) < 65536 by decide)]
    rcases Int.lt_or_eq_of_le hS with h0 | h0
    · exact Int.ediv_le_ediv h0 (Int.mul_le_mul_of_nonneg_right h (by decide))
    · rw [← h0, Int.ediv_zero, Int.ediv_zero]
      exact Int.le_refl _
  · rw [if_neg hx]
    by_cases hy : 0 < y
    · rw [if_pos hy, if_pos (show (0 : Int) < 65536 by decide)]
      exact Int.ediv_nonneg (Int.mul_nonneg (by omega) (by decide)) hS
    · rw [if_neg hy]
      exact Int.le_refl _
theorem pwr_mono {t b : Int} (hb : 0 ≤ b) (N : Nat) {x y : Int} (h : x ≤ y) : pwr t b N x ≤ pwr t b N y := by
  unfold pwr
  exact ep_rises (sh_mono (Int.mul_le_mul_of_nonneg_right (by omega) hb) N)
def isum : List Int → Int
  | [] => 0
  | x :: xs => x + isum xs
theorem isum_append (xs ys : List Int) : isum (xs ++ ys) = isum xs + isum ys := by
  induction xs with
  | nil => simp [isum]
  | cons x xs ih => simp only [List.cons_append, isum, ih]; omega
theorem isum_take (xs : List Int) (i : Nat) (h : i < xs.length) : isum (xs.take (i + 1)) = isum (xs.take i) + xs[i] := by
  rw [take_step xs i h, isum_append]
  simp [isum]
theorem isum_share (S : Int) (xs : List Int) : isum (xs.map (share 65536 S)) = ssum 65536 S xs := by
  induction xs with
  | nil => rfl
  | cons x xs ih => simp only [List.map_cons, isum, ssum, ih]
theorem isum_small (B : Int) (hB : 0 ≤ B) (xs : List Int) (h : ∀ x ∈ xs, 0 ≤ x ∧ x ≤ B) : 0 ≤ isum xs ∧ isum xs ≤ xs.length * B := by
  induction xs with
  | nil => simp [isum]
  | cons x xs ih =>
    have h1 := h x List.mem_cons_self
    have h2 := ih fun y hy => h y (List.mem_cons_of_mem _ hy)
    have e : ((xs.length + 1 : Nat) : Int) * B = xs.length * B + B := by rw [Int.natCast_add, Int.add_mul]; simp
    simp only [isum, List.length_cons]
    omega
theorem sm_range (t b : Int) (N : Nat) (xs : List Int) : ∀ x ∈ sm t b N xs, 0 ≤ x ∧ x ≤ 65536 := by
  intro x hx
  unfold sm at hx
  obtain ⟨p, hp, rfl⟩ := List.mem_map.1 hx
  have h1 := wsum_ge _ p hp
  have h2 := wsum_nonneg (xs.map (pwr t b N))
  unfold share
  split
  · rename_i h0
    have e : pos p = p := by unfold pos; rw [if_pos h0]
    rw [e] at h1
    have := quot_le (total := 65536) h0 (by decide) h1
    rw [if_pos (by decide)]
    exact this
  · omega
theorem cnt_has (xs : List Int) (x : Int) (h : x ∈ xs) (h0 : 0 < x) : cnt xs ≠ 0 := by
  induction xs with
  | nil => simp at h
  | cons y ys ih =>
    have hc := cnt_nonneg ys
    simp only [cnt]
    rcases List.mem_cons.1 h with rfl | h
    · rw [if_pos h0]
      omega
    · have := ih h
      split <;> omega
theorem sm_sum (t b : Int) (N : Nat) (xs : List Int) (ht : t ∈ xs) : isum (sm t b N xs) ≤ 65536 ∧ isum (sm t b N xs) > 65536 - (xs.length : Int) := by
  have hp : pwr t b N t = 65536 := by
    unfold pwr
    rw [Int.sub_self, Int.zero_mul, sh_zero]
    rfl
  have hc : cnt (xs.map (pwr t b N)) ≠ 0 := cnt_has _ 65536 (List.mem_map.2 ⟨t, ht, hp⟩) (by decide)
  have hn := cnt_nonneg (xs.map (pwr t b N))
  rw [List.length_map] at hn
  have h := whole_end (total := 65536) (xs.map (pwr t b N)) (by decide) hc
  unfold sm
  rw [isum_share]
  omega
theorem orders_l1 (t b : Int) (hb : 0 ≤ b) (N : Nat) (xs : List Int) (hl : xs.length ≤ 1000) (s : Int) (i : Nat) (hi : i < xs.length) (d : Nat) : ∀ (k j : Nat), j + d = i → d < k →
    ∃ k2, k = k2 + d + 1 ∧ pelotonlaw05_NormOrders.l1 k xs (sm t b N xs) s (i : Int) (j : Int) = pelotonlaw05_NormOrders.l0 k2 xs (sm t b N xs) s ((i + 1 : Nat) : Int) := by
  have hL := sm_len t b N xs
  have hw := wsum_nonneg (xs.map (pwr t b N))
  induction d with
  | zero =>
    intro k j hj hk
    obtain ⟨k, rfl⟩ : ∃ m, k = m + 1 := ⟨k - 1, by omega⟩
    refine ⟨k, by omega, ?_⟩
    simp only [pelotonlaw05_NormOrders.l1]
    rw [if_neg (by omega), succ_is i (by omega)]
  | succ d ih =>
    intro k j hj hk
    obtain ⟨k, rfl⟩ : ∃ m, k = m + 1 := ⟨k - 1, by omega⟩
    have hjl : j < xs.length := by omega
    have hjl2 : j < (sm t b N xs).length := by omega
    have hil2 : i < (sm t b N xs).length := by omega
    have cj : (j : Int) < ((sm t b N xs).length : Int) := Int.ofNat_lt.2 hjl2
    have ci : (i : Int) < ((sm t b N xs).length : Int) := Int.ofNat_lt.2 hil2
    obtain ⟨k2, h1, h2⟩ := ih k (j + 1) (by omega) (by omega)
    have up : xs[i] ≤ xs[j] → share 65536 (wsum (xs.map (pwr t b N))) (pwr t b N xs[i]) ≤ share 65536 (wsum (xs.map (pwr t b N))) (pwr t b N xs[j]) := fun h => share_mono hw (pwr_mono hb N h)
    have dn : xs[j] ≤ xs[i] → share 65536 (wsum (xs.map (pwr t b N))) (pwr t b N xs[j]) ≤ share 65536 (wsum (xs.map (pwr t b N))) (pwr t b N xs[i]) := fun h => share_mono hw (pwr_mono hb N h)
    refine ⟨k2, by omega, ?_⟩
    simp only [pelotonlaw05_NormOrders.l1]
    rw [if_pos (by omega), if_pos (by omega), if_pos (by omega), if_pos (by omega), if_pos (by omega), rd_at xs _ hjl, rd_at xs _ hi, rd_at _ _ hjl2, rd_at _ _ hil2, sm_at _ _ _ _ j hjl2 hjl, sm_at _ _ _ _ i hil2 hi, succ_is j (by omega), if_pos cj, if_pos ci, h2]
    clear ih h2 h1
    generalize share 65536 (wsum (xs.map (pwr t b N))) (pwr t b N xs[i]) = wi at *
    generalize share 65536 (wsum (xs.map (pwr t b N))) (pwr t b N xs[j]) = wj at *
    generalize xs[i] = xi at *
    generalize xs[j] = xj at *
    by_cases c1 : xj > xi
    · have := up (by omega)
      rw [if_pos c1, if_neg (show ¬ wj < wi by omega), if_neg (show ¬ xj < xi by omega), if_neg (show ¬ xj = xi by omega)]
    · rw [if_neg c1]
      by_cases c2 : xj < xi
      · have := dn (by omega)
        rw [if_pos c2, if_neg (show ¬ wj > wi by omega), if_neg (show ¬ xj = xi by omega), if_pos cj, if_pos ci]
      · have e : xj = xi := by omega
        have := dn (by omega)
        have := up (by omega)
        rw [if_neg c2, if_pos e, if_pos (show wj = wi by omega), if_pos cj, if_pos ci]
theorem orders_l0 (t b : Int) (hb : 0 ≤ b) (N : Nat) (xs : List Int) (hl : xs.length ≤ 300) (ht : t ∈ xs) (d : Nat) : ∀ (k i : Nat), i + d = xs.length → 400 * d + 10 < k →
    pelotonlaw05_NormOrders.l0 k xs (sm t b N xs) (isum ((sm t b N xs).take i)) (i : Int) = some true := by
  have hL := sm_len t b N xs
  have hr := sm_range t b N xs
  have h0 : 0 < xs.length := List.length_pos_of_mem ht
  induction d with
  | zero =>
    intro k i hi hk
    obtain ⟨k, rfl⟩ : ∃ m, k = m + 1 := ⟨k - 1, by omega⟩
    have hs := sm_sum t b N xs ht
    simp only [pelotonlaw05_NormOrders.l0]
    rw [if_neg (by omega), List.take_of_length_le (by omega), if_pos hs.1, if_neg (by omega), w64 (n := 65536 - (xs.length : Int)) (by omega) (by omega), decide_eq_true hs.2]
  | succ d ih =>
    intro k i hi hk
    obtain ⟨k, rfl⟩ : ∃ m, k = m + 1 := ⟨k - 1, by omega⟩
    have hlt : i < xs.length := by omega
    have hlt2 : i < (sm t b N xs).length := by omega
    have hri := hr _ (List.getElem_mem hlt2)
    have hsm := isum_small 65536 (by decide) ((sm t b N xs).take i) fun x h => hr x (List.mem_of_mem_take h)
    have hsl : ((sm t b N xs).take i).length ≤ 300 := by rw [List.length_take]; omega
    obtain ⟨k2, h1, h2⟩ := orders_l1 t b hb N xs (by omega) (isum ((sm t b N xs).take i) + (sm t b N xs)[i]) i hlt i k 0 (by omega) (by omega)
    have hk2 : 400 * d + 10 < k2 := by
      clear h2 ih hr
      omega
    have ih' := ih k2 (i + 1) (by omega) hk2
    rw [isum_take _ _ hlt2] at ih'
    simp only [pelotonlaw05_NormOrders.l0]
    rw [if_pos (by omega), if_pos (by omega), rd_at _ _ hlt2, if_neg (by omega), w64 (n := (sm t b N xs)[i]) (by omega) (by omega), w64 (by omega) (by omega)]
    exact h2.trans ih'
theorem NormOrders : pelotonlaw05_NormOrders.Pure := by
  intro b n xs hwb _ _ _ hwx
  obtain ⟨K, hK⟩ := awake_is
  have hb := wf_i32 hwb
  have hx : ∀ x ∈ xs, -2147483648 ≤ x ∧ x < 2147483648 := fun x h => wf_i32 (hwx x h)
  obtain ⟨k, hk⟩ : ∃ m, m = K + 200000 := ⟨_, rfl⟩
  refine ⟨k + 1, ?_⟩
  unfold pelotonlaw05_NormOrders.f
  rw [hK _ (by omega)]
  simp only [Option.bind_some]
  rw [if_pos trivial]
  have yes : pelotonlaw05_NormOrders.j0 (k + 1) b n xs true = some true := by
    simp only [pelotonlaw05_NormOrders.j0]
    rw [if_pos trivial, hK _ (by omega)]
    rfl
  by_cases h : (xs.length : Int) > 200
  · rw [if_pos h]
    exact yes
  · rw [if_neg h]
    by_cases h1 : b < 0
    · rw [decide_eq_true h1]
      exact yes
    · rw [decide_eq_false h1]
      simp only [pelotonlaw05_NormOrders.j0]
      rw [if_neg (by decide)]
      by_cases h0 : 0 < xs.length
      · obtain ⟨t, ht⟩ := top_has xs h0
        have hl := sm_len t b (mn (mx n 0) 62).toNat xs
        rw [softmax_is b n xs hb hx (by omega) t ht k (by omega)]
        simp only [Option.bind_some]
        rw [if_pos (by omega)]
        have := orders_l0 t b (by omega) (mn (mx n 0) 62).toNat xs (by omega) ht.1 xs.length k 0 (by omega) (by omega)
        simpa [isum] using this
      · have e : xs = [] := List.eq_nil_of_length_eq_zero (by omega)
        subst e
        obtain ⟨k, rfl⟩ : ∃ m, k = m + 1 := ⟨k - 1, by omega⟩
        rw [softmax_nil]
        simp only [Option.bind_some]
        rw [if_pos trivial]
        rfl

end Go.Proofs.Ytmpdkjcobpghaaa.Pure
