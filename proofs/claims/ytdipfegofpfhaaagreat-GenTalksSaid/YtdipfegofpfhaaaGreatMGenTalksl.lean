/- What the law needs. -/
import Derived.Test.YtdipfegofpfhaaaGreatMGenTalksk
import Derived.Laws.BitsLemmas
import Derived.Lib.BitFns
section
namespace Go.Proofs.YtdipfegofpfhaaaGreat
open Go Go.Hp
set_option linter.unusedVariables false
set_option linter.unusedSimpArgs false
def sh (x : Int) (n : Nat) : Int := if x % 2 ^ n > 2 ^ n / 2 then x / 2 ^ n + 1 else if x % 2 ^ n = 2 ^ n / 2 then (if 0 < n then (if x / 2 ^ n % 2 = 1 then x / 2 ^ n + 1 else x / 2 ^ n) else x / 2 ^ n) else x / 2 ^ n
theorem pow_pos' (n : Nat) : (0 : Int) < 2 ^ n := by
  have : 0 < 2 ^ n := Nat.two_pow_pos n
  exact_mod_cast this
theorem pow_le62 (k : Nat) (hk2 : k ≤ 62) : (2 : Int) ^ k ≤ 4611686018427387904 := by
  have : 2 ^ k ≤ 2 ^ 62 := Nat.pow_le_pow_right (by decide) hk2
  have hcast : ((2 ^ k : Nat) : Int) = (2 : Int) ^ k := by simp
  rw [← hcast]; omega
theorem half_in (x : Int) (hx : -9223372036854775808 ≤ x ∧ x ≤ 9223372036854775807) (n : Nat) (hn : 0 < n) : -4611686018427387904 ≤ x / 2 ^ n ∧ x / 2 ^ n < 4611686018427387904 := by
  obtain ⟨m, rfl⟩ : ∃ m, n = m + 1 := ⟨n - 1, by omega⟩
  have hp := pow_pos' (m + 1)
  have hpm := pow_pos' m
  have hps : (2 : Int) ^ (m + 1) = 2 ^ m * 2 := Int.pow_succ 2 m
  refine ⟨Int.le_ediv_of_mul_le hp ?_, Int.ediv_lt_of_lt_mul hp ?_⟩
  · have hm : -4611686018427387904 * (2 : Int) ^ (m + 1) ≤ -4611686018427387904 * 2 := Int.mul_le_mul_of_nonpos_left (by decide) (by omega)
    omega
  · have hm : 4611686018427387904 * 2 ≤ 4611686018427387904 * (2 : Int) ^ (m + 1) := Int.mul_le_mul_of_nonneg_left (by omega) (by decide)
    omega
theorem J3_is (m : Nat) (hm : m + 1 ≤ 62) (q r : Int) (hq : -4611686018427387904 ≤ q ∧ q < 4611686018427387904) (h0 : 0 ≤ r) (h1 : r < 2 ^ (m + 1)) :
    ref01_Shift.J3 (2 ^ (m + 1)) q r = some (if r > 2 ^ (m + 1) / 2 then q + 1 else if r = 2 ^ (m + 1) / 2 then (if q % 2 = 1 then q + 1 else q) else q) := by
  have hps : (2 : Int) ^ (m + 1) = 2 ^ m * 2 := Int.pow_succ 2 m
  have hpm := pow_pos' m
  have hle := pow_le62 (m + 1) hm
  have hh : (2 : Int) ^ (m + 1) / 2 = 2 ^ m := by rw [hps]; omega
  rw [hh]
  have par : ∀ z : Int, (Int.tmod z 2 ≠ 0) ↔ z % 2 = 1 := by
    intro z
    rw [Ne, ← Int.dvd_iff_tmod_eq_zero, Int.dvd_iff_emod_eq_zero]
    omega
  have hw : IntKind.i64.wrap (q + 1) = q + 1 := W_in (by omega)
  have hw2 : IntKind.i64.wrap (2 ^ (m + 1) - r) = 2 ^ (m + 1) - r := W_in (by omega)
  unfold ref01_Shift.J3
  rw [hw2]
  by_cases c1 : r > 2 ^ m
  · rw [if_pos (by omega), if_pos c1, ref01_Shift.J4, if_pos rfl, hw]
  · rw [if_neg (by omega), if_neg c1]
    by_cases c2 : r = 2 ^ m
    · rw [if_pos (by omega), if_pos c2, ref01_Shift.J4]
      by_cases c3 : q % 2 = 1
      · rw [if_pos (decide_eq_true ((par q).2 c3)), if_pos c3, hw]
      · rw [if_neg (by intro h; exact c3 ((par q).1 (of_decide_eq_true h))), if_neg c3]
    · rw [if_neg (by omega), if_neg c2, ref01_Shift.J4, if_neg (by decide)]
theorem refshift_loop (x : Int) (hx : -9223372036854775808 ≤ x ∧ x ≤ 9223372036854775807) (n : Nat) (hn : 0 < n) (hn2 : n ≤ 62) (d : Nat) : ∀ (k i : Nat), i + d = n → d < k →
    ref01_Shift.L2 x (n : Int) k (2 ^ i) (i : Int) = some (sh x n) := by
  induction d with
  | zero =>
    intro k i hi hk
    obtain ⟨k, rfl⟩ : ∃ m, k = m + 1 := ⟨k - 1, by omega⟩
    obtain rfl : i = n := by omega
    have hp := pow_pos' i
    have hfl := half_in x hx i hn
    obtain ⟨m, rfl⟩ : ∃ m, i = m + 1 := ⟨i - 1, by omega⟩
    have hpm := pow_pos' m
    have hps : (2 : Int) ^ (m + 1) = 2 ^ m * 2 := Int.pow_succ 2 m
    have hle := pow_le62 (m + 1) hn2
    have hdm := Int.mul_tdiv_add_tmod x (2 ^ (m + 1))
    have hlt := Int.tmod_lt_of_pos x hp
    have hgt : -(2 ^ (m + 1)) < Int.tmod x (2 ^ (m + 1)) := Int.lt_tmod_of_pos x hp
    rw [ref01_Shift.L2, if_neg (by omega), chk_ok _ (by omega), Option.bind_some, chk_ok _ (by omega)]
    unfold sh
    rw [if_pos (show 0 < m + 1 by omega)]
    by_cases hneg : Int.tmod x (2 ^ (m + 1)) < 0
    · have huq : x / 2 ^ (m + 1) = Int.tdiv x (2 ^ (m + 1)) - 1 ∧ x % 2 ^ (m + 1) = Int.tmod x (2 ^ (m + 1)) + 2 ^ (m + 1) := by
        refine (Int.ediv_emod_unique hp).2 ⟨?_, by omega, by omega⟩
        rw [Int.mul_sub, Int.mul_one]
        omega
      rw [if_pos hneg, Option.bind_some]
      rw [huq.1] at hfl ⊢
      rw [huq.2]
      generalize Int.tdiv x (2 ^ (m + 1)) = q at *
      generalize Int.tmod x (2 ^ (m + 1)) = r at *
      rw [W_in (x := q) (by omega), W_in (x := q - 1) (by omega), W_in (x := r + 2 ^ (m + 1)) (by omega)]
      exact J3_is m hn2 (q - 1) (r + 2 ^ (m + 1)) hfl (by omega) (by omega)
    · have huq : x / 2 ^ (m + 1) = Int.tdiv x (2 ^ (m + 1)) ∧ x % 2 ^ (m + 1) = Int.tmod x (2 ^ (m + 1)) := (Int.ediv_emod_unique hp).2 ⟨by omega, by omega, by omega⟩
      rw [if_neg hneg]
      rw [huq.1] at hfl ⊢
      rw [huq.2]
      generalize Int.tdiv x (2 ^ (m + 1)) = q at *
      generalize Int.tmod x (2 ^ (m + 1)) = r at *
      rw [W_in (x := q) (by omega)]
      exact J3_is m hn2 q r hfl (by omega) (by omega)
  | succ d ih =>
    intro k i hi hk
    obtain ⟨k, rfl⟩ : ∃ m, k = m + 1 := ⟨k - 1, by omega⟩
    have hps : (2 : Int) ^ (i + 1) = 2 ^ i * 2 := Int.pow_succ 2 i
    have hp := pow_pos' i
    have hle := pow_le62 (i + 1) (by omega)
    rw [ref01_Shift.L2, if_pos (by omega), W_in (x := 2 ^ i * 2) (by omega), ← hps, W_succ i (by omega)]
    exact ih k (i + 1) (by omega) (by omega)
theorem refshift_is {N : Nat} (hN : 100 ≤ N) (x a : Int) (hx : -9223372036854775808 ≤ x ∧ x ≤ 9223372036854775807) : ref01_Shift N x a = some (sh x (min (max a 0) 62).toNat) := by
  have key : ∀ b : Int, b ≤ 62 → ref01_Shift.J1 N x b = some (sh x (max b 0).toNat) := by
    intro b hb
    rw [ref01_Shift.J1]
    by_cases h : b ≤ 0
    · have e : (max b 0).toNat = 0 := by omega
      rw [if_pos h, e]
      unfold sh
      have e1 : x % (2 : Int) ^ 0 = 0 := by simp
      have e2 : (2 : Int) ^ 0 / 2 = 0 := by decide
      have e3 : x / (2 : Int) ^ 0 = x := by simp
      rw [e1, e2, e3, if_neg (by decide), if_pos rfl, if_neg (by decide)]
    · obtain ⟨n, rfl⟩ := Int.eq_ofNat_of_zero_le (show 0 ≤ b by omega)
      have e : (max (n : Int) 0).toNat = n := by omega
      rw [if_neg h, e]
      exact refshift_loop x hx n (by omega) (by omega) n N 0 (by omega) (by omega)
  unfold ref01_Shift
  by_cases h : a > 62
  · rw [if_pos h, key 62 (by decide), show min (max a 0) 62 = max 62 0 by omega]
  · rw [if_neg h, key a (by omega), show min (max a 0) 62 = max a 0 by omega]
theorem near_is (x a b : Int) (h : a ≤ b) : ref01_Near x a b = some (min (max x a) b) := by
  unfold ref01_Near
  by_cases h1 : x < a
  · rw [if_pos h1, show min (max x a) b = a by omega]
  · rw [if_neg h1]
    by_cases h2 : x > b
    · rw [if_pos h2, show min (max x a) b = b by omega]
    · rw [if_neg h2, show min (max x a) b = x by omega]
theorem mod_is (x : Int) : ref01_Mod x = some (IntKind.i32.wrap x) := by
  have a := Int.tmod_lt_of_pos x (show (0 : Int) < 4294967296 by decide)
  have b := Int.lt_tmod_of_pos x (show (0 : Int) < 4294967296 by decide)
  have h := Int.tmod_add_mul_tdiv x 4294967296
  have key : ∀ z q : Int, 0 ≤ z → z < 4294967296 → z + 4294967296 * q = x → ref01_Mod.J1 z = some (IntKind.i32.wrap x) := by
    intro z q h0 h1 h2
    unfold ref01_Mod.J1
    by_cases h3 : z ≥ 2147483648
    · rw [if_pos h3, Option.bind_some, W_in (by omega)]
      congr 1
      simp only [IntKind.wrap_i32]
      omega
    · rw [if_neg h3]
      congr 1
      simp only [IntKind.wrap_i32]
      omega
  unfold ref01_Mod
  by_cases hn : Int.tmod x 4294967296 < 0
  · rw [if_pos hn, Option.bind_some, W_in (by omega)]
    exact key _ (Int.tdiv x 4294967296 - 1) (by omega) (by omega) (by omega)
  · rw [if_neg hn]
    exact key _ (Int.tdiv x 4294967296) (by omega) (by omega) (by omega)

def tot : List Int → Int
  | [] => 0
  | x :: xs => x + tot xs
theorem tot_snoc (xs : List Int) (x : Int) : tot (xs ++ [x]) = tot xs + x := by
  induction xs with
  | nil => simp [tot]
  | cons y ys ih => rw [List.cons_append, tot, tot, ih]; omega
theorem wrap_is {N : Nat} (xs : List Int) (h : xs.length < N) (h2 : xs.length ≤ 1000000) : ref01_Wrap N xs = some (IntKind.i32.wrap (tot xs)) := by
  unfold ref01_Wrap
  refine loop_c (fun m (s : Int) i => ref01_Wrap.L1 xs m s i) (fun i => IntKind.i32.wrap (tot (xs.take i))) xs.length _ (fun m i hi => ?_) (fun m => ?_) N h
  · show ref01_Wrap.L1 xs (m + 1) _ (i : Int) = ref01_Wrap.L1 xs m _ _
    rw [ref01_Wrap.L1, if_pos (by omega), idx_get _ _ hi, Option.bind_some, mod_is, Option.bind_some, mod_is, Option.bind_some, W_succ i (by omega), List.take_succ_eq_append_getElem hi, tot_snoc]
    congr 1
    simp only [IntKind.wrap_i64, IntKind.wrap_i32]
    omega
  · show ref01_Wrap.L1 xs (m + 1) _ (xs.length : Int) = _
    rw [ref01_Wrap.L1, if_neg (by omega), List.take_length]
    congr 1
    simp only [IntKind.wrap_i32]
    omega
def dots (a b : List Int) : Nat → Int
  | 0 => 0
  | k + 1 => dots a b k + a.getD k 0 * b.getD k 0
theorem w32_add (x y : Int) : IntKind.i32.wrap (x + IntKind.i64.wrap y) = IntKind.i32.wrap (x + y) := by simp only [IntKind.wrap_i64, IntKind.wrap_i32]; omega
theorem w_mul (x y : Int) : IntKind.i64.wrap (IntKind.i64.wrap x * IntKind.i64.wrap y) = IntKind.i64.wrap (x * y) := by
  rw [IntKind.wrap_i64, IntKind.wrap_i64 (x * y)]
  have h : (IntKind.i64.wrap x * IntKind.i64.wrap y) % 18446744073709551616 = (x * y) % 18446744073709551616 := by
    have e : ∀ z : Int, IntKind.i64.wrap z % 18446744073709551616 = z % 18446744073709551616 := fun z => by rw [IntKind.wrap_i64]; omega
    rw [Int.mul_emod, e, e, ← Int.mul_emod]
  omega
theorem dot_is {N : Nat} (a b : List Int) (h : a.length = b.length) (hl : a.length < N) (h2 : a.length ≤ 1000000) : ref01_Dot N a b = some (IntKind.i32.wrap (dots a b a.length)) := by
  unfold ref01_Dot
  refine loop_c (fun m (s : List Int) i => ref01_Dot.L1 N a b m s i) (fun i => tabl i fun k => IntKind.i64.wrap (a.getD k 0 * b.getD k 0)) a.length _ (fun m i hi => ?_) (fun m => ?_) N hl
  · show ref01_Dot.L1 N a b (m + 1) _ (i : Int) = ref01_Dot.L1 N a b m _ _
    rw [ref01_Dot.L1, if_pos (by omega), decide_eq_true (by omega), ref01_Dot.J2, if_pos rfl, idx_d a 0 hi, Option.bind_some, idx_d b 0 (by omega), Option.bind_some, app_ok _ _ (by rw [tabl_len]; simp only [List.length_cons, List.length_nil]; omega), Option.bind_some, W_succ i (by omega), w_mul, tabl_succ]
  · show ref01_Dot.L1 N a b (m + 1) _ (a.length : Int) = _
    rw [ref01_Dot.L1, if_neg (by omega), ref01_Dot.J2, if_neg (by decide), wrap_is _ (by rw [tabl_len]; omega) (by rw [tabl_len]; omega), Option.bind_some]
    congr 1
    have : ∀ k, IntKind.i32.wrap (tot (tabl k fun k => IntKind.i64.wrap (a.getD k 0 * b.getD k 0))) = IntKind.i32.wrap (dots a b k) := by
      intro k
      induction k with
      | zero => rfl
      | succ k ih =>
        rw [tabl_succ, tot_snoc, dots, w32_add]
        simp only [IntKind.wrap_i32] at ih ⊢
        omega
    exact this _
def scl (x by_ n lo hi : Int) : Int := min (max (sh (IntKind.i64.wrap (IntKind.i64.wrap x * IntKind.i64.wrap by_)) (min (max n 0) 62).toNat) lo) hi
theorem refscale_is {N : Nat} (hN : 100 ≤ N) (x by_ n lo hi : Int) (h : lo ≤ hi) : ref01_Scale N x by_ n lo hi = some (scl x by_ n lo hi) := by
  unfold ref01_Scale
  rw [refshift_is hN _ _ (W_range _), Option.bind_some, near_is _ _ _ h, Option.bind_some]
  rfl
def matR (m : S_api_Mat) (r c : Nat) : Prop := m.Rows = r ∧ m.Cols = c ∧ m.V.length = r * c
theorem right_is {m : S_api_Mat} {r c : Nat} (h : matR m r c) (hr : r ≤ 200) (hc : c ≤ 200) : ref04_Right m = some true := by
  obtain ⟨h1, h2, h3⟩ := h
  have hrc : r * c ≤ 40000 := Nat.le_trans (Nat.mul_le_mul hr hc) (by decide)
  unfold ref04_Right
  rw [h1, h2, if_pos (by omega), if_pos (by omega), if_pos (by omega), if_pos (by omega), h3]
  have e : ((r * c : Nat) : Int) = (r : Int) * (c : Int) := by simp
  rw [W_in (by rw [← e]; omega), if_pos e, decide_eq_true (by omega)]
def rowOf (m : S_api_Mat) (c r : Nat) : List Int := tabl c fun j => m.V.getD (r * c + j) 0
def applyS (m : S_api_Mat) (x : List Int) (r c : Nat) : List Int := tabl r fun i => IntKind.i32.wrap (dots (rowOf m c i) x c)
theorem tabl_getD {α : Type} (n : Nat) (f : Nat → α) (d : α) (k : Nat) (h : k < n) : (tabl n f).getD k d = f k := by
  rw [List.getD_eq_getElem?_getD, tabl_get? h]; rfl
theorem dots_congr (a b a' b' : List Int) : ∀ k, (∀ j, j < k → a.getD j 0 = a'.getD j 0 ∧ b.getD j 0 = b'.getD j 0) → dots a b k = dots a' b' k
  | 0, _ => rfl
  | k + 1, h => by
    rw [dots, dots, dots_congr a b a' b' k (fun j hj => h j (by omega)), (h k (by omega)).1, (h k (by omega)).2]
theorem apply_is {N : Nat} {m : S_api_Mat} {r c : Nat} (h : matR m r c) (hr : r ≤ 200) (hc : c ≤ 200) (hN : 200 < N) (x : List Int) (hx : x.length = c) : ref04_Apply N m x = some (applyS m x r c, true) := by
  have hrt := right_is h hr hc
  obtain ⟨h1, h2, h3⟩ := h
  have hrc : ∀ i, i < r → i * c + c ≤ r * c := fun i hi => by
    have : (i + 1) * c ≤ r * c := Nat.mul_le_mul_right c (by omega)
    rw [Nat.succ_mul] at this; exact this
  have hrc2 : r * c ≤ 40000 := Nat.le_trans (Nat.mul_le_mul hr hc) (by decide)
  unfold ref04_Apply
  rw [show (⟨m.Rows, m.Cols, m.V⟩ : S_api_Mat) = m from rfl, hrt, Option.bind_some, if_pos rfl, if_neg (by omega)]
  refine loop_c (fun k (s : List Int) i => ref04_Apply.L1 N m x k s i) (fun i => tabl i fun i => IntKind.i32.wrap (dots (rowOf m c i) x c)) r _ (fun k i hi => ?_) (fun k => ?_) N (by omega)
  · show ref04_Apply.L1 N m x (k + 1) _ (i : Int) = ref04_Apply.L1 N m x k _ _
    rw [ref04_Apply.L1, if_pos (by omega)]
    have hi2 := hrc i hi
    refine loop_c (fun q (s : List Int) j => ref04_Apply.L2 N m x (tabl i fun i => IntKind.i32.wrap (dots (rowOf m c i) x c)) (i : Int) (ref04_Apply.L1 N m x k) q s j) (fun j => tabl j fun j => IntKind.i64.wrap (m.V.getD (i * c + j) 0 * x.getD j 0)) c _ (fun q j hj => ?_) (fun q => ?_) N (by omega)
    · show ref04_Apply.L2 N m x _ _ _ (q + 1) _ (j : Int) = _
      have e : IntKind.i64.wrap (IntKind.i64.wrap ((i : Int) * m.Cols) + (j : Int)) = ((i * c + j : Nat) : Int) := by
        rw [h2]
        have : (i : Int) * (c : Int) = ((i * c : Nat) : Int) := by simp
        rw [this, W_in (x := ((i * c : Nat) : Int)) (by omega), W_in (by omega)]
        omega
      rw [ref04_Apply.L2, if_pos (by omega), e, idx_d m.V 0 (by omega), Option.bind_some, idx_d x 0 (by omega), Option.bind_some, app_ok _ _ (by rw [tabl_len]; simp only [List.length_cons, List.length_nil]; omega), Option.bind_some, W_succ j (by omega), w_mul, tabl_succ]
    · show ref04_Apply.L2 N m x _ _ _ (q + 1) _ (c : Int) = _
      rw [ref04_Apply.L2, if_neg (by omega), wrap_is _ (by rw [tabl_len]; omega) (by rw [tabl_len]; omega), Option.bind_some, app_ok _ _ (by rw [tabl_len]; simp only [List.length_cons, List.length_nil]; omega), Option.bind_some, W_succ i (by omega)]
      have : ∀ k, k ≤ c → IntKind.i32.wrap (tot (tabl k fun j => IntKind.i64.wrap (m.V.getD (i * c + j) 0 * x.getD j 0))) = IntKind.i32.wrap (dots (rowOf m c i) x k) := by
        intro k
        induction k with
        | zero => intro _; rfl
        | succ k ih =>
          intro hk
          have ih := ih (by omega)
          rw [tabl_succ, tot_snoc, dots, w32_add, rowOf, tabl_getD _ _ _ _ (by omega)]
          rw [rowOf] at ih
          simp only [IntKind.wrap_i32] at ih ⊢
          omega
      rw [this c (Nat.le_refl _), tabl_succ]
  · show ref04_Apply.L1 N m x (k + 1) _ (r : Int) = _
    rw [ref04_Apply.L1, if_neg (by omega)]; rfl
theorem applyS_len (m : S_api_Mat) (x : List Int) (r c : Nat) : (applyS m x r c).length = r := tabl_len _ _
def quantsS (m : S_api_Mat) (x : List Int) (r c : Nat) : List Int := tabl r fun i => IntKind.i8.wrap (scl ((applyS m x r c).getD i 0) 1 7 (-128) 127)
theorem quants_is {N : Nat} {m : S_api_Mat} {r c : Nat} (h : matR m r c) (hr : r ≤ 200) (hc : c ≤ 200) (hN : 200 < N) (x : List Int) (hx : x.length = c) : ref08_quants N m x = some (quantsS m x r c) := by
  unfold ref08_quants
  rw [show (⟨m.Rows, m.Cols, m.V⟩ : S_api_Mat) = m from rfl, apply_is h hr hc hN x hx, Option.bind_some]
  refine loop_c (fun k (s : List Int) i => ref08_quants.L1 N (applyS m x r c, true) k s i) (fun i => tabl i fun i => IntKind.i8.wrap (scl ((applyS m x r c).getD i 0) 1 7 (-128) 127)) r _ (fun k i hi => ?_) (fun k => ?_) N (by omega)
  · show ref08_quants.L1 N _ (k + 1) _ (i : Int) = ref08_quants.L1 N _ k _ _
    have hl := applyS_len m x r c
    rw [ref08_quants.L1, if_pos (by rw [hl]; omega), idx_d _ 0 (by rw [hl]; omega), Option.bind_some, refscale_is (by omega) _ _ _ _ _ (by decide), Option.bind_some, app_ok _ _ (by rw [tabl_len]; simp only [List.length_cons, List.length_nil]; omega), Option.bind_some, W_succ i (by omega), tabl_succ]
  · show ref08_quants.L1 N _ (k + 1) _ (r : Int) = _
    have hl := applyS_len m x r c
    rw [ref08_quants.L1, if_neg (by rw [hl]; omega)]; rfl
theorem quantsS_len (m : S_api_Mat) (x : List Int) (r c : Nat) : (quantsS m x r c).length = r := tabl_len _ _
end Go.Proofs.YtdipfegofpfhaaaGreat

namespace Go.Proofs.YtdipfegofpfhaaaGreat
open Go Go.Hp
set_option linter.unusedVariables false
set_option linter.unusedSimpArgs false
theorem wu_in {x : Int} (h : 0 ≤ x ∧ x < 18446744073709551616) : IntKind.u64.wrap x = x := by rw [IntKind.wrap_u64]; omega
theorem above_tot (a b c : Int) : ∃ t, ref02_above a b c = some t := by
  unfold ref02_above
  by_cases h1 : a = 0
  · exact ⟨_, if_pos h1⟩
  rw [if_neg h1]
  by_cases h2 : b = 0
  · exact ⟨_, if_pos h2⟩
  rw [if_neg h2, chk_ok _ h2, chk_ok _ h1]
  exact ⟨_, rfl⟩
theorem greatest_tot (x0 x1 : Int) : ∀ (k : Nat) (j1 j2 : Int), 0 ≤ j1 → j1 ≤ j2 → j2 ≤ 4294967296 → j2 - j1 ≤ 2 ^ k → ∃ r, ∀ m, k < m → ref02_greatest.L1 x0 x1 m j1 j2 = some r := by
  intro k
  induction k with
  | zero =>
    intro j1 j2 h0 h1 h2 h3
    refine ⟨j1, fun m hm => ?_⟩
    obtain ⟨m, rfl⟩ : ∃ q, m = q + 1 := ⟨m - 1, by omega⟩
    rw [ref02_greatest.L1, wu_in (by omega), if_neg (by simp at h3; omega)]
  | succ k ih =>
    intro j1 j2 h0 h1 h2 h3
    by_cases c : j2 - j1 > 1
    · obtain ⟨b, hb⟩ := above_tot ((j1 + j2) / 2) x0 x1
      have hp : (2 : Int) ^ (k + 1) = 2 ^ k * 2 := Int.pow_succ 2 k
      have hstep : ∀ m, ref02_greatest.L1 x0 x1 (m + 1) j1 j2 = if b = true then ref02_greatest.L1 x0 x1 m j1 ((j1 + j2) / 2) else ref02_greatest.L1 x0 x1 m ((j1 + j2) / 2) j2 := by
        intro m
        have e : IntKind.u64.wrap (Int.tdiv (IntKind.u64.wrap (j1 + j2)) 2) = (j1 + j2) / 2 := by
          rw [wu_in (x := j1 + j2) (by omega), Int.tdiv_eq_ediv_of_nonneg (by omega), wu_in (by omega)]
        rw [ref02_greatest.L1, wu_in (x := j2 - j1) (by omega), if_pos c, Option.bind_some, e, hb, Option.bind_some]
      cases b with
      | true =>
        obtain ⟨r, hr⟩ := ih j1 ((j1 + j2) / 2) h0 (by omega) (by omega) (by omega)
        refine ⟨r, fun m hm => ?_⟩
        obtain ⟨m, rfl⟩ : ∃ q, m = q + 1 := ⟨m - 1, by omega⟩
        rw [hstep, if_pos rfl]
        exact hr m (by omega)
      | false =>
        obtain ⟨r, hr⟩ := ih ((j1 + j2) / 2) j2 (by omega) (by omega) h2 (by omega)
        refine ⟨r, fun m hm => ?_⟩
        obtain ⟨m, rfl⟩ : ∃ q, m = q + 1 := ⟨m - 1, by omega⟩
        rw [hstep, if_neg (by decide)]
        exact hr m (by omega)
    · refine ⟨j1, fun m hm => ?_⟩
      obtain ⟨m, rfl⟩ : ∃ q, m = q + 1 := ⟨m - 1, by omega⟩
      rw [ref02_greatest.L1, wu_in (by omega), if_neg c]
def invS (n : Int) : Int := (ref02_Inverse 100 n).getD 0
theorem inverse_is {N : Nat} (hN : 100 ≤ N) (n : Int) : ref02_Inverse N n = some (invS n) := by
  unfold invS ref02_Inverse ref02_greatest
  by_cases h : n = 0
  · rw [if_pos h, if_pos h]; rfl
  · rw [if_neg h, if_neg h]
    obtain ⟨r, hr⟩ := greatest_tot n 281474976710656 32 0 4294967296 (by decide) (by decide) (by decide) (by decide)
    rw [hr N (by omega), hr 100 (by omega)]; rfl
def sqS (x : List Int) : Nat → Int
  | 0 => 0
  | k + 1 => IntKind.u64.wrap (sqS x k + IntKind.u64.wrap (IntKind.i64.wrap (min (max (IntKind.i64.wrap (x.getD k 0)) (-8388608)) 8388607 * min (max (IntKind.i64.wrap (x.getD k 0)) (-8388608)) 8388607)))
def normS (g x : List Int) : List Int := tabl x.length fun i => IntKind.i8.wrap (min (max (sh (IntKind.i64.wrap (IntKind.i64.wrap (min (max (IntKind.i64.wrap (x.getD i 0)) (-8388608)) 8388607 * IntKind.i64.wrap (invS (IntKind.u64.wrap (Int.tdiv (sqS x x.length) (IntKind.u64.wrap ((x.length : Nat) : Int)))))) * IntKind.i64.wrap (g.getD i 0))) 23) (-128)) 127)
theorem norm_is {N : Nat} (hN : 200 < N) (g x : List Int) (hg : g.length = x.length) (hl : x.length ≤ 200) : ref05_Norm N g x = some (normS g x) := by
  unfold ref05_Norm
  refine loop_c (fun m (s : Int) i => ref05_Norm.L1 N g x m s i) (fun i => sqS x i) x.length _ (fun m i hi => ?_) (fun m => ?_) N (by omega)
  · show ref05_Norm.L1 N g x (m + 1) _ (i : Int) = ref05_Norm.L1 N g x m _ _
    rw [ref05_Norm.L1, if_pos (by omega), idx_d x 0 hi, Option.bind_some, near_is _ _ _ (by decide), Option.bind_some, Option.bind_some, W_succ i (by omega)]
    rfl
  · show ref05_Norm.L1 N g x (m + 1) _ (x.length : Int) = _
    rw [ref05_Norm.L1, if_neg (by omega)]
    refine loop_c (fun m (s : List Int) i => ref05_Norm.L2 N g x (sqS x x.length) m s i) (fun i => tabl i fun i => IntKind.i8.wrap (min (max (sh (IntKind.i64.wrap (IntKind.i64.wrap (min (max (IntKind.i64.wrap (x.getD i 0)) (-8388608)) 8388607 * IntKind.i64.wrap (invS (IntKind.u64.wrap (Int.tdiv (sqS x x.length) (IntKind.u64.wrap ((x.length : Nat) : Int)))))) * IntKind.i64.wrap (g.getD i 0))) 23) (-128)) 127)) x.length _ (fun m i hi => ?_) (fun m => ?_) N (by omega)
    · show ref05_Norm.L2 N g x _ (m + 1) _ (i : Int) = ref05_Norm.L2 N g x _ m _ _
      have hu : IntKind.u64.wrap ((x.length : Nat) : Int) = ((x.length : Nat) : Int) := wu_in (by omega)
      rw [ref05_Norm.L2, if_pos (by omega), chk_ok _ (by rw [hu]; omega), inverse_is (by omega), Option.bind_some, idx_d x 0 hi, Option.bind_some, near_is _ _ _ (by decide), Option.bind_some, idx_d g 0 (by omega), Option.bind_some, refshift_is (by omega) _ _ (W_range _), Option.bind_some, near_is _ _ _ (by decide), Option.bind_some, app_ok _ _ (by rw [tabl_len]; simp only [List.length_cons, List.length_nil]; omega), Option.bind_some, W_succ i (by omega), tabl_succ]
      rfl
    · show ref05_Norm.L2 N g x _ (m + 1) _ (x.length : Int) = _
      rw [ref05_Norm.L2, if_neg (by omega)]; rfl
theorem normS_len (g x : List Int) : (normS g x).length = x.length := tabl_len _ _
def tbl : List Int := (65536 :: 64132 :: 62757 :: 61413 :: 60097 :: 58809 :: 57549 :: 56316 :: 55109 :: 53928 :: 52773 :: 51642 :: 50535 :: 49452 :: 48393 :: 47356 :: 46341 :: 45348 :: 44376 :: 43425 :: 42495 :: 41584 :: 40693 :: 39821 :: 38968 :: 38133 :: 37316 :: 36516 :: 35734 :: 34968 :: 34219 :: 33486 :: 32768 :: [])
theorem T_is (i : Nat) (h : i < 33) : ref02_T (i : Int) = some (tbl.getD i 0) := by
  unfold ref02_T
  exact (congrArg (fun o => Option.bind o _) (idx_d tbl 0 (show i < tbl.length from h))).trans rfl
def expS (x : Int) : Int :=
  if x > 0 then 65536 else if x < -10000000 then 0 else
    let t := (0 - x) * 94548 / 65536
    if t / 65536 > 31 then 0 else
    IntKind.i32.wrap (sh (IntKind.i64.wrap (tbl.getD (t % 65536 / 2048).toNat 0 - sh (IntKind.i64.wrap (IntKind.i64.wrap (tbl.getD (t % 65536 / 2048).toNat 0 - tbl.getD ((t % 65536 / 2048).toNat + 1) 0) * (t % 65536 % 2048))) 11)) (t / 65536).toNat)
theorem exp_is {N : Nat} (hN : 100 ≤ N) (x : Int) : ref02_Exp N x = some (expS x) := by
  unfold ref02_Exp expS
  by_cases h1 : x > 0
  · rw [if_pos h1, if_pos h1]
  rw [if_neg h1, if_neg h1]
  by_cases h2 : x < -10000000
  · rw [if_pos h2, if_pos h2]
  rw [if_neg h2, if_neg h2]
  have e3 : IntKind.i64.wrap (Int.tdiv (IntKind.i64.wrap (IntKind.i64.wrap (0 - x) * 94548)) 65536) = (0 - x) * 94548 / 65536 := by
    rw [W_in (x := 0 - x) (by omega), W_in (x := (0 - x) * 94548) (by omega), Int.tdiv_eq_ediv_of_nonneg (by omega), W_in (by omega)]
  have ht : 0 ≤ (0 - x) * 94548 / 65536 ∧ (0 - x) * 94548 / 65536 ≤ 20000000 := by omega
  generalize (0 - x) * 94548 / 65536 = t at e3 ht ⊢
  have m1 : Int.tmod t 65536 = t % 65536 := Int.tmod_eq_emod_of_nonneg ht.1
  obtain ⟨i, hi⟩ := Int.eq_ofNat_of_zero_le (show 0 ≤ t % 65536 / 2048 by omega)
  have hi2 : i < 32 := by omega
  have e5 : IntKind.i64.wrap (Int.tdiv (Int.tmod t 65536) 2048) = (i : Int) := by
    rw [m1, Int.tdiv_eq_ediv_of_nonneg (by omega), hi, W_in (by omega)]
  have e6 : Int.tmod (Int.tmod t 65536) 2048 = t % 65536 % 2048 := by rw [m1, Int.tmod_eq_emod_of_nonneg (by omega)]
  have e4 : IntKind.i64.wrap (Int.tdiv t 65536) = t / 65536 := by rw [Int.tdiv_eq_ediv_of_nonneg ht.1, W_in (by omega)]
  rw [e3, Option.bind_some, e4, Option.bind_some, e5, Option.bind_some, e6, Option.bind_some, T_is i (by omega), Option.bind_some, Option.bind_some, W_succ i (by omega), T_is (i + 1) (by omega), Option.bind_some, refshift_is hN _ _ (W_range _), Option.bind_some]
  by_cases h3 : t / 65536 > 31
  · rw [if_pos h3, if_pos h3]
  · rw [if_neg h3, if_neg h3, refshift_is hN _ _ (W_range _), Option.bind_some, hi, Int.toNat_natCast]
    rw [show min (max (t / 65536) 0) 62 = t / 65536 by omega]
    rfl
theorem w32_range (x : Int) : -2147483648 ≤ IntKind.i32.wrap x ∧ IntKind.i32.wrap x ≤ 2147483647 := by rw [IntKind.wrap_i32]; omega
theorem expS_range (x : Int) : -2147483648 ≤ expS x ∧ expS x ≤ 2147483647 := by
  unfold expS
  split
  · decide
  split
  · decide
  dsimp only
  split
  · decide
  · exact w32_range _
def sumS (x : List Int) : Nat → Int
  | 0 => 0
  | k + 1 => if x.getD k 0 > 0 then sumS x k + x.getD k 0 else sumS x k
def sharesS (t : Int) (x : List Int) : List Int := tabl x.length fun i => if x.getD i 0 > 0 ∧ t > 0 then IntKind.i32.wrap (IntKind.i64.wrap (Int.tdiv (IntKind.i64.wrap (IntKind.i64.wrap (x.getD i 0) * IntKind.i64.wrap t)) (sumS x x.length))) else 0
def in32 (x : List Int) : Prop := ∀ k, -2147483648 ≤ x.getD k 0 ∧ x.getD k 0 ≤ 2147483647
theorem sumS_range (x : List Int) (h : in32 x) : ∀ k, 0 ≤ sumS x k ∧ sumS x k ≤ 2147483647 * k ∧ ∀ j, j < k → x.getD j 0 ≤ sumS x k
  | 0 => ⟨Int.le_refl _, Int.le_refl _, fun j hj => by omega⟩
  | k + 1 => by
    obtain ⟨a, b, c⟩ := sumS_range x h k
    have := h k
    rw [sumS]
    by_cases hk : x.getD k 0 > 0
    · rw [if_pos hk]
      refine ⟨by omega, by omega, fun j hj => ?_⟩
      by_cases e : j = k
      · subst e; omega
      · have := c j (by omega); omega
    · rw [if_neg hk]
      refine ⟨a, by omega, fun j hj => ?_⟩
      by_cases e : j = k
      · subst e; omega
      · exact c j (by omega)
theorem shares_is {N : Nat} (t : Int) (x : List Int) (h : in32 x) (hl : x.length ≤ 200) (hN : 200 < N) : ref02_Shares N t x = some (sharesS t x) := by
  unfold ref02_Shares
  refine loop_c (fun m (s : Int) i => ref02_Shares.L1 N t x m s i) (fun i => sumS x i) x.length _ (fun m i hi => ?_) (fun m => ?_) N (by omega)
  · show ref02_Shares.L1 N t x (m + 1) _ (i : Int) = ref02_Shares.L1 N t x m _ _
    obtain ⟨a, b, c⟩ := sumS_range x h i
    have hx := h i
    rw [ref02_Shares.L1, if_pos (by omega), idx_d x 0 hi, Option.bind_some]
    by_cases hk : x.getD i 0 > 0
    · rw [if_pos hk, Option.bind_some, Option.bind_some, ref02_Shares.J5, W_succ i (by omega), W_in (x := x.getD i 0) (by omega), W_in (by omega), sumS, if_pos hk]
    · rw [if_neg hk, ref02_Shares.J5, W_succ i (by omega), sumS, if_neg hk]
  · show ref02_Shares.L1 N t x (m + 1) _ (x.length : Int) = _
    rw [ref02_Shares.L1, if_neg (by omega)]
    refine loop_c (fun m (s : List Int) i => ref02_Shares.L2 t x (sumS x x.length) m s i) (fun i => tabl i fun i => if x.getD i 0 > 0 ∧ t > 0 then IntKind.i32.wrap (IntKind.i64.wrap (Int.tdiv (IntKind.i64.wrap (IntKind.i64.wrap (x.getD i 0) * IntKind.i64.wrap t)) (sumS x x.length))) else 0) x.length _ (fun m i hi => ?_) (fun m => ?_) N (by omega)
    · show ref02_Shares.L2 t x _ (m + 1) _ (i : Int) = ref02_Shares.L2 t x _ m _ _
      obtain ⟨a, b, c⟩ := sumS_range x h x.length
      have hx := c i hi
      rw [ref02_Shares.L2, if_pos (by omega), idx_d x 0 hi, Option.bind_some]
      have j4 : ∀ q : Bool, (q = true ↔ x.getD i 0 > 0 ∧ t > 0) → ref02_Shares.J4 t x (sumS x x.length) (tabl i fun i => if x.getD i 0 > 0 ∧ t > 0 then IntKind.i32.wrap (IntKind.i64.wrap (Int.tdiv (IntKind.i64.wrap (IntKind.i64.wrap (x.getD i 0) * IntKind.i64.wrap t)) (sumS x x.length))) else 0) (i : Int) (ref02_Shares.L2 t x (sumS x x.length) m) q = ref02_Shares.L2 t x (sumS x x.length) m (tabl (i + 1) fun i => if x.getD i 0 > 0 ∧ t > 0 then IntKind.i32.wrap (IntKind.i64.wrap (Int.tdiv (IntKind.i64.wrap (IntKind.i64.wrap (x.getD i 0) * IntKind.i64.wrap t)) (sumS x x.length))) else 0) ((i + 1 : Nat) : Int) := by
        intro q hq
        unfold ref02_Shares.J4 ref02_Shares.J3
        rw [W_succ i (by omega), tabl_succ]
        cases q with
        | true =>
          have hc := hq.1 rfl
          rw [if_pos rfl, idx_d x 0 hi, Option.bind_some, chk_ok _ (by omega), Option.bind_some, app_ok _ _ (by rw [tabl_len]; simp only [List.length_cons, List.length_nil]; omega), Option.bind_some, if_pos hc]
        | false =>
          rw [if_neg (by decide), app_ok _ _ (by rw [tabl_len]; simp only [List.length_cons, List.length_nil]; omega), Option.bind_some, if_neg (fun e => by cases hq.2 e)]
          rfl
      by_cases hk : x.getD i 0 > 0
      · rw [if_pos hk]
        exact j4 _ ⟨fun e => ⟨hk, of_decide_eq_true e⟩, fun e => decide_eq_true e.2⟩
      · rw [if_neg hk]
        exact j4 false ⟨fun e => (by cases e), fun e => absurd e.1 hk⟩
    · show ref02_Shares.L2 t x _ (m + 1) _ (x.length : Int) = _
      rw [ref02_Shares.L2, if_neg (by omega)]; rfl
theorem sharesS_len (t : Int) (x : List Int) : (sharesS t x).length = x.length := tabl_len _ _
def topS (x : List Int) (t : Int) : Nat → Int
  | 0 => t
  | k + 1 => if x.getD k 0 > topS x t k then x.getD k 0 else topS x t k
def powS (by_ n : Int) (x : List Int) : List Int := tabl x.length fun i => expS (sh (IntKind.i64.wrap (IntKind.i64.wrap (IntKind.i64.wrap (x.getD i 0) - IntKind.i64.wrap (topS x (x.getD i 0) x.length)) * IntKind.i64.wrap by_)) (min (max n 0) 62).toNat)
def softS (by_ n : Int) (x : List Int) : List Int := sharesS 65536 (powS by_ n x)
theorem softmax_is {N : Nat} (by_ n : Int) (x : List Int) (hl : x.length ≤ 200) (hN : 200 < N) : ref05_Softmax N by_ n x = some (softS by_ n x) := by
  unfold ref05_Softmax
  refine loop_c (fun m (s : List Int) i => ref05_Softmax.L1 N by_ n x m s i) (fun i => tabl i fun i => expS (sh (IntKind.i64.wrap (IntKind.i64.wrap (IntKind.i64.wrap (x.getD i 0) - IntKind.i64.wrap (topS x (x.getD i 0) x.length)) * IntKind.i64.wrap by_)) (min (max n 0) 62).toNat)) x.length _ (fun m i hi => ?_) (fun m => ?_) N (by omega)
  · show ref05_Softmax.L1 N by_ n x (m + 1) _ (i : Int) = ref05_Softmax.L1 N by_ n x m _ _
    rw [ref05_Softmax.L1, if_pos (by omega), idx_d x 0 hi, Option.bind_some]
    refine loop_c (fun q (s : Int) j => ref05_Softmax.L2 N by_ n x (tabl i fun i => expS (sh (IntKind.i64.wrap (IntKind.i64.wrap (IntKind.i64.wrap (x.getD i 0) - IntKind.i64.wrap (topS x (x.getD i 0) x.length)) * IntKind.i64.wrap by_)) (min (max n 0) 62).toNat)) (i : Int) (ref05_Softmax.L1 N by_ n x m) q s j) (fun j => topS x (x.getD i 0) j) x.length _ (fun q j hj => ?_) (fun q => ?_) N (by omega)
    · show ref05_Softmax.L2 N by_ n x _ _ _ (q + 1) _ (j : Int) = _
      rw [ref05_Softmax.L2, if_pos (by omega), idx_d x 0 hj, Option.bind_some]
      by_cases c : x.getD j 0 > topS x (x.getD i 0) j
      · rw [if_pos c, Option.bind_some, ref05_Softmax.J3, W_succ j (by omega), topS, if_pos c]
      · rw [if_neg c, ref05_Softmax.J3, W_succ j (by omega), topS, if_neg c]
    · show ref05_Softmax.L2 N by_ n x _ _ _ (q + 1) _ (x.length : Int) = _
      rw [ref05_Softmax.L2, if_neg (by omega), idx_d x 0 hi, Option.bind_some, refshift_is (by omega) _ _ (W_range _), Option.bind_some, exp_is (by omega), Option.bind_some, app_ok _ _ (by rw [tabl_len]; simp only [List.length_cons, List.length_nil]; omega), Option.bind_some, W_succ i (by omega), tabl_succ]
  · show ref05_Softmax.L1 N by_ n x (m + 1) _ (x.length : Int) = _
    rw [ref05_Softmax.L1, if_neg (by omega)]
    have hp : in32 (powS by_ n x) := by
      intro k
      by_cases hk : k < x.length
      · rw [powS, tabl_getD _ _ _ _ hk]; exact expS_range _
      · rw [List.getD_eq_getElem?_getD, List.getElem?_eq_none (by rw [powS, tabl_len]; omega)]; decide
    have := shares_is (N := N) 65536 (powS by_ n x) hp (by rw [powS, tabl_len]; omega) hN
    rw [powS] at this
    rw [this, Option.bind_some]
    rfl
theorem softS_len (by_ n : Int) (x : List Int) : (softS by_ n x).length = x.length := by rw [softS, sharesS_len, powS, tabl_len]
def accS (ws : List Int) (rows : List (List Int)) (k : Nat) : Nat → Int
  | 0 => 0
  | i + 1 => IntKind.i64.wrap (accS ws rows k i + IntKind.i64.wrap (IntKind.i64.wrap (ws.getD i 0) * IntKind.i64.wrap ((rows.getD i []).getD k 0)))
theorem accS_range (ws : List Int) (rows : List (List Int)) (k : Nat) : ∀ i, -9223372036854775808 ≤ accS ws rows k i ∧ accS ws rows k i ≤ 9223372036854775807
  | 0 => by rw [accS]; decide
  | i + 1 => W_range _
def mixS (ws : List Int) (rows : List (List Int)) (n : Nat) : List Int := tabl n fun k => IntKind.i8.wrap (min (max (sh (accS ws rows k rows.length) 16) (-128)) 127)
theorem mix_is {N : Nat} (ws : List Int) (rows : List (List Int)) (n : Nat) (hw : ws.length = rows.length) (h0 : 0 < rows.length) (hr : rows.length ≤ 200) (hn : ∀ i, i < rows.length → (rows.getD i []).length = n) (hn2 : n ≤ 200) (hN : 200 < N) : ref05_Mix N ws rows = some (mixS ws rows n, true) := by
  unfold ref05_Mix
  rw [if_neg (by omega)]
  have h00 : idx rows (0 : Int) = some (rows.getD 0 []) := idx_d rows [] h0
  have hn0 := hn 0 h0
  refine loop_c (fun m (_ : Unit) i => ref05_Mix.L1 N ws rows m i) (fun _ => ()) rows.length _ (fun m i hi => ?_) (fun m => ?_) N (by omega)
  · show ref05_Mix.L1 N ws rows (m + 1) (i : Int) = ref05_Mix.L1 N ws rows m _
    have := hn i hi
    rw [ref05_Mix.L1, if_pos (by omega), idx_d rows [] hi, Option.bind_some, h00, Option.bind_some, if_neg (by omega), W_succ i (by omega)]
  · show ref05_Mix.L1 N ws rows (m + 1) (rows.length : Int) = _
    rw [ref05_Mix.L1, if_neg (by omega), if_neg (by omega)]
    refine loop_c (fun m (s : List Int) i => ref05_Mix.L2 N ws rows m s i) (fun i => tabl i fun k => IntKind.i8.wrap (min (max (sh (accS ws rows k rows.length) 16) (-128)) 127)) n _ (fun m k hk => ?_) (fun m => ?_) N (by omega)
    · show ref05_Mix.L2 N ws rows (m + 1) _ (k : Int) = ref05_Mix.L2 N ws rows m _ _
      rw [ref05_Mix.L2, h00, Option.bind_some, if_pos (by omega)]
      refine loop_c (fun q (s : Int) j => ref05_Mix.L3 N ws rows (tabl k fun k => IntKind.i8.wrap (min (max (sh (accS ws rows k rows.length) 16) (-128)) 127)) (k : Int) (ref05_Mix.L2 N ws rows m) q s j) (fun j => accS ws rows k j) rows.length _ (fun q j hj => ?_) (fun q => ?_) N (by omega)
      · show ref05_Mix.L3 N ws rows _ _ _ (q + 1) _ (j : Int) = _
        have := hn j hj
        rw [ref05_Mix.L3, if_pos (by omega), idx_d ws 0 (by omega), Option.bind_some, idx_d rows [] hj, Option.bind_some, idx_d _ 0 (by omega), Option.bind_some, W_succ j (by omega)]
        rfl
      · show ref05_Mix.L3 N ws rows _ _ _ (q + 1) _ (rows.length : Int) = _
        rw [ref05_Mix.L3, if_neg (by omega), refshift_is (by omega) _ _ (accS_range _ _ _ _), Option.bind_some, near_is _ _ _ (by decide), Option.bind_some, app_ok _ _ (by rw [tabl_len]; simp only [List.length_cons, List.length_nil]; omega), Option.bind_some, W_succ k (by omega), tabl_succ]
        rfl
    · show ref05_Mix.L2 N ws rows (m + 1) _ (n : Int) = _
      rw [ref05_Mix.L2, h00, Option.bind_some, if_neg (by omega)]; rfl
theorem mixS_len (ws : List Int) (rows : List (List Int)) (n : Nat) : (mixS ws rows n).length = n := tabl_len _ _
def joinS (x y : List Int) (by_ n : Int) : List Int := tabl x.length fun i => IntKind.i32.wrap (x.getD i 0 + scl (y.getD i 0) by_ n (-2147483648) 2147483647)
theorem join_is {N : Nat} (x y : List Int) (by_ n : Int) (h : y.length = x.length) (hl : x.length ≤ 200) (hN : 200 < N) : ref05_Join N x y by_ n = some (joinS x y by_ n) := by
  unfold ref05_Join
  refine loop_c (fun m (s : List Int) i => ref05_Join.L1 N x y by_ n m s i) (fun i => tabl i fun i => IntKind.i32.wrap (x.getD i 0 + scl (y.getD i 0) by_ n (-2147483648) 2147483647)) x.length _ (fun m i hi => ?_) (fun m => ?_) N (by omega)
  · show ref05_Join.L1 N x y by_ n (m + 1) _ (i : Int) = ref05_Join.L1 N x y by_ n m _ _
    have e : IntKind.i32.wrap (tot [IntKind.i64.wrap (x.getD i 0), scl (y.getD i 0) by_ n (-2147483648) 2147483647]) = IntKind.i32.wrap (x.getD i 0 + scl (y.getD i 0) by_ n (-2147483648) 2147483647) := by
      simp only [tot, IntKind.wrap_i64, IntKind.wrap_i32]; omega
    rw [ref05_Join.L1, if_pos (by omega), idx_d x 0 hi, Option.bind_some, idx_d y 0 (by omega), Option.bind_some, refscale_is (by omega) _ _ _ _ _ (by decide), Option.bind_some, wrap_is _ (by simp; omega) (by simp), Option.bind_some, e, app_ok _ _ (by rw [tabl_len]; simp only [List.length_cons, List.length_nil]; omega), Option.bind_some, W_succ i (by omega), tabl_succ]
  · show ref05_Join.L1 N x y by_ n (m + 1) _ (x.length : Int) = _
    rw [ref05_Join.L1, if_neg (by omega)]; rfl
theorem joinS_len (x y : List Int) (by_ n : Int) : (joinS x y by_ n).length = x.length := tabl_len _ _
end Go.Proofs.YtdipfegofpfhaaaGreat

namespace Go.Proofs.YtdipfegofpfhaaaGreat
open Go Go.Hp
set_option linter.unusedVariables false
set_option linter.unusedSimpArgs false
theorem rest_is (x : Int) (hx : -9223372036854775808 ≤ x ∧ x ≤ 9223372036854775807) : ref06_rest x = some (x % 65536) := by
  have a := Int.tmod_lt_of_pos x (show (0 : Int) < 65536 by decide)
  have b := Int.lt_tmod_of_pos x (show (0 : Int) < 65536 by decide)
  have h := Int.tmod_add_mul_tdiv x 65536
  unfold ref06_rest
  by_cases c : Int.tmod x 65536 < 0
  · rw [if_pos c, Option.bind_some, W_in (by omega)]
    congr 1; omega
  · rw [if_neg c]; congr 1; omega
def angS (place pair : Nat) : Int := (place : Int) * (8192 / 2 ^ pair) % 65536
theorem angle_is {N : Nat} (place pair : Nat) (hp : place ≤ 1000) (hq : pair ≤ 13) (hN : 200 < N) : ref06_Angle N (place : Int) (pair : Int) = some (angS place pair) := by
  unfold ref06_Angle
  rw [if_neg (by omega), if_neg (by omega), if_neg (by omega)]
  have hpos : ∀ i, i ≤ 13 → (0 : Int) < 8192 / 2 ^ i ∧ (8192 : Int) / 2 ^ i ≤ 8192 ∧ (8192 : Int) / 2 ^ i / 2 = 8192 / 2 ^ (i + 1) := by decide
  refine loop_c (fun m (s : Int) i => ref06_Angle.L1 (place : Int) (pair : Int) m s i) (fun i => 8192 / 2 ^ i) pair _ (fun m i hi => ?_) (fun m => ?_) N (by omega)
  · show ref06_Angle.L1 _ _ (m + 1) _ (i : Int) = ref06_Angle.L1 _ _ m _ _
    obtain ⟨h1, h2, h3⟩ := hpos i (by omega)
    rw [ref06_Angle.L1, if_pos (by omega), decide_eq_true h1, ref06_Angle.J2, if_pos rfl, Int.tdiv_eq_ediv_of_nonneg (by omega), W_in (by omega), Option.bind_some, W_succ i (by omega), h3]
  · show ref06_Angle.L1 _ _ (m + 1) _ (pair : Int) = _
    obtain ⟨h1, h2, h3⟩ := hpos pair hq
    have hm : (place : Int) * (8192 / 2 ^ pair) ≤ 1000 * 8192 := by
      refine Int.le_trans (Int.mul_le_mul_of_nonneg_right (show (place : Int) ≤ 1000 by omega) (by omega)) ?_
      exact Int.mul_le_mul_of_nonneg_left h2 (by decide)
    have hm0 : 0 ≤ (place : Int) * (8192 / 2 ^ pair) := Int.mul_nonneg (by omega) (by omega)
    rw [ref06_Angle.L1, if_neg (by omega), ref06_Angle.J2, if_neg (by decide), W_in (by omega), rest_is _ (by omega), Option.bind_some]
    rfl
def sinT : List Int := (0 :: 804 :: 1606 :: 2404 :: 3196 :: 3981 :: 4756 :: 5520 :: 6270 :: 7005 :: 7723 :: 8423 :: 9102 :: 9760 :: 10394 :: 11003 :: 11585 :: 12140 :: 12665 :: 13160 :: 13623 :: 14053 :: 14449 :: 14811 :: 15137 :: 15426 :: 15679 :: 15893 :: 16069 :: 16207 :: 16305 :: 16364 :: 16384 :: [])
theorem S_is (i : Nat) (h : i < 33) : ref06_S (i : Int) = some (sinT.getD i 0) := by
  unfold ref06_S
  exact (congrArg (fun o => Option.bind o _) (idx_d sinT 0 (show i < sinT.length from h))).trans rfl
def arcS (f : Int) : Int := if f / 512 < 32 then IntKind.i64.wrap (sinT.getD (f / 512).toNat 0 + sh (IntKind.i64.wrap (IntKind.i64.wrap (sinT.getD ((f / 512).toNat + 1) 0 - sinT.getD (f / 512).toNat 0) * (f % 512))) 9) else sinT.getD 32 0
def sinS (a : Int) : Int :=
  let r := a % 65536; let q := r / 16384; let f := if q = 1 ∨ q = 3 then 16384 - r % 16384 else r % 16384
  if q = 2 ∨ q = 3 then IntKind.i32.wrap (IntKind.i64.wrap (0 - arcS f)) else IntKind.i32.wrap (arcS f)
theorem sin_is {N : Nat} (hN : 200 < N) (a : Int) (ha : -9223372036854775808 ≤ a ∧ a ≤ 9223372036854775807) : ref06_Sin N a = some (sinS a) := by
  have hr : 0 ≤ a % 65536 ∧ a % 65536 < 65536 := by omega
  unfold ref06_Sin sinS
  rw [rest_is a ha, Option.bind_some]
  generalize a % 65536 = r at hr ⊢
  dsimp only
  have eq : IntKind.i64.wrap (Int.tdiv r 16384) = r / 16384 := by rw [Int.tdiv_eq_ediv_of_nonneg hr.1, W_in (by omega)]
  have em : Int.tmod r 16384 = r % 16384 := Int.tmod_eq_emod_of_nonneg hr.1
  have hq : 0 ≤ r / 16384 ∧ r / 16384 ≤ 3 := by omega
  rw [eq, Option.bind_some]
  generalize r / 16384 = q at hq ⊢
  have j1 : ∀ f : Int, 0 ≤ f → f ≤ 16384 → ref06_Sin.J1 N q f = some (if q = 2 ∨ q = 3 then IntKind.i32.wrap (IntKind.i64.wrap (0 - arcS f)) else IntKind.i32.wrap (arcS f)) := by
    intro f h0 h1
    have j3 : ∀ z : Int, ref06_Sin.J3 q z = some (if q = 2 ∨ q = 3 then IntKind.i32.wrap (IntKind.i64.wrap (0 - z)) else IntKind.i32.wrap z) := by
      intro z
      unfold ref06_Sin.J3
      by_cases c2 : q = 2
      · rw [if_pos c2, ref06_Sin.J4, if_pos rfl, if_pos (.inl c2)]; rfl
      · rw [if_neg c2]
        by_cases c3 : q = 3
        · rw [decide_eq_true c3, ref06_Sin.J4, if_pos rfl, if_pos (.inr c3)]; rfl
        · rw [decide_eq_false c3, ref06_Sin.J4, if_neg (by decide), if_neg (by omega)]
    obtain ⟨i, hi⟩ := Int.eq_ofNat_of_zero_le (show 0 ≤ f / 512 by omega)
    have hi2 : i ≤ 32 := by omega
    have e11 : IntKind.i64.wrap (Int.tdiv f 512) = (i : Int) := by rw [Int.tdiv_eq_ediv_of_nonneg h0, hi, W_in (by omega)]
    unfold ref06_Sin.J1
    rw [e11, Option.bind_some, S_is i (by omega), Option.bind_some]
    unfold arcS
    by_cases c : f / 512 < 32
    · rw [if_pos (show (i : Int) < 32 by omega), W_succ i (by omega), S_is (i + 1) (by omega), Option.bind_some, Option.bind_some, refshift_is (by omega) _ _ (W_range _), Option.bind_some, j3, if_pos c, hi, Int.toNat_natCast, Int.tmod_eq_emod_of_nonneg h0]
      rfl
    · obtain rfl : i = 32 := by omega
      rw [if_neg (by decide), j3, if_neg c]
  by_cases c1 : q = 1
  · rw [if_pos c1, ref06_Sin.J2, if_pos rfl, em, W_in (by omega), Option.bind_some, j1 _ (by omega) (by omega), if_pos (show q = 1 ∨ q = 3 from .inl c1)]
  · rw [if_neg c1]
    by_cases c3 : q = 3
    · rw [decide_eq_true c3, ref06_Sin.J2, if_pos rfl, em, W_in (by omega), Option.bind_some, j1 _ (by omega) (by omega), if_pos (show q = 1 ∨ q = 3 from .inr c3)]
    · rw [decide_eq_false c3, ref06_Sin.J2, if_neg (by decide), em, j1 _ (by omega) (by omega), if_neg (show ¬ (q = 1 ∨ q = 3) by omega)]
def cosS (a : Int) : Int := sinS (a % 65536 + 16384)
theorem cos_is {N : Nat} (hN : 200 < N) (a : Int) (ha : -9223372036854775808 ≤ a ∧ a ≤ 9223372036854775807) : ref06_Cos N a = some (cosS a) := by
  unfold ref06_Cos cosS
  rw [rest_is a ha, Option.bind_some, W_in (by omega), sin_is hN _ (by omega), Option.bind_some]
def turnA (place : Nat) (x : List Int) (i : Nat) : Int := IntKind.i8.wrap (min (max (sh (IntKind.i64.wrap (IntKind.i64.wrap (IntKind.i64.wrap (x.getD (2 * i) 0) * IntKind.i64.wrap (cosS (angS place i))) - IntKind.i64.wrap (IntKind.i64.wrap (x.getD (2 * i + 1) 0) * IntKind.i64.wrap (sinS (angS place i))))) 14) (-128)) 127)
def turnB (place : Nat) (x : List Int) (i : Nat) : Int := IntKind.i8.wrap (min (max (sh (IntKind.i64.wrap (IntKind.i64.wrap (IntKind.i64.wrap (x.getD (2 * i) 0) * IntKind.i64.wrap (sinS (angS place i))) + IntKind.i64.wrap (IntKind.i64.wrap (x.getD (2 * i + 1) 0) * IntKind.i64.wrap (cosS (angS place i))))) 14) (-128)) 127)
def turnS (place : Nat) (x : List Int) : List Int := tabl (2 * (x.length / 2)) fun k => if k % 2 = 0 then turnA place x (k / 2) else turnB place x (k / 2)
theorem turn_is {N : Nat} (hN : 200 < N) (place : Nat) (hp : place ≤ 1000) (x : List Int) (hx : x.length ≤ 26) : ref06_Turn N (place : Int) x = some (turnS place x) := by
  unfold ref06_Turn
  obtain ⟨m', s', hs, e⟩ := loop_to (fun m (s : List Int) i => ref06_Turn.L1 N (place : Int) x m s i) (fun i => ((2 * i : Nat) : Int)) (x.length / 2) (fun i s => s = tabl (2 * i) fun k => if k % 2 = 0 then turnA place x (k / 2) else turnB place x (k / 2)) (fun m i s hi hs => by
    refine ⟨_, rfl, ?_⟩
    subst hs
    have ha : 0 ≤ angS place i ∧ angS place i < 65536 := by unfold angS; omega
    have e1 : IntKind.i64.wrap (((2 * i : Nat) : Int) + 1) = ((2 * i + 1 : Nat) : Int) := W_succ _ (by omega)
    have e2 : IntKind.i64.wrap (((2 * i : Nat) : Int) + 2) = ((2 * (i + 1) : Nat) : Int) := by rw [W_in (by omega)]; omega
    have e3 : IntKind.i64.wrap (Int.tdiv ((2 * i : Nat) : Int) 2) = (i : Int) := by rw [Int.tdiv_eq_ediv_of_nonneg (by omega), W_in (by omega)]; omega
    show ref06_Turn.L1 N _ x (m + 1) _ ((2 * i : Nat) : Int) = ref06_Turn.L1 N _ x m _ _
    rw [ref06_Turn.L1, e1, if_pos (by omega), e3, angle_is place i hp (by omega) hN, Option.bind_some, cos_is hN _ (by omega), Option.bind_some, sin_is hN _ (by omega), Option.bind_some, idx_d x 0 (by omega), Option.bind_some, idx_d x 0 (by omega), Option.bind_some,
      refshift_is (by omega) _ _ (W_range _), Option.bind_some, near_is _ _ _ (by decide), Option.bind_some, app_ok _ _ (by rw [tabl_len]; simp only [List.length_cons, List.length_nil]; omega), Option.bind_some, refshift_is (by omega) _ _ (W_range _), Option.bind_some, near_is _ _ _ (by decide), Option.bind_some, app_ok _ _ (by rw [List.length_append, tabl_len]; simp only [List.length_cons, List.length_nil]; omega), Option.bind_some, e2]
    congr 1
    rw [show 2 * (i + 1) = 2 * i + 1 + 1 by omega, tabl_succ, tabl_succ, if_pos (by omega), if_neg (by omega), show 2 * i / 2 = i by omega, show (2 * i + 1) / 2 = i by omega]
    rfl) N [] (by omega) rfl
  subst hs
  refine Eq.trans e ?_
  show ref06_Turn.L1 N _ x (m' + 1) _ ((2 * (x.length / 2) : Nat) : Int) = _
  rw [ref06_Turn.L1, W_succ _ (by omega), if_neg (by omega)]
  rfl
theorem turnS_len (place : Nat) (x : List Int) : (turnS place x).length = 2 * (x.length / 2) := tabl_len _ _
def part (x : List Int) (w h : Nat) : List Int := (x.take ((h + 1) * w)).drop (h * w)
theorem part_len (x : List Int) (w h k : Nat) (hx : x.length = k * w) (hh : h < k) : (part x w h).length = w := by
  have : (h + 1) * w ≤ k * w := Nat.mul_le_mul_right w (by omega)
  unfold part
  rw [List.length_drop, List.length_take, Nat.min_eq_left (by omega), Nat.succ_mul]
  omega
def turnedS (place w : Nat) (x : List Int) : Nat → List Int
  | 0 => []
  | k + 1 => turnedS place w x k ++ turnS place (part x w k)
theorem turnedS_len (place w : Nat) (x : List Int) (n : Nat) (hx : x.length = n * w) (hw : w % 2 = 0) : ∀ k, k ≤ n → (turnedS place w x k).length = k * w
  | 0, _ => by simp [turnedS]
  | k + 1, hk => by
    rw [turnedS, List.length_append, turnedS_len place w x n hx hw k (by omega), turnS_len, part_len x w k n hx (by omega)]
    have : (k + 1) * w = k * w + w := Nat.succ_mul k w
    have : 2 * (w / 2) = w := by omega
    omega
theorem turned_is {N : Nat} (hN : 200 < N) (place w n : Nat) (hp : place ≤ 1000) (x : List Int) (hx : x.length = n * w) (hn : n ≤ 150) (hw : 0 < w) (hw2 : w % 2 = 0) (hw3 : w ≤ 26) : ref08_turned N (place : Int) (w : Int) x = some (turnedS place w x n) := by
  unfold ref08_turned
  have hnw : ∀ i, i ≤ n → i * w ≤ n * w := fun i hi => Nat.mul_le_mul_right w hi
  have hb : n * w ≤ 150 * 26 := Nat.mul_le_mul hn hw3
  obtain ⟨m', s', hs, e⟩ := loop_to (fun m (s : List Int) i => ref08_turned.L1 N (place : Int) (w : Int) x m s i) (fun i => ((i * w : Nat) : Int)) n (fun i s => s = turnedS place w x i) (fun m i s hi hs => by
    refine ⟨_, rfl, ?_⟩
    subst hs
    have h1 := hnw (i + 1) (by omega)
    have h2 : (i + 1) * w = i * w + w := Nat.succ_mul i w
    have e1 : IntKind.i64.wrap (((i * w : Nat) : Int) + (w : Int)) = (((i + 1) * w : Nat) : Int) := by rw [W_in (by omega)]; omega
    have hpl := part_len x w i n hx hi
    show ref08_turned.L1 N _ _ x (m + 1) _ ((i * w : Nat) : Int) = ref08_turned.L1 N _ _ x m _ _
    rw [ref08_turned.L1, if_pos (by omega), e1, chk_ok _ (by omega), Int.toNat_natCast, Int.toNat_natCast]
    have ht := turn_is hN place hp (part x w i) (by omega)
    rw [show (x.take ((i + 1) * w)).drop (i * w) = part x w i from rfl, ht, Option.bind_some, app_ok _ _ (by rw [turnedS_len place w x n hx hw2 i (by omega), turnS_len]; omega), Option.bind_some]
    rfl) N [] (by omega) rfl
  subst hs
  have e0 : ((0 * w : Nat) : Int) = 0 := by simp
  rw [show ref08_turned.L1 N (place : Int) (w : Int) x N [] 0 = ref08_turned.L1 N (place : Int) (w : Int) x N [] ((0 * w : Nat) : Int) by rw [e0]]
  refine Eq.trans e ?_
  show ref08_turned.L1 N _ _ x (m' + 1) _ ((n * w : Nat) : Int) = _
  rw [ref08_turned.L1, if_neg (by omega)]
end Go.Proofs.YtdipfegofpfhaaaGreat

namespace Go.Proofs.YtdipfegofpfhaaaGreat
open Go Go.Hp
set_option linter.unusedVariables false
set_option linter.unusedSimpArgs false
set_option linter.unusedSectionVars false
structure Dim where
  ly : Nat
  h : Nat
  wd : Nat
  inn : Nat
  voc : Nat
  pl : Nat
def Dim.w (d : Dim) : Nat := d.h * d.wd
structure DOK (d : Dim) : Prop where
  ly : 0 < d.ly ∧ d.ly ≤ 3
  h : 0 < d.h ∧ d.h ≤ 4
  wd : 0 < d.wd ∧ d.wd % 2 = 0 ∧ d.wd ≤ 16
  w : d.h * d.wd ≤ 16
  inn : 0 < d.inn ∧ d.inn ≤ 8
  voc : 0 < d.voc ∧ d.voc ≤ 10
  pl : d.pl ≤ 12
structure BOK (d : Dim) (b : S_api_Block) : Prop where
  first : b.First.length = d.w
  second : b.Second.length = d.w
  q : matR b.Q d.w d.w
  k : matR b.K d.w d.w
  v : matR b.V d.w d.w
  o : matR b.O d.w d.w
  up : matR b.Up d.inn d.w
  down : matR b.Down d.w d.inn
structure WOK (d : Dim) (w : S_api_Weights) : Prop where
  layers : w.Shape.Layers = d.ly
  width : w.Shape.Width = (d.w : Nat)
  heads : w.Shape.Heads = d.h
  inner : w.Shape.Inner = d.inn
  vocab : w.Shape.Vocab = d.voc
  places : w.Shape.Places = d.pl
  embed : matR w.Embed d.voc d.w
  blen : w.Blocks.length = d.ly
  blocks : ∀ b ∈ w.Blocks, BOK d b
  last : w.Last.length = d.w
  head : matR w.Head d.voc d.w
def zB : S_api_Block := ⟨[], [], ⟨0, 0, []⟩, ⟨0, 0, []⟩, ⟨0, 0, []⟩, ⟨0, 0, []⟩, ⟨0, 0, []⟩, ⟨0, 0, []⟩⟩
def zK : S_ref08_Kept := ⟨[], []⟩
def KOK (d : Dim) (n : Nat) (k : S_ref08_Kept) : Prop := k.K.length = n ∧ k.V.length = n ∧ (∀ r ∈ k.K, r.length = d.w) ∧ ∀ r ∈ k.V, r.length = d.w
def headS (d : Dim) (L : List S_ref08_Kept) (n : Nat) (q : List Int) (h : Nat) : List Int :=
  mixS (softS 64 0 (tabl L.length fun p => IntKind.i32.wrap (dots (part q d.wd h) (part ((L.getD p zK).K.getD n []) d.wd h) d.wd))) (tabl L.length fun p => part ((L.getD p zK).V.getD n []) d.wd h) d.wd
def attS (d : Dim) (L : List S_ref08_Kept) (n : Nat) (q : List Int) : Nat → List Int
  | 0 => []
  | k + 1 => attS d L n q k ++ headS d L n q k
def reluS (u : List Int) : List Int := tabl u.length fun i => if u.getD i 0 < 0 then 0 else u.getD i 0
def qS (d : Dim) (b : S_api_Block) (place : Nat) (x : List Int) : List Int := turnedS place d.wd (quantsS b.Q (normS b.First x) d.w d.w) d.h
def kS (d : Dim) (b : S_api_Block) (place : Nat) (x : List Int) : List Int := turnedS place d.wd (quantsS b.K (normS b.First x) d.w d.w) d.h
def vS (d : Dim) (b : S_api_Block) (x : List Int) : List Int := quantsS b.V (normS b.First x) d.w d.w
def tailS (d : Dim) (b : S_api_Block) (x heads : List Int) : List Int :=
  let x1 := joinS x (applyS b.O heads d.w d.w) 1 4
  joinS x1 (applyS b.Down (reluS (quantsS b.Up (normS b.Second x1) d.inn d.w)) d.w d.inn) 1 4
def layersS (d : Dim) (w : S_api_Weights) (L : List S_ref08_Kept) (x : List Int) : Nat → S_ref08_Kept × List Int
  | 0 => (zK, x)
  | n + 1 =>
    let s := layersS d w L x n
    let b := w.Blocks.getD n zB
    let k : S_ref08_Kept := ⟨s.1.K ++ [kS d b L.length s.2], s.1.V ++ [vS d b s.2]⟩
    (k, tailS d b s.2 (attS d (L ++ [k]) n (qS d b L.length s.2) d.h))
def inS (d : Dim) (w : S_api_Weights) (t : Nat) : List Int := tabl d.w fun i => IntKind.i32.wrap (16 * IntKind.i32.wrap (w.Embed.V.getD (t * d.w + i) 0))
def keptS (d : Dim) (w : S_api_Weights) (L : List S_ref08_Kept) (t : Nat) : S_ref08_Kept := (layersS d w L (inS d w t) d.ly).1
def outS (d : Dim) (w : S_api_Weights) (L : List S_ref08_Kept) (t : Nat) : List Int := applyS w.Head (normS w.Last (layersS d w L (inS d w t) d.ly).2) d.voc d.w
theorem getD_in {α : Type} (l : List α) (z : α) (k : Nat) (h : k < l.length) : l.getD k z ∈ l := by
  rw [List.getD_eq_getElem?_getD, List.getElem?_eq_getElem h]; exact List.getElem_mem h
theorem matR_eta (m : S_api_Mat) : (⟨m.Rows, m.Cols, m.V⟩ : S_api_Mat) = m := rfl
section
variable {d : Dim} (hd : DOK d)
include hd
theorem dw16 : d.w ≤ 16 := hd.w
theorem headS_len (L : List S_ref08_Kept) (n : Nat) (q : List Int) (h : Nat) : (headS d L n q h).length = d.wd := mixS_len _ _ _
theorem attS_len (L : List S_ref08_Kept) (n : Nat) (q : List Int) : ∀ k, (attS d L n q k).length = k * d.wd
  | 0 => by simp [attS]
  | k + 1 => by rw [attS, List.length_append, attS_len L n q k, headS_len hd, Nat.succ_mul]
theorem part_is (x : List Int) (h : Nat) (hx : x.length = d.w) (hh : h < d.h) : (0 : Int) ≤ IntKind.i64.wrap ((h : Int) * (d.wd : Int)) ∧ IntKind.i64.wrap ((h : Int) * (d.wd : Int)) ≤ IntKind.i64.wrap (IntKind.i64.wrap ((h : Int) + 1) * (d.wd : Int)) ∧ IntKind.i64.wrap (IntKind.i64.wrap ((h : Int) + 1) * (d.wd : Int)) ≤ ((x.length : Nat) : Int) ∧ ((x.take (IntKind.i64.wrap (IntKind.i64.wrap ((h : Int) + 1) * (d.wd : Int))).toNat).drop (IntKind.i64.wrap ((h : Int) * (d.wd : Int))).toNat) = part x d.wd h := by
  have h1 : (h + 1) * d.wd ≤ d.h * d.wd := Nat.mul_le_mul_right _ (by omega)
  have h2 := hd.w
  have h3 : (h + 1) * d.wd = h * d.wd + d.wd := Nat.succ_mul _ _
  have e1 : (h : Int) * (d.wd : Int) = ((h * d.wd : Nat) : Int) := by simp
  have e2 : ((h + 1 : Nat) : Int) * (d.wd : Int) = (((h + 1) * d.wd : Nat) : Int) := by simp
  rw [W_succ h (by have := hd.h; omega), e1, e2, W_in (x := ((h * d.wd : Nat) : Int)) (by omega), W_in (by omega), Int.toNat_natCast, Int.toNat_natCast]
  have : d.w = d.h * d.wd := rfl
  exact ⟨by omega, by omega, by omega, rfl⟩
theorem relu_loop {N : Nat} (hN : 200 < N) (j69 : Int) (b : S_api_Block) (j256 : S_ref08_Run) (r271 u : List Int) (hu : u.length ≤ 100) (k2 : S_ref08_Run → List Int → Int → Option (List Int × S_ref08_Run)) :
    ∃ m, ref08_Run_One.L4 N j69 b j256 r271 u k2 N u 0 = ref08_Run_One.L4 N j69 b j256 r271 u k2 (m + 1) (reluS u) ((u.length : Nat) : Int) := by
  obtain ⟨m', s', hs, e⟩ := loop_to (fun m (s : List Int) i => ref08_Run_One.L4 N j69 b j256 r271 u k2 m s i) (fun i => (i : Int)) u.length (fun i s => s = tabl u.length fun k => if k < i ∧ u.getD k 0 < 0 then 0 else u.getD k 0) (fun m i s hi hs => by
    refine ⟨_, rfl, ?_⟩
    subst hs
    show ref08_Run_One.L4 N j69 b j256 r271 u k2 (m + 1) _ (i : Int) = _
    rw [ref08_Run_One.L4, if_pos (by omega), idx_t _ hi, Option.bind_some, if_neg (show ¬ (i < i ∧ u.getD i 0 < 0) by omega)]
    by_cases c : u.getD i 0 < 0
    · rw [if_pos c, Option.bind_some, ref08_Run_One.J5, W_succ i (by omega), Int.toNat_natCast, tabl_set]
      congr 1
      refine tabl_congr fun j hj => ?_
      by_cases e : j = i
      · subst e; rw [if_pos rfl, if_pos ⟨by omega, c⟩]
      · rw [if_neg e]
        by_cases e2 : j < i ∧ u.getD j 0 < 0
        · rw [if_pos e2, if_pos ⟨by omega, e2.2⟩]
        · rw [if_neg e2, if_neg (by omega)]
    · rw [if_neg c, ref08_Run_One.J5, W_succ i (by omega)]
      congr 1
      refine tabl_congr fun j hj => ?_
      by_cases e : j = i
      · subst e; rw [if_neg (by omega), if_neg (by omega)]
      · by_cases e2 : j < i ∧ u.getD j 0 < 0
        · rw [if_pos e2, if_pos ⟨by omega, e2.2⟩]
        · rw [if_neg e2, if_neg (by omega)]) N u (by omega) (by
    conv => lhs; rw [tab_of u 0]
    exact tabl_congr fun j hj => by rw [if_neg (by omega)])
  refine ⟨m', e.trans ?_⟩
  show ref08_Run_One.L4 N j69 b j256 r271 u k2 (m' + 1) s' ((u.length : Nat) : Int) = _
  rw [hs]
  congr 1
  refine tabl_congr fun j hj => ?_
  by_cases e : u.getD j 0 < 0
  · rw [if_pos ⟨hj, e⟩, if_pos e]
  · rw [if_neg (fun h => e h.2), if_neg e]
theorem head_is {N : Nat} (hN : 200 < N) (x0 j256 : S_ref08_Run) (L : List S_ref08_Kept) (n : Nat) (hn : n < d.ly) (hL : L.length ≤ 100) (hL0 : L ≠ []) (hj : j256.L = L) (hx0 : x0.L.length + 1 = L.length) (hK : ∀ k ∈ L, n < k.K.length ∧ n < k.V.length ∧ (∀ r ∈ k.K, r.length = d.w) ∧ ∀ r ∈ k.V, r.length = d.w)
    (q j257 : List Int) (hq : q.length = d.w) (h : Nat) (hh : h < d.h) (hj2 : j257.length ≤ 1000) (k3 : S_ref08_Run → List Int → Int → Option (List Int × S_ref08_Run)) :
    ref08_Run_One.L6 N x0 (d.wd : Int) (n : Int) q j256 j257 (h : Int) k3 N [] [] 0 = k3 j256 (j257 ++ headS d L n q h) ((h + 1 : Nat) : Int) := by
  have hlp : 0 < L.length := List.length_pos_iff.2 hL0
  have hdd := hd.h; have hly := hd.ly; have hw := hd.w; have hwd := hd.wd
  have hkk : ∀ p, p < L.length → ((L.getD p zK).K.getD n []).length = d.w ∧ ((L.getD p zK).V.getD n []).length = d.w := fun p hp => by
    obtain ⟨a, b, c, e⟩ := hK _ (getD_in L zK p hp)
    exact ⟨c _ (getD_in _ _ _ a), e _ (getD_in _ _ _ b)⟩
  refine loop_c (fun m (s : List Int × List (List Int)) i => ref08_Run_One.L6 N x0 (d.wd : Int) (n : Int) q j256 j257 (h : Int) k3 m s.1 s.2 i) (fun p => (tabl p fun p => IntKind.i32.wrap (dots (part q d.wd h) (part ((L.getD p zK).K.getD n []) d.wd h) d.wd), tabl p fun p => part ((L.getD p zK).V.getD n []) d.wd h)) L.length _ (fun m p hp => ?_) (fun m => ?_) N (by omega)
  · show ref08_Run_One.L6 N x0 _ _ q j256 j257 _ k3 (m + 1) (tabl p _) (tabl p _) (p : Int) = ref08_Run_One.L6 N x0 _ _ q j256 j257 _ k3 m (tabl (p + 1) _) (tabl (p + 1) _) _
    obtain ⟨a, b, c, e⟩ := hK _ (getD_in L zK p hp)
    obtain ⟨k1, k2⟩ := hkk p hp
    obtain ⟨q1, q2, q3, q4⟩ := part_is hd q h hq hh
    obtain ⟨p1, p2, p3, p4⟩ := part_is hd _ h k1 hh
    obtain ⟨v1, v2, v3, v4⟩ := part_is hd _ h k2 hh
    have lq := part_len q d.wd h d.h (by rw [hq]; rfl) hh
    have lk := part_len _ d.wd h d.h (by rw [k1]; rfl) hh
    have hdot := dot_is (N := N) (part q d.wd h) (part ((L.getD p zK).K.getD n []) d.wd h) (by rw [lq, lk]) (by rw [lq]; omega) (by rw [lq]; omega)
    rw [lq] at hdot
    rw [ref08_Run_One.L6, if_pos (by omega), chk_ok _ ⟨q1, q2, q3⟩, hj, idx_d L zK hp, Option.bind_some, idx_d _ [] a, Option.bind_some, chk_ok _ ⟨p1, p2, p3⟩, q4, p4, hdot, Option.bind_some, app_ok _ _ (by rw [tabl_len]; simp only [List.length_cons, List.length_nil]; omega), Option.bind_some, idx_d _ [] b, Option.bind_some, chk_ok _ ⟨v1, v2, v3⟩, v4, app_ok _ _ (by rw [tabl_len]; simp only [List.length_cons, List.length_nil]; omega), Option.bind_some, W_succ p (by omega), tabl_succ, tabl_succ]
  · show ref08_Run_One.L6 N x0 _ _ q j256 j257 _ k3 (m + 1) (tabl L.length _) (tabl L.length _) (L.length : Int) = _
    have hmx := mix_is (N := N) (softS 64 0 (tabl L.length fun p => IntKind.i32.wrap (dots (part q d.wd h) (part ((L.getD p zK).K.getD n []) d.wd h) d.wd))) (tabl L.length fun p => part ((L.getD p zK).V.getD n []) d.wd h) d.wd (by rw [softS_len, tabl_len, tabl_len]) (by rw [tabl_len]; exact hlp) (by rw [tabl_len]; omega) (fun i hi => by
      rw [tabl_len] at hi
      rw [tabl_getD _ _ _ _ hi]
      exact part_len _ d.wd h d.h (by rw [(hkk i hi).2]; rfl) hh) (by omega) hN
    rw [ref08_Run_One.L6, if_neg (by omega), softmax_is _ _ _ (by rw [tabl_len]; omega) hN, Option.bind_some, hmx, Option.bind_some, app_ok _ _ (by rw [mixS_len]; omega), Option.bind_some, W_succ h (by omega)]
    rfl
end
end Go.Proofs.YtdipfegofpfhaaaGreat

namespace Go.Proofs.YtdipfegofpfhaaaGreat
open Go Go.Hp
set_option linter.unusedVariables false
set_option linter.unusedSimpArgs false
set_option linter.unusedSectionVars false
theorem set_last {α : Type} (l : List α) (a b : α) : (l ++ [a]).set (((l.length : Nat) : Int)).toNat b = l ++ [b] := by
  rw [Int.toNat_natCast]; simp
theorem idx_last {α : Type} (l : List α) (a : α) : idx (l ++ [a]) ((l.length : Nat) : Int) = some a := by rw [idx_nat]; simp
section
variable {d : Dim} (hd : DOK d)
include hd
theorem kS_len {b : S_api_Block} (hb : BOK d b) (place : Nat) (x : List Int) : (kS d b place x).length = d.w := by
  rw [kS, turnedS_len place d.wd _ d.h (by rw [quantsS_len]; rfl) hd.wd.2.1 d.h (Nat.le_refl _)]; rfl
theorem qS_len {b : S_api_Block} (hb : BOK d b) (place : Nat) (x : List Int) : (qS d b place x).length = d.w := by
  rw [qS, turnedS_len place d.wd _ d.h (by rw [quantsS_len]; rfl) hd.wd.2.1 d.h (Nat.le_refl _)]; rfl
theorem vS_len (b : S_api_Block) (x : List Int) : (vS d b x).length = d.w := quantsS_len _ _ _ _
theorem tailS_len (b : S_api_Block) (x heads : List Int) (hx : x.length = d.w) : (tailS d b x heads).length = d.w := by
  unfold tailS; dsimp only; rw [joinS_len, joinS_len, hx]
theorem layersS_ok {w : S_api_Weights} (hw : WOK d w) (L : List S_ref08_Kept) (x : List Int) (hx : x.length = d.w) : ∀ n, n ≤ d.ly → KOK d n (layersS d w L x n).1 ∧ (layersS d w L x n).2.length = d.w
  | 0, _ => ⟨⟨rfl, rfl, by simp [layersS, zK], by simp [layersS, zK]⟩, hx⟩
  | n + 1, hn => by
    obtain ⟨⟨a, b, c, e⟩, f⟩ := layersS_ok hw L x hx n (by omega)
    have hb : BOK d (w.Blocks.getD n zB) := hw.blocks _ (getD_in _ _ _ (by have := hw.blen; omega))
    rw [layersS]
    dsimp only
    refine ⟨⟨by simp [a], by simp [b], fun r hr => ?_, fun r hr => ?_⟩, tailS_len hd _ _ _ f⟩
    · rcases List.mem_append.1 hr with h | h
      · exact c r h
      · rw [List.mem_singleton] at h; rw [h]; exact kS_len hd hb _ _
    · rcases List.mem_append.1 hr with h | h
      · exact e r h
      · rw [List.mem_singleton] at h; rw [h]; exact vS_len hd _ _
theorem tail_is {N : Nat} (hN : 200 < N) {b : S_api_Block} (hb : BOK d b) (n : Nat) (j256 : S_ref08_Run) (x heads : List Int) (hx : x.length = d.w) (hh : heads.length = d.w) (hn : n ≤ 100) (k2 : S_ref08_Run → List Int → Int → Option (List Int × S_ref08_Run)) :
    ((ref04_Apply N (⟨b.O.Rows, b.O.Cols, b.O.V⟩ : S_api_Mat) heads).bind fun r265 => (ref05_Join N x r265.1 1 4).bind fun r271 => (ref05_Norm N b.Second r271).bind fun r278 => (ref08_quants N (⟨b.Up.Rows, b.Up.Cols, b.Up.V⟩ : S_api_Mat) r278).bind fun r284 => ref08_Run_One.L4 N (n : Int) b j256 r271 r284 k2 N r284 0) = k2 j256 (tailS d b x heads) ((n + 1 : Nat) : Int) := by
  have hw := dw16 hd; have hi := hd.inn
  rw [matR_eta, apply_is hb.o (by omega) (by omega) hN _ hh, Option.bind_some, join_is _ _ _ _ (by rw [applyS_len, hx]) (by omega) hN, Option.bind_some]
  have hx1 := joinS_len x (applyS b.O heads d.w d.w) 1 4
  rw [norm_is hN _ _ (by rw [hx1, hx]; exact hb.second) (by rw [hx1]; omega), Option.bind_some, matR_eta, quants_is hb.up (by omega) (by omega) hN _ (by rw [normS_len, hx1, hx]), Option.bind_some]
  have hq := quantsS_len b.Up (normS b.Second (joinS x (applyS b.O heads d.w d.w) 1 4)) d.inn d.w
  obtain ⟨m, e⟩ := relu_loop hd hN (n : Int) b j256 (joinS x (applyS b.O heads d.w d.w) 1 4) (quantsS b.Up (normS b.Second (joinS x (applyS b.O heads d.w d.w) 1 4)) d.inn d.w) (by omega) k2
  rw [e, ref08_Run_One.L4, if_neg (by omega), matR_eta, apply_is hb.down (by omega) (by omega) hN _ (by rw [reluS, tabl_len, hq]), Option.bind_some, join_is _ _ _ _ (by rw [applyS_len, hx1, hx]) (by omega) hN, Option.bind_some, W_succ n (by omega)]
  rfl
theorem one_is {N : Nat} (hN : 200 < N) {w : S_api_Weights} (hw : WOK d w) (L : List S_ref08_Kept) (hL : L.length ≤ 50) (hK : ∀ k ∈ L, KOK d d.ly k) (t : Nat) (ht : t < d.voc) :
    ref08_Run_One N ⟨w, L⟩ (t : Int) = some (outS d w L t, ⟨w, L ++ [keptS d w L t]⟩) := by
  have hww := dw16 hd; have hi := hd.inn; have hh := hd.h; have hwd := hd.wd; have hly := hd.ly; have hvo := hd.voc
  have hdw : d.w = d.h * d.wd := rfl
  have e26 : IntKind.i64.wrap (Int.tdiv w.Shape.Width w.Shape.Heads) = (d.wd : Int) := by
    rw [hw.width, hw.heads, hdw]
    have : ((d.h * d.wd : Nat) : Int) = (d.h : Int) * (d.wd : Int) := by simp
    rw [this, Int.mul_tdiv_cancel_left _ (by omega), W_in (by omega)]
  have hin : (inS d w t).length = d.w := tabl_len _ _
  unfold ref08_Run_One
  rw [chk_ok _ (by show w.Shape.Heads ≠ 0; rw [hw.heads]; omega)]
  show (some (IntKind.i64.wrap (Int.tdiv w.Shape.Width w.Shape.Heads))).bind _ = _
  rw [e26, Option.bind_some]
  have htw : ∀ i, i < d.w → t * d.w + i < d.voc * d.w := fun i hi => by
    have : (t + 1) * d.w ≤ d.voc * d.w := Nat.mul_le_mul_right _ (by omega)
    have h2 : (t + 1) * d.w = t * d.w + d.w := Nat.succ_mul _ _
    omega
  have hvw : d.voc * d.w ≤ 10 * 16 := Nat.mul_le_mul hvo.2 hww
  refine loop_c (fun m (s : List Int) i => ref08_Run_One.L1 N ⟨w, L⟩ (t : Int) (d.wd : Int) m s i) (fun i => tabl i fun i => IntKind.i32.wrap (16 * IntKind.i32.wrap (w.Embed.V.getD (t * d.w + i) 0))) d.w _ (fun m i hi => ?_) (fun m => ?_) N (by omega)
  · show ref08_Run_One.L1 N ⟨w, L⟩ _ _ (m + 1) _ (i : Int) = ref08_Run_One.L1 N ⟨w, L⟩ _ _ m _ _
    have h1 := htw i hi
    have e : IntKind.i64.wrap (IntKind.i64.wrap ((t : Int) * w.Shape.Width) + (i : Int)) = ((t * d.w + i : Nat) : Int) := by
      rw [hw.width]
      have : (t : Int) * ((d.w : Nat) : Int) = ((t * d.w : Nat) : Int) := by simp
      rw [this, W_in (x := ((t * d.w : Nat) : Int)) (by omega), W_in (by omega)]
      omega
    rw [ref08_Run_One.L1]
    show (if (i : Int) < w.Shape.Width then (idx w.Embed.V (IntKind.i64.wrap (IntKind.i64.wrap ((t : Int) * w.Shape.Width) + (i : Int)))).bind _ else _) = _
    rw [if_pos (by rw [hw.width]; omega), e, idx_d w.Embed.V 0 (by rw [hw.embed.2.2]; omega), Option.bind_some, app_ok _ _ (by rw [tabl_len]; simp only [List.length_cons, List.length_nil]; omega), Option.bind_some, W_succ i (by omega), tabl_succ]
  · show ref08_Run_One.L1 N ⟨w, L⟩ _ _ (m + 1) _ (d.w : Int) = _
    rw [ref08_Run_One.L1]
    show (if (d.w : Int) < w.Shape.Width then _ else (app L [(⟨[], []⟩ : S_ref08_Kept)]).bind fun z57 => ref08_Run_One.L2 N ⟨w, L⟩ (d.wd : Int) N ⟨w, z57⟩ (inS d w t) 0) = _
    rw [if_neg (by rw [hw.width]; omega), app_ok _ _ (by simp only [List.length_cons, List.length_nil]; omega), Option.bind_some]
    -- layer by layer
    refine loop_c (fun m (s : S_ref08_Run × List Int) i => ref08_Run_One.L2 N ⟨w, L⟩ (d.wd : Int) m s.1 s.2 i) (fun n => (⟨w, L ++ [(layersS d w L (inS d w t) n).1]⟩, (layersS d w L (inS d w t) n).2)) d.ly _ (fun m n hn => ?_) (fun m => ?_) N (by omega)
    · obtain ⟨⟨k1, k2, k3, k4⟩, k5⟩ := layersS_ok hd hw L (inS d w t) hin n (by omega)
      have hb : BOK d (w.Blocks.getD n zB) := hw.blocks _ (getD_in _ _ _ (by have := hw.blen; omega))
      show ref08_Run_One.L2 N ⟨w, L⟩ (d.wd : Int) (m + 1) ⟨w, L ++ [(layersS d w L (inS d w t) n).1]⟩ (layersS d w L (inS d w t) n).2 (n : Int) = ref08_Run_One.L2 N ⟨w, L⟩ (d.wd : Int) m ⟨w, L ++ [(layersS d w L (inS d w t) (n + 1)).1]⟩ (layersS d w L (inS d w t) (n + 1)).2 ((n + 1 : Nat) : Int)
      rw [layersS]
      dsimp only
      generalize layersS d w L (inS d w t) n = s at k1 k2 k3 k4 k5 ⊢
      generalize hbb : w.Blocks.getD n zB = b at hb ⊢
      have hib : idx w.Blocks (n : Int) = some b := by rw [idx_d w.Blocks zB (by have := hw.blen; omega), hbb]
      have hnl : (normS b.First s.2).length = d.w := by rw [normS_len, k5]
      rw [ref08_Run_One.L2]
      show (if (n : Int) < w.Shape.Layers then (idx w.Blocks (n : Int)).bind _ else _) = _
      rw [if_pos (by rw [hw.layers]; omega), hib, Option.bind_some, norm_is hN _ _ (by rw [k5]; exact hb.first) (by omega), Option.bind_some, matR_eta, quants_is hb.q (by omega) (by omega) hN _ hnl, Option.bind_some, turned_is hN L.length d.wd d.h (by omega) _ (by rw [quantsS_len]; rfl) (by omega) hwd.1 hwd.2.1 (by omega), Option.bind_some]
      show (idx (L ++ [s.1]) ((L.length : Nat) : Int)).bind _ = _
      rw [idx_last, Option.bind_some, matR_eta, quants_is hb.k (by omega) (by omega) hN _ hnl, Option.bind_some, turned_is hN L.length d.wd d.h (by omega) _ (by rw [quantsS_len]; rfl) (by omega) hwd.1 hwd.2.1 (by omega), Option.bind_some, app_ok _ _ (by simp only [List.length_cons, List.length_nil]; omega), Option.bind_some, matR_eta, quants_is hb.v (by omega) (by omega) hN _ hnl, Option.bind_some, app_ok _ _ (by simp only [List.length_cons, List.length_nil]; omega), Option.bind_some]
      show ref08_Run_One.L3 N ⟨w, L⟩ (d.wd : Int) s.2 (n : Int) b (qS d b L.length s.2) (ref08_Run_One.L2 N ⟨w, L⟩ (d.wd : Int) m) N ⟨w, (L ++ [s.1]).set (((L.length : Nat) : Int)).toNat ⟨s.1.K ++ [kS d b L.length s.2], s.1.V ++ [vS d b s.2]⟩⟩ [] 0 = _
      rw [set_last]
      -- head by head
      have hKL : ∀ k ∈ L ++ [(⟨s.1.K ++ [kS d b L.length s.2], s.1.V ++ [vS d b s.2]⟩ : S_ref08_Kept)], n < k.K.length ∧ n < k.V.length ∧ (∀ r ∈ k.K, r.length = d.w) ∧ ∀ r ∈ k.V, r.length = d.w := by
        intro k hk
        rcases List.mem_append.1 hk with h | h
        · obtain ⟨a, b', c, e⟩ := hK k h
          exact ⟨by omega, by omega, c, e⟩
        · rw [List.mem_singleton] at h
          subst h
          refine ⟨by simp [k1], by simp [k2], fun r hr => ?_, fun r hr => ?_⟩
          · rcases List.mem_append.1 hr with h | h
            · exact k3 r h
            · rw [List.mem_singleton] at h; rw [h]; exact kS_len hd hb _ _
          · rcases List.mem_append.1 hr with h | h
            · exact k4 r h
            · rw [List.mem_singleton] at h; rw [h]; exact vS_len hd _ _
      refine loop_c (fun q (z : List Int) i => ref08_Run_One.L3 N ⟨w, L⟩ (d.wd : Int) s.2 (n : Int) b (qS d b L.length s.2) (ref08_Run_One.L2 N ⟨w, L⟩ (d.wd : Int) m) q ⟨w, L ++ [⟨s.1.K ++ [kS d b L.length s.2], s.1.V ++ [vS d b s.2]⟩]⟩ z i) (fun h => attS d (L ++ [⟨s.1.K ++ [kS d b L.length s.2], s.1.V ++ [vS d b s.2]⟩]) n (qS d b L.length s.2) h) d.h _ (fun q h hh2 => ?_) (fun q => ?_) N (by omega)
      · show ref08_Run_One.L3 N ⟨w, L⟩ (d.wd : Int) s.2 (n : Int) b _ _ (q + 1) _ _ (h : Int) = _
        have hal := attS_len hd (L ++ [(⟨s.1.K ++ [kS d b L.length s.2], s.1.V ++ [vS d b s.2]⟩ : S_ref08_Kept)]) n (qS d b L.length s.2) h
        have hhw : h * d.wd ≤ d.h * d.wd := Nat.mul_le_mul_right _ (by omega)
        rw [ref08_Run_One.L3]
        show (if (h : Int) < w.Shape.Heads then _ else _) = _
        rw [if_pos (by rw [hw.heads]; omega)]
        exact head_is hd hN ⟨w, L⟩ _ _ n hn (by simp; omega) (by simp) rfl (by simp) hKL _ _ (qS_len hd hb _ _) h hh2 (by omega) _
      · show ref08_Run_One.L3 N ⟨w, L⟩ (d.wd : Int) s.2 (n : Int) b _ _ (q + 1) _ _ (d.h : Int) = _
        rw [ref08_Run_One.L3]
        show (if (d.h : Int) < w.Shape.Heads then _ else _) = _
        rw [if_neg (by rw [hw.heads]; omega)]
        have hal := attS_len hd (L ++ [(⟨s.1.K ++ [kS d b L.length s.2], s.1.V ++ [vS d b s.2]⟩ : S_ref08_Kept)]) n (qS d b L.length s.2) d.h
        exact tail_is hd hN hb n _ s.2 _ k5 hal (by omega) _
    · obtain ⟨k, k5⟩ := layersS_ok hd hw L (inS d w t) hin d.ly (Nat.le_refl _)
      show ref08_Run_One.L2 N ⟨w, L⟩ (d.wd : Int) (m + 1) ⟨w, L ++ [(layersS d w L (inS d w t) d.ly).1]⟩ (layersS d w L (inS d w t) d.ly).2 (d.ly : Int) = _
      rw [ref08_Run_One.L2]
      show (if (d.ly : Int) < w.Shape.Layers then _ else (ref05_Norm N w.Last _).bind _) = _
      rw [if_neg (by rw [hw.layers]; omega), norm_is hN _ _ (by rw [k5]; exact hw.last) (by omega), Option.bind_some]
      show (ref04_Apply N ⟨w.Head.Rows, w.Head.Cols, w.Head.V⟩ _).bind _ = _
      rw [matR_eta, apply_is hw.head (by omega) (by omega) hN _ (by rw [normS_len, k5]), Option.bind_some]
      rfl
theorem outS_len (w : S_api_Weights) (L : List S_ref08_Kept) (t : Nat) : (outS d w L t).length = d.voc := applyS_len _ _ _ _
theorem keptS_ok {w : S_api_Weights} (hw : WOK d w) (L : List S_ref08_Kept) (t : Nat) : KOK d d.ly (keptS d w L t) := (layersS_ok hd hw L _ (tabl_len _ _) d.ly (Nat.le_refl _)).1
end
def stS (d : Dim) (w : S_api_Weights) : List S_ref08_Kept → List Nat → List S_ref08_Kept
  | L, [] => L
  | L, t :: ts => stS d w (L ++ [keptS d w L t]) ts
def lastS (d : Dim) (w : S_api_Weights) : List S_ref08_Kept → List Int → List Nat → List Int
  | _, y, [] => y
  | L, _, t :: ts => lastS d w (L ++ [keptS d w L t]) (outS d w L t) ts
theorem stS_app (d : Dim) (w : S_api_Weights) : ∀ (ts us : List Nat) (L : List S_ref08_Kept), stS d w L (ts ++ us) = stS d w (stS d w L ts) us
  | [], us, L => rfl
  | t :: ts, us, L => by rw [List.cons_append, stS, stS, stS_app d w ts us]
theorem lastS_app (d : Dim) (w : S_api_Weights) : ∀ (ts us : List Nat) (L : List S_ref08_Kept) (y : List Int), lastS d w L y (ts ++ us) = lastS d w (stS d w L ts) (lastS d w L y ts) us
  | [], us, L, y => rfl
  | t :: ts, us, L, y => by rw [List.cons_append, lastS, lastS, stS, lastS_app d w ts us]
theorem stS_len (d : Dim) (w : S_api_Weights) : ∀ (ts : List Nat) (L : List S_ref08_Kept), (stS d w L ts).length = L.length + ts.length
  | [], L => rfl
  | t :: ts, L => by rw [stS, stS_len d w ts, len_app1, List.length_cons]; omega
section
variable {d : Dim} (hd : DOK d)
include hd
theorem stS_ok {w : S_api_Weights} (hw : WOK d w) : ∀ (ts : List Nat) (L : List S_ref08_Kept), (∀ k ∈ L, KOK d d.ly k) → ∀ k ∈ stS d w L ts, KOK d d.ly k
  | [], L, h => h
  | t :: ts, L, h => by
    rw [stS]
    refine stS_ok hw ts _ fun k hk => ?_
    rcases List.mem_append.1 hk with h1 | h1
    · exact h k h1
    · rw [List.mem_singleton] at h1; rw [h1]; exact keptS_ok hd hw L t
theorem lastS_len (w : S_api_Weights) : ∀ (ts : List Nat) (L : List S_ref08_Kept) (y : List Int), (ts ≠ [] ∨ y.length = d.voc) → (lastS d w L y ts).length = d.voc
  | [], L, y, h => by rcases h with h | h; exact absurd rfl h; exact h
  | t :: ts, L, y, _ => by rw [lastS]; exact lastS_len w ts _ _ (.inr (outS_len hd w L t))
end
def toks (ts : List Nat) : List Int := ts.map fun (t : Nat) => (t : Int)
theorem toks_len (ts : List Nat) : (toks ts).length = ts.length := by simp [toks]
theorem toks_app (a b : List Nat) : toks (a ++ b) = toks a ++ toks b := by simp [toks]
theorem toks_get (ts : List Nat) (k : Nat) (h : k < ts.length) : idx (toks ts) (k : Int) = some ((ts.getD k 0 : Nat) : Int) := by
  rw [idx_nat, toks, List.getElem?_map, List.getElem?_eq_getElem h, List.getD_eq_getElem?_getD, List.getElem?_eq_getElem h]; rfl
theorem toks_of (d : Nat) (xs : List Int) (h : ∀ x ∈ xs, 0 ≤ x ∧ x < d) : ∃ ts : List Nat, xs = toks ts ∧ ∀ t ∈ ts, t < d := by
  refine ⟨xs.map Int.toNat, ?_, fun t ht => ?_⟩
  · rw [toks, List.map_map]
    conv => lhs; rw [← List.map_id xs]
    exact List.map_congr_left fun x hx => by have := h x hx; simp; omega
  · obtain ⟨x, hx, rfl⟩ := List.mem_map.1 ht
    have := h x hx; omega
section
variable {d : Dim} (hd : DOK d)
include hd
theorem feed_is {N : Nat} (hN : 200 < N) {w : S_api_Weights} (hw : WOK d w) (L : List S_ref08_Kept) (hL : L.length ≤ 20) (hK : ∀ k ∈ L, KOK d d.ly k) (ts : List Nat) (hts : ∀ t ∈ ts, t < d.voc) (hl : ts.length ≤ 30) :
    ref08_Run_Feed N ⟨w, L⟩ (toks ts) = some (if L.length + ts.length > d.pl then ([], 80, ⟨w, L⟩) else (lastS d w L [] ts, 0, ⟨w, stS d w L ts⟩)) := by
  have hlen := toks_len ts
  unfold ref08_Run_Feed
  refine loop_c (fun m (_ : Unit) i => ref08_Run_Feed.L1 N ⟨w, L⟩ (toks ts) m i) (fun _ => ()) ts.length _ (fun m i hi => ?_) (fun m => ?_) N (by omega)
  · show ref08_Run_Feed.L1 N ⟨w, L⟩ _ (m + 1) (i : Int) = ref08_Run_Feed.L1 N ⟨w, L⟩ _ m _
    have hv := hts _ (getD_in ts 0 i hi)
    rw [ref08_Run_Feed.L1, if_pos (by omega), toks_get ts i hi, Option.bind_some, if_neg (by omega), Option.bind_some]
    show (if ((ts.getD i 0 : Nat) : Int) ≥ w.Shape.Vocab then _ else _) = _
    rw [if_neg (by rw [hw.vocab]; omega), W_succ i (by omega)]
  · show ref08_Run_Feed.L1 N ⟨w, L⟩ _ (m + 1) (ts.length : Int) = _
    rw [ref08_Run_Feed.L1, if_neg (by omega)]
    show (if IntKind.i64.wrap (((L.length : Nat) : Int) + (((toks ts).length : Nat) : Int)) > w.Shape.Places then _ else _) = _
    rw [W_in (by omega), hw.places, hlen]
    by_cases c : L.length + ts.length > d.pl
    · rw [if_pos (by omega), if_pos c]
    · rw [if_neg (by omega), if_neg c]
      have key : ∀ (post pre : List Nat) (m : Nat) (y : List Int), ts = pre ++ post → post.length < m → ref08_Run_Feed.L2 N (toks ts) m ⟨w, stS d w L pre⟩ y (pre.length : Int) = some (lastS d w (stS d w L pre) y post, 0, ⟨w, stS d w L ts⟩) := by
        intro post
        induction post with
        | nil =>
          intro pre m y e hm
          obtain ⟨m, rfl⟩ : ∃ q, m = q + 1 := ⟨m - 1, by omega⟩
          rw [List.append_nil] at e
          rw [ref08_Run_Feed.L2, if_neg (by rw [hlen, e]; omega), e]; rfl
        | cons t post ih =>
          intro pre m y e hm
          obtain ⟨m, rfl⟩ : ∃ q, m = q + 1 := ⟨m - 1, by omega⟩
          have hi : idx (toks ts) (pre.length : Int) = some (t : Int) := by
            rw [e, toks_app]
            have := idx_mid (toks pre) (t : Int) (toks post)
            rw [toks_len] at this
            exact this
          have hsl := stS_len d w pre L
          have hpl : pre.length + post.length + 1 = ts.length := by rw [e]; simp; omega
          rw [ref08_Run_Feed.L2, if_pos (by rw [hlen]; omega), hi, Option.bind_some, one_is hd hN hw (stS d w L pre) (by omega) (stS_ok hd hw pre L hK) t (hts t (by rw [e]; simp)), Option.bind_some, W_succ _ (by omega), ← len_snoc pre t]
          have := ih (pre ++ [t]) m (outS d w (stS d w L pre) t) (by rw [e]; simp) (by simp at hm; omega)
          rw [stS_app] at this
          exact this
      exact key ts [] N [] rfl (by omega)
end
end Go.Proofs.YtdipfegofpfhaaaGreat

namespace Go.Proofs.YtdipfegofpfhaaaGreat
open Go Go.Hp
set_option linter.unusedVariables false
set_option linter.unusedSimpArgs false
set_option linter.unusedSectionVars false
def argS (y : List Int) : Nat → Nat
  | 0 => 0
  | k + 1 => if y.getD k 0 > y.getD (argS y k) 0 then k else argS y k
theorem argS_props (y : List Int) : ∀ k, (∀ j, j < k → y.getD j 0 ≤ y.getD (argS y k) 0) ∧ (∀ j, j < argS y k → y.getD j 0 < y.getD (argS y k) 0) ∧ (argS y k = 0 ∨ argS y k < k)
  | 0 => ⟨fun j hj => by omega, fun j hj => by simp [argS] at hj, .inl rfl⟩
  | k + 1 => by
    obtain ⟨a, b, c⟩ := argS_props y k
    rw [argS]
    by_cases h : y.getD k 0 > y.getD (argS y k) 0
    · rw [if_pos h]
      refine ⟨fun j hj => ?_, fun j hj => ?_, .inr (by omega)⟩
      · by_cases e : j = k
        · subst e; omega
        · have := a j (by omega); omega
      · have := a j hj; omega
    · rw [if_neg h]
      refine ⟨fun j hj => ?_, b, by omega⟩
      by_cases e : j = k
      · subst e; omega
      · exact a j (by omega)
theorem argS_lt (y : List Int) (h : 0 < y.length) : argS y y.length < y.length := by
  obtain ⟨_, _, c⟩ := argS_props y y.length
  omega
def topOk (y : List Int) (j : Nat) : Nat → Bool
  | 0 => true
  | k + 1 => if y.getD k 0 > y.getD j 0 then false else topOk y j k
theorem topOk_iff (y : List Int) (j : Nat) : ∀ k, topOk y j k = true ↔ ∀ i, i < k → y.getD i 0 ≤ y.getD j 0
  | 0 => by simp [topOk]
  | k + 1 => by
    rw [topOk]
    by_cases h : y.getD k 0 > y.getD j 0
    · rw [if_pos h]
      exact ⟨fun e => (by cases e), fun e => by have := e k (by omega); omega⟩
    · rw [if_neg h, topOk_iff y j k]
      exact ⟨fun e i hi => by
        by_cases q : i = k
        · subst q; omega
        · exact e i (by omega), fun e i hi => e i (by omega)⟩
theorem argmax_is {N : Nat} (y : List Int) (h0 : 0 < y.length) (hl : y.length ≤ 200) (hN : 200 < N) : ref01_Argmax N y = some ((argS y y.length : Nat) : Int) := by
  have hA := argS_lt y h0
  obtain ⟨a, b, c⟩ := argS_props y y.length
  have step : ∀ m j, j < y.length → ref01_Argmax.L1 N y (m + 1) (j : Int) = if topOk y j y.length = true then some (j : Int) else ref01_Argmax.L1 N y m ((j + 1 : Nat) : Int) := by
    intro m j hj
    rw [ref01_Argmax.L1, if_pos (by omega)]
    refine loop_c (fun q (s : Bool) i => ref01_Argmax.L2 y (j : Int) (ref01_Argmax.L1 N y m) q s i) (fun i => topOk y j i) y.length _ (fun q i hi => ?_) (fun q => ?_) N (by omega)
    · show ref01_Argmax.L2 y _ _ (q + 1) _ (i : Int) = _
      rw [ref01_Argmax.L2, if_pos (by omega), idx_d y 0 hi, Option.bind_some, idx_d y 0 hj, Option.bind_some, topOk]
      by_cases g : y.getD i 0 > y.getD j 0
      · rw [if_pos g, if_pos g, ref01_Argmax.J3, W_succ i (by omega)]
      · rw [if_neg g, if_neg g, ref01_Argmax.J3, W_succ i (by omega)]
    · show ref01_Argmax.L2 y _ _ (q + 1) _ (y.length : Int) = _
      rw [ref01_Argmax.L2, if_neg (by omega), W_succ j (by omega)]
  unfold ref01_Argmax
  refine loop_c (fun m (_ : Unit) i => ref01_Argmax.L1 N y m i) (fun _ => ()) (argS y y.length) _ (fun m i hi => ?_) (fun m => ?_) N (by omega)
  · show ref01_Argmax.L1 N y (m + 1) (i : Int) = ref01_Argmax.L1 N y m _
    rw [step m i (by omega), if_neg (fun e => by have := (topOk_iff y i y.length).1 e _ hA; have := b i hi; omega)]
  · show ref01_Argmax.L1 N y (m + 1) ((argS y y.length : Nat) : Int) = _
    rw [step m _ hA, if_pos ((topOk_iff y _ _).2 a)]
def genS (d : Dim) (w : S_api_Weights) (p : List Nat) : Nat → List Nat
  | 0 => []
  | i + 1 => genS d w p i ++ [argS (lastS d w [] [] (p ++ genS d w p i)) d.voc]
theorem genS_len (d : Dim) (w : S_api_Weights) (p : List Nat) : ∀ i, (genS d w p i).length = i
  | 0 => rfl
  | i + 1 => by rw [genS, len_app1, genS_len]
theorem lastS_any (d : Dim) (w : S_api_Weights) (L : List S_ref08_Kept) (y z : List Int) : ∀ ts : List Nat, ts ≠ [] → lastS d w L y ts = lastS d w L z ts
  | [], h => absurd rfl h
  | t :: ts, _ => rfl
section
variable {d : Dim} (hd : DOK d)
include hd
theorem genS_lt (w : S_api_Weights) (p : List Nat) (hp : p ≠ []) : ∀ i, ∀ t ∈ genS d w p i, t < d.voc
  | 0, t, h => by simp [genS] at h
  | i + 1, t, h => by
    rw [genS] at h
    rcases List.mem_append.1 h with h | h
    · exact genS_lt w p hp i t h
    · rw [List.mem_singleton] at h
      have hl := lastS_len hd w (p ++ genS d w p i) [] [] (.inl (by simp [hp]))
      have := argS_lt (lastS d w [] [] (p ++ genS d w p i)) (by rw [hl]; exact hd.voc.1)
      rw [hl] at this
      rw [h]; exact this
def gFed (d : Dim) (w : S_api_Weights) (p : List Nat) : Nat → List Nat
  | 0 => []
  | i + 1 => p ++ genS d w p i
def gFeed (d : Dim) (w : S_api_Weights) (p : List Nat) : Nat → List Nat
  | 0 => p
  | i + 1 => [argS (lastS d w [] [] (p ++ genS d w p i)) d.voc]
theorem gFed_app (w : S_api_Weights) (p : List Nat) : ∀ i, gFed d w p i ++ gFeed d w p i = p ++ genS d w p i
  | 0 => by simp [gFed, gFeed, genS]
  | i + 1 => by rw [gFed, gFeed, genS, List.append_assoc]
theorem generate_is {N : Nat} (hN : 200 < N) {w : S_api_Weights} (hw : WOK d w) (p : List Nat) (hp : p ≠ []) (hpv : ∀ t ∈ p, t < d.voc) (most : Nat) (hm : p.length + most ≤ d.pl + 1) (hm0 : 0 < most) :
    ref09_Generate N w (toks p) (most : Int) = some (toks (genS d w p most)) := by
  have hpl := hd.pl
  have hp0 : 0 < p.length := List.length_pos_iff.2 hp
  unfold ref09_Generate
  refine loop_c (fun m (s : S_ref08_Run × List Int × List Int) i => ref09_Generate.L1 N (most : Int) m s.1 s.2.1 s.2.2 i) (fun i => (⟨w, stS d w [] (gFed d w p i)⟩, toks (genS d w p i), toks (gFeed d w p i))) most _ (fun m i hi => ?_) (fun m => ?_) N (by omega)
  · show ref09_Generate.L1 N (most : Int) (m + 1) ⟨w, stS d w [] (gFed d w p i)⟩ (toks (genS d w p i)) (toks (gFeed d w p i)) (i : Int) = ref09_Generate.L1 N (most : Int) m ⟨w, stS d w [] (gFed d w p (i + 1))⟩ (toks (genS d w p (i + 1))) (toks (gFeed d w p (i + 1))) ((i + 1 : Nat) : Int)
    have hgl := genS_len d w p i
    have happ := gFed_app hd w p i
    have hll : (gFed d w p i).length + (gFeed d w p i).length = p.length + i := by
      have := congrArg List.length happ
      simpa [hgl] using this
    have hfe : gFeed d w p i ≠ [] := by cases i with | zero => exact hp | succ i => simp [gFeed]
    have hfv : ∀ t ∈ gFeed d w p i, t < d.voc := by
      intro t ht
      have : t ∈ gFed d w p i ++ gFeed d w p i := List.mem_append_right _ ht
      rw [happ] at this
      rcases List.mem_append.1 this with h | h
      · exact hpv t h
      · exact genS_lt hd w p hp i t h
    have hst := stS_len d w (gFed d w p i) []
    simp only [List.length_nil] at hst
    have hy : lastS d w (stS d w [] (gFed d w p i)) [] (gFeed d w p i) = lastS d w [] [] (p ++ genS d w p i) := by
      rw [← happ, lastS_app]; exact lastS_any d w _ _ _ _ hfe
    have hyl := lastS_len hd w (p ++ genS d w p i) [] [] (.inl (by simp [hp]))
    rw [ref09_Generate.L1, if_pos (by omega), feed_is hd hN hw _ (by omega) (stS_ok hd hw _ [] (by simp)) _ hfv (by omega), Option.bind_some, if_neg (by omega), hy]
    show (ref01_Argmax N (lastS d w [] [] (p ++ genS d w p i))).bind _ = _
    rw [argmax_is _ (by rw [hyl]; exact hd.voc.1) (by rw [hyl]; have := hd.voc; omega) hN, Option.bind_some, app_ok _ _ (by rw [toks_len, hgl]; simp only [List.length_cons, List.length_nil]; omega), Option.bind_some, W_succ i (by omega), hyl]
    have e1 : stS d w (stS d w [] (gFed d w p i)) (gFeed d w p i) = stS d w [] (gFed d w p (i + 1)) := by rw [← stS_app, happ]; rfl
    have e2 : toks (genS d w p i) ++ [((argS (lastS d w [] [] (p ++ genS d w p i)) d.voc : Nat) : Int)] = toks (genS d w p (i + 1)) := by rw [genS, toks_app]; rfl
    rw [e2]
    show ref09_Generate.L1 N (most : Int) m ⟨w, stS d w (stS d w [] (gFed d w p i)) (gFeed d w p i)⟩ _ _ _ = _
    rw [e1]
    rfl
  · show ref09_Generate.L1 N (most : Int) (m + 1) _ _ _ (most : Int) = _
    rw [ref09_Generate.L1, if_neg (by omega)]
end
theorem rest7_is (x : Int) (m : Nat) (h : 0 < m) (hb : m ≤ 1000) : ∃ k : Nat, k < m ∧ ref07_rest x (m : Int) = some (k : Int) := by
  obtain ⟨k, hk, e⟩ := W_restN x m h (by omega)
  refine ⟨k, hk, ?_⟩
  unfold ref07_rest
  rw [chk_ok _ (by omega), chk_ok _ (by omega), e, Option.bind_some]
def shapeS (d : Dim) : S_api_Shape := ⟨(d.ly : Int), ((d.w : Nat) : Int), (d.h : Int), (d.inn : Int), (d.voc : Int), (d.pl : Int)⟩
theorem tiny_is (n : A6_i64) : ∃ d : Dim, DOK d ∧ 2 ≤ d.voc ∧ 4 ≤ d.pl ∧ ref07_Tiny n = some (shapeS d) := by
  obtain ⟨a, ha, ea⟩ := rest7_is n.c2 3 (by decide) (by decide)
  obtain ⟨b, hb, eb⟩ := rest7_is n.c0 3 (by decide) (by decide)
  obtain ⟨c, hc, ec⟩ := rest7_is n.c1 2 (by decide) (by decide)
  obtain ⟨e, he, ee⟩ := rest7_is n.c3 8 (by decide) (by decide)
  obtain ⟨f, hf, ef⟩ := rest7_is n.c4 9 (by decide) (by decide)
  obtain ⟨g, hg, eg⟩ := rest7_is n.c5 9 (by decide) (by decide)
  have hh : ∃ h : Nat, 0 < h ∧ h ≤ 4 ∧ idx ([1, 2, 4] : List Int) (a : Int) = some (h : Int) := by
    match a, ha with
    | 0, _ => exact ⟨1, by decide, by decide, rfl⟩
    | 1, _ => exact ⟨2, by decide, by decide, rfl⟩
    | 2, _ => exact ⟨4, by decide, by decide, rfl⟩
  obtain ⟨h, h0, h4, eh⟩ := hh
  have hw : h * (2 * (1 + c)) ≤ 4 * 4 := Nat.mul_le_mul h4 (by omega)
  refine ⟨⟨1 + b, h, 2 * (1 + c), 1 + e, 2 + f, 4 + g⟩, ⟨by dsimp only; omega, by dsimp only; omega, by dsimp only; omega, hw, by dsimp only; omega, by dsimp only; omega, by dsimp only; omega⟩, by dsimp only; omega, by dsimp only; omega, ?_⟩
  have ea' : ref07_rest n.c2 3 = some (a : Int) := ea
  have eb' : ref07_rest n.c0 3 = some (b : Int) := eb
  have ec' : ref07_rest n.c1 2 = some (c : Int) := ec
  have ee' : ref07_rest n.c3 8 = some (e : Int) := ee
  have ef' : ref07_rest n.c4 9 = some (f : Int) := ef
  have eg' : ref07_rest n.c5 9 = some (g : Int) := eg
  unfold ref07_Tiny
  rw [ea', Option.bind_some, eh, Option.bind_some, eb', Option.bind_some, ec', Option.bind_some, ee', Option.bind_some, ef', Option.bind_some, eg', Option.bind_some]
  have e1 : IntKind.i64.wrap (1 + (b : Int)) = ((1 + b : Nat) : Int) := by rw [W_in (by omega)]; omega
  have e2 : IntKind.i64.wrap (IntKind.i64.wrap (2 * (h : Int)) * IntKind.i64.wrap (1 + (c : Int))) = ((h * (2 * (1 + c)) : Nat) : Int) := by
    rw [W_in (x := 2 * (h : Int)) (by omega), W_in (x := 1 + (c : Int)) (by omega)]
    have : 2 * (h : Int) * (1 + (c : Int)) = ((h * (2 * (1 + c)) : Nat) : Int) := by
      rw [Int.natCast_mul, Int.natCast_mul, Int.natCast_add, Int.mul_comm 2 (h : Int), Int.mul_assoc]; rfl
    rw [this, W_in (by omega)]
  have e3 : IntKind.i64.wrap (1 + (e : Int)) = ((1 + e : Nat) : Int) := by rw [W_in (by omega)]; omega
  have e4 : IntKind.i64.wrap (2 + (f : Int)) = ((2 + f : Nat) : Int) := by rw [W_in (by omega)]; omega
  have e5 : IntKind.i64.wrap (4 + (g : Int)) = ((4 + g : Nat) : Int) := by rw [W_in (by omega)]; omega
  rw [e1, e2, e3, e4, e5]
  rfl
def perL (d : Dim) : Nat := d.w + 4 * (d.w * d.w) + d.w + d.inn * d.w + d.w * d.inn
def countS (d : Dim) : Nat := d.voc * d.w + d.ly * perL d + d.w + d.voc * d.w
def layR (d : Dim) : List S_ref07_Row := [⟨true, ((d.w : Nat) : Int)⟩, ⟨false, ((d.w * d.w : Nat) : Int)⟩, ⟨false, ((d.w * d.w : Nat) : Int)⟩, ⟨false, ((d.w * d.w : Nat) : Int)⟩, ⟨false, ((d.w * d.w : Nat) : Int)⟩, ⟨true, ((d.w : Nat) : Int)⟩, ⟨false, ((d.inn * d.w : Nat) : Int)⟩, ⟨false, ((d.w * d.inn : Nat) : Int)⟩]
def rowsS (d : Dim) : Nat → List S_ref07_Row
  | 0 => [⟨false, ((d.voc * d.w : Nat) : Int)⟩]
  | k + 1 => rowsS d k ++ layR d
def sumN : List S_ref07_Row → Int
  | [] => 0
  | r :: rs => r.N + sumN rs
theorem sumN_app (a b : List S_ref07_Row) : sumN (a ++ b) = sumN a + sumN b := by
  induction a with
  | nil => simp [sumN]
  | cons r rs ih => rw [List.cons_append, sumN, sumN, ih]; omega
section
variable {d : Dim} (hd : DOK d)
include hd
theorem w_mulN (a b : Nat) (h : a * b ≤ 100000) : IntKind.i64.wrap ((a : Int) * (b : Int)) = ((a * b : Nat) : Int) := by
  have : (a : Int) * (b : Int) = ((a * b : Nat) : Int) := by simp
  rw [this, W_in (by omega)]
theorem prods : d.w * d.w ≤ 256 ∧ d.inn * d.w ≤ 128 ∧ d.w * d.inn ≤ 128 ∧ d.voc * d.w ≤ 160 := by
  have h := dw16 hd; have h1 := hd.inn; have h2 := hd.voc
  exact ⟨Nat.mul_le_mul h h, Nat.mul_le_mul h1.2 h, Nat.mul_le_mul h h1.2, Nat.mul_le_mul h2.2 h⟩
theorem rowsS_len : ∀ k, (rowsS d k).length = 1 + 8 * k
  | 0 => rfl
  | k + 1 => by rw [rowsS, List.length_append, rowsS_len k]; simp [layR]; omega
theorem rowsS_sum : ∀ k, sumN (rowsS d k) = ((d.voc * d.w + k * perL d : Nat) : Int)
  | 0 => by simp [rowsS, sumN]
  | k + 1 => by
    rw [rowsS, sumN_app, rowsS_sum k]
    have e : sumN (layR d) = ((perL d : Nat) : Int) := by simp only [layR, sumN, perL]; omega
    rw [e, Nat.succ_mul]; omega
theorem rows_is {N : Nat} (hN : 200 < N) : ref07_Rows N (shapeS d) = some (rowsS d d.ly ++ [⟨true, ((d.w : Nat) : Int)⟩, ⟨false, ((d.voc * d.w : Nat) : Int)⟩]) := by
  obtain ⟨p1, p2, p3, p4⟩ := prods hd
  have hly := hd.ly
  unfold ref07_Rows
  have e0 : IntKind.i64.wrap ((shapeS d).Vocab * (shapeS d).Width) = ((d.voc * d.w : Nat) : Int) := w_mulN hd d.voc d.w (by omega)
  have e1 : IntKind.i64.wrap ((shapeS d).Width * (shapeS d).Width) = ((d.w * d.w : Nat) : Int) := w_mulN hd d.w d.w (by omega)
  have e2 : IntKind.i64.wrap ((shapeS d).Inner * (shapeS d).Width) = ((d.inn * d.w : Nat) : Int) := w_mulN hd d.inn d.w (by omega)
  have e3 : IntKind.i64.wrap ((shapeS d).Width * (shapeS d).Inner) = ((d.w * d.inn : Nat) : Int) := w_mulN hd d.w d.inn (by omega)
  rw [e0]
  refine loop_c (fun m (s : List S_ref07_Row) i => ref07_Rows.L1 (shapeS d) m s i) (fun i => rowsS d i) d.ly _ (fun m i hi => ?_) (fun m => ?_) N (by omega)
  · show ref07_Rows.L1 (shapeS d) (m + 1) _ (i : Int) = ref07_Rows.L1 (shapeS d) m _ _
    have hl := rowsS_len hd i
    rw [ref07_Rows.L1, if_pos (by show (i : Int) < (d.ly : Int); omega), e1, e2, e3, app_ok _ _ (by simp only [List.length_cons, List.length_nil]; omega), Option.bind_some, W_succ i (by omega)]
    rfl
  · show ref07_Rows.L1 (shapeS d) (m + 1) _ (d.ly : Int) = _
    have hl := rowsS_len hd d.ly
    rw [ref07_Rows.L1, if_neg (by show ¬ (d.ly : Int) < (d.ly : Int); omega), e0, app_ok _ _ (by simp only [List.length_cons, List.length_nil]; omega), Option.bind_some]
    rfl
theorem grown_is {N : Nat} (hN : 5000 ≤ N) (seed : Int) : ∃ l : List Int, ref07_Grown N (shapeS d) seed = some l ∧ l.length = countS d := by
  obtain ⟨p1, p2, p3, p4⟩ := prods hd
  have hly := hd.ly; have hw := dw16 hd
  unfold ref07_Grown
  rw [show (⟨(shapeS d).Layers, (shapeS d).Width, (shapeS d).Heads, (shapeS d).Inner, (shapeS d).Vocab, (shapeS d).Places⟩ : S_api_Shape) = shapeS d from rfl, rows_is hd (by omega), Option.bind_some]
  generalize hrs : rowsS d d.ly ++ [(⟨true, ((d.w : Nat) : Int)⟩ : S_ref07_Row), ⟨false, ((d.voc * d.w : Nat) : Int)⟩] = rs
  have hlen : rs.length = 8 * d.ly + 3 := by rw [← hrs, List.length_append, rowsS_len hd]; simp; omega
  have hsum : sumN rs = ((countS d : Nat) : Int) := by
    rw [← hrs, sumN_app, rowsS_sum hd]; simp only [sumN, countS]; omega
  have hrange : ∀ r ∈ rs, 0 ≤ r.N ∧ r.N ≤ 256 := by
    have hlay : ∀ r ∈ layR d, 0 ≤ r.N ∧ r.N ≤ 256 := by
      intro r hr
      simp only [layR, List.mem_cons, List.not_mem_nil, or_false] at hr
      rcases hr with rfl | rfl | rfl | rfl | rfl | rfl | rfl | rfl <;> dsimp only <;> omega
    have hro : ∀ k, ∀ r ∈ rowsS d k, 0 ≤ r.N ∧ r.N ≤ 256 := by
      intro k
      induction k with
      | zero => intro r hr; simp only [rowsS, List.mem_singleton] at hr; subst hr; dsimp only; omega
      | succ k ih => intro r hr; rw [rowsS] at hr; rcases List.mem_append.1 hr with h | h; exact ih r h; exact hlay r h
    intro r hr
    rw [← hrs] at hr
    rcases List.mem_append.1 hr with h | h
    · exact hro _ r h
    · simp only [List.mem_cons, List.not_mem_nil, or_false] at h
      rcases h with rfl | rfl <;> dsimp only <;> omega
  obtain ⟨m', s', hs1, e⟩ := loop_to (fun m (s : List Int × Int) i => ref07_Grown.L1 N rs m s.1 s.2 i) (fun i => (i : Int)) rs.length (fun i s => ((s.1.length : Nat) : Int) = sumN (rs.take i)) (fun m i s hi hs1 => by
    have hri := hrange rs[i] (List.getElem_mem hi)
    obtain ⟨n, hn⟩ := Int.eq_ofNat_of_zero_le hri.1
    have hbnd : sumN (rs.take i) ≤ 256 * i := by
      have : ∀ k, k ≤ rs.length → sumN (rs.take k) ≤ 256 * k := by
        intro k
        induction k with
        | zero => intro _; simp [sumN]
        | succ k ih =>
          intro hk
          have h1 := ih (by omega)
          have h2 := hrange rs[k] (List.getElem_mem (by omega))
          rw [List.take_succ_eq_append_getElem (by omega), sumN_app]
          simp only [sumN]; omega
      exact this i (by omega)
    obtain ⟨m2, z, hz1, e2⟩ := loop_to (fun q (z : List Int × Int) j => ref07_Grown.L2 N rs (i : Int) (ref07_Grown.L1 N rs m) q z.1 z.2 j) (fun j => (j : Int)) n (fun j z => z.1.length = s.1.length + j) (fun q j z hj hz1 => by
      have j3 : ∀ g : Int, ∃ z' : List Int × Int, z'.1.length = s.1.length + (j + 1) ∧ ref07_Grown.J3 z.1 (j : Int) (IntKind.u64.wrap (IntKind.u64.wrap (z.2 * 6364136223846793005) + 1442695040888963407)) (ref07_Grown.L2 N rs (i : Int) (ref07_Grown.L1 N rs m) q) g = ref07_Grown.L2 N rs (i : Int) (ref07_Grown.L1 N rs m) q z'.1 z'.2 ((j + 1 : Nat) : Int) := by
        intro g
        refine ⟨(z.1 ++ [IntKind.i8.wrap g], IntKind.u64.wrap (IntKind.u64.wrap (z.2 * 6364136223846793005) + 1442695040888963407)), by simp [hz1]; omega, ?_⟩
        · unfold ref07_Grown.J3
          rw [app_ok _ _ (by simp only [List.length_cons, List.length_nil]; omega), Option.bind_some, W_succ j (by omega)]
      show ∃ s', _ ∧ ref07_Grown.L2 N rs (i : Int) (ref07_Grown.L1 N rs m) (q + 1) z.1 z.2 (j : Int) = _
      rw [ref07_Grown.L2, idx_get _ _ hi, Option.bind_some, if_pos (by omega), Option.bind_some, Option.bind_some, Option.bind_some]
      by_cases c : rs[i].Gain = true
      · rw [if_pos c, Option.bind_some]; exact j3 _
      · rw [if_neg c]; exact j3 _) N s (by omega) rfl
    refine ⟨z, ?_, ?_⟩
    · rw [List.take_succ_eq_append_getElem hi, sumN_app, ← hs1]
      simp only [sumN]; omega
    · show ref07_Grown.L1 N rs (m + 1) s.1 s.2 (i : Int) = ref07_Grown.L1 N rs m z.1 z.2 ((i + 1 : Nat) : Int)
      rw [ref07_Grown.L1, if_pos (by omega)]
      refine Eq.trans e2 ?_
      show ref07_Grown.L2 N rs (i : Int) (ref07_Grown.L1 N rs m) (m2 + 1) z.1 z.2 (n : Int) = _
      rw [ref07_Grown.L2, idx_get _ _ hi, Option.bind_some, if_neg (by omega), W_succ i (by omega)]) N ([], seed) (by omega) (by simp [sumN])
  refine ⟨s'.1, ?_, ?_⟩
  · refine Eq.trans e ?_
    show ref07_Grown.L1 N rs (m' + 1) s'.1 s'.2 (rs.length : Int) = _
    rw [ref07_Grown.L1, if_neg (by omega)]
  · rw [List.take_length, hsum] at hs1; omega
theorem take_is (l : List Int) (at_ n : Nat) (h : at_ + n ≤ l.length) (hl : l.length ≤ 100000) : ref08_taker_take ⟨l, (at_ : Int)⟩ (n : Int) = some ((l.take (at_ + n)).drop at_, ⟨l, ((at_ + n : Nat) : Int)⟩) := by
  unfold ref08_taker_take
  show chk (0 ≤ (at_ : Int) ∧ (at_ : Int) ≤ IntKind.i64.wrap ((at_ : Int) + (n : Int)) ∧ IntKind.i64.wrap ((at_ : Int) + (n : Int)) ≤ ((l.length : Nat) : Int)) ((app [] ((l.take (IntKind.i64.wrap ((at_ : Int) + (n : Int))).toNat).drop ((at_ : Int)).toNat)).bind fun z10 => some (z10, (⟨l, IntKind.i64.wrap ((at_ : Int) + (n : Int))⟩ : S_ref08_taker))) = _
  have e : IntKind.i64.wrap ((at_ : Int) + (n : Int)) = ((at_ + n : Nat) : Int) := by rw [W_in (by omega)]; omega
  rw [e, chk_ok _ (by omega), Int.toNat_natCast, Int.toNat_natCast, app_ok _ _ (by simp; omega), Option.bind_some, List.nil_append]
theorem takeL (l : List Int) (a n : Nat) (h : a + n ≤ l.length) : ((l.take (a + n)).drop a).length = n := by simp; omega
theorem mat_is (l : List Int) (at_ r c : Nat) (h : at_ + r * c ≤ l.length) (hl : l.length ≤ 100000) : ref08_taker_mat ⟨l, (at_ : Int)⟩ (r : Int) (c : Int) = some (⟨(r : Int), (c : Int), (l.take (at_ + r * c)).drop at_⟩, ⟨l, ((at_ + r * c : Nat) : Int)⟩) := by
  unfold ref08_taker_mat
  rw [w_mulN hd r c (by omega), take_is hd l at_ (r * c) h hl, Option.bind_some]
end
end Go.Proofs.YtdipfegofpfhaaaGreat

namespace Go.Proofs.YtdipfegofpfhaaaGreat
open Go Go.Hp
set_option linter.unusedVariables false
set_option linter.unusedSimpArgs false
set_option linter.unusedSectionVars false
section
variable {d : Dim} (hd : DOK d)
include hd
theorem matR_mk (l : List Int) (at_ r c : Nat) (h : at_ + r * c ≤ l.length) : matR ⟨(r : Int), (c : Int), (l.take (at_ + r * c)).drop at_⟩ r c := ⟨rfl, rfl, takeL hd l at_ (r * c) h⟩
theorem of_is {N : Nat} (hN : 200 < N) (l : List Int) (hl : l.length = countS d) : ∃ w, ref08_Of N (shapeS d) l = some w ∧ WOK d w ∧ w.Shape = shapeS d := by
  obtain ⟨p1, p2, p3, p4⟩ := prods hd
  have hly := hd.ly; have hw := dw16 hd
  have hper : perL d ≤ 1400 := by unfold perL; omega
  have hlp : ∀ i, i ≤ d.ly → i * perL d ≤ d.ly * perL d := fun i hi => Nat.mul_le_mul_right _ hi
  have hl3 : d.ly * perL d ≤ 3 * 1400 := Nat.mul_le_mul hly.2 hper
  have hc : countS d = d.voc * d.w + d.ly * perL d + d.w + d.voc * d.w := rfl
  have hbig : l.length ≤ 100000 := by omega
  have hW : (shapeS d).Width = ((d.w : Nat) : Int) := rfl
  have hV : (shapeS d).Vocab = (d.voc : Int) := rfl
  have hI : (shapeS d).Inner = (d.inn : Int) := rfl
  have hLy : (shapeS d).Layers = (d.ly : Int) := rfl
  unfold ref08_Of
  have e0 : ref08_taker_mat ⟨l, 0⟩ (shapeS d).Vocab (shapeS d).Width = some (⟨(d.voc : Int), ((d.w : Nat) : Int), (l.take (0 + d.voc * d.w)).drop 0⟩, ⟨l, ((0 + d.voc * d.w : Nat) : Int)⟩) := mat_is hd l 0 d.voc d.w (by omega) hbig
  have hemb := matR_mk hd l 0 d.voc d.w (by omega)
  rw [e0, Option.bind_some]
  generalize hm0 : (⟨(d.voc : Int), ((d.w : Nat) : Int), (l.take (0 + d.voc * d.w)).drop 0⟩ : S_api_Mat) = m0 at hemb ⊢
  obtain ⟨m', s', ⟨h1, h2, h3⟩, e⟩ := loop_to (fun m (s : S_ref08_taker × List S_api_Block) i => ref08_Of.L1 (shapeS d) (m0, ⟨l, ((0 + d.voc * d.w : Nat) : Int)⟩) m s.1 s.2 i) (fun i => (i : Int)) d.ly (fun i s => s.1 = ⟨l, ((d.voc * d.w + i * perL d : Nat) : Int)⟩ ∧ s.2.length = i ∧ ∀ b ∈ s.2, BOK d b) (fun m i s hi hs => by
    obtain ⟨h1, h2, h3⟩ := hs
    have hp1 := hlp (i + 1) (by omega)
    have hp2 : (i + 1) * perL d = i * perL d + perL d := Nat.succ_mul _ _
    have hpd : perL d = d.w + 4 * (d.w * d.w) + d.w + d.inn * d.w + d.w * d.inn := rfl
    generalize hA : d.voc * d.w + i * perL d = A at h1
    have hAl : A + perL d ≤ l.length := by omega
    obtain ⟨s1, s2⟩ := s
    dsimp only at h1 h2 h3
    subst h1
    show ∃ s', _ ∧ ref08_Of.L1 (shapeS d) _ (m + 1) _ _ (i : Int) = _
    rw [ref08_Of.L1, hLy, hW, hI, if_pos (by omega), take_is hd l A d.w (by omega) hbig, Option.bind_some, mat_is hd l (A + d.w) d.w d.w (by omega) hbig, Option.bind_some, mat_is hd l (A + d.w + d.w * d.w) d.w d.w (by omega) hbig, Option.bind_some, mat_is hd l (A + d.w + d.w * d.w + d.w * d.w) d.w d.w (by omega) hbig, Option.bind_some,
      mat_is hd l (A + d.w + d.w * d.w + d.w * d.w + d.w * d.w) d.w d.w (by omega) hbig, Option.bind_some, take_is hd l (A + d.w + d.w * d.w + d.w * d.w + d.w * d.w + d.w * d.w) d.w (by omega) hbig, Option.bind_some, mat_is hd l (A + d.w + d.w * d.w + d.w * d.w + d.w * d.w + d.w * d.w + d.w) d.inn d.w (by omega) hbig, Option.bind_some,
      mat_is hd l (A + d.w + d.w * d.w + d.w * d.w + d.w * d.w + d.w * d.w + d.w + d.inn * d.w) d.w d.inn (by omega) hbig, Option.bind_some, app_ok _ _ (by simp only [List.length_cons, List.length_nil]; omega), Option.bind_some, W_succ i (by omega)]
    refine ⟨(_, _), ⟨?_, ?_, ?_⟩, rfl⟩
    · dsimp only
      rw [show A + d.w + d.w * d.w + d.w * d.w + d.w * d.w + d.w * d.w + d.w + d.inn * d.w + d.w * d.inn = d.voc * d.w + (i + 1) * perL d by omega]
    · dsimp only; rw [len_app1, h2]
    · intro b hb
      rcases List.mem_append.1 hb with h | h
      · exact h3 b h
      · rw [List.mem_singleton] at h
        subst h
        exact ⟨takeL hd l _ _ (by omega), takeL hd l _ _ (by omega), matR_mk hd l _ _ _ (by omega), matR_mk hd l _ _ _ (by omega), matR_mk hd l _ _ _ (by omega), matR_mk hd l _ _ _ (by omega), matR_mk hd l _ _ _ (by omega), matR_mk hd l _ _ _ (by omega)⟩) N (⟨l, ((0 + d.voc * d.w : Nat) : Int)⟩, []) (by omega) ⟨by dsimp only; rw [show 0 + d.voc * d.w = d.voc * d.w + 0 * perL d by omega], rfl, by simp⟩
  obtain ⟨s1, s2⟩ := s'
  dsimp only at h1 h2 h3
  subst h1
  refine ⟨⟨shapeS d, m0, s2, (l.take (d.voc * d.w + d.ly * perL d + d.w)).drop (d.voc * d.w + d.ly * perL d), ⟨(d.voc : Int), ((d.w : Nat) : Int), (l.take (d.voc * d.w + d.ly * perL d + d.w + d.voc * d.w)).drop (d.voc * d.w + d.ly * perL d + d.w)⟩⟩, e.trans ?_, ⟨rfl, rfl, rfl, rfl, rfl, rfl, hemb, h2, h3, takeL hd l _ _ (by omega), matR_mk hd l _ _ _ (by omega)⟩, rfl⟩
  show ref08_Of.L1 (shapeS d) _ (m' + 1) _ s2 (d.ly : Int) = _
  rw [ref08_Of.L1, hLy, hW, hV, if_neg (by omega), take_is hd l _ d.w (by omega) hbig, Option.bind_some, mat_is hd l (d.voc * d.w + d.ly * perL d + d.w) d.voc d.w (by omega) hbig, Option.bind_some]
  rfl
end
theorem made_is {N : Nat} (hN : 5000 ≤ N) (n : A6_i64) (seed : Int) (xs : List Int) (hx : xs.length ≤ 2000) : ∃ (d : Dim) (w : S_api_Weights), DOK d ∧ 2 ≤ d.voc ∧ 4 ≤ d.pl ∧ WOK d w ∧ w.Shape = shapeS d ∧ ref08_Made N n seed xs = some w := by
  obtain ⟨d, hd, hv, hp, et⟩ := tiny_is n
  obtain ⟨l, el, hl⟩ := grown_is hd hN seed
  have hfin : ∀ l' : List Int, l'.length = countS d → ∃ w, (ref08_Of N (shapeS d) l').bind (fun r29 => some (⟨(⟨r29.Shape.Layers, r29.Shape.Width, r29.Shape.Heads, r29.Shape.Inner, r29.Shape.Vocab, r29.Shape.Places⟩ : S_api_Shape), (⟨r29.Embed.Rows, r29.Embed.Cols, r29.Embed.V⟩ : S_api_Mat), r29.Blocks, r29.Last, (⟨r29.Head.Rows, r29.Head.Cols, r29.Head.V⟩ : S_api_Mat)⟩ : S_api_Weights)) = some w ∧ WOK d w ∧ w.Shape = shapeS d := by
    intro l' h'
    obtain ⟨w, e, hw, hs⟩ := of_is hd (N := N) (by omega) l' h'
    exact ⟨w, by rw [e]; rfl, hw, hs⟩
  obtain ⟨m', s', hs, e⟩ := loop_to (fun m (s : List Int) i => ref08_Made.L1 N xs (shapeS d) l m s i) (fun i => (i : Int)) (min l.length xs.length) (fun i s => s.length = countS d) (fun m i s hi hs => by
    have hi1 : i < l.length := by omega
    have hi2 : i < xs.length := by omega
    refine ⟨s.set i xs[i], by simp [hs], ?_⟩
    show ref08_Made.L1 N xs (shapeS d) l (m + 1) s (i : Int) = _
    rw [ref08_Made.L1, if_pos (by omega), decide_eq_true (by omega), ref08_Made.J2, if_pos rfl, idx_get xs i hi2, Option.bind_some, idx_get s i (by omega), Option.bind_some, W_succ i (by omega), Int.toNat_natCast]) N l (by omega) hl
  obtain ⟨w, ew, hw, hsh⟩ := hfin s' hs
  refine ⟨d, w, hd, hv, hp, hw, hsh, ?_⟩
  unfold ref08_Made
  rw [show (⟨n.c0, n.c1, n.c2, n.c3, n.c4, n.c5⟩ : A6_i64) = n from rfl, et, Option.bind_some]
  show (ref07_Grown N (shapeS d) seed).bind _ = _
  rw [el, Option.bind_some]
  refine Eq.trans e ?_
  have hJ : ref08_Made.J2 N xs (shapeS d) s' ((min l.length xs.length : Nat) : Int) (ref08_Made.L1 N xs (shapeS d) l m') false = some w := by
    unfold ref08_Made.J2
    rw [if_neg (by decide)]
    exact ew
  show ref08_Made.L1 N xs (shapeS d) l (m' + 1) s' ((min l.length xs.length : Nat) : Int) = _
  rw [ref08_Made.L1]
  by_cases c : ((min l.length xs.length : Nat) : Int) < ((l.length : Nat) : Int)
  · rw [if_pos c, decide_eq_false (by omega)]; exact hJ
  · rw [if_neg c]; exact hJ
theorem check_is {N : Nat} (hN : 5000 ≤ N) {d : Dim} (hd : DOK d) (p : List Int) (hp : p.length ≤ 20) (most : Int) :
    ∃ c, ref09_Check N (shapeS d) p most = some c ∧ (c = 0 → ∃ (ts : List Nat) (k : Nat), p = toks ts ∧ ts ≠ [] ∧ (∀ t ∈ ts, t < d.voc) ∧ most = (k : Int) ∧ 0 < k ∧ ts.length + k ≤ d.pl + 1) := by
  have hpl := hd.pl
  unfold ref09_Check
  by_cases h0 : ((p.length : Nat) : Int) = 0
  · exact ⟨90, if_pos h0, fun e => by cases e⟩
  rw [if_neg h0]
  have key : ∀ (dd m i : Nat), i + dd = p.length → dd < m → (∀ j, j < i → 0 ≤ p.getD j 0 ∧ p.getD j 0 < d.voc) → ∃ c, ref09_Check.L1 (shapeS d) p most m (i : Int) = some c ∧ (c = 0 → (∀ j, j < p.length → 0 ≤ p.getD j 0 ∧ p.getD j 0 < d.voc) ∧ 1 ≤ most ∧ p.length ≤ d.pl ∧ most ≤ (d.pl : Int) - p.length + 1) := by
    intro dd
    induction dd with
    | zero =>
      intro m i hi hm hj
      obtain ⟨m, rfl⟩ : ∃ q, m = q + 1 := ⟨m - 1, by omega⟩
      rw [ref09_Check.L1, if_neg (by omega)]
      by_cases c1 : most < 1
      · exact ⟨2, if_pos c1, fun e => by cases e⟩
      rw [if_neg c1]
      show ∃ c, (if ((p.length : Nat) : Int) > (d.pl : Int) then some 80 else if most > IntKind.i64.wrap (IntKind.i64.wrap ((d.pl : Int) - ((p.length : Nat) : Int)) + 1) then some 80 else some 0) = some c ∧ _
      by_cases c2 : ((p.length : Nat) : Int) > (d.pl : Int)
      · exact ⟨80, if_pos c2, fun e => by cases e⟩
      rw [if_neg c2, W_in (x := (d.pl : Int) - ((p.length : Nat) : Int)) (by omega), W_in (by omega)]
      by_cases c3 : most > (d.pl : Int) - ((p.length : Nat) : Int) + 1
      · exact ⟨80, if_pos c3, fun e => by cases e⟩
      exact ⟨0, if_neg c3, fun _ => ⟨fun j hjl => hj j (by omega), by omega, by omega, by omega⟩⟩
    | succ dd ih =>
      intro m i hi hm hj
      obtain ⟨m, rfl⟩ : ∃ q, m = q + 1 := ⟨m - 1, by omega⟩
      rw [ref09_Check.L1, if_pos (by omega), idx_d p 0 (by omega), Option.bind_some]
      by_cases c1 : p.getD i 0 < 0
      · exact ⟨2, if_pos c1, fun e => by cases e⟩
      rw [if_neg c1, Option.bind_some]
      show ∃ c, (if p.getD i 0 ≥ (d.voc : Int) then some 2 else _) = some c ∧ _
      by_cases c2 : p.getD i 0 ≥ (d.voc : Int)
      · exact ⟨2, if_pos c2, fun e => by cases e⟩
      rw [if_neg c2, W_succ i (by omega)]
      refine ih m (i + 1) (by omega) (by omega) fun j hjl => ?_
      by_cases e : j = i
      · subst e; omega
      · exact hj j (by omega)
  obtain ⟨c, e, hc⟩ := key p.length N 0 (by omega) (by omega) (fun j hj => by omega)
  refine ⟨c, e, fun h => ?_⟩
  obtain ⟨a1, a2, a3, a4⟩ := hc h
  obtain ⟨ts, hts, hlt⟩ := toks_of d.voc p (fun x hx => by
    obtain ⟨j, hj, rfl⟩ := List.mem_iff_getElem.1 hx
    have := a1 j hj
    rwa [List.getD_eq_getElem?_getD, List.getElem?_eq_getElem hj] at this)
  have hl : p.length = ts.length := by rw [hts, toks_len]
  obtain ⟨k, hk⟩ := Int.eq_ofNat_of_zero_le (show 0 ≤ most by omega)
  exact ⟨ts, k, hts, fun e => h0 (by rw [hl, e]; rfl), hlt, hk, by omega, by omega⟩
theorem ints_same {N : Nat} (xs : List Int) (hx : xs.length < N) (h2 : xs.length ≤ 100000) : ref09_Ints N xs xs = some true := by
  unfold ref09_Ints
  rw [if_neg (fun q => q rfl)]
  refine loop_c (fun m (_ : Unit) i => ref09_Ints.L1 xs xs m i) (fun _ => ()) xs.length _ (fun m i hi => ?_) (fun m => ?_) N hx
  · show ref09_Ints.L1 xs xs (m + 1) (i : Int) = _
    rw [ref09_Ints.L1, if_pos (by omega), idx_get _ _ hi, Option.bind_some, Option.bind_some, if_neg (fun q => q rfl), W_succ i (by omega)]
  · show ref09_Ints.L1 xs xs (m + 1) (xs.length : Int) = _
    rw [ref09_Ints.L1, if_neg (by omega)]
end Go.Proofs.YtdipfegofpfhaaaGreat

namespace Go.Proofs.YtdipfegofpfhaaaGreat
open Go Go.Hp
set_option linter.unusedVariables false
theorem and_low (k : IntKind) (hk : k = .i64 ∨ k = .u64) (i : Nat) (hi : i < 63) (x : Int) : iand k x (2 ^ i - 1) = x % 2 ^ i := by
  have hb : k.bits = 64 := by rcases hk with rfl | rfl <;> rfl
  have hpos : 0 < 2 ^ i := Nat.two_pow_pos i
  have hlt : 2 ^ i ≤ 2 ^ 62 := Nat.pow_le_pow_right (by decide) (by omega)
  have hc : ((2 : Int) ^ i - 1) = ((2 ^ i - 1 : Nat) : Int) := by
    rw [Int.natCast_sub hpos]; simp
  have hnn : 0 ≤ x % 18446744073709551616 := Int.emod_nonneg _ (by decide)
  obtain ⟨a, ha⟩ := Int.eq_ofNat_of_zero_le hnn
  have hal : a < 18446744073709551616 := by omega
  have e1 : (BitVec.ofInt 64 x).toNat = a := by
    rw [BitVec.toNat_ofInt]
    show (x % ((2 ^ 64 : Nat) : Int)).toNat = a
    have : ((2 ^ 64 : Nat) : Int) = 18446744073709551616 := by decide
    rw [this, ha]
    rfl
  have e2 : (BitVec.ofInt 64 (((2 ^ i - 1 : Nat) : Int))).toNat = 2 ^ i - 1 := by
    rw [BitVec.ofInt_natCast, BitVec.toNat_ofNat]
    exact Nat.mod_eq_of_lt (by omega)
  have hdvd : (2 : Int) ^ i ∣ 18446744073709551616 := by
    refine ⟨2 ^ (64 - i), ?_⟩
    rw [← Int.pow_add, show i + (64 - i) = 64 by omega]
    decide
  have hmm : x % 2 ^ i = ((a % 2 ^ i : Nat) : Int) := by
    rw [← Int.emod_emod_of_dvd x hdvd, ha]
    simp
  have hml : a % 2 ^ i < 2 ^ i := Nat.mod_lt _ hpos
  rw [hc, hmm]
  have hw : ∀ z : Nat, z < 2 ^ 62 → k.wrap (z : Int) = (z : Int) := by
    intro z hz
    rcases hk with rfl | rfl
    · rw [IntKind.wrap_i64]; omega
    · rw [IntKind.wrap_u64]; omega
  have e3 : (BitVec.ofInt 64 x &&& BitVec.ofInt 64 (((2 ^ i - 1 : Nat) : Int))).toNat = a % 2 ^ i := by rw [BitVec.toNat_and, e1, e2, Nat.and_two_pow_sub_one_eq_mod]
  have e4 : iand k x (((2 ^ i - 1 : Nat) : Int)) = k.wrap ((BitVec.ofInt 64 x &&& BitVec.ofInt 64 (((2 ^ i - 1 : Nat) : Int))).toNat : Int) := by rcases hk with rfl | rfl <;> rfl
  rw [e4, e3]
  exact hw _ (by omega)
theorem shift_is (x n : Int) (hx : -9223372036854775808 ≤ x ∧ x ≤ 9223372036854775807) : round_Shift x n = some (sh x (min (max n 0) 62).toNat) := by
  obtain ⟨k, hk⟩ := Int.eq_ofNat_of_zero_le (show 0 ≤ min (max n 0) 62 by omega)
  have hk2 : k ≤ 62 := by omega
  have hp := pow_pos' k
  have h62 := pow_le62 k hk2
  have e1 : ishr .i64 x (k : Int) = x / 2 ^ k := by
    unfold ishr
    rw [show min ((k : Int).toNat) IntKind.i64.bits = k by show min ((k:Int).toNat) 64 = k; omega, Int.fdiv_eq_ediv_of_nonneg _ (by omega)]
  have e2 : ishl .u64 1 (k : Int) = 2 ^ k := by
    unfold ishl
    rw [show min ((k : Int).toNat) IntKind.u64.bits = k by show min ((k:Int).toNat) 64 = k; omega, Int.one_mul, IntKind.wrap_u64]; omega
  have e3 : ishr .u64 (2 ^ k) 1 = 2 ^ k / 2 := by
    unfold ishr
    rw [show min ((1 : Int).toNat) IntKind.u64.bits = 1 from rfl, Int.fdiv_eq_ediv_of_nonneg _ (by omega)]
    rfl
  have e4 : IntKind.u64.wrap ((2:Int) ^ k - 1) = 2 ^ k - 1 := by rw [IntKind.wrap_u64]; omega
  have e5 : iand .u64 (IntKind.u64.wrap x) (2 ^ k - 1) = x % 2 ^ k := by
    rw [and_low _ (.inr rfl) k (by omega), IntKind.wrap_u64]
    refine Int.emod_emod_of_dvd x ?_
    refine ⟨2 ^ (64 - k), ?_⟩
    rw [← Int.pow_add, show k + (64 - k) = 64 by omega]; decide
  have e6 : ∀ z : Int, iand .i64 z 1 = z % 2 := fun z => and_low .i64 (.inl rfl) 1 (by omega) z
  unfold round_Shift
  rw [hk]
  simp only [chk_ok _ (show (0:Int) ≤ (k:Int) by omega), Option.bind_some, e1, e2, e4, e5, e3, e6]
  unfold sh
  rw [Int.toNat_natCast]
  by_cases h0 : 0 < k
  · have hd := half_in x hx k h0
    have hw : IntKind.i64.wrap (x / 2 ^ k + 1) = x / 2 ^ k + 1 := W_in (by omega)
    by_cases c1 : x % 2 ^ k > 2 ^ k / 2
    · rw [if_pos c1, if_pos c1, round_Shift.J1, if_pos rfl, hw]
    · rw [if_neg c1, if_neg c1]
      by_cases c2 : x % 2 ^ k = 2 ^ k / 2
      · rw [if_pos c2, if_pos c2, if_pos (show (k : Int) > 0 by omega), if_pos h0, round_Shift.J1]
        by_cases c3 : x / 2 ^ k % 2 = 1
        · rw [if_pos (by simp only [c3, decide_true]), if_pos c3, hw]
        · rw [if_neg (by simp only [c3, decide_false]; decide), if_neg c3]
      · rw [if_neg c2, if_neg c2, round_Shift.J1, if_neg (by decide)]
  · obtain rfl : k = 0 := by omega
    have z1 : x % (2 : Int) ^ 0 = 0 := by simp
    have z2 : (2 : Int) ^ 0 / 2 = 0 := by decide
    rw [z1, z2, if_neg (by decide), if_pos rfl, if_neg (by decide), if_neg (by decide), if_pos rfl, if_neg (by decide), round_Shift.J1, if_neg (by decide)]

theorem fill_step {α : Type} (n : Nat) (f : Nat → α) (z : α) (i : Nat) : (tabl n fun k => if k < i then f k else z).set ((i : Int)).toNat (f i) = tabl n fun k => if k < i + 1 then f k else z := by
  rw [Int.toNat_natCast, tabl_set]
  refine tabl_congr fun j hj => ?_
  by_cases h : j = i
  · subst h; rw [if_pos rfl, if_pos (by omega)]
  · rw [if_neg h]
    by_cases h2 : j < i
    · rw [if_pos h2, if_pos (by omega)]
    · rw [if_neg h2, if_neg (by omega)]
theorem fill_0 {α : Type} (n : Nat) (f : Nat → α) (z : α) : List.replicate n z = tabl n fun k => if k < 0 then f k else z := by
  rw [tabl_rep]
  exact tabl_congr fun j hj => (if_neg (by omega)).symm
theorem fill_n {α : Type} (n : Nat) (f : Nat → α) (z : α) : (tabl n fun k => if k < n then f k else z) = tabl n f := tabl_congr fun j hj => if_pos hj
theorem w8_is (x : Int) : IntKind.i8.wrap x = (x + 128) % 256 - 128 := by
  simp [IntKind.wrap, IntKind.bits, IntKind.signed]
  split <;> omega
theorem sat8_is (x : Int) : round_Sat8 x = some (min (max x (-128)) 127) := by
  unfold round_Sat8 round_near_int8
  simp only [Option.bind_some]
  congr 1
  rw [w8_is]; omega
theorem sat32_is (x : Int) : round_Sat32 x = some (min (max x (-2147483648)) 2147483647) := by
  unfold round_Sat32 round_near_int32
  simp only [Option.bind_some]
  congr 1
  rw [IntKind.wrap_i32]; omega
theorem scale_is (x b n : Int) : round_Scale x b n = some (scl x b n (-2147483648) 2147483647) := by
  unfold round_Scale
  rw [shift_is _ _ (W_range _), Option.bind_some, sat32_is, Option.bind_some]
  rfl
theorem quant_is (x b n : Int) : round_Quant x b n = some (scl x b n (-128) 127) := by
  unfold round_Quant
  rw [shift_is _ _ (W_range _), Option.bind_some, sat8_is, Option.bind_some]
  rfl
theorem scl8 (x b n : Int) : IntKind.i8.wrap (scl x b n (-128) 127) = scl x b n (-128) 127 := by
  unfold scl
  rw [w8_is]; omega
theorem roundQuants_is {N : Nat} (b n : Int) (xs : List Int) (hl : xs.length < N) (h2 : xs.length ≤ 100000) : round_Quants N b n xs = some (tabl xs.length fun i => scl (xs.getD i 0) b n (-128) 127) := by
  unfold round_Quants
  rw [chk_ok _ (by omega), Int.toNat_natCast, fill_0 xs.length (fun i => scl (xs.getD i 0) b n (-128) 127) 0]
  refine loop_c (fun m (s : List Int) i => round_Quants.L1 b n xs m s i) (fun i => tabl xs.length fun k => if k < i then scl (xs.getD k 0) b n (-128) 127 else 0) xs.length _ (fun m i hi => ?_) (fun m => ?_) N hl
  · show round_Quants.L1 b n xs (m + 1) _ (i : Int) = round_Quants.L1 b n xs m _ _
    rw [round_Quants.L1, if_pos (by omega), idx_d xs 0 hi, Option.bind_some, quant_is, Option.bind_some, idx_t _ hi, Option.bind_some, W_succ i (by omega), fill_step xs.length (fun k => scl (xs.getD k 0) b n (-128) 127) 0 i]
  · show round_Quants.L1 b n xs (m + 1) _ (xs.length : Int) = _
    rw [round_Quants.L1, if_neg (by omega), fill_n]
theorem rdot_is {N : Nat} (a b : List Int) (h : a.length = b.length) (hl : a.length < N) (h2 : a.length ≤ 1000000) : round_Dot N a b = some (IntKind.i32.wrap (dots a b a.length)) := by
  unfold round_Dot
  have h0 : (0 : Int) = IntKind.i32.wrap (dots a b 0) := rfl
  refine (congrArg (fun z => round_Dot.L1 a b N z 0) h0).trans ?_
  refine loop_c (fun m (s : Int) i => round_Dot.L1 a b m s i) (fun i => IntKind.i32.wrap (dots a b i)) a.length _ (fun m i hi => ?_) (fun m => ?_) N hl
  · show round_Dot.L1 a b (m + 1) _ (i : Int) = round_Dot.L1 a b m _ _
    rw [round_Dot.L1, if_pos (by omega), idx_d a 0 hi, Option.bind_some, idx_d b 0 (by omega), Option.bind_some, W_succ i (by omega)]
    congr 1
    rw [dots]
    generalize dots a b i = d
    generalize a.getD i 0 = x
    generalize b.getD i 0 = y
    have e : IntKind.i32.wrap (IntKind.i32.wrap x * IntKind.i32.wrap y) = IntKind.i32.wrap (x * y) := by
      obtain ⟨p, hp⟩ : ∃ p, IntKind.i32.wrap x = x + 4294967296 * p := ⟨-((x + 2147483648) / 4294967296), by rw [IntKind.wrap_i32]; omega⟩
      obtain ⟨q, hq⟩ : ∃ q, IntKind.i32.wrap y = y + 4294967296 * q := ⟨-((y + 2147483648) / 4294967296), by rw [IntKind.wrap_i32]; omega⟩
      rw [hp, hq, show (x + 4294967296 * p) * (y + 4294967296 * q) = x * y + 4294967296 * (p * y + x * q + 4294967296 * (p * q)) by
        rw [Int.add_mul, Int.mul_add, Int.mul_add]
        generalize x * y = xy
        rw [show x * (4294967296 * q) = 4294967296 * (x * q) by rw [Int.mul_left_comm], Int.mul_assoc 4294967296 p y, show 4294967296 * p * (4294967296 * q) = 4294967296 * (4294967296 * (p * q)) by rw [Int.mul_assoc, Int.mul_left_comm p]]
        omega]
      simp only [IntKind.wrap_i32]
      omega
    rw [e]
    simp only [IntKind.wrap_i32]
    omega
  · show round_Dot.L1 a b (m + 1) _ (a.length : Int) = _
    rw [round_Dot.L1, if_neg (by omega)]
end Go.Proofs.YtdipfegofpfhaaaGreat

namespace Go.Proofs.YtdipfegofpfhaaaGreat
open Go Go.Hp
set_option linter.unusedVariables false
theorem matP {m : S_api_Mat} {r c : Nat} (h : matR m r c) (hr : r ≤ 200) (hc : c ≤ 200) : matmul_wrong m = some false := by
  obtain ⟨h1, h2, h3⟩ := h
  have hrc : r * c ≤ 40000 := Nat.le_trans (Nat.mul_le_mul hr hc) (by decide)
  have e : ((r * c : Nat) : Int) = (r : Int) * (c : Int) := by simp
  have hs : ∀ k : Nat, k ≤ 200 → matmul_side (k : Int) = some true := fun k hk => by
    unfold matmul_side
    rw [if_pos (by omega), decide_eq_true (by omega)]
  unfold matmul_wrong
  rw [h1, h2, hs r hr, Option.bind_some, if_pos rfl, hs c hc, Option.bind_some, if_pos rfl, h3, W_in (by rw [← e]; omega), if_neg (by rw [← e]; omega), decide_eq_false (by omega)]
theorem rowAt {m : S_api_Mat} {r c i : Nat} (h : matR m r c) (hr : r ≤ 200) (hc : c ≤ 200) (hi : i < r) :
    IntKind.i64.wrap ((i : Int) * m.Cols) = ((i * c : Nat) : Int) ∧ IntKind.i64.wrap (IntKind.i64.wrap ((i : Int) + 1) * m.Cols) = (((i + 1) * c : Nat) : Int) ∧ (i + 1) * c ≤ m.V.length := by
  obtain ⟨h1, h2, h3⟩ := h
  have a1 : (i + 1) * c ≤ r * c := Nat.mul_le_mul_right c (by omega)
  have a2 : r * c ≤ 40000 := Nat.le_trans (Nat.mul_le_mul hr hc) (by decide)
  have a3 : i * c ≤ (i + 1) * c := Nat.mul_le_mul_right c (by omega)
  refine ⟨?_, ?_, by omega⟩
  · rw [h2, show (i : Int) * (c : Int) = ((i * c : Nat) : Int) by simp, W_in (by omega)]
  · rw [h2, W_succ i (by omega), show ((i + 1 : Nat) : Int) * (c : Int) = (((i + 1) * c : Nat) : Int) by simp, W_in (by omega)]
theorem row_part {m : S_api_Mat} {r c i : Nat} (h : matR m r c) (hi : (i + 1) * c ≤ m.V.length) : ((m.V.take ((i + 1) * c)).drop (i * c)).length = c ∧ ∀ j, j < c → ((m.V.take ((i + 1) * c)).drop (i * c)).getD j 0 = m.V.getD (i * c + j) 0 := by
  have e : (i + 1) * c = i * c + c := Nat.succ_mul i c
  refine ⟨by simp; omega, fun j hj => ?_⟩
  rw [List.getD_eq_getElem?_getD, List.getElem?_drop, List.getElem?_take, if_pos (by omega), ← List.getD_eq_getElem?_getD]
theorem papply_is {N : Nat} {m : S_api_Mat} {r c : Nat} (h : matR m r c) (hr : r ≤ 200) (hc : c ≤ 200) (hN : 200 < N) (x : List Int) (hx : x.length = c) : matmul_Apply N m x = some (applyS m x r c, 0) := by
  unfold matmul_Apply
  rw [show (⟨m.Rows, m.Cols, m.V⟩ : S_api_Mat) = m from rfl, matP h hr hc, Option.bind_some, if_neg (by decide), if_neg (by rw [h.2.1]; omega), chk_ok _ (by rw [h.1]; omega), h.1, Int.toNat_natCast]
  rw [fill_0 r (fun i => IntKind.i32.wrap (dots (rowOf m c i) x c)) 0]
  refine loop_c (fun k (s : List Int) i => matmul_Apply.L1 N m x k s i) (fun i => tabl r fun k => if k < i then IntKind.i32.wrap (dots (rowOf m c k) x c) else 0) r _ (fun k i hi => ?_) (fun k => ?_) N (by omega)
  · show matmul_Apply.L1 N m x (k + 1) _ (i : Int) = matmul_Apply.L1 N m x k _ _
    obtain ⟨w1, w2, w3⟩ := rowAt h hr hc hi
    obtain ⟨l1, l2⟩ := row_part h w3
    have a3 : i * c ≤ (i + 1) * c := Nat.mul_le_mul_right c (by omega)
    rw [matmul_Apply.L1, if_pos (by rw [h.1, Int.toNat_natCast]; omega), w1, w2, chk_ok _ (by omega), Int.toNat_natCast, Int.toNat_natCast, rdot_is _ _ (by rw [l1, hx]) (by omega) (by omega), Option.bind_some, idx_t _ hi, Option.bind_some, W_succ i (by omega), l1]
    have hd : dots ((m.V.take ((i + 1) * c)).drop (i * c)) x c = dots (rowOf m c i) x c := dots_congr _ _ _ _ c fun j hj => ⟨by rw [l2 j hj, rowOf, tabl_getD _ _ _ _ hj], rfl⟩
    rw [hd, fill_step r (fun k => IntKind.i32.wrap (dots (rowOf m c k) x c)) 0 i]
  · show matmul_Apply.L1 N m x (k + 1) _ (r : Int) = _
    rw [matmul_Apply.L1, if_neg (by rw [h.1, Int.toNat_natCast]; omega), fill_n]
    rfl
theorem pquants_is {N : Nat} {m : S_api_Mat} {r c : Nat} (h : matR m r c) (hr : r ≤ 200) (hc : c ≤ 200) (hN : 200 < N) (x : List Int) (hx : x.length = c) : model_quants N m x = some (quantsS m x r c) := by
  unfold model_quants
  rw [show (⟨m.Rows, m.Cols, m.V⟩ : S_api_Mat) = m from rfl, papply_is h hr hc hN x hx, Option.bind_some, roundQuants_is _ _ _ (by rw [applyS_len]; omega) (by rw [applyS_len]; omega), Option.bind_some, applyS_len]
  congr 1
  exact tabl_congr fun i hi => (scl8 _ _ _).symm
theorem pjoin_is {N : Nat} (x y : List Int) (by_ n : Int) (h : y.length = x.length) (hl : x.length ≤ 200) (hN : 200 < N) : norm_Join N x y by_ n = some (joinS x y by_ n, 0) := by
  have hs : ∀ a b : Int, round_Sum N [a, b] = some (IntKind.i32.wrap (a + b)) := fun a b => by
    obtain ⟨k, rfl⟩ : ∃ k, N = k + 3 := ⟨N - 3, by omega⟩
    unfold round_Sum
    rw [round_Sum.L1, if_pos (by simp), show idx [a, b] 0 = some a from rfl, Option.bind_some, Option.bind_some, show IntKind.i64.wrap (0 + 1) = 1 from rfl, round_Sum.L1, if_pos (by simp), show idx [a, b] 1 = some b from rfl, Option.bind_some, Option.bind_some, show IntKind.i64.wrap (1 + 1) = 2 from rfl, round_Sum.L1, if_neg (by simp)]
    congr 1
    simp only [IntKind.wrap_i32, IntKind.wrap_u32]
    omega
  unfold norm_Join
  rw [if_neg (by omega), chk_ok _ (by omega), Int.toNat_natCast, fill_0 x.length (fun i => IntKind.i32.wrap (x.getD i 0 + scl (y.getD i 0) by_ n (-2147483648) 2147483647)) 0]
  refine loop_c (fun k (s : List Int) i => norm_Join.L1 N x y by_ n k s i) (fun i => tabl x.length fun k => if k < i then IntKind.i32.wrap (x.getD k 0 + scl (y.getD k 0) by_ n (-2147483648) 2147483647) else 0) x.length _ (fun k i hi => ?_) (fun k => ?_) N (by omega)
  · show norm_Join.L1 N x y by_ n (k + 1) _ (i : Int) = norm_Join.L1 N x y by_ n k _ _
    rw [norm_Join.L1, if_pos (by omega), idx_d x 0 hi, Option.bind_some, idx_d y 0 (by omega), Option.bind_some, scale_is, Option.bind_some, hs, Option.bind_some, idx_t _ hi, Option.bind_some, W_succ i (by omega), fill_step x.length (fun i => IntKind.i32.wrap (x.getD i 0 + scl (y.getD i 0) by_ n (-2147483648) 2147483647)) 0 i]
  · show norm_Join.L1 N x y by_ n (k + 1) _ (x.length : Int) = _
    rw [norm_Join.L1, if_neg (by omega), fill_n]
    rfl
end Go.Proofs.YtdipfegofpfhaaaGreat

namespace Go.Proofs.YtdipfegofpfhaaaGreat
open Go Go.Hp
set_option linter.unusedVariables false
theorem shr_is (x : Int) (k : Nat) (hk : k ≤ 62) : ishr .i64 x (k : Int) = x / 2 ^ k := by
  unfold ishr
  have hp := pow_pos' k
  rw [show min ((k : Int).toNat) IntKind.i64.bits = k by show min ((k:Int).toNat) 64 = k; omega, Int.fdiv_eq_ediv_of_nonneg _ (by omega)]
theorem step_is (i : Nat) (h : i ≤ 33) : rope_step (i : Int) = some (sinT.getD (min i 32) 0) := by
  have key : ∀ i : Fin 34, rope_step ((i.val : Nat) : Int) = some (sinT.getD (min i.val 32) 0) := by decide +kernel
  exact key ⟨i, by omega⟩
theorem psin_is (a : Int) (ha : -9223372036854775808 ≤ a ∧ a ≤ 9223372036854775807) : rope_Sin a = some (sinS a) := by
  have hr : 0 ≤ a % 65536 ∧ a % 65536 < 65536 := by omega
  have e0 : iand .i64 a 65535 = a % 65536 := and_low .i64 (.inl rfl) 16 (by omega) a
  unfold rope_Sin sinS
  rw [e0]
  generalize a % 65536 = r at hr ⊢
  dsimp only
  have eq : IntKind.i64.wrap (Int.tdiv r 16384) = r / 16384 := by rw [Int.tdiv_eq_ediv_of_nonneg hr.1, W_in (by omega)]
  have em : Int.tmod r 16384 = r % 16384 := Int.tmod_eq_emod_of_nonneg hr.1
  have hq : 0 ≤ r / 16384 ∧ r / 16384 ≤ 3 := by omega
  rw [eq, em, Option.bind_some, Option.bind_some]
  have e1 : ∀ q : Int, iand .i64 q 1 = q % 2 := fun q => and_low .i64 (.inl rfl) 1 (by omega) q
  rw [e1]
  generalize r / 16384 = q at hq ⊢
  have j1 : ∀ f : Int, 0 ≤ f → f ≤ 16384 → rope_Sin.J1 q f = some (if q = 2 ∨ q = 3 then IntKind.i32.wrap (IntKind.i64.wrap (0 - arcS f)) else IntKind.i32.wrap (arcS f)) := by
    intro f h0 h1
    obtain ⟨i, hi⟩ := Int.eq_ofNat_of_zero_le (show 0 ≤ f / 512 by omega)
    have hi2 : i ≤ 32 := by omega
    have e9 : ishr .i64 f 9 = (i : Int) := (shr_is f 9 (by omega)).trans hi
    have e5 : iand .i64 f 511 = f % 512 := and_low .i64 (.inl rfl) 9 (by omega) f
    have ea : IntKind.i64.wrap (sinT.getD (min i 32) 0 + sh (IntKind.i64.wrap (IntKind.i64.wrap (sinT.getD (min (i + 1) 32) 0 - sinT.getD (min i 32) 0) * (f % 512))) 9) = arcS f := by
      unfold arcS
      by_cases c : f / 512 < 32
      · rw [if_pos c, hi, Int.toNat_natCast, show min i 32 = i by omega, show min (i + 1) 32 = i + 1 by omega]
      · obtain rfl : i = 32 := by omega
        rw [if_neg c, show f % 512 = 0 by omega]
        decide +kernel
    unfold rope_Sin.J1
    rw [e9, e5, W_succ i (by omega), step_is i (by omega), step_is (i + 1) (by omega), Option.bind_some, Option.bind_some, Option.bind_some, shift_is _ _ (W_range _), Option.bind_some, show (min (max (9 : Int) 0) 62).toNat = 9 from rfl, ea]
    by_cases c : q ≥ 2
    · rw [if_pos c, if_pos (show q = 2 ∨ q = 3 by omega)]; rfl
    · rw [if_neg c, if_neg (show ¬ (q = 2 ∨ q = 3) by omega)]; rfl
  by_cases c1 : q % 2 = 1
  · rw [if_pos c1, W_in (by omega), Option.bind_some, j1 _ (by omega) (by omega), if_pos (show q = 1 ∨ q = 3 by omega)]
  · rw [if_neg c1, j1 _ (by omega) (by omega), if_neg (show ¬ (q = 1 ∨ q = 3) by omega)]
theorem pcos_is (a : Int) (ha : -9223372036854775808 ≤ a ∧ a ≤ 9223372036854775807) : rope_Cos a = some (cosS a) := by
  unfold rope_Cos cosS
  have e0 : iand .i64 a 65535 = a % 65536 := and_low .i64 (.inl rfl) 16 (by omega) a
  rw [e0, W_in (by omega), psin_is _ (by omega), Option.bind_some]
theorem pangle_is (place pair : Nat) (hp : place ≤ 1000) (hq : pair ≤ 13) : rope_Angle (place : Int) (pair : Int) = some (angS place pair) := by
  unfold rope_Angle
  have e2 : IntKind.u64.wrap (pair : Int) = (pair : Int) := by rw [IntKind.wrap_u64]; omega
  have hk : (0 : Int) < 2 ^ pair := pow_pos' pair
  have hd : (0 : Int) ≤ 8192 / 2 ^ pair ∧ (8192 : Int) / 2 ^ pair ≤ 8192 := ⟨Int.ediv_nonneg (by decide) (by omega), Int.ediv_le_self _ (by decide)⟩
  have hm : (0 : Int) ≤ (place : Int) * (8192 / 2 ^ pair) ∧ (place : Int) * (8192 / 2 ^ pair) ≤ 8192000 := by
    refine ⟨Int.mul_nonneg (by omega) hd.1, ?_⟩
    have := Int.mul_le_mul (show (place : Int) ≤ 1000 by omega) hd.2 hd.1 (by decide)
    omega
  rw [if_neg (by omega), if_neg (by omega), if_neg (by omega), e2, show min (pair : Int) 14 = (pair : Int) by omega, chk_ok _ (by omega), shr_is 8192 pair (by omega), Option.bind_some, W_in (by omega)]
  congr 1
  exact and_low .i64 (.inl rfl) 16 (by omega) _
end Go.Proofs.YtdipfegofpfhaaaGreat

namespace Go.Proofs.YtdipfegofpfhaaaGreat
open Go Go.Hp
set_option linter.unusedVariables false
theorem ppair_is (place : Nat) (x : List Int) (i : Nat) : rope_pairOf (x.getD (2 * i) 0) (x.getD (2 * i + 1) 0) ⟨cosS (angS place i), sinS (angS place i)⟩ = some (turnA place x i, turnB place x i) := by
  have w8r : ∀ z : Int, IntKind.i8.wrap (min (max z (-128)) 127) = min (max z (-128)) 127 := fun z => by rw [w8_is]; omega
  unfold rope_pairOf
  rw [shift_is _ _ (W_range _), Option.bind_some, sat8_is, Option.bind_some, shift_is _ _ (W_range _), Option.bind_some, sat8_is, Option.bind_some]
  unfold turnA turnB
  rw [w8r, w8r]
  rfl
theorem pturn_is {N : Nat} (hN : 200 < N) (place : Nat) (hp : place ≤ 1000) (x : List Int) (p : Nat) (hx : x.length = 2 * p) (hl : p ≤ 13) : rope_Turn N (place : Int) x = some (turnS place x, 0) := by
  unfold rope_Turn
  rw [if_neg (by rw [Int.tmod_eq_emod_of_nonneg (by omega)]; omega), if_neg (by omega), if_neg (by omega), chk_ok _ (by omega), Int.toNat_natCast]
  let f : Nat → Int := fun k => if k % 2 = 0 then turnA place x (k / 2) else turnB place x (k / 2)
  have ht : turnS place x = tabl x.length f := by
    unfold turnS
    rw [show 2 * (x.length / 2) = x.length by omega]
  obtain ⟨m', s', hs', e⟩ := loop_to (fun m (s : List Int) i => rope_Turn.L1 (place : Int) x m s i) (fun i => ((2 * i : Nat) : Int)) p (fun i s => s = tabl x.length fun k => if k < 2 * i then f k else 0) (fun m i s hi hs => by
    subst hs
    refine ⟨_, rfl, ?_⟩
    have a1 : IntKind.i64.wrap (Int.tdiv ((2 * i : Nat) : Int) 2) = (i : Int) := by rw [Int.tdiv_eq_ediv_of_nonneg (by omega), W_in (by omega)]; omega
    have a2 : IntKind.i64.wrap (((2 * i : Nat) : Int) + 1) = ((2 * i + 1 : Nat) : Int) := W_succ (2 * i) (by omega)
    have a3 : IntKind.i64.wrap (((2 * i : Nat) : Int) + 2) = ((2 * (i + 1) : Nat) : Int) := by rw [W_in (by omega)]; omega
    have hr : -9223372036854775808 ≤ angS place i ∧ angS place i ≤ 9223372036854775807 := by unfold angS; omega
    have fA : turnA place x i = f (2 * i) := by show _ = if 2 * i % 2 = 0 then turnA place x (2 * i / 2) else _; rw [if_pos (by omega), show 2 * i / 2 = i by omega]
    have fB : turnB place x i = f (2 * i + 1) := by show _ = if (2 * i + 1) % 2 = 0 then _ else turnB place x ((2 * i + 1) / 2); rw [if_neg (by omega), show (2 * i + 1) / 2 = i by omega]
    show rope_Turn.L1 (place : Int) x (m + 1) _ ((2 * i : Nat) : Int) = _
    rw [rope_Turn.L1, if_pos (by omega), a1, a2, a3, pangle_is place i hp (by omega), Option.bind_some, idx_d x 0 (by omega), Option.bind_some, idx_d x 0 (by omega), Option.bind_some, pcos_is _ hr, Option.bind_some, psin_is _ hr, Option.bind_some, ppair_is, Option.bind_some, idx_t _ (by omega), Option.bind_some]
    show (idx ((tabl x.length fun k => if k < 2 * i then f k else 0).set (((2 * i : Nat) : Int)).toNat (turnA place x i)) ((2 * i + 1 : Nat) : Int)).bind _ = _
    rw [fA, fill_step x.length f 0 (2 * i), idx_t _ (by omega), Option.bind_some]
    show rope_Turn.L1 (place : Int) x m ((tabl x.length fun k => if k < 2 * i + 1 then f k else 0).set (((2 * i + 1 : Nat) : Int)).toNat (turnB place x i)) _ = _
    rw [fB, fill_step x.length f 0 (2 * i + 1)]
    rfl) N (List.replicate x.length 0) (by omega) (fill_0 x.length f 0)
  subst hs'
  refine e.trans ?_
  show rope_Turn.L1 (place : Int) x (m' + 1) _ ((2 * p : Nat) : Int) = _
  rw [rope_Turn.L1, if_neg (by omega), ht, show 2 * p = x.length from hx.symm, fill_n]
theorem pturned_is {N : Nat} (hN : 200 < N) (place w n : Nat) (hp : place ≤ 1000) (x : List Int) (hx : x.length = n * w) (hn : n ≤ 150) (hw : 0 < w) (hw2 : w % 2 = 0) (hw3 : w ≤ 26) : model_turned N (place : Int) (w : Int) x = some (turnedS place w x n) := by
  have hnw : n * w ≤ 3900 := Nat.mul_le_mul hn hw3
  unfold model_turned
  rw [chk_ok _ (by omega), Int.toNat_natCast]
  have key : ∀ (d m k : Nat), k + d = n → d < m → model_turned.L N (place : Int) w x m (turnedS place w x k) (k * w) = some (turnedS place w x n) := by
    intro d
    induction d with
    | zero =>
      intro m k hk hm
      obtain ⟨m, rfl⟩ : ∃ q, m = q + 1 := ⟨m - 1, by omega⟩
      obtain rfl : k = n := by omega
      rw [model_turned.L, if_neg (by omega)]
    | succ d ih =>
      intro m k hk hm
      obtain ⟨m, rfl⟩ : ∃ q, m = q + 1 := ⟨m - 1, by omega⟩
      have e1 : (k + 1) * w = k * w + w := Nat.succ_mul k w
      have e2 : (k + 1) * w ≤ n * w := Nat.mul_le_mul_right w (by omega)
      have e3 : k * w + min w (x.length - k * w) = (k + 1) * w := by omega
      have hpl : (part x w k).length = w := part_len x w k n hx (by omega)
      have hT := pturn_is hN place hp (part x w k) (w / 2) (by omega) (by omega)
      have hl := turnedS_len place w x n hx hw2 k (by omega)
      rw [model_turned.L, if_pos (by omega), e3, show (x.take ((k + 1) * w)).drop (k * w) = part x w k from rfl, hT, Option.bind_some]
      show (chk ((turnedS place w x k).length + (turnS place (part x w k)).length ≤ 4294967296) <| model_turned.L N (place : Int) w x m (turnedS place w x k ++ turnS place (part x w k)) (k * w + w)) = _
      rw [chk_ok _ (by rw [hl, turnS_len]; omega), ← e1]
      exact ih m (k + 1) (by omega) (by omega)
  have := key n N 0 (by omega) (by omega)
  rw [Nat.zero_mul] at this
  exact this
end Go.Proofs.YtdipfegofpfhaaaGreat

namespace Go.Proofs.YtdipfegofpfhaaaGreat
open Go Go.Hp
set_option linter.unusedVariables false
theorem estep_is (i : Nat) (h : i < 33) : curve_step (i : Int) = some (tbl.getD i 0) := by
  have key : ∀ i : Fin 33, curve_step ((i.val : Nat) : Int) = some (tbl.getD i.val 0) := by decide +kernel
  exact key ⟨i, by omega⟩
theorem pexp_is (x : Int) : curve_Exp x = some (expS x) := by
  unfold curve_Exp
  by_cases h0 : x ≥ 0
  · rw [if_pos h0]
    by_cases h1 : x > 0
    · unfold expS
      rw [if_pos h1]
    · obtain rfl : x = 0 := by omega
      decide +kernel
  rw [if_neg h0]
  by_cases h1 : x < -4294967296
  · rw [if_pos h1]
    unfold expS
    rw [if_neg (by omega), if_pos (by omega)]
  rw [if_neg h1]
  have e3 : ishr .i64 (IntKind.i64.wrap (IntKind.i64.wrap (0 - x) * 94548)) 16 = (0 - x) * 94548 / 65536 := by
    rw [W_in (x := 0 - x) (by omega), W_in (x := (0 - x) * 94548) (by omega)]
    exact shr_is _ 16 (by omega)
  have ht : 0 ≤ (0 - x) * 94548 / 65536 ∧ (0 - x) * 94548 / 65536 ≤ 8000000000 := by omega
  have hbig : x < -10000000 → (0 - x) * 94548 / 65536 / 65536 > 31 := fun h => by omega
  rw [e3, Option.bind_some]
  unfold expS
  rw [if_neg (show ¬ x > 0 by omega)]
  dsimp only
  generalize (0 - x) * 94548 / 65536 = t at ht hbig ⊢
  have e4 : ishr .i64 t 16 = t / 65536 := shr_is t 16 (by omega)
  rw [e4]
  by_cases h3 : t / 65536 > 31
  · rw [if_pos h3, if_pos h3]
    split <;> rfl
  rw [if_neg h3, if_neg (fun h => h3 (hbig h)), if_neg h3]
  obtain ⟨i, hi⟩ := Int.eq_ofNat_of_zero_le (show 0 ≤ t % 65536 / 2048 by omega)
  have hi2 : i < 32 := by omega
  have a1 : iand .i64 t 65535 = t % 65536 := and_low .i64 (.inl rfl) 16 (by omega) t
  have a2 : iand .i64 (t % 65536) 2047 = t % 65536 % 2048 := and_low .i64 (.inl rfl) 11 (by omega) _
  have a3 : ishr .i64 (t % 65536) 11 = (i : Int) := (shr_is _ 11 (by omega)).trans hi
  rw [a1, a2, a3, Option.bind_some, Option.bind_some, estep_is i (by omega), Option.bind_some, Option.bind_some, W_succ i (by omega), estep_is (i + 1) (by omega), Option.bind_some, shift_is _ _ (W_range _), Option.bind_some, shift_is _ _ (W_range _), Option.bind_some, hi, Int.toNat_natCast, show min (max (t / 65536) 0) 62 = t / 65536 by omega]
  rfl
end Go.Proofs.YtdipfegofpfhaaaGreat

namespace Go.Proofs.YtdipfegofpfhaaaGreat
open Go Go.Hp
set_option linter.unusedVariables false
theorem wu_id {x : Int} (h : 0 ≤ x ∧ x < 18446744073709551616) : IntKind.u64.wrap x = x := by rw [IntKind.wrap_u64]; omega
theorem pshares_is {N : Nat} (x : List Int) (h : in32 x) (hl : x.length ≤ 200) (hN : 200 < N) : curve_Shares N 65536 x = some (sharesS 65536 x) := by
  unfold curve_Shares
  rw [chk_ok _ (by omega)]
  refine loop_c (fun m (s : Int) i => curve_Shares.L1 N 65536 x m s i) (fun i => sumS x i) x.length _ (fun m i hi => ?_) (fun m => ?_) N (by omega)
  · show curve_Shares.L1 N 65536 x (m + 1) _ (i : Int) = curve_Shares.L1 N 65536 x m _ _
    obtain ⟨a, b, c⟩ := sumS_range x h i
    have hx := h i
    rw [curve_Shares.L1, if_pos (by omega), idx_d x 0 hi, Option.bind_some, Option.bind_some, W_succ i (by omega), wu_id (x := max (x.getD i 0) 0) (by omega), wu_id (by omega), sumS]
    congr 1
    by_cases hk : x.getD i 0 > 0
    · rw [if_pos hk]; omega
    · rw [if_neg hk]; omega
  · show curve_Shares.L1 N 65536 x (m + 1) _ (x.length : Int) = _
    rw [curve_Shares.L1, if_neg (by omega), Int.toNat_natCast]
    let f : Nat → Int := fun i => if x.getD i 0 > 0 ∧ (65536 : Int) > 0 then IntKind.i32.wrap (IntKind.i64.wrap (Int.tdiv (IntKind.i64.wrap (IntKind.i64.wrap (x.getD i 0) * IntKind.i64.wrap 65536)) (sumS x x.length))) else 0
    rw [fill_0 x.length f 0]
    refine loop_c (fun m (s : List Int) i => curve_Shares.L2 65536 x (sumS x x.length) m s i) (fun i => tabl x.length fun k => if k < i then f k else 0) x.length _ (fun m i hi => ?_) (fun m => ?_) N (by omega)
    · show curve_Shares.L2 65536 x _ (m + 1) _ (i : Int) = curve_Shares.L2 65536 x _ m _ _
      obtain ⟨a, b, c⟩ := sumS_range x h x.length
      have hx := c i hi
      have h32 := h i
      rw [curve_Shares.L2, if_pos (by omega), idx_d x 0 hi, Option.bind_some]
      by_cases hk : x.getD i 0 > 0
      · rw [if_pos hk, show decide ((65536 : Int) > 0) = true from rfl, curve_Shares.J4, if_pos rfl, chk_ok _ (by omega), idx_t _ hi, Option.bind_some, curve_Shares.J3, W_succ i (by omega)]
        have hd : 0 ≤ Int.tdiv (x.getD i 0 * 65536) (sumS x x.length) ∧ Int.tdiv (x.getD i 0 * 65536) (sumS x x.length) ≤ x.getD i 0 * 65536 := by
          rw [Int.tdiv_eq_ediv_of_nonneg (by omega)]
          exact ⟨Int.ediv_nonneg (by omega) (by omega), Int.ediv_le_self _ (by omega)⟩
        have e : IntKind.i32.wrap (IntKind.u64.wrap (Int.tdiv (IntKind.u64.wrap (IntKind.u64.wrap (x.getD i 0) * IntKind.u64.wrap 65536)) (sumS x x.length))) = f i := by
          show _ = if x.getD i 0 > 0 ∧ (65536 : Int) > 0 then IntKind.i32.wrap (IntKind.i64.wrap (Int.tdiv (IntKind.i64.wrap (IntKind.i64.wrap (x.getD i 0) * IntKind.i64.wrap 65536)) (sumS x x.length))) else 0
          rw [if_pos ⟨hk, by decide⟩, wu_id (x := x.getD i 0) (by omega), show IntKind.u64.wrap 65536 = 65536 from rfl, show IntKind.i64.wrap 65536 = 65536 from rfl, W_in (x := x.getD i 0) (by omega), wu_id (x := x.getD i 0 * 65536) (by omega), W_in (x := x.getD i 0 * 65536) (by omega), wu_id (by omega), W_in (by omega)]
        rw [e, fill_step x.length f 0 i]
      · rw [if_neg hk, curve_Shares.J4, if_neg (by decide), curve_Shares.J3, W_succ i (by omega)]
        congr 1
        refine tabl_congr fun j hj => ?_
        by_cases h1 : j < i
        · rw [if_pos h1, if_pos (by omega)]
        · rw [if_neg h1]
          by_cases h2 : j = i
          · subst h2
            rw [if_pos (by omega)]
            exact (if_neg (fun h => hk h.1)).symm
          · rw [if_neg (by omega)]
    · show curve_Shares.L2 65536 x _ (m + 1) _ (x.length : Int) = _
      rw [curve_Shares.L2, if_neg (by omega), fill_n]
      rfl
end Go.Proofs.YtdipfegofpfhaaaGreat

namespace Go.Proofs.YtdipfegofpfhaaaGreat
open Go Go.Hp
set_option linter.unusedVariables false
theorem pmax_is {N : Nat} (x : List Int) (h0 : 0 < x.length) (hl : x.length ≤ 200) (hN : 201 < N) : slices_Max_s_int32_int32 N x = some (topS x (x.getD 0 0) x.length) := by
  unfold slices_Max_s_int32_int32
  rw [if_neg (by omega), show idx x (0 : Int) = some (x.getD 0 0) from idx_d x 0 h0, Option.bind_some]
  have ht : ∀ k, topS x (x.getD 0 0) k ≥ x.getD 0 0 := by
    intro k
    induction k with
    | zero => exact Int.le_refl _
    | succ k ih => rw [topS]; split <;> omega
  have key : ∀ (d m k : Nat), k + d = x.length → d < m → slices_Max_s_int32_int32.L1 x m (topS x (x.getD 0 0) k) (k : Int) = some (topS x (x.getD 0 0) x.length) := by
    intro d
    induction d with
    | zero =>
      intro m k hk hm
      obtain ⟨m, rfl⟩ : ∃ q, m = q + 1 := ⟨m - 1, by omega⟩
      obtain rfl : k = x.length := by omega
      rw [slices_Max_s_int32_int32.L1, if_neg (by omega)]
    | succ d ih =>
      intro m k hk hm
      obtain ⟨m, rfl⟩ : ∃ q, m = q + 1 := ⟨m - 1, by omega⟩
      rw [slices_Max_s_int32_int32.L1, if_pos (by omega), idx_d x 0 (by omega), Option.bind_some, W_succ k (by omega), show max (topS x (x.getD 0 0) k) (x.getD k 0) = topS x (x.getD 0 0) (k + 1) by rw [topS]; split <;> omega]
      exact ih m (k + 1) (by omega) (by omega)
  have e1 : topS x (x.getD 0 0) 1 = x.getD 0 0 := by rw [topS, topS]; split <;> omega
  have := key (x.length - 1) N 1 (by omega) (by omega)
  rw [e1] at this
  exact this
theorem topS_ge (x : List Int) (t : Int) : ∀ k, topS x t k ≥ t ∧ (∀ j, j < k → topS x t k ≥ x.getD j 0) ∧ (topS x t k = t ∨ ∃ j, j < k ∧ topS x t k = x.getD j 0)
  | 0 => ⟨Int.le_refl _, fun j hj => by omega, .inl rfl⟩
  | k + 1 => by
    obtain ⟨a, b, c⟩ := topS_ge x t k
    rw [topS]
    by_cases h : x.getD k 0 > topS x t k
    · rw [if_pos h]
      refine ⟨by omega, fun j hj => ?_, .inr ⟨k, by omega, rfl⟩⟩
      by_cases e : j = k
      · subst e; omega
      · have := b j (by omega); omega
    · rw [if_neg h]
      refine ⟨a, fun j hj => ?_, c.imp id fun ⟨j, h1, h2⟩ => ⟨j, by omega, h2⟩⟩
      by_cases e : j = k
      · subst e; omega
      · exact b j (by omega)
theorem topS_same (x : List Int) (i j : Nat) (hi : i < x.length) (hj : j < x.length) : topS x (x.getD i 0) x.length = topS x (x.getD j 0) x.length := by
  obtain ⟨a1, b1, c1⟩ := topS_ge x (x.getD i 0) x.length
  obtain ⟨a2, b2, c2⟩ := topS_ge x (x.getD j 0) x.length
  have u1 := b1 j hj
  have u2 := b2 i hi
  rcases c1 with e1 | ⟨p, hp, e1⟩ <;> rcases c2 with e2 | ⟨q, hq, e2⟩
  · omega
  · have := b1 q hq; omega
  · have := b2 p hp; omega
  · have := b1 q hq; have := b2 p hp; omega
theorem psoftmax_is {N : Nat} (by_ n : Int) (x : List Int) (h0 : 0 < x.length) (hl : x.length ≤ 200) (hN : 201 < N) : norm_Softmax N by_ n x = some (softS by_ n x) := by
  unfold norm_Softmax
  rw [if_neg (by omega), pmax_is x h0 hl hN, Option.bind_some, chk_ok _ (by omega), Int.toNat_natCast]
  let f : Nat → Int := fun i => expS (sh (IntKind.i64.wrap (IntKind.i64.wrap (IntKind.i64.wrap (x.getD i 0) - IntKind.i64.wrap (topS x (x.getD i 0) x.length)) * IntKind.i64.wrap by_)) (min (max n 0) 62).toNat)
  rw [fill_0 x.length f 0]
  refine loop_c (fun m (s : List Int) i => norm_Softmax.L1 N by_ n x (topS x (x.getD 0 0) x.length) m s i) (fun i => tabl x.length fun k => if k < i then f k else 0) x.length _ (fun m i hi => ?_) (fun m => ?_) N (by omega)
  · show norm_Softmax.L1 N by_ n x _ (m + 1) _ (i : Int) = norm_Softmax.L1 N by_ n x _ m _ _
    rw [norm_Softmax.L1, if_pos (by omega), idx_d x 0 hi, Option.bind_some, shift_is _ _ (W_range _), Option.bind_some, pexp_is, Option.bind_some, idx_t _ hi, Option.bind_some, W_succ i (by omega), topS_same x 0 i h0 hi]
    exact congrArg (fun z => norm_Softmax.L1 N by_ n x _ m z _) (fill_step x.length f 0 i)
  · show norm_Softmax.L1 N by_ n x _ (m + 1) _ (x.length : Int) = _
    rw [norm_Softmax.L1, if_neg (by omega), fill_n]
    have hp : in32 (powS by_ n x) := by
      intro k
      by_cases hk : k < x.length
      · rw [powS, tabl_getD _ _ _ _ hk]; exact expS_range _
      · rw [List.getD_eq_getElem?_getD, List.getElem?_eq_none (by rw [powS, tabl_len]; omega)]; decide
    have := pshares_is (N := N) (powS by_ n x) hp (by rw [powS, tabl_len]; omega) (by omega)
    rw [powS] at this
    rw [this, Option.bind_some]
    rfl
end Go.Proofs.YtdipfegofpfhaaaGreat

namespace Go.Proofs.YtdipfegofpfhaaaGreat
open Go Go.Hp
set_option linter.unusedVariables false
theorem pmix_is {N : Nat} (ws : List Int) (rows : List (List Int)) (n : Nat) (hw : ws.length = rows.length) (h0 : 0 < rows.length) (hr : rows.length ≤ 200) (hn : ∀ i, i < rows.length → (rows.getD i []).length = n) (hn2 : n ≤ 200) (hN : 200 < N) : norm_Mix N ws rows = some (mixS ws rows n, 0) := by
  unfold norm_Mix
  have hl0 := hn 0 h0
  rw [if_neg (by omega), if_neg (by omega), show idx rows (0 : Int) = some (rows.getD 0 []) from idx_d rows [] h0, Option.bind_some, chk_ok _ (by omega)]
  generalize hy : rows.getD 0 [] = y at hl0 ⊢
  have hz : (List.replicate (((y.length : Nat) : Int)).toNat 0 : List Int) = tabl n fun k => accS ws rows k 0 := by rw [Int.toNat_natCast, hl0, tabl_rep]; rfl
  rw [hz]
  refine loop_c (fun m (s : List Int) i => norm_Mix.L1 N ws rows y m s i) (fun i => tabl n fun k => accS ws rows k i) rows.length _ (fun m i hi => ?_) (fun m => ?_) N (by omega)
  · show norm_Mix.L1 N ws rows y (m + 1) _ (i : Int) = norm_Mix.L1 N ws rows y m _ _
    have hli := hn i hi
    rw [norm_Mix.L1, if_pos (by omega), idx_d rows [] hi, Option.bind_some, if_neg (by rw [hli, Int.toNat_natCast, hl0]; omega)]
    have hs : (tabl n fun k => accS ws rows k i) = tabl n fun k => if k < 0 then accS ws rows k (i + 1) else accS ws rows k i := tabl_congr fun j hj => (if_neg (by omega)).symm
    rw [hs]
    refine loop_c (fun q (s : List Int) j => norm_Mix.L3 ws (i : Int) (rows.getD i []) (norm_Mix.L1 N ws rows y m) q s j) (fun j => tabl n fun k => if k < j then accS ws rows k (i + 1) else accS ws rows k i) n _ (fun q j hj => ?_) (fun q => ?_) N (by omega)
    · show norm_Mix.L3 ws _ _ _ (q + 1) _ (j : Int) = norm_Mix.L3 ws _ _ _ q _ _
      rw [norm_Mix.L3, if_pos (by omega), idx_d (rows.getD i []) 0 (by omega), Option.bind_some, idx_t _ hj, Option.bind_some, idx_d ws 0 (by omega), Option.bind_some, Option.bind_some, W_succ j (by omega), if_neg (show ¬ j < j by omega), Int.toNat_natCast, tabl_set]
      congr 1
      refine tabl_congr fun p hp => ?_
      by_cases e : p = j
      · subst e; rw [if_pos rfl, if_pos (by omega)]; rfl
      · rw [if_neg e]
        by_cases e2 : p < j
        · rw [if_pos e2, if_pos (by omega)]
        · rw [if_neg e2, if_neg (by omega)]
    · show norm_Mix.L3 ws _ _ _ (q + 1) _ (n : Int) = _
      rw [norm_Mix.L3, if_neg (by omega), W_succ i (by omega)]
      congr 1
      exact tabl_congr fun p hp => if_pos hp
  · show norm_Mix.L1 N ws rows y (m + 1) _ (rows.length : Int) = _
    rw [norm_Mix.L1, if_neg (by omega), Int.toNat_natCast, hl0, chk_ok _ (by omega), Int.toNat_natCast]
    let f : Nat → Int := fun k => IntKind.i8.wrap (min (max (sh (accS ws rows k rows.length) 16) (-128)) 127)
    rw [fill_0 n f 0]
    refine loop_c (fun q (s : List Int) j => norm_Mix.L2 y (tabl n fun k => accS ws rows k rows.length) q s j) (fun j => tabl n fun k => if k < j then f k else 0) n _ (fun q j hj => ?_) (fun q => ?_) N (by omega)
    · show norm_Mix.L2 y _ (q + 1) _ (j : Int) = norm_Mix.L2 y _ q _ _
      rw [norm_Mix.L2, if_pos (by rw [Int.toNat_natCast, hl0]; omega), idx_t _ hj, Option.bind_some, shift_is _ _ (accS_range ws rows j _), Option.bind_some, sat8_is, Option.bind_some, idx_t _ hj, Option.bind_some, W_succ j (by omega)]
      have e : min (max (sh (accS ws rows j rows.length) (min (max (16 : Int) 0) 62).toNat) (-128)) 127 = f j := by
        show _ = IntKind.i8.wrap (min (max (sh (accS ws rows j rows.length) 16) (-128)) 127)
        rw [w8_is, show (min (max (16 : Int) 0) 62).toNat = 16 from rfl]; omega
      rw [e, fill_step n f 0 j]
    · show norm_Mix.L2 y _ (q + 1) _ (n : Int) = _
      rw [norm_Mix.L2, if_neg (by rw [Int.toNat_natCast, hl0]; omega), fill_n]
      rfl
end Go.Proofs.YtdipfegofpfhaaaGreat

namespace Go.Proofs.YtdipfegofpfhaaaGreat
open Go Go.Hp
set_option linter.unusedVariables false
theorem u64w {n : Int} (h0 : 0 ≤ n) (h1 : n < 18446744073709551616) : IntKind.u64.wrap n = n := by rw [IntKind.wrap_u64]; omega
theorem u64_wraps (n : Int) (h0 : 0 ≤ n) (h1 : n < 2 ^ 64) : IntKind.u64.wrap n = n := u64w h0 (by have : (2 : Int) ^ 64 = 18446744073709551616 := by decide
                                                                                                   omega)
theorem ior_pow (i : Nat) (x : Int) (h0 : 0 ≤ x) (h1 : x < 18446744073709551616) (hx : x % 2 ^ (i + 1) = 0) (hi : i < 64) : ior .u64 x (2 ^ i) = x + 2 ^ i := by
  have hp : (2 : Int) ^ 64 = 18446744073709551616 := by decide
  have h2 : (2 : Int) ^ i < 2 ^ (i + 1) := by
    have : (2 : Nat) ^ i < 2 ^ (i + 1) := Nat.pow_lt_pow_right (by decide) (by omega)
    exact_mod_cast this
  have h3 : (2 : Int) ^ i < 2 ^ 64 := by
    have : (2 : Nat) ^ i < 2 ^ 64 := Nat.pow_lt_pow_right (by decide) hi
    exact_mod_cast this
  have h4 : (0 : Int) ≤ 2 ^ i := by
    have : (0 : Nat) ≤ 2 ^ i := Nat.zero_le _
    exact_mod_cast this
  exact bits_join .u64 64 (by decide) u64_wraps (i + 1) x (2 ^ i) h0 hx (by omega) h4 h2 h3
theorem ishl_one (b : Nat) (hb : b < 64) : ishl .u64 1 (b : Int) = 2 ^ b := by
  unfold ishl
  have e : min ((b : Int).toNat) IntKind.u64.bits = b := by
    show min ((b : Int).toNat) 64 = b
    omega
  rw [e, Int.one_mul]
  refine u64_wraps _ ?_ ?_
  · have : (0 : Nat) ≤ 2 ^ b := Nat.zero_le _
    exact_mod_cast this
  · have : (2 : Nat) ^ b < 2 ^ 64 := Nat.pow_lt_pow_right (by decide) hb
    exact_mod_cast this
theorem mul_u64 {a b : Int} (ha0 : 0 ≤ a) (ha : a < 4294967296) (hb0 : 0 ≤ b) (hb : b < 4294967296) : 0 ≤ a * b ∧ a * b < 18446744073709551616 := by
  refine ⟨Int.mul_nonneg ha0 hb0, ?_⟩
  have h1 : a * b ≤ 4294967295 * b := Int.mul_le_mul_of_nonneg_right (by omega) hb0
  omega
theorem root_one {a b n : Nat} (h1 : a * a ≤ n) (h2 : n < (a + 1) * (a + 1)) (h3 : b * b ≤ n) (h4 : n < (b + 1) * (b + 1)) : a = b := by
  rcases Nat.lt_trichotomy a b with h | h | h
  · have : (a + 1) * (a + 1) ≤ b * b := Nat.mul_le_mul (by omega) (by omega)
    omega
  · exact h
  · have : (b + 1) * (b + 1) ≤ a * a := Nat.mul_le_mul (by omega) (by omega)
    omega
theorem bitLen_lt (x : Nat) (hx : x < 2 ^ 64) : x < 2 ^ Lib.bitLen x := by
  have key : ∀ (f y : Nat), y < 2 ^ f → y < 2 ^ Lib.bitLenAux f y := by
    intro f
    induction f with
    | zero => intro y hy; simpa [Lib.bitLenAux] using hy
    | succ f ih =>
      intro y hy
      simp only [Lib.bitLenAux]
      split
      · rename_i h; subst h; decide
      · have := ih (y / 2) (by rw [Nat.pow_succ] at hy; omega)
        rw [Nat.add_comm, Nat.pow_succ]
        omega
  exact key 64 x hx
theorem bitLen_le (x : Nat) : Lib.bitLen x ≤ 64 := by
  have key : ∀ (f y : Nat), Lib.bitLenAux f y ≤ f := by
    intro f
    induction f with
    | zero => intro y; simp [Lib.bitLenAux]
    | succ f ih =>
      intro y
      simp only [Lib.bitLenAux]
      split
      · omega
      · have := ih (y / 2); omega
  exact key 64 x
theorem mul64_small (a b : Int) (ha0 : 0 ≤ a) (ha : a < 4294967296) (hb0 : 0 ≤ b) (hb : b < 4294967296) : bits_Mul64 a b = some (0, a * b) := by
  obtain ⟨hp0, hp1⟩ := mul_u64 ha0 ha hb0 hb
  have m : ∀ x : Int, 0 ≤ x → x < 18446744073709551616 → iand .u64 x 4294967295 = x % 4294967296 := fun x h0 h1 => and_low .u64 (.inr rfl) 32 (by decide) x
  have s : ∀ x : Int, 0 ≤ x → ishr .u64 x 32 = x / 4294967296 := fun x h0 => by
    show x.fdiv (2 ^ min (32 : Int).toNat IntKind.u64.bits) = _
    rw [show (2 : Int) ^ min (32 : Int).toNat IntKind.u64.bits = 4294967296 from rfl, Int.fdiv_eq_ediv_of_nonneg _ (by decide)]
  have da : a / 4294967296 = 0 := by omega
  have db : b / 4294967296 = 0 := by omega
  have ma : iand .u64 a 4294967295 = a := by rw [m a ha0 (by omega)]; omega
  have mb : iand .u64 b 4294967295 = b := by rw [m b hb0 (by omega)]; omega
  have sa : ishr .u64 a 32 = 0 := by rw [s a ha0]; exact da
  have sb : ishr .u64 b 32 = 0 := by rw [s b hb0]; exact db
  unfold bits_Mul64
  rw [ma, mb, sa, sb, Option.bind_some, u64w hp0 hp1, Option.bind_some]
  have e2 : IntKind.u64.wrap (IntKind.u64.wrap (0 * b) + ishr .u64 (a * b) 32) = a * b / 4294967296 := by
    rw [s _ hp0, Int.zero_mul, u64w (n := 0) (by decide) (by decide), u64w (n := 0 + a * b / 4294967296) (by omega) (by omega)]; omega
  have q0 : 0 ≤ a * b / 4294967296 ∧ a * b / 4294967296 < 4294967296 := by omega
  have e3 : IntKind.u64.wrap (iand .u64 (a * b / 4294967296) 4294967295 + IntKind.u64.wrap (a * 0)) = a * b / 4294967296 := by
    rw [m _ q0.1 (by omega), Int.mul_zero, u64w (n := 0) (by decide) (by decide), Int.add_zero, u64w (by omega) (by omega)]; omega
  have e4 : a * b / 4294967296 / 4294967296 = 0 := by omega
  rw [e2, Option.bind_some, e3, Option.bind_some, s _ q0.1, e4]
  rfl
theorem root_loop (n : Nat) (b : Nat) : ∀ (k r : Nat), b < k → r % 2 ^ b = 0 → r * r ≤ n → n < (r + 2 ^ b) * (r + 2 ^ b) → r + 2 ^ b ≤ 4294967296 →
    ∃ q : Nat, curve_Root.L1 (n : Int) k (r : Int) (b : Int) = some (q : Int) ∧ q * q ≤ n ∧ n < (q + 1) * (q + 1) ∧ q < 4294967296 := by
  induction b with
  | zero =>
    intro k r hk _ h1 h2 h3
    obtain ⟨k, rfl⟩ : ∃ m, k = m + 1 := ⟨k - 1, by omega⟩
    refine ⟨r, ?_, h1, by simpa using h2, by omega⟩
    rw [curve_Root.L1, if_neg (by decide)]
  | succ b ih =>
    intro k r hk hm h1 h2 h3
    obtain ⟨k, rfl⟩ : ∃ m, k = m + 1 := ⟨k - 1, by omega⟩
    have hb : b < 32 := by
      rcases Nat.lt_or_ge b 32 with h | h
      · exact h
      · have : 2 ^ 33 ≤ 2 ^ (b + 1) := Nat.pow_le_pow_right (by decide) (by omega)
        omega
    have hpow : 2 ^ (b + 1) = 2 ^ b * 2 := Nat.pow_succ 2 b
    have hpos : 0 < 2 ^ b := Nat.two_pow_pos b
    have hup : r + 2 ^ b < 4294967296 := by omega
    have e0 : IntKind.u64.wrap (((b + 1 : Nat) : Int) - 1) = (b : Int) := by rw [u64w] <;> omega
    have e1 : ior .u64 (r : Int) (2 ^ b) = ((r + 2 ^ b : Nat) : Int) := by
      rw [ior_pow b (r : Int) (by omega) (by omega) (by exact_mod_cast hm) (by omega)]
      simp
    have step : ∀ q : Bool, curve_Root.J3 (r : Int) ((b + 1 : Nat) : Int) ((r + 2 ^ b : Nat) : Int) (curve_Root.L1 (n : Int) k) q = curve_Root.L1 (n : Int) k (((if q = true then r + 2 ^ b else r : Nat) : Int)) (b : Int) := by
      intro q
      unfold curve_Root.J3 curve_Root.J2
      rw [e0]
      cases q <;> rfl
    rw [curve_Root.L1, if_pos (by omega), e0, chk_ok _ (by omega), ishl_one b (by omega), e1, Option.bind_some, mul64_small _ _ (by omega) (by omega) (by omega) (by omega), Option.bind_some, if_pos rfl, step]
    have hmod : (r + 2 ^ b) % 2 ^ b = 0 := by
      have : r % 2 ^ b = 0 := by
        have h := Nat.mod_mod_of_dvd r (show 2 ^ b ∣ 2 ^ (b + 1) from ⟨2, hpow⟩)
        rw [← h, hm]; simp
      simp [this]
    have hmod' : r % 2 ^ b = 0 := by simpa using hmod
    by_cases hle : ((r + 2 ^ b : Nat) : Int) * ((r + 2 ^ b : Nat) : Int) ≤ (n : Int)
    · rw [if_pos (decide_eq_true hle)]
      exact ih k (r + 2 ^ b) (by omega) hmod (by exact_mod_cast hle) (by rw [show r + 2 ^ b + 2 ^ b = r + 2 ^ (b + 1) by omega]; exact h2) (by omega)
    · rw [if_neg (fun e => hle (of_decide_eq_true e))]
      refine ih k r (by omega) hmod' h1 ?_ (by omega)
      have : ¬ (r + 2 ^ b) * (r + 2 ^ b) ≤ n := fun h => hle (by exact_mod_cast h)
      omega
theorem root_is (n : Nat) (hn : n < 18446744073709551616) (k : Nat) (hk : 40 ≤ k) :
    ∃ q : Nat, curve_Root k (n : Int) = some (q : Int) ∧ q * q ≤ n ∧ n < (q + 1) * (q + 1) ∧ q < 4294967296 := by
  have hL := bitLen_le n
  have hlt := bitLen_lt n (by simpa using hn)
  unfold curve_Root bits_Len64
  rw [if_pos (by omega), Option.bind_some, Int.toNat_natCast, W_in (by omega), u64w (n := (Lib.bitLen n : Int) + 1) (by omega) (by omega)]
  have e : IntKind.u64.wrap (Int.tdiv ((Lib.bitLen n : Int) + 1) 2) = (((Lib.bitLen n + 1) / 2 : Nat) : Int) := by
    rw [Int.tdiv_eq_ediv_of_nonneg (by omega), u64w] <;> omega
  rw [e, Option.bind_some]
  have h32 : 2 ^ ((Lib.bitLen n + 1) / 2) ≤ 2 ^ 32 := Nat.pow_le_pow_right (by decide) (by omega)
  refine root_loop n _ k 0 (by omega) (Nat.zero_mod _) (by omega) ?_ (by omega)
  rw [Nat.zero_add, ← Nat.pow_add]
  exact Nat.lt_of_lt_of_le hlt (Nat.pow_le_pow_right (by decide) (by omega))
theorem inverseR_is (n : Nat) (h0 : n ≠ 0) (k : Nat) (hk : 40 ≤ k) :
    ∃ q : Nat, curve_Inverse k (n : Int) = some (q : Int) ∧ q * q ≤ 281474976710656 / n ∧ 281474976710656 / n < (q + 1) * (q + 1) ∧ q < 4294967296 := by
  have hd : 281474976710656 / n ≤ 281474976710656 := Nat.div_le_self _ _
  obtain ⟨q, hq, h⟩ := root_is (281474976710656 / n) (by omega) k hk
  refine ⟨q, ?_, h⟩
  unfold curve_Inverse
  rw [if_neg (by omega), chk_ok _ (by omega), Int.tdiv_eq_ediv_of_nonneg (by decide)]
  have e : (281474976710656 : Int) / (n : Int) = ((281474976710656 / n : Nat) : Int) := by simp
  rw [e, u64w (by omega) (by omega), hq]
  rfl
end Go.Proofs.YtdipfegofpfhaaaGreat

namespace Go.Proofs.YtdipfegofpfhaaaGreat
open Go Go.Hp
set_option linter.unusedVariables false
theorem above_is (a n m : Nat) (ha : a < 4294967296) (hn : n < 18446744073709551616) (h0 : n ≠ 0) (hm : m < 18446744073709551616) :
    ref02_above (a : Int) (n : Int) (m : Int) = some (decide (m < a * a * n)) := by
  unfold ref02_above
  by_cases ha0 : a = 0
  · subst ha0
    rw [if_pos (by rfl)]
    simp
  · rw [if_neg (by omega), if_neg (by omega), chk_ok _ (by omega), chk_ok _ (by omega), Int.tdiv_eq_ediv_of_nonneg (a := (m : Int)) (by omega)]
    have h1 : m / n / a < a ↔ m / n < a * a := Nat.div_lt_iff_lt_mul (by omega)
    have h2 : m / n < a * a ↔ m < a * a * n := Nat.div_lt_iff_lt_mul (by omega)
    have hd : m / n ≤ m := Nat.div_le_self _ _
    have hd2 : m / n / a ≤ m / n := Nat.div_le_self _ _
    have e : (m : Int) / (n : Int) = ((m / n : Nat) : Int) := by simp
    have e2 : ((m / n : Nat) : Int) / (a : Int) = ((m / n / a : Nat) : Int) := by simp
    rw [e]
    have h3 := h1.trans h2
    clear h1 h2 e
    generalize m / n / a = y at *
    generalize m / n = x at *
    rw [u64w (n := (x : Int)) (by omega) (by omega), Int.tdiv_eq_ediv_of_nonneg (by omega), e2, u64w (by omega) (by omega)]
    congr 1
    rw [decide_eq_decide, ← h3]
    omega
theorem greatest_loop (n m : Nat) (hn : n < 18446744073709551616) (h0 : n ≠ 0) (hm : m < 18446744073709551616) (d : Nat) : ∀ (k a b : Nat), d < k → a < b → b ≤ 4294967296 → b - a ≤ 2 ^ d → a * a * n ≤ m → m < b * b * n →
    ∃ q : Nat, ref02_greatest.L1 (n : Int) (m : Int) k (a : Int) (b : Int) = some (q : Int) ∧ q * q * n ≤ m ∧ m < (q + 1) * (q + 1) * n := by
  induction d with
  | zero =>
    intro k a b hk hab hb hd h1 h2
    obtain ⟨k, rfl⟩ : ∃ m, k = m + 1 := ⟨k - 1, by omega⟩
    have e : b = a + 1 := by simp at hd; omega
    subst e
    refine ⟨a, ?_, h1, h2⟩
    rw [ref02_greatest.L1, if_neg (by rw [u64w] <;> omega)]
  | succ d ih =>
    intro k a b hk hab hb hd h1 h2
    obtain ⟨k, rfl⟩ : ∃ m, k = m + 1 := ⟨k - 1, by omega⟩
    have hpow : 2 ^ (d + 1) = 2 ^ d * 2 := Nat.pow_succ 2 d
    have hpos : 0 < 2 ^ d := Nat.two_pow_pos d
    rw [ref02_greatest.L1]
    by_cases hs : b - a ≤ 1
    · have e : b = a + 1 := by omega
      subst e
      refine ⟨a, ?_, h1, h2⟩
      rw [if_neg (by rw [u64w] <;> omega)]
    · rw [if_pos (by rw [u64w] <;> omega)]
      have e : IntKind.u64.wrap (Int.tdiv (IntKind.u64.wrap ((a : Int) + (b : Int))) 2) = (((a + b) / 2 : Nat) : Int) := by
        rw [u64w (n := (a : Int) + (b : Int)) (by omega) (by omega), Int.tdiv_eq_ediv_of_nonneg (by omega), u64w] <;> omega
      rw [e, Option.bind_some, above_is _ n m (by omega) hn h0 hm, Option.bind_some]
      by_cases hc : m < (a + b) / 2 * ((a + b) / 2) * n
      · rw [decide_eq_true hc, if_pos rfl]
        exact ih k a ((a + b) / 2) (by omega) (by omega) (by omega) (by omega) h1 hc
      · rw [decide_eq_false hc, if_neg (by decide)]
        exact ih k ((a + b) / 2) b (by omega) (by omega) (by omega) (by omega) (by omega) h2
theorem pinv_is {N : Nat} (hN : 100 ≤ N) (n : Int) (h0 : 0 ≤ n) (h1 : n < 18446744073709551616) : curve_Inverse N n = some (invS n) ∧ -9223372036854775808 ≤ invS n ∧ invS n ≤ 9223372036854775807 := by
  have hi := inverse_is (N := N) hN n
  obtain ⟨m, rfl⟩ := Int.eq_ofNat_of_zero_le h0
  by_cases hm : m = 0
  · subst hm
    have z : ∀ k, curve_Inverse k ((0 : Nat) : Int) = some 16777216 := fun k => by unfold curve_Inverse; exact if_pos rfl
    have z2 : ∀ k, ref02_Inverse k ((0 : Nat) : Int) = some 16777216 := fun k => by unfold ref02_Inverse; exact if_pos rfl
    rw [z2 N] at hi
    rw [z N, ← Option.some.inj hi]
    exact ⟨rfl, by decide⟩
  · obtain ⟨q, e, a1, a2, a3⟩ := inverseR_is m hm N (by omega)
    obtain ⟨p, ep, b1, b2⟩ : ∃ p : Nat, ref02_Inverse N (m : Int) = some (p : Int) ∧ p * p * m ≤ 281474976710656 ∧ 281474976710656 < (p + 1) * (p + 1) * m := by
      obtain ⟨p, e, b⟩ := greatest_loop m 281474976710656 (by omega) hm (by decide) 32 N 0 4294967296 (by omega) (by omega) (by omega) (by decide) (by omega) (by
        have : 4294967296 * 4294967296 * 1 ≤ 4294967296 * 4294967296 * m := Nat.mul_le_mul_left _ (by omega)
        omega)
      refine ⟨p, ?_, b⟩
      unfold ref02_Inverse ref02_greatest
      rw [if_neg (by omega)]
      show (ref02_greatest.L1 (m : Int) ((281474976710656 : Nat) : Int) N ((0 : Nat) : Int) ((4294967296 : Nat) : Int)).bind _ = _
      rw [e, Option.bind_some]
    have c1 : p * p ≤ 281474976710656 / m := (Nat.le_div_iff_mul_le (by omega)).2 b1
    have c2 : 281474976710656 / m < (p + 1) * (p + 1) := (Nat.div_lt_iff_lt_mul (by omega)).2 b2
    have hqp := root_one a1 a2 c1 c2
    rw [ep] at hi
    rw [e, ← Option.some.inj hi, hqp]
    refine ⟨rfl, ?_⟩
    omega
end Go.Proofs.YtdipfegofpfhaaaGreat

namespace Go.Proofs.YtdipfegofpfhaaaGreat
open Go Go.Hp
set_option linter.unusedVariables false
set_option linter.unusedSimpArgs false
set_option linter.unusedSectionVars false
theorem wu_range (x : Int) : 0 ≤ IntKind.u64.wrap x ∧ IntKind.u64.wrap x < 18446744073709551616 := by rw [IntKind.wrap_u64]; omega
theorem tame_is (y : Int) : norm_tame y = some (min (max (IntKind.i64.wrap y) (-8388608)) 8388607) := rfl
theorem square_is {N : Nat} (x : List Int) (h0 : 0 < x.length) (hl : x.length ≤ 200) (hN : 200 < N) : norm_square N x = some (IntKind.u64.wrap (Int.tdiv (sqS x x.length) (IntKind.u64.wrap ((x.length : Nat) : Int)))) := by
  unfold norm_square
  refine loop_c (fun m (s : Int) i => norm_square.L1 x m s i) (fun i => sqS x i) x.length _ (fun m i hi => ?_) (fun m => ?_) N (by omega)
  · show norm_square.L1 x (m + 1) _ (i : Int) = norm_square.L1 x m _ _
    rw [norm_square.L1, if_pos (by omega), idx_d x 0 hi, Option.bind_some, tame_is, Option.bind_some, Option.bind_some, Option.bind_some, W_succ i (by omega)]
    rfl
  · show norm_square.L1 x (m + 1) _ (x.length : Int) = _
    rw [norm_square.L1, if_neg (by omega), chk_ok _ (by rw [wu_in (by omega)]; omega), Option.bind_some]
theorem pnorm_is {N : Nat} (hN : 200 < N) (g x : List Int) (hg : g.length = x.length) (h0 : 0 < x.length) (hl : x.length ≤ 200) : norm_Norm N g x = some (normS g x, 0) := by
  have hr := wu_range (Int.tdiv (sqS x x.length) (IntKind.u64.wrap ((x.length : Nat) : Int)))
  obtain ⟨hv, _, _⟩ := pinv_is (N := N) (by omega) _ hr.1 hr.2
  unfold norm_Norm
  rw [if_neg (by omega), if_neg (by omega), if_neg (by omega), square_is x h0 hl hN, Option.bind_some, hv, Option.bind_some, chk_ok _ (by omega), Int.toNat_natCast]
  let f : Nat → Int := fun i => IntKind.i8.wrap (min (max (sh (IntKind.i64.wrap (IntKind.i64.wrap (min (max (IntKind.i64.wrap (x.getD i 0)) (-8388608)) 8388607 * IntKind.i64.wrap (invS (IntKind.u64.wrap (Int.tdiv (sqS x x.length) (IntKind.u64.wrap ((x.length : Nat) : Int)))))) * IntKind.i64.wrap (g.getD i 0))) 23) (-128)) 127)
  rw [fill_0 x.length f 0]
  refine loop_c (fun m (s : List Int) i => norm_Norm.L1 g x _ m s i) (fun i => tabl x.length fun k => if k < i then f k else 0) x.length _ (fun m i hi => ?_) (fun m => ?_) N (by omega)
  · show norm_Norm.L1 g x _ (m + 1) _ (i : Int) = norm_Norm.L1 g x _ m _ _
    rw [norm_Norm.L1, if_pos (by omega), idx_d x 0 hi, Option.bind_some, tame_is, Option.bind_some, idx_d g 0 (by omega), Option.bind_some, shift_is _ _ (W_range _), Option.bind_some, sat8_is, Option.bind_some, idx_t _ hi, Option.bind_some, W_succ i (by omega)]
    have e : min (max (sh (IntKind.i64.wrap (IntKind.i64.wrap (min (max (IntKind.i64.wrap (x.getD i 0)) (-8388608)) 8388607 * IntKind.i64.wrap (invS (IntKind.u64.wrap (Int.tdiv (sqS x x.length) (IntKind.u64.wrap ((x.length : Nat) : Int)))))) * IntKind.i64.wrap (g.getD i 0))) (min (max (23 : Int) 0) 62).toNat) (-128)) 127 = f i := by
      show _ = IntKind.i8.wrap (min (max (sh (IntKind.i64.wrap (IntKind.i64.wrap (min (max (IntKind.i64.wrap (x.getD i 0)) (-8388608)) 8388607 * IntKind.i64.wrap (invS (IntKind.u64.wrap (Int.tdiv (sqS x x.length) (IntKind.u64.wrap ((x.length : Nat) : Int)))))) * IntKind.i64.wrap (g.getD i 0))) 23) (-128)) 127)
      rw [w8_is, show (min (max (23 : Int) 0) 62).toNat = 23 from rfl]; omega
    rw [e, fill_step x.length f 0 i]
  · show norm_Norm.L1 g x _ (m + 1) _ (x.length : Int) = _
    rw [norm_Norm.L1, if_neg (by omega), fill_n]
    rfl
theorem clone8_is (x : List Int) (h : x.length ≤ 100000) : slices_Clone_s_int8_int8 x = some x := by
  unfold slices_Clone_s_int8_int8
  rw [app_ok _ _ (by simp; omega), Option.bind_some]; rfl
theorem gate_is {N : Nat} (u : List Int) (hl : u.length ≤ 300) (hN : 300 < N) : norm_Gate N u = some (reluS u) := by
  unfold norm_Gate
  rw [clone8_is u (by omega), Option.bind_some]
  let f : Nat → Int := fun i => if u.getD i 0 < 0 then 0 else u.getD i 0
  have h0 : u = tabl u.length fun k => if k < 0 then f k else u.getD k 0 := by
    conv => lhs; rw [tab_of u 0]
    exact tabl_congr fun j hj => (if_neg (by omega)).symm
  have e0 : norm_Gate.L1 u N u 0 = norm_Gate.L1 u N (tabl u.length fun k => if k < 0 then f k else u.getD k 0) 0 := congrArg (fun z => norm_Gate.L1 u N z 0) h0
  rw [e0]
  refine loop_c (fun m (s : List Int) i => norm_Gate.L1 u m s i) (fun i => tabl u.length fun k => if k < i then f k else u.getD k 0) u.length _ (fun m i hi => ?_) (fun m => ?_) N (by omega)
  · show norm_Gate.L1 u (m + 1) _ (i : Int) = norm_Gate.L1 u m _ _
    rw [norm_Gate.L1, if_pos (by omega), idx_t _ hi, Option.bind_some, Option.bind_some, W_succ i (by omega), if_neg (show ¬ i < i by omega), Int.toNat_natCast, tabl_set]
    congr 1
    refine tabl_congr fun p hp => ?_
    by_cases e : p = i
    · subst e; rw [if_pos rfl, if_pos (by omega)]
      show _ = if u.getD p 0 < 0 then 0 else u.getD p 0
      split <;> omega
    · rw [if_neg e]
      by_cases e2 : p < i
      · rw [if_pos e2, if_pos (by omega)]
      · rw [if_neg e2, if_neg (by omega)]
  · show norm_Gate.L1 u (m + 1) _ (u.length : Int) = _
    rw [norm_Gate.L1, if_neg (by omega)]
    exact congrArg some (tabl_congr fun j hj => if_pos hj)
end Go.Proofs.YtdipfegofpfhaaaGreat

namespace Go.Proofs.YtdipfegofpfhaaaGreat
open Go Go.Hp
set_option linter.unusedVariables false
set_option linter.unusedSimpArgs false
set_option linter.unusedSectionVars false
def lookS (L : List S_ref08_Kept) (s : S_model_spot) : Option S_model_kept :=
  if 0 ≤ s.layer ∧ 0 ≤ s.place ∧ s.place < L.length ∧ s.layer < (L.getD s.place.toNat zK).K.length then some ⟨(L.getD s.place.toNat zK).K.getD s.layer.toNat [], (L.getD s.place.toNat zK).V.getD s.layer.toNat []⟩ else none
def KM (L : List S_ref08_Kept) (m : List (S_model_spot × S_model_kept)) : Prop := ∀ s, mget m s = lookS L s
theorem lookS_at (L : List S_ref08_Kept) (n p : Nat) (hp : p < L.length) (hn : n < (L.getD p zK).K.length) : lookS L ⟨(n : Int), (p : Int)⟩ = some ⟨(L.getD p zK).K.getD n [], (L.getD p zK).V.getD n []⟩ := by
  unfold lookS
  simp only [Int.toNat_natCast]
  exact if_pos ⟨by omega, by omega, by omega, by omega⟩
theorem getD_app1 {α : Type} (l : List α) (a z : α) (k : Nat) : (l ++ [a]).getD k z = if k < l.length then l.getD k z else if k = l.length then a else z := by
  rw [List.getD_eq_getElem?_getD]
  by_cases h : k < l.length
  · rw [if_pos h, List.getElem?_append_left h, ← List.getD_eq_getElem?_getD]
  · rw [if_neg h]
    by_cases e : k = l.length
    · subst e; rw [if_pos rfl]; simp
    · rw [if_neg e, List.getElem?_eq_none (by rw [len_app1]; omega)]; rfl
theorem lookS_z (L : List S_ref08_Kept) (s : S_model_spot) : lookS (L ++ [zK]) s = lookS L s := by
  unfold lookS
  by_cases h : 0 ≤ s.place
  · obtain ⟨p, hp⟩ := Int.eq_ofNat_of_zero_le h
    rw [hp, Int.toNat_natCast, getD_app1, len_app1]
    by_cases h1 : p < L.length
    · rw [if_pos h1]
      by_cases c : 0 ≤ s.layer ∧ 0 ≤ ((p : Nat) : Int) ∧ ((p : Nat) : Int) < ((L.length : Nat) : Int) ∧ s.layer < ((L.getD p zK).K.length : Int)
      · rw [if_pos c, if_pos ⟨c.1, c.2.1, by omega, c.2.2.2⟩]
      · rw [if_neg c, if_neg (fun q => c ⟨q.1, q.2.1, by omega, q.2.2.2⟩)]
    · rw [if_neg h1]
      have hz : (if p = L.length then zK else zK) = zK := by split <;> rfl
      rw [hz, if_neg (fun q => by have := q.2.2.2; simp only [zK, List.length_nil] at this; omega), if_neg (fun q => h1 (by omega))]
  · rw [if_neg (fun q => h q.2.1), if_neg (fun q => h q.2.1)]
theorem KM_z {L : List S_ref08_Kept} {m : List (S_model_spot × S_model_kept)} (h : KM L m) : KM (L ++ [zK]) m := fun s => by rw [h s, lookS_z]
theorem KM_set {L : List S_ref08_Kept} {kk : S_ref08_Kept} {m : List (S_model_spot × S_model_kept)} (h : KM (L ++ [kk]) m) (n : Nat) (h1 : kk.K.length = n) (h2 : kk.V.length = n) (a b : List Int) :
    KM (L ++ [⟨kk.K ++ [a], kk.V ++ [b]⟩]) (mset m ⟨(n : Int), ((L.length : Nat) : Int)⟩ ⟨a, b⟩) := by
  intro s
  rw [mget_mset]
  by_cases hs : s = ⟨(n : Int), ((L.length : Nat) : Int)⟩
  · subst hs
    rw [if_pos rfl, lookS_at _ n L.length (by rw [len_app1]; omega) (by rw [getD_app1, if_neg (by omega), if_pos rfl]; simp [h1])]
    rw [getD_app1 L, if_neg (by omega), if_pos rfl]
    dsimp only
    rw [getD_app1, getD_app1, if_neg (by omega), if_pos (by omega), if_neg (by omega), if_pos (by omega)]
  · rw [if_neg hs, h s]
    unfold lookS
    rw [len_app1, len_app1]
    by_cases hp : s.place.toNat = L.length
    · rw [hp, getD_app1 L kk, getD_app1 L, if_neg (show ¬ L.length < L.length by omega), if_pos (show L.length = L.length from rfl), if_neg (show ¬ L.length < L.length by omega), if_pos (show L.length = L.length from rfl)]
      dsimp only
      rw [len_app1]
      by_cases c : 0 ≤ s.layer ∧ 0 ≤ s.place ∧ s.place < ((L.length + 1 : Nat) : Int) ∧ s.layer < ((kk.K.length : Nat) : Int)
      · rw [if_pos c, if_pos ⟨c.1, c.2.1, c.2.2.1, by omega⟩, getD_app1, getD_app1, if_pos (by omega), if_pos (by omega)]
      · rw [if_neg c, if_neg (fun q => by
          have : s.layer = (n : Int) := by
            rcases Int.lt_or_le s.layer (n : Int) with hh | hh
            · exact absurd ⟨q.1, q.2.1, q.2.2.1, by omega⟩ c
            · have := q.2.2.2; omega
          exact hs (by cases s; simp only [S_model_spot.mk.injEq] at *; omega))]
    · rw [getD_app1, getD_app1]
      by_cases h3 : s.place.toNat < L.length
      · rw [if_pos h3, if_pos h3]
      · rw [if_neg h3, if_neg h3, if_neg hp, if_neg hp]
section
variable {d : Dim} (hd : DOK d)
include hd
theorem pat_is (x : List Int) (h : Nat) (hx : x.length = d.w) (hh : h < d.h) : (0 : Int) ≤ ((h * d.wd : Nat) : Int) ∧ ((h * d.wd : Nat) : Int) ≤ IntKind.i64.wrap (((h * d.wd : Nat) : Int) + (d.wd : Int)) ∧ IntKind.i64.wrap (((h * d.wd : Nat) : Int) + (d.wd : Int)) ≤ ((x.length : Nat) : Int) ∧ ((x.take (IntKind.i64.wrap (((h * d.wd : Nat) : Int) + (d.wd : Int))).toNat).drop (((h * d.wd : Nat) : Int)).toNat) = part x d.wd h := by
  have h1 : (h + 1) * d.wd ≤ d.h * d.wd := Nat.mul_le_mul_right _ (by omega)
  have h2 := hd.w
  have h3 : (h + 1) * d.wd = h * d.wd + d.wd := Nat.succ_mul _ _
  have : d.w = d.h * d.wd := rfl
  have e : IntKind.i64.wrap (((h * d.wd : Nat) : Int) + (d.wd : Int)) = (((h + 1) * d.wd : Nat) : Int) := by rw [W_in (by omega)]; omega
  rw [e, Int.toNat_natCast, Int.toNat_natCast]
  exact ⟨by omega, by omega, by omega, rfl⟩
theorem pattend_is {N : Nat} (hN : 300 < N) {w : S_api_Weights} (hw : WOK d w) (r : S_model_Run) (hm : r.m = some ⟨w⟩) (L : List S_ref08_Kept) (hL : L.length ≤ 50) (hL0 : L ≠ []) (hp : r.place + 1 = ((L.length : Nat) : Int)) (hk : KM L r.kept) (n : Nat) (hn : n < d.ly)
    (hK : ∀ k ∈ L, n < k.K.length ∧ n < k.V.length ∧ (∀ r ∈ k.K, r.length = d.w) ∧ ∀ r ∈ k.V, r.length = d.w) (q : List Int) (hq : q.length = d.w) : model_Run_attend N r (n : Int) q = some (attS d L n q d.h) := by
  have hlp : 0 < L.length := List.length_pos_iff.2 hL0
  have hdd := hd.h; have hly := hd.ly; have hww := dw16 hd; have hwd := hd.wd
  have hdw : d.w = d.h * d.wd := rfl
  have hkk : ∀ p, p < L.length → ((L.getD p zK).K.getD n []).length = d.w ∧ ((L.getD p zK).V.getD n []).length = d.w := fun p hp => by
    obtain ⟨a, b, c, e⟩ := hK _ (getD_in L zK p hp)
    exact ⟨c _ (getD_in _ _ _ a), e _ (getD_in _ _ _ b)⟩
  have hwp : IntKind.i64.wrap (r.place + 1) = ((L.length : Nat) : Int) := by rw [hp, W_in (by omega)]
  have ewd : IntKind.i64.wrap (Int.tdiv ((q.length : Nat) : Int) w.Shape.Heads) = (d.wd : Int) := by
    rw [hw.heads, hq, hdw]
    have : ((d.h * d.wd : Nat) : Int) = (d.h : Int) * (d.wd : Int) := by simp
    rw [this, Int.mul_tdiv_cancel_left _ (by omega), W_in (by omega)]
  unfold model_Run_attend
  rw [hm, Option.bind_some, chk_ok _ (by show w.Shape.Heads ≠ 0; rw [hw.heads]; omega)]
  show (some (IntKind.i64.wrap (Int.tdiv ((q.length : Nat) : Int) w.Shape.Heads))).bind _ = _
  rw [ewd, Option.bind_some]
  obtain ⟨m', s', hs, e⟩ := loop_to (fun m (s : List Int) i => model_Run_attend.L1 N r (n : Int) q (d.wd : Int) m s i) (fun i => ((i * d.wd : Nat) : Int)) d.h (fun i s => s = attS d L n q i) (fun m h s hh hs => by
    refine ⟨_, rfl, ?_⟩
    subst hs
    have hal := attS_len hd L n q h
    have hhw : (h + 1) * d.wd ≤ d.h * d.wd := Nat.mul_le_mul_right _ (by omega)
    have hsm : (h + 1) * d.wd = h * d.wd + d.wd := Nat.succ_mul _ _
    show model_Run_attend.L1 N r (n : Int) q (d.wd : Int) (m + 1) _ ((h * d.wd : Nat) : Int) = _
    rw [model_Run_attend.L1, if_pos (by omega)]
    obtain ⟨q1, q2, q3, q4⟩ := pat_is hd q h hq hh
    have lq := part_len q d.wd h d.h (by rw [hq]; rfl) hh
    refine loop_c (fun m2 (s : List Int × List (List Int)) i => model_Run_attend.L2 N r (n : Int) q (d.wd : Int) (attS d L n q h) ((h * d.wd : Nat) : Int) (model_Run_attend.L1 N r (n : Int) q (d.wd : Int) m) m2 s.1 s.2 i) (fun p => (tabl p fun p => IntKind.i32.wrap (dots (part q d.wd h) (part ((L.getD p zK).K.getD n []) d.wd h) d.wd), tabl p fun p => part ((L.getD p zK).V.getD n []) d.wd h)) L.length _ (fun m2 p hp2 => ?_) (fun m2 => ?_) N (by omega)
    · show model_Run_attend.L2 N r (n : Int) q _ _ _ _ (m2 + 1) (tabl p _) (tabl p _) (p : Int) = model_Run_attend.L2 N r (n : Int) q _ _ _ _ m2 (tabl (p + 1) _) (tabl (p + 1) _) _
      obtain ⟨a, b, c, e⟩ := hK _ (getD_in L zK p hp2)
      obtain ⟨k1, k2⟩ := hkk p hp2
      obtain ⟨p1, p2, p3, p4⟩ := pat_is hd _ h k1 hh
      obtain ⟨v1, v2, v3, v4⟩ := pat_is hd _ h k2 hh
      have lk := part_len _ d.wd h d.h (by rw [k1]; rfl) hh
      have hdot := rdot_is (N := N) (part q d.wd h) (part ((L.getD p zK).K.getD n []) d.wd h) (by rw [lq, lk]) (by rw [lq]; omega) (by rw [lq]; omega)
      rw [lq] at hdot
      rw [model_Run_attend.L2, if_pos (by rw [hwp]; omega), hk, lookS_at L n p hp2 a, Option.getD_some, Option.bind_some, chk_ok _ ⟨q1, q2, q3⟩, chk_ok _ ⟨p1, p2, p3⟩, q4, p4, hdot, Option.bind_some, app_ok _ _ (by rw [tabl_len]; simp only [List.length_cons, List.length_nil]; omega), Option.bind_some, chk_ok _ ⟨v1, v2, v3⟩, v4, app_ok _ _ (by rw [tabl_len]; simp only [List.length_cons, List.length_nil]; omega), Option.bind_some, W_succ p (by omega), tabl_succ, tabl_succ]
    · show model_Run_attend.L2 N r (n : Int) q _ _ _ _ (m2 + 1) (tabl L.length _) (tabl L.length _) (L.length : Int) = _
      have hmx := pmix_is (N := N) (softS 64 0 (tabl L.length fun p => IntKind.i32.wrap (dots (part q d.wd h) (part ((L.getD p zK).K.getD n []) d.wd h) d.wd))) (tabl L.length fun p => part ((L.getD p zK).V.getD n []) d.wd h) d.wd (by rw [softS_len, tabl_len, tabl_len]) (by rw [tabl_len]; exact hlp) (by rw [tabl_len]; omega) (fun i hi => by
        rw [tabl_len] at hi
        rw [tabl_getD _ _ _ _ hi]
        exact part_len _ d.wd h d.h (by rw [(hkk i hi).2]; rfl) hh) (by omega) (by omega)
      rw [model_Run_attend.L2, if_neg (by rw [hwp]; omega), psoftmax_is _ _ _ (by rw [tabl_len]; omega) (by rw [tabl_len]; omega) (by omega), Option.bind_some, hmx, Option.bind_some, app_ok _ _ (by rw [mixS_len]; omega), Option.bind_some]
      have e2 : IntKind.i64.wrap (((h * d.wd : Nat) : Int) + (d.wd : Int)) = (((h + 1) * d.wd : Nat) : Int) := by rw [W_in (by omega)]; omega
      rw [e2]
      rfl) N [] (by omega) rfl
  subst hs
  have e0 : ((0 * d.wd : Nat) : Int) = 0 := by simp
  rw [show model_Run_attend.L1 N r (n : Int) q (d.wd : Int) N [] 0 = model_Run_attend.L1 N r (n : Int) q (d.wd : Int) N [] ((0 * d.wd : Nat) : Int) by rw [e0]]
  refine Eq.trans e ?_
  show model_Run_attend.L1 N r (n : Int) q (d.wd : Int) (m' + 1) _ ((d.h * d.wd : Nat) : Int) = _
  rw [model_Run_attend.L1, if_neg (by omega)]
structure ROK (d : Dim) (w : S_api_Weights) (L : List S_ref08_Kept) (r : S_model_Run) : Prop where
  m : r.m = some ⟨w⟩
  place : r.place = ((L.length : Nat) : Int)
  kept : KM L r.kept
theorem player_is {N : Nat} (hN : 300 < N) {w : S_api_Weights} (hw : WOK d w) (L : List S_ref08_Kept) (hL : L.length ≤ 40) (hK : ∀ k ∈ L, KOK d d.ly k) (r : S_model_Run) (hm : r.m = some ⟨w⟩) (hp : r.place = ((L.length : Nat) : Int)) (s : S_ref08_Kept × List Int) (n : Nat) (hn : n < d.ly) (hs : KOK d n s.1) (hx : s.2.length = d.w) (hk : KM (L ++ [s.1]) r.kept) :
    ∃ r', model_Run_layer N r (n : Int) s.2 = some (tailS d (w.Blocks.getD n zB) s.2 (attS d (L ++ [⟨s.1.K ++ [kS d (w.Blocks.getD n zB) L.length s.2], s.1.V ++ [vS d (w.Blocks.getD n zB) s.2]⟩]) n (qS d (w.Blocks.getD n zB) L.length s.2) d.h), r') ∧ r'.m = some ⟨w⟩ ∧ r'.place = ((L.length : Nat) : Int) ∧ KM (L ++ [⟨s.1.K ++ [kS d (w.Blocks.getD n zB) L.length s.2], s.1.V ++ [vS d (w.Blocks.getD n zB) s.2]⟩]) r'.kept := by
  have hww := dw16 hd; have hi := hd.inn; have hh := hd.h; have hwd := hd.wd; have hly := hd.ly; have hvo := hd.voc
  have hdw : d.w = d.h * d.wd := rfl
  have hw0 : 0 < d.w := by rw [hdw]; exact Nat.mul_pos hh.1 hwd.1
  have hb : BOK d (w.Blocks.getD n zB) := hw.blocks _ (getD_in _ _ _ (by have := hw.blen; omega))
  have hib : idx w.Blocks (n : Int) = some (w.Blocks.getD n zB) := idx_d w.Blocks zB (by have := hw.blen; omega)
  generalize w.Blocks.getD n zB = b at hb hib ⊢
  obtain ⟨k1, k2, k3, k4⟩ := hs
  have ewd : IntKind.i64.wrap (Int.tdiv w.Shape.Width w.Shape.Heads) = (d.wd : Int) := by
    rw [hw.width, hw.heads, hdw]
    have : ((d.h * d.wd : Nat) : Int) = (d.h : Int) * (d.wd : Int) := by simp
    rw [this, Int.mul_tdiv_cancel_left _ (by omega), W_in (by omega)]
  have hnl : (normS b.First s.2).length = d.w := by rw [normS_len, hx]
  have hset := KM_set hk n k1 k2 (kS d b L.length s.2) (vS d b s.2)
  refine ⟨⟨r.m, r.place, mset r.kept ⟨(n : Int), r.place⟩ ⟨kS d b L.length s.2, vS d b s.2⟩⟩, ?_, hm, hp, by rw [hp]; exact hset⟩
  have hKL : ∀ k ∈ L ++ [(⟨s.1.K ++ [kS d b L.length s.2], s.1.V ++ [vS d b s.2]⟩ : S_ref08_Kept)], n < k.K.length ∧ n < k.V.length ∧ (∀ r ∈ k.K, r.length = d.w) ∧ ∀ r ∈ k.V, r.length = d.w := by
    intro k hk
    rcases List.mem_append.1 hk with h | h
    · obtain ⟨a, b', c, e⟩ := hK k h
      exact ⟨by omega, by omega, c, e⟩
    · rw [List.mem_singleton] at h
      subst h
      refine ⟨by simp [k1], by simp [k2], fun r hr => ?_, fun r hr => ?_⟩
      · rcases List.mem_append.1 hr with h | h
        · exact k3 r h
        · rw [List.mem_singleton] at h; rw [h]; exact kS_len hd hb _ _
      · rcases List.mem_append.1 hr with h | h
        · exact k4 r h
        · rw [List.mem_singleton] at h; rw [h]; exact vS_len hd _ _
  have hatt := pattend_is hd hN hw ⟨r.m, r.place, mset r.kept ⟨(n : Int), r.place⟩ ⟨kS d b L.length s.2, vS d b s.2⟩⟩ hm (L ++ [⟨s.1.K ++ [kS d b L.length s.2], s.1.V ++ [vS d b s.2]⟩]) (by rw [len_app1]; omega) (by simp) (by rw [len_app1]; show r.place + 1 = _; rw [hp]; rfl) (by show KM _ (mset r.kept ⟨(n : Int), r.place⟩ _); rw [hp]; exact hset) n hn hKL (qS d b L.length s.2) (qS_len hd hb _ _)
  have hal := attS_len hd (L ++ [(⟨s.1.K ++ [kS d b L.length s.2], s.1.V ++ [vS d b s.2]⟩ : S_ref08_Kept)]) n (qS d b L.length s.2) d.h
  unfold model_Run_layer
  rw [hm, Option.bind_some]
  show (idx w.Blocks (n : Int)).bind _ = _
  rw [hib, Option.bind_some, chk_ok _ (by show w.Shape.Heads ≠ 0; rw [hw.heads]; omega), pnorm_is (by omega) _ _ (by rw [hx]; exact hb.first) (by omega) (by omega), Option.bind_some, matR_eta, pquants_is hb.q (by omega) (by omega) (by omega) _ hnl, Option.bind_some]
  show (model_turned N r.place (IntKind.i64.wrap (Int.tdiv w.Shape.Width w.Shape.Heads)) _).bind _ = _
  rw [ewd, hp, pturned_is (by omega) L.length d.wd d.h (by omega) _ (by rw [quantsS_len]; rfl) (by omega) hwd.1 hwd.2.1 (by omega), Option.bind_some, matR_eta, pquants_is hb.k (by omega) (by omega) (by omega) _ hnl, Option.bind_some]
  rw [pturned_is (by omega) L.length d.wd d.h (by omega) _ (by rw [quantsS_len]; rfl) (by omega) hwd.1 hwd.2.1 (by omega), Option.bind_some, matR_eta, pquants_is hb.v (by omega) (by omega) (by omega) _ hnl, Option.bind_some]
  rw [hm, hp] at hatt
  show (model_Run_attend N ⟨some ⟨w⟩, ((L.length : Nat) : Int), mset r.kept ⟨(n : Int), ((L.length : Nat) : Int)⟩ ⟨kS d b L.length s.2, vS d b s.2⟩⟩ (n : Int) (qS d b L.length s.2)).bind _ = _
  rw [hatt, Option.bind_some, matR_eta, papply_is hb.o (by omega) (by omega) (by omega) _ hal, Option.bind_some, pjoin_is _ _ _ _ (by rw [applyS_len, hx]) (by omega) (by omega), Option.bind_some]
  have hx1 := joinS_len s.2 (applyS b.O (attS d (L ++ [(⟨s.1.K ++ [kS d b L.length s.2], s.1.V ++ [vS d b s.2]⟩ : S_ref08_Kept)]) n (qS d b L.length s.2) d.h) d.w d.w) 1 4
  dsimp only
  rw [pnorm_is (by omega) _ _ (by rw [hx1, hx]; exact hb.second) (by omega) (by omega), Option.bind_some, matR_eta, pquants_is hb.up (by omega) (by omega) (by omega) _ (by rw [normS_len, hx1, hx]), Option.bind_some, gate_is _ (by rw [quantsS_len]; omega) (by omega), Option.bind_some, matR_eta, papply_is hb.down (by omega) (by omega) (by omega) _ (by rw [reluS, tabl_len, quantsS_len]), Option.bind_some, pjoin_is _ _ _ _ (by rw [applyS_len, hx1, hx]) (by omega) (by omega), Option.bind_some]
  rfl
end
end Go.Proofs.YtdipfegofpfhaaaGreat

namespace Go.Proofs.YtdipfegofpfhaaaGreat
open Go Go.Hp
set_option linter.unusedVariables false
set_option linter.unusedSimpArgs false
set_option linter.unusedSectionVars false
section
variable {d : Dim} (hd : DOK d)
include hd
theorem pone_is {N : Nat} (hN : 300 < N) {w : S_api_Weights} (hw : WOK d w) (L : List S_ref08_Kept) (hL : L.length ≤ 40) (hK : ∀ k ∈ L, KOK d d.ly k) (r : S_model_Run) (hr : ROK d w L r) (t : Nat) (ht : t < d.voc) :
    ∃ r', model_Run_one N r (t : Int) = some (outS d w L t, r') ∧ ROK d w (L ++ [keptS d w L t]) r' := by
  have hww := dw16 hd; have hi := hd.inn; have hh := hd.h; have hwd := hd.wd; have hly := hd.ly; have hvo := hd.voc
  have hdw : d.w = d.h * d.wd := rfl
  have hw0 : 0 < d.w := by rw [hdw]; exact Nat.mul_pos hh.1 hwd.1
  have hin : (inS d w t).length = d.w := tabl_len _ _
  have h1 : (t + 1) * d.w ≤ d.voc * d.w := Nat.mul_le_mul_right _ (by omega)
  have h2 : (t + 1) * d.w = t * d.w + d.w := Nat.succ_mul _ _
  have hvw : d.voc * d.w ≤ 10 * 16 := Nat.mul_le_mul hvo.2 hww
  have hel : w.Embed.V.length = d.voc * d.w := hw.embed.2.2
  have e1 : IntKind.i64.wrap ((t : Int) * w.Shape.Width) = ((t * d.w : Nat) : Int) := by
    rw [hw.width, show (t : Int) * ((d.w : Nat) : Int) = ((t * d.w : Nat) : Int) by simp, W_in (by omega)]
  have e2 : IntKind.i64.wrap (IntKind.i64.wrap ((t : Int) + 1) * w.Shape.Width) = (((t + 1) * d.w : Nat) : Int) := by
    rw [hw.width, W_succ t (by omega), show ((t + 1 : Nat) : Int) * ((d.w : Nat) : Int) = (((t + 1) * d.w : Nat) : Int) by simp, W_in (by omega)]
  -- layer by layer, from the end
  have hL2 : ∃ r', model_Run_one.L2 N ⟨w⟩ N r (inS d w t) 0 = some (outS d w L t, r') ∧ ROK d w (L ++ [keptS d w L t]) r' := by
    obtain ⟨m', s', ⟨hm, hp, hk, hx⟩, e⟩ := loop_to (fun m (s : S_model_Run × List Int) i => model_Run_one.L2 N ⟨w⟩ m s.1 s.2 i) (fun i => (i : Int)) d.ly (fun n s => s.1.m = some ⟨w⟩ ∧ s.1.place = ((L.length : Nat) : Int) ∧ KM (L ++ [(layersS d w L (inS d w t) n).1]) s.1.kept ∧ s.2 = (layersS d w L (inS d w t) n).2) (fun m n s hn hs => by
      obtain ⟨hm, hp, hk, hx⟩ := hs
      obtain ⟨hko, hxl⟩ := layersS_ok hd hw L (inS d w t) hin n (by omega)
      obtain ⟨r', e, m1, p1, k1⟩ := player_is hd hN hw L hL hK s.1 hm hp (layersS d w L (inS d w t) n) n hn hko hxl hk
      refine ⟨(r', _), ⟨m1, p1, k1, rfl⟩, ?_⟩
      show model_Run_one.L2 N ⟨w⟩ (m + 1) s.1 s.2 (n : Int) = _
      rw [model_Run_one.L2]
      show (if (n : Int) < ((w.Blocks.length : Nat) : Int) then _ else _) = _
      rw [if_pos (by rw [hw.blen]; omega), hx, e, Option.bind_some, W_succ n (by omega)]
      rfl) N (r, inS d w t) (by omega) ⟨hr.m, hr.place, KM_z hr.kept, rfl⟩
    obtain ⟨hko, hxl⟩ := layersS_ok hd hw L (inS d w t) hin d.ly (Nat.le_refl _)
    refine ⟨⟨s'.1.m, IntKind.i64.wrap (s'.1.place + 1), s'.1.kept⟩, e.trans ?_, hm, ?_, hk⟩
    · show model_Run_one.L2 N ⟨w⟩ (m' + 1) s'.1 s'.2 (d.ly : Int) = _
      rw [model_Run_one.L2]
      show (if (d.ly : Int) < ((w.Blocks.length : Nat) : Int) then _ else (norm_Norm N w.Last s'.2).bind _) = _
      rw [if_neg (by rw [hw.blen]; omega), hx, pnorm_is (by omega) _ _ (by rw [hxl]; exact hw.last) (by omega) (by omega), Option.bind_some]
      show (matmul_Apply N ⟨w.Head.Rows, w.Head.Cols, w.Head.V⟩ _).bind _ = _
      rw [matR_eta, papply_is hw.head (by omega) (by omega) (by omega) _ (by rw [normS_len, hxl]), Option.bind_some]
      rfl
    · show IntKind.i64.wrap (s'.1.place + 1) = _
      rw [hp, W_succ _ (by omega), len_app1]
  obtain ⟨r', e, hro⟩ := hL2
  refine ⟨r', ?_, hro⟩
  unfold model_Run_one
  rw [hr.m, Option.bind_some]
  show chk (0 ≤ IntKind.i64.wrap ((t : Int) * w.Shape.Width) ∧ IntKind.i64.wrap ((t : Int) * w.Shape.Width) ≤ IntKind.i64.wrap (IntKind.i64.wrap ((t : Int) + 1) * w.Shape.Width) ∧ IntKind.i64.wrap (IntKind.i64.wrap ((t : Int) + 1) * w.Shape.Width) ≤ ((w.Embed.V.length : Nat) : Int)) _ = _
  rw [e1, e2, chk_ok _ ⟨by omega, by omega, by omega⟩]
  refine loop_c (fun m (s : List Int) i => model_Run_one.L1 N r (t : Int) ⟨w⟩ m s i) (fun i => tabl i fun i => IntKind.i32.wrap (16 * IntKind.i32.wrap (w.Embed.V.getD (t * d.w + i) 0))) d.w _ (fun m i hi => ?_) (fun m => ?_) N (by omega)
  · show model_Run_one.L1 N r (t : Int) ⟨w⟩ (m + 1) _ (i : Int) = model_Run_one.L1 N r (t : Int) ⟨w⟩ m _ _
    rw [model_Run_one.L1]
    show (if (i : Int) < (((IntKind.i64.wrap (IntKind.i64.wrap ((t : Int) + 1) * w.Shape.Width)).toNat - (IntKind.i64.wrap ((t : Int) * w.Shape.Width)).toNat : Nat) : Int) then (idx ((w.Embed.V.take (IntKind.i64.wrap (IntKind.i64.wrap ((t : Int) + 1) * w.Shape.Width)).toNat).drop (IntKind.i64.wrap ((t : Int) * w.Shape.Width)).toNat) (i : Int)).bind _ else _) = _
    rw [e1, e2, Int.toNat_natCast, Int.toNat_natCast, if_pos (by omega)]
    have hx : idx ((w.Embed.V.take ((t + 1) * d.w)).drop (t * d.w)) (i : Int) = some (w.Embed.V.getD (t * d.w + i) 0) := by
      rw [idx_d _ 0 (by simp; omega), List.getD_eq_getElem?_getD, List.getElem?_drop, List.getElem?_take, if_pos (by omega), ← List.getD_eq_getElem?_getD]
    have hs : ∀ y : Int, ishl .i32 (IntKind.i32.wrap y) 4 = IntKind.i32.wrap (16 * IntKind.i32.wrap y) := fun y => by
      show IntKind.i32.wrap (IntKind.i32.wrap y * 2 ^ min (4 : Int).toNat 32) = _
      rw [show (2 : Int) ^ min (4 : Int).toNat 32 = 16 from rfl, Int.mul_comm]
    rw [hx, Option.bind_some, hs, app_ok _ _ (by rw [tabl_len]; simp only [List.length_cons, List.length_nil]; omega), Option.bind_some, W_succ i (by omega), tabl_succ]
  · show model_Run_one.L1 N r (t : Int) ⟨w⟩ (m + 1) _ (d.w : Int) = _
    rw [model_Run_one.L1]
    show (if (d.w : Int) < (((IntKind.i64.wrap (IntKind.i64.wrap ((t : Int) + 1) * w.Shape.Width)).toNat - (IntKind.i64.wrap ((t : Int) * w.Shape.Width)).toNat : Nat) : Int) then _ else _) = _
    rw [e1, e2, Int.toNat_natCast, Int.toNat_natCast, if_neg (by omega)]
    exact e
theorem pfeed2_is {N : Nat} (hN : 300 < N) {w : S_api_Weights} (hw : WOK d w) : ∀ (post pre : List Nat) (m : Nat) (y : List Int) (L : List S_ref08_Kept) (r : S_model_Run), (∀ t ∈ post, t < d.voc) → post.length < m → L.length + post.length ≤ 40 → pre.length + post.length ≤ 100 → (∀ k ∈ L, KOK d d.ly k) → ROK d w L r →
    ∃ r', model_Run_Feed.L2 N (toks (pre ++ post)) m r y (pre.length : Int) = some (lastS d w L y post, 0, r') ∧ ROK d w (stS d w L post) r' := by
  intro post
  induction post with
  | nil =>
    intro pre m y L r hv hm hl hl2 hK hr
    obtain ⟨m, rfl⟩ : ∃ q, m = q + 1 := ⟨m - 1, by omega⟩
    refine ⟨r, ?_, hr⟩
    rw [model_Run_Feed.L2, if_neg (by rw [toks_len, List.append_nil]; omega)]; rfl
  | cons t post ih =>
    intro pre m y L r hv hm hl hl2 hK hr
    obtain ⟨m, rfl⟩ : ∃ q, m = q + 1 := ⟨m - 1, by omega⟩
    have hi : idx (toks (pre ++ t :: post)) (pre.length : Int) = some (t : Int) := by
      rw [toks_app]
      have := idx_mid (toks pre) (t : Int) (toks post)
      rw [toks_len] at this
      exact this
    simp only [List.length_cons] at hm hl hl2
    obtain ⟨r1, e1, hr1⟩ := pone_is hd hN hw L (by omega) hK r hr t (hv t (by simp))
    obtain ⟨r2, e2, hr2⟩ := ih (pre ++ [t]) m (outS d w L t) (L ++ [keptS d w L t]) r1 (fun u hu => hv u (by simp [hu])) (by omega) (by rw [len_app1]; omega) (by rw [len_app1]; omega) (fun k hk => by
      rcases List.mem_append.1 hk with h | h
      · exact hK k h
      · rw [List.mem_singleton] at h; rw [h]; exact keptS_ok hd hw L t) hr1
    refine ⟨r2, ?_, hr2⟩
    rw [model_Run_Feed.L2, if_pos (by rw [toks_len]; simp only [List.length_append, List.length_cons]; omega), hi, Option.bind_some, e1, Option.bind_some, W_succ _ (by omega), ← len_snoc pre t]
    rw [show pre ++ t :: post = (pre ++ [t]) ++ post by simp]
    exact e2
theorem pfeed1_is {N : Nat} (hN : 300 < N) {w : S_api_Weights} (hw : WOK d w) (L : List S_ref08_Kept) (r : S_model_Run) (hr : ROK d w L r) (ts : List Nat) (hv : ∀ t ∈ ts, t < d.voc) (hl : ts.length ≤ 30) (hL : L.length ≤ 40) :
    model_Run_Feed N r (toks ts) = if L.length + ts.length > d.pl then some ([], 80, r) else model_Run_Feed.L2 N (toks ts) N r [] 0 := by
  have hlen := toks_len ts
  have hpl := hd.pl
  unfold model_Run_Feed
  rw [hr.m, Option.bind_some]
  refine loop_c (fun m (_ : Unit) i => model_Run_Feed.L1 N r (toks ts) ⟨w⟩ m i) (fun _ => ()) ts.length _ (fun m i hi => ?_) (fun m => ?_) N (by omega)
  · show model_Run_Feed.L1 N r _ ⟨w⟩ (m + 1) (i : Int) = model_Run_Feed.L1 N r _ ⟨w⟩ m _
    have hv := hv _ (getD_in ts 0 i hi)
    rw [model_Run_Feed.L1, if_pos (by omega), toks_get ts i hi, Option.bind_some, if_neg (by omega)]
    show (if ((ts.getD i 0 : Nat) : Int) ≥ w.Shape.Vocab then _ else _) = _
    rw [if_neg (by rw [hw.vocab]; omega), W_succ i (by omega)]
  · show model_Run_Feed.L1 N r _ ⟨w⟩ (m + 1) (ts.length : Int) = _
    rw [model_Run_Feed.L1, if_neg (by omega)]
    show (if (((toks ts).length : Nat) : Int) > IntKind.i64.wrap (w.Shape.Places - r.place) then _ else _) = _
    rw [hw.places, hr.place, W_in (by omega), hlen]
    by_cases c : L.length + ts.length > d.pl
    · rw [if_pos (by omega), if_pos c]
    · rw [if_neg (by omega), if_neg c]
theorem pfeed_is {N : Nat} (hN : 300 < N) {w : S_api_Weights} (hw : WOK d w) (L : List S_ref08_Kept) (hK : ∀ k ∈ L, KOK d d.ly k) (r : S_model_Run) (hr : ROK d w L r) (ts : List Nat) (hv : ∀ t ∈ ts, t < d.voc) (hl : L.length + ts.length ≤ d.pl) :
    ∃ r', model_Run_Feed N r (toks ts) = some (lastS d w L [] ts, 0, r') ∧ ROK d w (stS d w L ts) r' := by
  have hpl := hd.pl
  obtain ⟨r', e, h⟩ := pfeed2_is hd hN hw ts [] N [] L r hv (by omega) (by omega) (by simp; omega) hK hr
  refine ⟨r', ?_, h⟩
  rw [pfeed1_is hd hN hw L r hr ts hv (by omega) (by omega), if_neg (by omega)]
  exact e
theorem pfeed_full {N : Nat} (hN : 300 < N) {w : S_api_Weights} (hw : WOK d w) (L : List S_ref08_Kept) (hL : L.length ≤ d.pl) (r : S_model_Run) (hr : ROK d w L r) (ts : List Nat) (hv : ∀ t ∈ ts, t < d.voc) (hl : ts.length ≤ 30) (hl2 : L.length + ts.length > d.pl) :
    model_Run_Feed N r (toks ts) = some ([], 80, r) := by
  have hpl := hd.pl
  rw [pfeed1_is hd hN hw L r hr ts hv hl (by omega), if_pos hl2]
end
end Go.Proofs.YtdipfegofpfhaaaGreat

namespace Go.Proofs.YtdipfegofpfhaaaGreat
open Go Go.Hp
set_option linter.unusedVariables false
set_option linter.unusedSimpArgs false
set_option linter.unusedSectionVars false
theorem win_is (x a b : Int) (h : a ≤ x ∧ x ≤ b) : weight_in x a b = some true := by
  unfold weight_in
  rw [if_pos (by omega), decide_eq_true h.2]
theorem wis_is {N : Nat} (hN : 5 < N) {m : S_api_Mat} {r c : Nat} (h : matR m r c) (hr : r ≤ 200) (hc : c ≤ 200) : weight_is N m (r : Int) (c : Int) = some true := by
  obtain ⟨k, rfl⟩ : ∃ k, N = k + 3 := ⟨N - 3, by omega⟩
  unfold weight_is
  rw [if_pos h.1, if_pos h.2.1, matR_eta]
  unfold matmul_Right slices_ContainsFunc_s_api_Mat_api_Mat slices_IndexFunc_s_api_Mat_api_Mat
  rw [slices_IndexFunc_s_api_Mat_api_Mat.L1, if_pos (by simp), show idx [m] 0 = some m from rfl, Option.bind_some, matP h hr hc, Option.bind_some, if_neg (by decide), show IntKind.i64.wrap (0 + 1) = 1 from rfl, slices_IndexFunc_s_api_Mat_api_Mat.L1, if_neg (by simp)]
  rfl
theorem wmat_is {m : S_api_Mat} (h : m.V.length ≤ 100000) : model_mat m = some m := by
  unfold model_mat
  rw [clone8_is _ h, Option.bind_some]
section
variable {d : Dim} (hd : DOK d)
include hd
theorem wodd_is {N : Nat} (hN : 10 < N) {w : S_api_Weights} (hw : WOK d w) {b : S_api_Block} (hb : BOK d b) : weight_sides_odd N (⟨w.Shape.Layers, w.Shape.Width, w.Shape.Heads, w.Shape.Inner, w.Shape.Vocab, w.Shape.Places⟩ : S_weight_sides) b = some false := by
  have hww := dw16 hd; have hi := hd.inn
  have e1 := wis_is (N := N) (by omega) hb.q (by omega) (by omega)
  have e2 := wis_is (N := N) (by omega) hb.k (by omega) (by omega)
  have e3 := wis_is (N := N) (by omega) hb.v (by omega) (by omega)
  have e4 := wis_is (N := N) (by omega) hb.o (by omega) (by omega)
  have e5 := wis_is (N := N) (by omega) hb.up (by omega) (by omega)
  have e6 := wis_is (N := N) (by omega) hb.down (by omega) (by omega)
  unfold weight_sides_odd
  rw [hw.width, hw.inner]
  refine loop_c (fun m (_ : Unit) i => weight_sides_odd.L1 N _ b m i) (fun _ => ()) 4 _ (fun m i hi => ?_) (fun m => ?_) N (by omega)
  · show weight_sides_odd.L1 N _ b (m + 1) (i : Int) = weight_sides_odd.L1 N _ b m _
    rw [weight_sides_odd.L1, if_pos (by omega), matR_eta, matR_eta, matR_eta, matR_eta]
    have hx : ∃ y, idx [b.Q, b.K, b.V, b.O] (i : Int) = some y ∧ weight_is N y ((d.w : Nat) : Int) ((d.w : Nat) : Int) = some true := by
      match i, hi with
      | 0, _ => exact ⟨_, rfl, e1⟩
      | 1, _ => exact ⟨_, rfl, e2⟩
      | 2, _ => exact ⟨_, rfl, e3⟩
      | 3, _ => exact ⟨_, rfl, e4⟩
    obtain ⟨y, ey, e⟩ := hx
    rw [ey, Option.bind_some, matR_eta, e, Option.bind_some, if_pos rfl, W_succ i (by omega)]
  · show weight_sides_odd.L1 N _ b (m + 1) ((4 : Nat) : Int) = _
    rw [weight_sides_odd.L1, if_neg (by omega), if_neg (by rw [hb.first]; exact fun q => q rfl), if_neg (by rw [hb.second]; exact fun q => q rfl), matR_eta, matR_eta, e5, Option.bind_some, if_pos rfl, e6, Option.bind_some, if_pos rfl]
theorem whole_is {N : Nat} (hN : 10 < N) (hp : 0 < d.pl) {w : S_api_Weights} (hw : WOK d w) : weight_Whole N [w] = some true := by
  have hww := dw16 hd; have hi := hd.inn; have hh := hd.h; have hwd := hd.wd; have hly := hd.ly; have hvo := hd.voc; have hpl := hd.pl
  have hdw : d.w = d.h * d.wd := rfl
  have hw2 : 2 ≤ d.w := by
    have : 1 * 2 ≤ d.h * d.wd := Nat.mul_le_mul (by omega) (by omega)
    omega
  have h1 : weight_Whole_1 N w = some false := by
    have hR : weight_Right (⟨w.Shape.Layers, w.Shape.Width, w.Shape.Heads, w.Shape.Inner, w.Shape.Vocab, w.Shape.Places⟩ : S_api_Shape) = some true := by
      have hm : Int.tmod ((d.w : Nat) : Int) (IntKind.i64.wrap (2 * (d.h : Int))) = 0 := by
        rw [W_in (by omega), Int.tmod_eq_emod_of_nonneg (by omega)]
        obtain ⟨e, he⟩ : ∃ e, d.wd = 2 * e := ⟨d.wd / 2, by omega⟩
        have : ((d.w : Nat) : Int) = 2 * (d.h : Int) * (e : Int) := by
          rw [hdw, he]
          have : d.h * (2 * e) = 2 * d.h * e := by rw [Nat.mul_left_comm, Nat.mul_assoc]
          rw [this]; simp
        rw [this, Int.mul_emod_right]
      unfold weight_Right
      rw [hw.layers, hw.width, hw.heads, hw.inner, hw.vocab, hw.places]
      rw [win_is _ _ _ ⟨by omega, by omega⟩, Option.bind_some, if_pos rfl, win_is _ _ _ ⟨by omega, by omega⟩, Option.bind_some, if_pos rfl, win_is _ _ _ ⟨by omega, by omega⟩, Option.bind_some, if_pos rfl]
      show chk (IntKind.i64.wrap (2 * (d.h : Int)) ≠ 0) (if Int.tmod ((d.w : Nat) : Int) (IntKind.i64.wrap (2 * (d.h : Int))) = 0 then _ else _) = _
      rw [chk_ok _ (by rw [W_in (by omega)]; omega), if_pos hm, win_is _ _ _ ⟨by omega, by omega⟩, Option.bind_some, if_pos rfl, win_is _ _ _ ⟨by omega, by omega⟩, Option.bind_some, if_pos rfl, win_is _ _ _ ⟨by omega, by omega⟩, Option.bind_some]
    have e1 := wis_is (N := N) (by omega) hw.embed (by omega) (by omega)
    have e2 := wis_is (N := N) (by omega) hw.head (by omega) (by omega)
    unfold weight_Whole_1
    rw [hR, Option.bind_some, if_pos rfl, matR_eta, matR_eta, hw.vocab, hw.width, e1, Option.bind_some, if_pos rfl, e2, Option.bind_some, if_pos rfl, if_neg (by rw [hw.last]; exact fun q => q rfl), if_neg (by rw [hw.blen, hw.layers]; exact fun q => q rfl)]
    refine loop_c (fun m (_ : Unit) i => weight_Whole_1.L1 N w m i) (fun _ => ()) w.Blocks.length _ (fun m i hi => ?_) (fun m => ?_) N (by rw [hw.blen]; omega)
    · show weight_Whole_1.L1 N w (m + 1) (i : Int) = weight_Whole_1.L1 N w m _
      have hb : BOK d (w.Blocks.getD i zB) := hw.blocks _ (getD_in _ _ _ hi)
      rw [weight_Whole_1.L1, if_pos (by omega), idx_d _ zB hi, Option.bind_some, wodd_is hd hN hw hb, Option.bind_some, if_neg (by decide), W_succ i (by have := hw.blen; omega)]
    · show weight_Whole_1.L1 N w (m + 1) (w.Blocks.length : Int) = _
      rw [weight_Whole_1.L1, if_neg (by omega)]
      rfl
  obtain ⟨k, rfl⟩ : ∃ k, N = k + 3 := ⟨N - 3, by omega⟩
  unfold weight_Whole slices_ContainsFunc_s_api_Weights_api_Weights slices_IndexFunc_s_api_Weights_api_Weights
  rw [slices_IndexFunc_s_api_Weights_api_Weights.L1, if_pos (by simp), show idx [w] 0 = some w from rfl, Option.bind_some, h1, Option.bind_some, if_neg (by decide), show IntKind.i64.wrap (0 + 1) = 1 from rfl, slices_IndexFunc_s_api_Weights_api_Weights.L1, if_neg (by simp)]
  rfl
theorem new_is {N : Nat} (hN : 10 < N) (hp : 0 < d.pl) {w : S_api_Weights} (hw : WOK d w) : model_New N w = some (some ⟨w⟩, 0) := by
  have hww := dw16 hd; have hi := hd.inn; have hly := hd.ly; have hvo := hd.voc
  have hbig : ∀ {m : S_api_Mat} {r c : Nat}, matR m r c → r ≤ 200 → c ≤ 200 → m.V.length ≤ 100000 := fun h h1 h2 => by
    rw [h.2.2]; exact Nat.le_trans (Nat.mul_le_mul h1 h2) (by decide)
  have hl := hw.last
  unfold model_New
  show (weight_Whole N [w]).bind _ = _
  rw [whole_is hd hN hp hw, Option.bind_some, if_pos rfl, matR_eta, matR_eta, wmat_is (hbig hw.embed (by omega) (by omega)), Option.bind_some, clone8_is _ (by omega), Option.bind_some, wmat_is (hbig hw.head (by omega) (by omega)), Option.bind_some]
  unfold model_New.J1
  refine loop_c (fun m (s : List S_api_Block) i => model_New.L2 w w.Embed.Rows w.Embed.Cols w.Embed.V w.Last w.Head.Rows w.Head.Cols w.Head.V m s i) (fun i => w.Blocks.take i) w.Blocks.length _ (fun m i hib => ?_) (fun m => ?_) N (by rw [hw.blen]; omega)
  · show model_New.L2 w _ _ _ _ _ _ _ (m + 1) _ (i : Int) = model_New.L2 w _ _ _ _ _ _ _ m _ _
    have hb : BOK d w.Blocks[i] := hw.blocks _ (List.getElem_mem hib)
    have hf := hb.first; have hs := hb.second
    rw [model_New.L2, if_pos (by omega), idx_get _ _ hib, Option.bind_some]
    generalize hbb : w.Blocks[i] = b at hb hf hs ⊢
    rw [clone8_is _ (by omega), Option.bind_some, clone8_is _ (by omega), Option.bind_some, matR_eta, matR_eta, matR_eta, matR_eta, matR_eta, matR_eta, wmat_is (hbig hb.q (by omega) (by omega)), Option.bind_some, wmat_is (hbig hb.k (by omega) (by omega)), Option.bind_some, wmat_is (hbig hb.v (by omega) (by omega)), Option.bind_some, wmat_is (hbig hb.o (by omega) (by omega)), Option.bind_some, wmat_is (hbig hb.up (by omega) (by omega)), Option.bind_some, wmat_is (hbig hb.down (by omega) (by omega)), Option.bind_some]
    rw [app_ok _ _ (by rw [List.length_take]; simp only [List.length_cons, List.length_nil]; have := hw.blen; omega), Option.bind_some, W_succ i (by have := hw.blen; omega), List.take_succ_eq_append_getElem hib, hbb]
  · show model_New.L2 w _ _ _ _ _ _ _ (m + 1) _ (w.Blocks.length : Int) = _
    rw [model_New.L2, if_neg (by omega), List.take_length]
end
end Go.Proofs.YtdipfegofpfhaaaGreat

namespace Go.Proofs.YtdipfegofpfhaaaGreat
open Go Go.Hp
set_option linter.unusedVariables false
set_option linter.unusedSimpArgs false
set_option linter.unusedSectionVars false
theorem pargmax_is {N : Nat} (y : List Int) (h0 : 0 < y.length) (hl : y.length ≤ 200) (hN : 200 < N) : round_Argmax N y = some ((argS y y.length : Nat) : Int) := by
  unfold round_Argmax
  have key := loop_c (fun m (s : Int) i => round_Argmax.L1 y m s i) (fun i => if i = 0 then -1 else ((argS y i : Nat) : Int)) y.length (some ((argS y y.length : Nat) : Int)) (fun m i hi => by
    show round_Argmax.L1 y (m + 1) (if i = 0 then -1 else ((argS y i : Nat) : Int)) (i : Int) = round_Argmax.L1 y m (if i + 1 = 0 then -1 else ((argS y (i + 1) : Nat) : Int)) _
    rw [round_Argmax.L1, if_pos (by omega), idx_d y 0 hi, Option.bind_some, if_neg (show ¬ i + 1 = 0 by omega)]
    have step : ∀ (j : Int) (q : Bool), round_Argmax.J3 j (i : Int) (round_Argmax.L1 y m) q = round_Argmax.L1 y m (if q = true then (i : Int) else j) ((i + 1 : Nat) : Int) := by
      intro j q
      unfold round_Argmax.J3 round_Argmax.J2
      rw [W_succ i (by omega)]
      cases q <;> rfl
    by_cases c : i = 0
    · subst c
      rw [if_pos rfl, if_pos (show (-1 : Int) < 0 by decide), step, if_pos rfl]
      congr 1
      have : argS y 1 = 0 := by rw [argS, argS]; split <;> rfl
      rw [this]
    · rw [if_neg c, if_neg (by omega)]
      have ha : argS y i < y.length := by
        obtain ⟨_, _, h⟩ := argS_props y i
        omega
      rw [idx_d y 0 ha, Option.bind_some, step]
      congr 1
      rw [argS]
      by_cases g : y.getD i 0 > y.getD (argS y i) 0
      · rw [if_pos (decide_eq_true g), if_pos g]
      · rw [if_neg (fun e => g (of_decide_eq_true e)), if_neg g]) (fun m => by
    show round_Argmax.L1 y (m + 1) (if y.length = 0 then -1 else ((argS y y.length : Nat) : Int)) (y.length : Int) = _
    rw [round_Argmax.L1, if_neg (by omega), if_neg (by omega)]) N (by omega)
  exact key
def checkS (s : S_api_Shape) (p : List Int) (most : Int) : Int := if most < 1 then 2 else if ((p.length : Nat) : Int) > s.Places then 80 else if most > s.Places - p.length + 1 then 80 else 0
theorem checks_loop (s : S_api_Shape) (p : List Int) (most : Int) (hl : p.length ≤ 300) (hp : -1000 ≤ s.Places ∧ s.Places ≤ 1000) (f : Int → Option Bool) (hf : ∀ y, f y = some (decide (y < 0 ∨ y ≥ s.Vocab))) :
    ∀ (d m i : Nat), i + d = p.length → d < m → ∃ r1 r2, slices_IndexFunc_s_int_int.L1 p f m (i : Int) = some r1 ∧ ref09_Check.L1 s p most m (i : Int) = some r2 ∧ (r1 ≥ 0 → r2 = 2) ∧ (r1 < 0 → r2 = checkS s p most) := by
  intro d
  induction d with
  | zero =>
    intro m i hd hm
    obtain ⟨m, rfl⟩ : ∃ q, m = q + 1 := ⟨m - 1, by omega⟩
    refine ⟨-1, checkS s p most, ?_, ?_, by omega, fun _ => rfl⟩
    · rw [slices_IndexFunc_s_int_int.L1, if_neg (by omega)]
    · rw [ref09_Check.L1, if_neg (by omega)]
      unfold checkS
      by_cases h1 : most < 1
      · rw [if_pos h1, if_pos h1]
      rw [if_neg h1, if_neg h1]
      by_cases h2 : ((p.length : Nat) : Int) > s.Places
      · rw [if_pos h2, if_pos h2]
      rw [if_neg h2, if_neg h2, W_in (x := s.Places - ((p.length : Nat) : Int)) (by omega)]
      rw [W_in (x := s.Places - ((p.length : Nat) : Int) + 1) (by omega)]
      split <;> rfl
  | succ d ih =>
    intro m i hd hm
    obtain ⟨m, rfl⟩ : ∃ q, m = q + 1 := ⟨m - 1, by omega⟩
    have hi : (i : Int) < ((p.length : Nat) : Int) := by omega
    have hx : idx p (i : Int) = some (p.getD i 0) := idx_d p 0 (by omega)
    have a1 : slices_IndexFunc_s_int_int.L1 p f (m + 1) (i : Int) = if decide (p.getD i 0 < 0 ∨ p.getD i 0 ≥ s.Vocab) = true then some (i : Int) else slices_IndexFunc_s_int_int.L1 p f m (((i + 1 : Nat)) : Int) := by
      rw [slices_IndexFunc_s_int_int.L1, if_pos hi, hx, Option.bind_some, hf, Option.bind_some, W_succ i (by omega)]
    have a2 : ref09_Check.L1 s p most (m + 1) (i : Int) = if p.getD i 0 < 0 then some 2 else if p.getD i 0 ≥ s.Vocab then some 2 else ref09_Check.L1 s p most m (((i + 1 : Nat)) : Int) := by
      rw [ref09_Check.L1, if_pos hi, hx, Option.bind_some, Option.bind_some, W_succ i (by omega)]
    rw [a1, a2]
    by_cases hb : p.getD i 0 < 0 ∨ p.getD i 0 ≥ s.Vocab
    · rw [if_pos (decide_eq_true hb)]
      refine ⟨(i : Int), 2, rfl, ?_, fun _ => rfl, by omega⟩
      by_cases h1 : p.getD i 0 < 0
      · rw [if_pos h1]
      · rw [if_neg h1, if_pos (hb.resolve_left h1)]
    · rw [if_neg (by rw [decide_eq_true_eq]; exact hb), if_neg (fun h => hb (.inl h)), if_neg (fun h => hb (.inr h))]
      exact ih m (i + 1) (by omega) (by omega)
theorem gcheck_ref {N : Nat} (hN : 400 ≤ N) (s : S_api_Shape) (p : List Int) (hl : p.length ≤ 300) (most : Int) (hp : -1000 ≤ s.Places ∧ s.Places ≤ 1000) (hm : -9223372036854775808 ≤ most ∧ most ≤ 9223372036854775807) : gen_Check N s p most = ref09_Check N s p most := by
  unfold gen_Check ref09_Check
  by_cases h0 : ((p.length : Nat) : Int) = 0
  · rw [if_pos h0, if_pos h0]
  rw [if_neg h0, if_neg h0]
  unfold slices_ContainsFunc_s_int_int slices_IndexFunc_s_int_int
  obtain ⟨r1, r2, e1, e2, k1, k2⟩ := checks_loop s p most (by omega) (by omega) (fun (y6_ : Int) =>
      if y6_ < 0 then
        some true
      else
        some (decide (y6_ ≥ s.Vocab))) (fun y => by
          by_cases h : y < 0
          · rw [if_pos h, decide_eq_true (Or.inl h)]
          · rw [if_neg h]; congr 1; exact decide_eq_decide.2 (by omega)) p.length N 0 (by omega) (by omega)
  replace e1 : slices_IndexFunc_s_int_int.L1 p (fun (y6_ : Int) =>
      if y6_ < 0 then
        some true
      else
        some (decide (y6_ ≥ s.Vocab))) N 0 = some r1 := e1
  rw [e1, Option.bind_some, Option.bind_some]
  rw [show ref09_Check.L1 s p most N 0 = some r2 from e2]
  by_cases hr : r1 ≥ 0
  · rw [if_pos (decide_eq_true hr), k1 hr]
  · rw [if_neg (by rw [decide_eq_true_eq]; exact hr), k2 (by omega)]
    unfold checkS
    by_cases h1 : most < 1
    · rw [if_pos h1, if_pos h1]
    rw [if_neg h1, if_neg h1]
    by_cases h2 : ((p.length : Nat) : Int) > s.Places
    · rw [if_pos h2, if_pos h2]
    rw [if_neg h2, if_neg h2, W_in (x := s.Places - ((p.length : Nat) : Int)) (by omega), W_in (x := most - 1) (by omega)]
    by_cases h3 : most > s.Places - p.length + 1
    · rw [if_pos (by omega), if_pos h3]
    · rw [if_neg (by omega), if_neg h3]
section
variable {d : Dim} (hd : DOK d)
include hd
theorem rcheck_ok {N : Nat} (hN : 400 ≤ N) (s : S_api_Shape) (hs1 : s.Vocab = (d.voc : Int)) (hs2 : s.Places = (d.pl : Int)) (p : List Nat) (hp : p ≠ []) (hv : ∀ t ∈ p, t < d.voc) (k : Nat) (hk : 0 < k) (hm : p.length + k ≤ d.pl + 1) : ref09_Check N s (toks p) (k : Int) = some 0 := by
  have hp0 : 0 < p.length := List.length_pos_iff.2 hp
  have hpl := hd.pl
  have hlen := toks_len p
  unfold ref09_Check
  rw [if_neg (by omega)]
  refine loop_c (fun m (_ : Unit) i => ref09_Check.L1 s (toks p) (k : Int) m i) (fun _ => ()) p.length _ (fun m i hi => ?_) (fun m => ?_) N (by omega)
  · show ref09_Check.L1 s (toks p) (k : Int) (m + 1) (i : Int) = ref09_Check.L1 s (toks p) (k : Int) m _
    have := hv _ (getD_in p 0 i hi)
    rw [ref09_Check.L1, if_pos (by omega), toks_get p i hi, Option.bind_some, if_neg (by omega), Option.bind_some, if_neg (by omega), W_succ i (by omega)]
  · show ref09_Check.L1 s (toks p) (k : Int) (m + 1) (p.length : Int) = _
    rw [ref09_Check.L1, if_neg (by omega), if_neg (by omega), if_neg (by omega), hs2, hlen, W_in (x := (d.pl : Int) - ((p.length : Nat) : Int)) (by omega), W_in (by omega), if_neg (by omega)]
theorem gcheck_ok {N : Nat} (hN : 400 ≤ N) (s : S_api_Shape) (hs1 : s.Vocab = (d.voc : Int)) (hs2 : s.Places = (d.pl : Int)) (p : List Nat) (hp : p ≠ []) (hv : ∀ t ∈ p, t < d.voc) (k : Nat) (hk : 0 < k) (hm : p.length + k ≤ d.pl + 1) : gen_Check N s (toks p) (k : Int) = some 0 := by
  have hpl := hd.pl
  rw [gcheck_ref hN s (toks p) (by rw [toks_len]; omega) _ (by omega) (by omega)]
  exact rcheck_ok hd hN s hs1 hs2 p hp hv k hk hm
theorem ROK_0 (w : S_api_Weights) : ROK d w [] ⟨some ⟨w⟩, 0, []⟩ := ⟨rfl, rfl, fun s => by
  unfold lookS
  rw [if_neg (fun q => by have := q.2.2.1; simp only [List.length_nil] at this; have := q.2.1; omega)]
  rfl⟩
theorem cloneI_is (x : List Int) (h : x.length ≤ 100000) : slices_Clone_s_int_int x = some x := by
  unfold slices_Clone_s_int_int
  rw [app_ok _ _ (by simp; omega), Option.bind_some]; rfl
theorem begin_ok {N : Nat} (hN : 400 ≤ N) {w : S_api_Weights} (hw : WOK d w) (p : List Nat) (hp : p ≠ []) (hv : ∀ t ∈ p, t < d.voc) (hm : p.length ≤ d.pl) : gen_Begin N (some ⟨w⟩) (toks p) = some (some ⟨some ⟨some ⟨w⟩, 0, []⟩, toks p, []⟩, 0) := by
  have hpl := hd.pl
  unfold gen_Begin
  rw [optc_some]
  show (gen_Check N w.Shape (toks p) ((1 : Nat) : Int)).bind _ = _
  rw [gcheck_ok hd hN w.Shape hw.vocab hw.places p hp hv 1 (by omega) (by omega), Option.bind_some, if_neg (fun q => q rfl)]
  unfold model_Model_Run
  rw [Option.bind_some, cloneI_is hd _ (by rw [toks_len]; omega), Option.bind_some]
def TOK (d : Dim) (w : S_api_Weights) (p : List Nat) (i : Nat) (t : S_gen_Talk) : Prop := ∃ r, t = ⟨some r, toks (gFeed d w p i), toks (genS d w p i)⟩ ∧ ROK d w (stS d w [] (gFed d w p i)) r
theorem gF_facts (w : S_api_Weights) (p : List Nat) (hp : p ≠ []) (hv : ∀ t ∈ p, t < d.voc) (i : Nat) : (gFed d w p i).length + (gFeed d w p i).length = p.length + i ∧ gFeed d w p i ≠ [] ∧ (∀ t ∈ gFeed d w p i, t < d.voc) ∧ (stS d w [] (gFed d w p i)).length = (gFed d w p i).length := by
  have hgl := genS_len d w p i
  have happ := gFed_app hd w p i
  refine ⟨?_, ?_, ?_, ?_⟩
  · have := congrArg List.length happ
    simpa [hgl] using this
  · cases i with | zero => exact hp | succ i => simp [gFeed]
  · intro t ht
    have : t ∈ gFed d w p i ++ gFeed d w p i := List.mem_append_right _ ht
    rw [happ] at this
    rcases List.mem_append.1 this with h | h
    · exact hv t h
    · exact genS_lt hd w p hp i t h
  · have := stS_len d w (gFed d w p i) []
    simpa using this
theorem next_is {N : Nat} (hN : 400 ≤ N) {w : S_api_Weights} (hw : WOK d w) (p : List Nat) (hp : p ≠ []) (hv : ∀ t ∈ p, t < d.voc) (i : Nat) (hi : p.length + i ≤ d.pl) (t : S_gen_Talk) (ht : TOK d w p i t) :
    ∃ t', gen_Talk_Next N t = some (((argS (lastS d w [] [] (p ++ genS d w p i)) d.voc : Nat) : Int), true, t') ∧ TOK d w p (i + 1) t' := by
  have hpl := hd.pl
  obtain ⟨r, rfl, hr⟩ := ht
  obtain ⟨f1, f2, f3, f4⟩ := gF_facts hd w p hp hv i
  have hgl := genS_len d w p i
  have happ := gFed_app hd w p i
  obtain ⟨r', e, hr'⟩ := pfeed_is hd (N := N) (by omega) hw _ (stS_ok hd hw _ [] (by simp)) r hr (gFeed d w p i) f3 (by omega)
  have hy : lastS d w (stS d w [] (gFed d w p i)) [] (gFeed d w p i) = lastS d w [] [] (p ++ genS d w p i) := by
    rw [← happ, lastS_app]; exact lastS_any d w _ _ _ _ f2
  have hyl := lastS_len hd w (p ++ genS d w p i) [] [] (.inl (by simp [hp]))
  have e1 : stS d w (stS d w [] (gFed d w p i)) (gFeed d w p i) = stS d w [] (gFed d w p (i + 1)) := by rw [← stS_app, happ]; rfl
  have e2 : toks (genS d w p i) ++ [((argS (lastS d w [] [] (p ++ genS d w p i)) d.voc : Nat) : Int)] = toks (genS d w p (i + 1)) := by rw [genS, toks_app]; rfl
  refine ⟨⟨some r', toks (gFeed d w p (i + 1)), toks (genS d w p (i + 1))⟩, ?_, r', rfl, by rw [← e1]; exact hr'⟩
  unfold gen_Talk_Next
  rw [Option.bind_some, e, Option.bind_some, if_neg (fun q => q rfl), hy, pargmax_is _ (by rw [hyl]; exact hd.voc.1) (by rw [hyl]; have := hd.voc; omega) (by omega), Option.bind_some, app_ok _ _ (by rw [toks_len, hgl]; simp only [List.length_cons, List.length_nil]; omega), Option.bind_some, hyl, e2]
  rfl
theorem next_full {N : Nat} (hN : 400 ≤ N) {w : S_api_Weights} (hw : WOK d w) (p : List Nat) (hp : p ≠ []) (hv : ∀ t ∈ p, t < d.voc) (i : Nat) (hi : p.length + i = d.pl + 1) (hi2 : (gFed d w p i).length ≤ d.pl) (t : S_gen_Talk) (ht : TOK d w p i t) : gen_Talk_Next N t = some (0, false, t) := by
  have hpl := hd.pl
  obtain ⟨r, rfl, hr⟩ := ht
  obtain ⟨f1, f2, f3, f4⟩ := gF_facts hd w p hp hv i
  unfold gen_Talk_Next
  rw [Option.bind_some, pfeed_full hd (N := N) (by omega) hw _ (by omega) r hr (gFeed d w p i) f3 (by omega) (by omega), Option.bind_some, if_pos (show (80 : Int) ≠ 0 by decide)]
end
end Go.Proofs.YtdipfegofpfhaaaGreat

namespace Go.Proofs.YtdipfegofpfhaaaGreat
open Go Go.Hp
set_option linter.unusedVariables false
set_option linter.unusedSimpArgs false
set_option linter.unusedSectionVars false
theorem made9_is {N : Nat} (hN : 5000 ≤ N) (s : S_law09_Seeds) (hx : s.Xs.length ≤ 2000) : ∃ (d : Dim) (w : S_api_Weights), DOK d ∧ 2 ≤ d.voc ∧ 4 ≤ d.pl ∧ WOK d w ∧ w.Shape = shapeS d ∧ law09_made N s = some (some ⟨w⟩, w) := by
  obtain ⟨d, w, hd, hv, hp, hw, hsh, em⟩ := made_is hN s.N s.Seed s.Xs hx
  refine ⟨d, w, hd, hv, hp, hw, hsh, ?_⟩
  unfold law09_made
  show (ref08_Made N s.N s.Seed s.Xs).bind _ = _
  rw [em, Option.bind_some]
  show (model_New N w).bind _ = _
  rw [new_is hd (by omega) (by omega) hw, Option.bind_some, if_neg (fun q => q rfl)]
theorem toks_take (ts : List Nat) (k : Nat) : (toks ts).take k = toks (ts.take k) := by simp [toks, List.map_take]
section
variable {d : Dim} (hd : DOK d)
include hd
theorem genS_take (w : S_api_Weights) (p : List Nat) : ∀ k i, i ≤ k → (genS d w p k).take i = genS d w p i
  | 0, i, h => by obtain rfl : i = 0 := by omega
                  rfl
  | k + 1, i, h => by
    rw [genS]
    have hl := genS_len d w p k
    by_cases c : i ≤ k
    · rw [List.take_append_of_le_length (by omega)]
      exact genS_take w p k i c
    · obtain rfl : i = k + 1 := by omega
      rw [List.take_of_length_le (by rw [len_app1]; omega), genS]
theorem genS_get (w : S_api_Weights) (p : List Nat) (k i : Nat) (h : i < k) : (genS d w p k).getD i 0 = argS (lastS d w [] [] (p ++ genS d w p i)) d.voc := by
  have h1 := genS_take hd w p k (i + 1) (by omega)
  have hl := genS_len d w p i
  have h2 : (genS d w p k).getD i 0 = ((genS d w p k).take (i + 1)).getD i 0 := by
    rw [List.getD_eq_getElem?_getD, List.getD_eq_getElem?_getD, List.getElem?_take, if_pos (by omega)]
  rw [h2, h1, genS, getD_app1, if_neg (by omega), if_pos (by omega)]
end
end Go.Proofs.YtdipfegofpfhaaaGreat
end
section
namespace Go.Proofs.YtdipfegofpfhaaaGreat
open Go Go.Hp
set_option linter.unusedVariables false
set_option linter.unusedSimpArgs false
set_option linter.unusedSectionVars false
theorem awake09 : law09_awake 5000 = some true := by decide +kernel
end Go.Proofs.YtdipfegofpfhaaaGreat
end
section
namespace Go.Proofs.YtdipfegofpfhaaaGreat
open Go Go.Hp
set_option linter.unusedVariables false
set_option linter.unusedSimpArgs false
set_option linter.unusedSectionVars false
section
variable {d : Dim} (hd : DOK d)
include hd
theorem talks_loop {N : Nat} (hN : 5000 ≤ N) {w : S_api_Weights} (hw : WOK d w) (p : List Nat) (hp : p ≠ []) (hv : ∀ t ∈ p, t < d.voc) (mo : Nat) (hm0 : 0 < mo) (hmo : p.length + mo = d.pl + 1) (k : Nat) (hk : k < mo + 3) (t : S_gen_Talk) (ht : TOK d w p 0 t) :
    law09_GenTalks.L1 N (mo : Int) (toks (genS d w p mo)) (k : Int) N t 0 = some true := by
  have hpl := hd.pl
  have hgl := genS_len d w p mo
  obtain ⟨m', s', hs, e⟩ := loop_to (fun m (s : S_gen_Talk) i => law09_GenTalks.L1 N (mo : Int) (toks (genS d w p mo)) (k : Int) m s i) (fun i => (i : Int)) k (fun i s => TOK d w p (min i mo) s) (fun m i s hi hs => by
    show ∃ s', _ ∧ law09_GenTalks.L1 N (mo : Int) (toks (genS d w p mo)) (k : Int) (m + 1) s (i : Int) = _
    rw [law09_GenTalks.L1, if_pos (by omega)]
    by_cases c : i < mo
    · rw [show min i mo = i by omega] at hs
      obtain ⟨t', e, ht'⟩ := next_is hd (N := N) (by omega) hw p hp hv i (by omega) s hs
      refine ⟨t', by rw [show min (i + 1) mo = i + 1 by omega]; exact ht', ?_⟩
      have hix : idx (toks (genS d w p mo)) (i : Int) = some ((argS (lastS d w [] [] (p ++ genS d w p i)) d.voc : Nat) : Int) := by
        rw [toks_get _ i (by omega), genS_get hd w p mo i c]
      rw [e, Option.bind_some, decide_eq_true (show (i : Int) < (mo : Int) by omega), if_neg (show ¬ ((!(true == true)) = true) by decide), if_pos rfl, hix, Option.bind_some, if_neg (fun q => q rfl)]
      unfold law09_GenTalks.J2
      rw [if_neg (by decide), W_succ i (by omega)]
    · rw [show min i mo = mo by omega] at hs
      have hfl : (gFed d w p mo).length ≤ d.pl := by
        obtain ⟨j, rfl⟩ : ∃ j, mo = j + 1 := ⟨mo - 1, by omega⟩
        rw [gFed, List.length_append, genS_len]; omega
      refine ⟨s, by rw [show min (i + 1) mo = mo by omega]; exact hs, ?_⟩
      rw [next_full hd (N := N) (by omega) hw p hp hv mo (by omega) hfl s hs, Option.bind_some, decide_eq_false (show ¬ (i : Int) < (mo : Int) by omega), if_neg (show ¬ ((!(false == false)) = true) by decide), if_neg (show ¬ (false = true) by decide)]
      unfold law09_GenTalks.J2
      rw [if_neg (show ¬ (decide ((0 : Int) ≠ 0)) = true by decide), W_succ i (by omega)]) N t (by omega) (by rw [show min 0 mo = 0 by omega]; exact ht)
  refine Eq.trans e ?_
  show law09_GenTalks.L1 N (mo : Int) (toks (genS d w p mo)) (k : Int) (m' + 1) s' (k : Int) = _
  obtain ⟨r, rfl, hr⟩ := hs
  rw [law09_GenTalks.L1, if_neg (by omega)]
  unfold gen_Talk_Said
  rw [cloneI_is hd _ (by rw [toks_len, genS_len]; omega), Option.bind_some, Option.bind_some, chk_ok _ (by rw [toks_len, hgl]; omega), show (min (k : Int) (mo : Int)).toNat = min k mo by omega, toks_take, genS_take hd w p mo (min k mo) (by omega), ints_same _ (by rw [toks_len, genS_len]; omega) (by rw [toks_len, genS_len]; omega), Option.bind_some]
end
theorem genTalks (x0 : S_law09_Seeds) (x1 : List Int) (x2 : Int) : law09_GenTalks 5000 x0 x1 x2 = some true := by
  have key : ∀ N : Nat, 5000 ≤ N → law09_awake N = some true → law09_GenTalks N x0 x1 x2 = some true := by
    intro N hN aw
    unfold law09_GenTalks
    rw [aw, Option.bind_some, if_pos rfl]
    by_cases h1 : ((x1.length : Nat) : Int) > 20
    · rw [if_pos h1, Option.bind_some]
    rw [if_neg h1]
    by_cases h2 : ((x0.Xs.length : Nat) : Int) > 2000
    · rw [if_pos h2, Option.bind_some]
    rw [if_neg h2]
    obtain ⟨d, w, hd, hv, hp, hw, hsh, em⟩ := made9_is hN x0 (by omega)
    have hvo := hd.voc; have hpl := hd.pl
    show (law09_made N x0).bind _ = _
    rw [em, Option.bind_some, optc_some]
    obtain ⟨c, ec, hc⟩ := check_is hN hd x1 (by omega) 1
    have eg : gen_Check N w.Shape x1 1 = some c := by
      rw [gcheck_ref (by omega) w.Shape x1 (by omega) 1 (by rw [hw.places]; omega) (by decide), hsh]; exact ec
    have hr : ref09_Check N w.Shape x1 1 = some c := by rw [hsh]; exact ec
    by_cases hc0 : c ≠ 0
    · have hbeg : gen_Begin N (some ⟨w⟩) x1 = some (none, c) := by
        unfold gen_Begin
        rw [optc_some]
        show (gen_Check N w.Shape x1 1).bind _ = _
        rw [eg, Option.bind_some, if_pos hc0]
      dsimp only
      rw [hbeg, Option.bind_some]
      show (ref09_Check N w.Shape x1 1).bind _ = _
      rw [hr, Option.bind_some, if_neg (fun q => q rfl), optc_none, decide_eq_true hc0, if_neg (by decide)]
    · obtain ⟨ts, k1, rfl, e2, e3, e4, e5, e6⟩ := hc (by omega)
      obtain rfl : c = 0 := by omega
      have hp0 : 0 < ts.length := List.length_pos_iff.2 e2
      have em : IntKind.i64.wrap (IntKind.i64.wrap (w.Shape.Places - (((toks ts).length : Nat) : Int)) + 1) = ((d.pl - ts.length + 1 : Nat) : Int) := by
        rw [hw.places, toks_len, W_in (x := (d.pl : Int) - ((ts.length : Nat) : Int)) (by omega), W_in (by omega)]; omega
      generalize hmo : d.pl - ts.length + 1 = mo at em
      dsimp only
      rw [begin_ok hd (by omega) hw ts e2 e3 (by omega), Option.bind_some]
      show (ref09_Check N w.Shape (toks ts) 1).bind _ = _
      rw [hr, Option.bind_some, if_neg (fun q => q rfl), optc_some, if_neg (by decide), em, Option.bind_some]
      show (ref09_Generate N w (toks ts) (mo : Int)).bind _ = _
      obtain ⟨k, hk, ek⟩ : ∃ k : Nat, k < mo + 3 ∧ Int.tmod (IntKind.i64.wrap (IntKind.i64.wrap (Int.tmod x2 (IntKind.i64.wrap ((mo : Int) + 3)) + (mo : Int)) + 3)) (IntKind.i64.wrap ((mo : Int) + 3)) = (k : Int) := by
        obtain ⟨k, hk, e⟩ := W_restN x2 (mo + 3) (by omega) (by omega)
        refine ⟨k, hk, ?_⟩
        have a := Int.tmod_lt_of_pos x2 (show (0 : Int) < ((mo + 3 : Nat) : Int) by omega)
        have b := Int.lt_tmod_of_pos x2 (show (0 : Int) < ((mo + 3 : Nat) : Int) by omega)
        rw [show IntKind.i64.wrap ((mo : Int) + 3) = ((mo + 3 : Nat) : Int) by rw [W_in (by omega)]; omega, W_in (x := Int.tmod x2 ((mo + 3 : Nat) : Int) + (mo : Int)) (by omega), show Int.tmod x2 ((mo + 3 : Nat) : Int) + (mo : Int) + 3 = Int.tmod x2 ((mo + 3 : Nat) : Int) + ((mo + 3 : Nat) : Int) by omega]
        exact e
      rw [generate_is hd (by omega) hw ts e2 e3 mo (by omega) (by omega), Option.bind_some, chk_ok _ (by rw [W_in (by omega)]; omega), chk_ok _ (by rw [W_in (by omega)]; omega), ek, Option.bind_some]
      exact talks_loop hd hN hw ts e2 e3 mo (by omega) (by omega) k hk _ ⟨_, rfl, ROK_0 hd w⟩
  exact key 5000 (Nat.le_refl _) awake09
end Go.Proofs.YtdipfegofpfhaaaGreat
end
