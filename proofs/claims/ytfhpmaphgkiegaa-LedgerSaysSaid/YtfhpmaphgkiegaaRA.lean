/- The document's arithmetic in closed forms. -/
import Derived.Test.YtfhpmaphgkiegaaT9c
import Derived.Test.YtfhpmaphgkiegaaPl4
namespace Go.Proofs.Ytfhpmaphgkiegaa
open Go Go.Hp
set_option linter.unusedVariables false
set_option linter.unusedSimpArgs false
/-- A shift down, to the nearest, of two the even one. -/
def sh (x : Int) (n : Nat) : Int := if x % 2 ^ n > 2 ^ n / 2 then x / 2 ^ n + 1 else if x % 2 ^ n = 2 ^ n / 2 then (if 0 < n then (if x / 2 ^ n % 2 = 1 then x / 2 ^ n + 1 else x / 2 ^ n) else x / 2 ^ n) else x / 2 ^ n
theorem pow_pos' (n : Nat) : (0 : Int) < 2 ^ n := by
  have : 0 < 2 ^ n := Nat.two_pow_pos n
  exact_mod_cast this
theorem pow_le62 (k : Nat) (hk2 : k ≤ 62) : (2 : Int) ^ k ≤ 4611686018427387904 := by
  have : 2 ^ k ≤ 2 ^ 62 := Nat.pow_le_pow_right (by decide) hk2
  have hcast : ((2 ^ k : Nat) : Int) = (2 : Int) ^ k := by simp
  rw [← hcast]; omega
theorem sh_mul (x : Int) (n : Nat) : sh (x * 2 ^ n) n = x := by
  have hp := pow_pos' n
  have h1 : x * 2 ^ n % 2 ^ n = 0 := Int.mul_emod_left _ _
  have h2 : x * 2 ^ n / 2 ^ n = x := Int.mul_ediv_cancel _ (by omega)
  unfold sh
  rw [h1, h2]
  rw [if_neg (by omega)]
  split
  · rename_i h
    cases n with
    | zero => rfl
    | succ n =>
      exfalso
      have e : (2 : Int) ^ (n + 1) = 2 ^ n * 2 := Int.pow_succ 2 n
      have := pow_pos' n
      rw [e] at h
      omega
  · rfl
theorem half_in (x : Int) (hx : -9223372036854775808 ≤ x ∧ x ≤ 9223372036854775807) (n : Nat) (hn : 0 < n) : -4611686018427387904 ≤ x / 2 ^ n ∧ x / 2 ^ n < 4611686018427387904 := by
  obtain ⟨m, rfl⟩ : ∃ m, n = m + 1 := ⟨n - 1, by omega⟩
  have hp := pow_pos' (m + 1)
  have hpm := pow_pos' m
  have hps : (2 : Int) ^ (m + 1) = 2 ^ m * 2 := Int.pow_succ 2 m
  refine ⟨Int.le_ediv_of_mul_le hp ?_, Int.ediv_lt_of_lt_mul hp ?_⟩
  · have hm : -4611686018427387904 * (2 : Int) ^ (m + 1) ≤ -4611686018427387904 * 2 := Int.mul_le_mul_of_nonpos_left (by decide) (by omega)
    omega
  · have hm : 4611686018427387904 * 2 ≤ 4611686018427387904 * (2 : Int) ^ (m + 1) := Int.mul_le_mul_of_nonneg_left (by omega) (by decide)
    omega
theorem J3_is (m : Nat) (hm : m + 1 ≤ 62) (q r : Int) (hq : -4611686018427387904 ≤ q ∧ q < 4611686018427387904) (h0 : 0 ≤ r) (h1 : r < 2 ^ (m + 1)) :
    ref01_Shift.J3 (2 ^ (m + 1)) q r = some (if r > 2 ^ (m + 1) / 2 then q + 1 else if r = 2 ^ (m + 1) / 2 then (if q % 2 = 1 then q + 1 else q) else q) := by
  have hps : (2 : Int) ^ (m + 1) = 2 ^ m * 2 := Int.pow_succ 2 m
  have hpm := pow_pos' m
  have hle := pow_le62 (m + 1) hm
  have hh : (2 : Int) ^ (m + 1) / 2 = 2 ^ m := by rw [hps]; omega
  rw [hh]
  have par : ∀ z : Int, (Int.tmod z 2 ≠ 0) ↔ z % 2 = 1 := by
    intro z
    rw [Ne, ← Int.dvd_iff_tmod_eq_zero, Int.dvd_iff_emod_eq_zero]
    omega
  have hw : IntKind.i64.wrap (q + 1) = q + 1 := W_in (by omega)
  have hw2 : IntKind.i64.wrap (2 ^ (m + 1) - r) = 2 ^ (m + 1) - r := W_in (by omega)
  unfold ref01_Shift.J3
  rw [hw2]
  by_cases c1 : r > 2 ^ m
  · rw [if_pos (by omega), if_pos c1, ref01_Shift.J4, if_pos rfl, hw]
  · rw [if_neg (by omega), if_neg c1]
    by_cases c2 : r = 2 ^ m
    · rw [if_pos (by omega), if_pos c2, ref01_Shift.J4]
      by_cases c3 : q % 2 = 1
      · rw [if_pos (decide_eq_true ((par q).2 c3)), if_pos c3, hw]
      · rw [if_neg (by intro h; exact c3 ((par q).1 (of_decide_eq_true h))), if_neg c3]
    · rw [if_neg (by omega), if_neg c2, ref01_Shift.J4, if_neg (by decide)]
theorem refshift_loop (x : Int) (hx : -9223372036854775808 ≤ x ∧ x ≤ 9223372036854775807) (n : Nat) (hn : 0 < n) (hn2 : n ≤ 62) (d : Nat) : ∀ (k i : Nat), i + d = n → d < k →
    ref01_Shift.L2 x (n : Int) k (2 ^ i) (i : Int) = some (sh x n) := by
  induction d with
  | zero =>
    intro k i hi hk
    obtain ⟨k, rfl⟩ : ∃ m, k = m + 1 := ⟨k - 1, by omega⟩
    obtain rfl : i = n := by omega
    have hp := pow_pos' i
    have hfl := half_in x hx i hn
    obtain ⟨m, rfl⟩ : ∃ m, i = m + 1 := ⟨i - 1, by omega⟩
    have hpm := pow_pos' m
    have hps : (2 : Int) ^ (m + 1) = 2 ^ m * 2 := Int.pow_succ 2 m
    have hle := pow_le62 (m + 1) hn2
    have hdm := Int.mul_tdiv_add_tmod x (2 ^ (m + 1))
    have hlt := Int.tmod_lt_of_pos x hp
    have hgt : -(2 ^ (m + 1)) < Int.tmod x (2 ^ (m + 1)) := Int.lt_tmod_of_pos x hp
    rw [ref01_Shift.L2, if_neg (by omega), chk_ok _ (by omega), Option.bind_some, chk_ok _ (by omega)]
    unfold sh
    rw [if_pos (show 0 < m + 1 by omega)]
    by_cases hneg : Int.tmod x (2 ^ (m + 1)) < 0
    · have huq : x / 2 ^ (m + 1) = Int.tdiv x (2 ^ (m + 1)) - 1 ∧ x % 2 ^ (m + 1) = Int.tmod x (2 ^ (m + 1)) + 2 ^ (m + 1) := by
        refine (Int.ediv_emod_unique hp).2 ⟨?_, by omega, by omega⟩
        rw [Int.mul_sub, Int.mul_one]
        omega
      rw [if_pos hneg, Option.bind_some]
      rw [huq.1] at hfl ⊢
      rw [huq.2]
      generalize Int.tdiv x (2 ^ (m + 1)) = q at *
      generalize Int.tmod x (2 ^ (m + 1)) = r at *
      rw [W_in (x := q) (by omega), W_in (x := q - 1) (by omega), W_in (x := r + 2 ^ (m + 1)) (by omega)]
      exact J3_is m hn2 (q - 1) (r + 2 ^ (m + 1)) hfl (by omega) (by omega)
    · have huq : x / 2 ^ (m + 1) = Int.tdiv x (2 ^ (m + 1)) ∧ x % 2 ^ (m + 1) = Int.tmod x (2 ^ (m + 1)) := (Int.ediv_emod_unique hp).2 ⟨by omega, by omega, by omega⟩
      rw [if_neg hneg]
      rw [huq.1] at hfl ⊢
      rw [huq.2]
      generalize Int.tdiv x (2 ^ (m + 1)) = q at *
      generalize Int.tmod x (2 ^ (m + 1)) = r at *
      rw [W_in (x := q) (by omega)]
      exact J3_is m hn2 q r hfl (by omega) (by omega)
  | succ d ih =>
    intro k i hi hk
    obtain ⟨k, rfl⟩ : ∃ m, k = m + 1 := ⟨k - 1, by omega⟩
    have hps : (2 : Int) ^ (i + 1) = 2 ^ i * 2 := Int.pow_succ 2 i
    have hp := pow_pos' i
    have hle := pow_le62 (i + 1) (by omega)
    rw [ref01_Shift.L2, if_pos (by omega), W_in (x := 2 ^ i * 2) (by omega), ← hps, W_succ i (by omega)]
    exact ih k (i + 1) (by omega) (by omega)
theorem refshift_is {N : Nat} (hN : 100 ≤ N) (x a : Int) (hx : -9223372036854775808 ≤ x ∧ x ≤ 9223372036854775807) : ref01_Shift N x a = some (sh x (min (max a 0) 62).toNat) := by
  have key : ∀ b : Int, b ≤ 62 → ref01_Shift.J1 N x b = some (sh x (max b 0).toNat) := by
    intro b hb
    rw [ref01_Shift.J1]
    by_cases h : b ≤ 0
    · have e : (max b 0).toNat = 0 := by omega
      rw [if_pos h, e]
      unfold sh
      have e1 : x % (2 : Int) ^ 0 = 0 := by simp
      have e2 : (2 : Int) ^ 0 / 2 = 0 := by decide
      have e3 : x / (2 : Int) ^ 0 = x := by simp
      rw [e1, e2, e3, if_neg (by decide), if_pos rfl, if_neg (by decide)]
    · obtain ⟨n, rfl⟩ := Int.eq_ofNat_of_zero_le (show 0 ≤ b by omega)
      have e : (max (n : Int) 0).toNat = n := by omega
      rw [if_neg h, e]
      exact refshift_loop x hx n (by omega) (by omega) n N 0 (by omega) (by omega)
  unfold ref01_Shift
  by_cases h : a > 62
  · rw [if_pos h, key 62 (by decide), show min (max a 0) 62 = max 62 0 by omega]
  · rw [if_neg h, key a (by omega), show min (max a 0) 62 = max a 0 by omega]
theorem near_is (x a b : Int) (h : a ≤ b) : ref01_Near x a b = some (min (max x a) b) := by
  unfold ref01_Near
  by_cases h1 : x < a
  · rw [if_pos h1, show min (max x a) b = a by omega]
  · rw [if_neg h1]
    by_cases h2 : x > b
    · rw [if_pos h2, show min (max x a) b = b by omega]
    · rw [if_neg h2, show min (max x a) b = x by omega]
theorem mod_is (x : Int) : ref01_Mod x = some (IntKind.i32.wrap x) := by
  have a := Int.tmod_lt_of_pos x (show (0 : Int) < 4294967296 by decide)
  have b := Int.lt_tmod_of_pos x (show (0 : Int) < 4294967296 by decide)
  have h := Int.tmod_add_mul_tdiv x 4294967296
  have key : ∀ z q : Int, 0 ≤ z → z < 4294967296 → z + 4294967296 * q = x → ref01_Mod.J1 z = some (IntKind.i32.wrap x) := by
    intro z q h0 h1 h2
    unfold ref01_Mod.J1
    by_cases h3 : z ≥ 2147483648
    · rw [if_pos h3, Option.bind_some, W_in (by omega)]
      congr 1
      simp only [IntKind.wrap_i32]
      omega
    · rw [if_neg h3]
      congr 1
      simp only [IntKind.wrap_i32]
      omega
  unfold ref01_Mod
  by_cases hn : Int.tmod x 4294967296 < 0
  · rw [if_pos hn, Option.bind_some, W_in (by omega)]
    exact key _ (Int.tdiv x 4294967296 - 1) (by omega) (by omega) (by omega)
  · rw [if_neg hn]
    exact key _ (Int.tdiv x 4294967296) (by omega) (by omega) (by omega)

/-- A sum of numbers. -/
def tot : List Int → Int
  | [] => 0
  | x :: xs => x + tot xs
theorem tot_snoc (xs : List Int) (x : Int) : tot (xs ++ [x]) = tot xs + x := by
  induction xs with
  | nil => simp [tot]
  | cons y ys ih => rw [List.cons_append, tot, tot, ih]; omega
theorem wrap_is {N : Nat} (xs : List Int) (h : xs.length < N) (h2 : xs.length ≤ 1000000) : ref01_Wrap N xs = some (IntKind.i32.wrap (tot xs)) := by
  unfold ref01_Wrap
  refine loop_c (fun m (s : Int) i => ref01_Wrap.L1 xs m s i) (fun i => IntKind.i32.wrap (tot (xs.take i))) xs.length _ (fun m i hi => ?_) (fun m => ?_) N h
  · show ref01_Wrap.L1 xs (m + 1) _ (i : Int) = ref01_Wrap.L1 xs m _ _
    rw [ref01_Wrap.L1, if_pos (by omega), idx_get _ _ hi, Option.bind_some, mod_is, Option.bind_some, mod_is, Option.bind_some, W_succ i (by omega), List.take_succ_eq_append_getElem hi, tot_snoc]
    congr 1
    simp only [IntKind.wrap_i64, IntKind.wrap_i32]
    omega
  · show ref01_Wrap.L1 xs (m + 1) _ (xs.length : Int) = _
    rw [ref01_Wrap.L1, if_neg (by omega), List.take_length]
    congr 1
    simp only [IntKind.wrap_i32]
    omega
/-- Products summed. -/
def dots (a b : List Int) : Nat → Int
  | 0 => 0
  | k + 1 => dots a b k + a.getD k 0 * b.getD k 0
theorem w32_w64 (x : Int) : IntKind.i32.wrap (IntKind.i64.wrap x) = IntKind.i32.wrap x := by simp only [IntKind.wrap_i64, IntKind.wrap_i32]; omega
theorem w32_add (x y : Int) : IntKind.i32.wrap (x + IntKind.i64.wrap y) = IntKind.i32.wrap (x + y) := by simp only [IntKind.wrap_i64, IntKind.wrap_i32]; omega
theorem w_mul (x y : Int) : IntKind.i64.wrap (IntKind.i64.wrap x * IntKind.i64.wrap y) = IntKind.i64.wrap (x * y) := by
  rw [IntKind.wrap_i64, IntKind.wrap_i64 (x * y)]
  have h : (IntKind.i64.wrap x * IntKind.i64.wrap y) % 18446744073709551616 = (x * y) % 18446744073709551616 := by
    have e : ∀ z : Int, IntKind.i64.wrap z % 18446744073709551616 = z % 18446744073709551616 := fun z => by rw [IntKind.wrap_i64]; omega
    rw [Int.mul_emod, e, e, ← Int.mul_emod]
  omega
theorem dot_is {N : Nat} (a b : List Int) (h : a.length = b.length) (hl : a.length < N) (h2 : a.length ≤ 1000000) : ref01_Dot N a b = some (IntKind.i32.wrap (dots a b a.length)) := by
  unfold ref01_Dot
  refine loop_c (fun m (s : List Int) i => ref01_Dot.L1 N a b m s i) (fun i => tabl i fun k => IntKind.i64.wrap (a.getD k 0 * b.getD k 0)) a.length _ (fun m i hi => ?_) (fun m => ?_) N hl
  · show ref01_Dot.L1 N a b (m + 1) _ (i : Int) = ref01_Dot.L1 N a b m _ _
    rw [ref01_Dot.L1, if_pos (by omega), decide_eq_true (by omega), ref01_Dot.J2, if_pos rfl, idx_d a 0 hi, Option.bind_some, idx_d b 0 (by omega), Option.bind_some, app_ok _ _ (by rw [tabl_len]; simp only [List.length_cons, List.length_nil]; omega), Option.bind_some, W_succ i (by omega), w_mul, tabl_succ]
  · show ref01_Dot.L1 N a b (m + 1) _ (a.length : Int) = _
    rw [ref01_Dot.L1, if_neg (by omega), ref01_Dot.J2, if_neg (by decide), wrap_is _ (by rw [tabl_len]; omega) (by rw [tabl_len]; omega), Option.bind_some]
    congr 1
    have : ∀ k, IntKind.i32.wrap (tot (tabl k fun k => IntKind.i64.wrap (a.getD k 0 * b.getD k 0))) = IntKind.i32.wrap (dots a b k) := by
      intro k
      induction k with
      | zero => rfl
      | succ k ih =>
        rw [tabl_succ, tot_snoc, dots, w32_add]
        simp only [IntKind.wrap_i32] at ih ⊢
        omega
    exact this _
/-- A number brought to a scale. -/
def scl (x by_ n lo hi : Int) : Int := min (max (sh (IntKind.i64.wrap (IntKind.i64.wrap x * IntKind.i64.wrap by_)) (min (max n 0) 62).toNat) lo) hi
theorem refscale_is {N : Nat} (hN : 100 ≤ N) (x by_ n lo hi : Int) (h : lo ≤ hi) : ref01_Scale N x by_ n lo hi = some (scl x by_ n lo hi) := by
  unfold ref01_Scale
  rw [refshift_is hN _ _ (W_range _), Option.bind_some, near_is _ _ _ h, Option.bind_some]
  rfl
-- matrices
def matR (m : S_api_Mat) (r c : Nat) : Prop := m.Rows = r ∧ m.Cols = c ∧ m.V.length = r * c
theorem right_is {m : S_api_Mat} {r c : Nat} (h : matR m r c) (hr : r ≤ 200) (hc : c ≤ 200) : ref04_Right m = some true := by
  obtain ⟨h1, h2, h3⟩ := h
  have hrc : r * c ≤ 40000 := Nat.le_trans (Nat.mul_le_mul hr hc) (by decide)
  unfold ref04_Right
  rw [h1, h2, if_pos (by omega), if_pos (by omega), if_pos (by omega), if_pos (by omega), h3]
  have e : ((r * c : Nat) : Int) = (r : Int) * (c : Int) := by simp
  rw [W_in (by rw [← e]; omega), if_pos e, decide_eq_true (by omega)]
def rowOf (m : S_api_Mat) (c r : Nat) : List Int := tabl c fun j => m.V.getD (r * c + j) 0
def applyS (m : S_api_Mat) (x : List Int) (r c : Nat) : List Int := tabl r fun i => IntKind.i32.wrap (dots (rowOf m c i) x c)
theorem tabl_getD {α : Type} (n : Nat) (f : Nat → α) (d : α) (k : Nat) (h : k < n) : (tabl n f).getD k d = f k := by
  rw [List.getD_eq_getElem?_getD, tabl_get? h]; rfl
theorem dots_congr (a b a' b' : List Int) : ∀ k, (∀ j, j < k → a.getD j 0 = a'.getD j 0 ∧ b.getD j 0 = b'.getD j 0) → dots a b k = dots a' b' k
  | 0, _ => rfl
  | k + 1, h => by
    rw [dots, dots, dots_congr a b a' b' k (fun j hj => h j (by omega)), (h k (by omega)).1, (h k (by omega)).2]
theorem apply_is {N : Nat} {m : S_api_Mat} {r c : Nat} (h : matR m r c) (hr : r ≤ 200) (hc : c ≤ 200) (hN : 200 < N) (x : List Int) (hx : x.length = c) : ref04_Apply N m x = some (applyS m x r c, true) := by
  have hrt := right_is h hr hc
  obtain ⟨h1, h2, h3⟩ := h
  have hrc : ∀ i, i < r → i * c + c ≤ r * c := fun i hi => by
    have : (i + 1) * c ≤ r * c := Nat.mul_le_mul_right c (by omega)
    rw [Nat.succ_mul] at this; exact this
  have hrc2 : r * c ≤ 40000 := Nat.le_trans (Nat.mul_le_mul hr hc) (by decide)
  unfold ref04_Apply
  rw [show (⟨m.Rows, m.Cols, m.V⟩ : S_api_Mat) = m from rfl, hrt, Option.bind_some, if_pos rfl, if_neg (by omega)]
  refine loop_c (fun k (s : List Int) i => ref04_Apply.L1 N m x k s i) (fun i => tabl i fun i => IntKind.i32.wrap (dots (rowOf m c i) x c)) r _ (fun k i hi => ?_) (fun k => ?_) N (by omega)
  · show ref04_Apply.L1 N m x (k + 1) _ (i : Int) = ref04_Apply.L1 N m x k _ _
    rw [ref04_Apply.L1, if_pos (by omega)]
    have hi2 := hrc i hi
    refine loop_c (fun q (s : List Int) j => ref04_Apply.L2 N m x (tabl i fun i => IntKind.i32.wrap (dots (rowOf m c i) x c)) (i : Int) (ref04_Apply.L1 N m x k) q s j) (fun j => tabl j fun j => IntKind.i64.wrap (m.V.getD (i * c + j) 0 * x.getD j 0)) c _ (fun q j hj => ?_) (fun q => ?_) N (by omega)
    · show ref04_Apply.L2 N m x _ _ _ (q + 1) _ (j : Int) = _
      have e : IntKind.i64.wrap (IntKind.i64.wrap ((i : Int) * m.Cols) + (j : Int)) = ((i * c + j : Nat) : Int) := by
        rw [h2]
        have : (i : Int) * (c : Int) = ((i * c : Nat) : Int) := by simp
        rw [this, W_in (x := ((i * c : Nat) : Int)) (by omega), W_in (by omega)]
        omega
      rw [ref04_Apply.L2, if_pos (by omega), e, idx_d m.V 0 (by omega), Option.bind_some, idx_d x 0 (by omega), Option.bind_some, app_ok _ _ (by rw [tabl_len]; simp only [List.length_cons, List.length_nil]; omega), Option.bind_some, W_succ j (by omega), w_mul, tabl_succ]
    · show ref04_Apply.L2 N m x _ _ _ (q + 1) _ (c : Int) = _
      rw [ref04_Apply.L2, if_neg (by omega), wrap_is _ (by rw [tabl_len]; omega) (by rw [tabl_len]; omega), Option.bind_some, app_ok _ _ (by rw [tabl_len]; simp only [List.length_cons, List.length_nil]; omega), Option.bind_some, W_succ i (by omega)]
      have : ∀ k, k ≤ c → IntKind.i32.wrap (tot (tabl k fun j => IntKind.i64.wrap (m.V.getD (i * c + j) 0 * x.getD j 0))) = IntKind.i32.wrap (dots (rowOf m c i) x k) := by
        intro k
        induction k with
        | zero => intro _; rfl
        | succ k ih =>
          intro hk
          have ih := ih (by omega)
          rw [tabl_succ, tot_snoc, dots, w32_add, rowOf, tabl_getD _ _ _ _ (by omega)]
          rw [rowOf] at ih
          simp only [IntKind.wrap_i32] at ih ⊢
          omega
      rw [this c (Nat.le_refl _), tabl_succ]
  · show ref04_Apply.L1 N m x (k + 1) _ (r : Int) = _
    rw [ref04_Apply.L1, if_neg (by omega)]; rfl
theorem applyS_len (m : S_api_Mat) (x : List Int) (r c : Nat) : (applyS m x r c).length = r := tabl_len _ _
def quantsS (m : S_api_Mat) (x : List Int) (r c : Nat) : List Int := tabl r fun i => IntKind.i8.wrap (scl ((applyS m x r c).getD i 0) 1 7 (-128) 127)
theorem quants_is {N : Nat} {m : S_api_Mat} {r c : Nat} (h : matR m r c) (hr : r ≤ 200) (hc : c ≤ 200) (hN : 200 < N) (x : List Int) (hx : x.length = c) : ref08_quants N m x = some (quantsS m x r c) := by
  unfold ref08_quants
  rw [show (⟨m.Rows, m.Cols, m.V⟩ : S_api_Mat) = m from rfl, apply_is h hr hc hN x hx, Option.bind_some]
  refine loop_c (fun k (s : List Int) i => ref08_quants.L1 N (applyS m x r c, true) k s i) (fun i => tabl i fun i => IntKind.i8.wrap (scl ((applyS m x r c).getD i 0) 1 7 (-128) 127)) r _ (fun k i hi => ?_) (fun k => ?_) N (by omega)
  · show ref08_quants.L1 N _ (k + 1) _ (i : Int) = ref08_quants.L1 N _ k _ _
    have hl := applyS_len m x r c
    rw [ref08_quants.L1, if_pos (by rw [hl]; omega), idx_d _ 0 (by rw [hl]; omega), Option.bind_some, refscale_is (by omega) _ _ _ _ _ (by decide), Option.bind_some, app_ok _ _ (by rw [tabl_len]; simp only [List.length_cons, List.length_nil]; omega), Option.bind_some, W_succ i (by omega), tabl_succ]
  · show ref08_quants.L1 N _ (k + 1) _ (r : Int) = _
    have hl := applyS_len m x r c
    rw [ref08_quants.L1, if_neg (by rw [hl]; omega)]; rfl
theorem quantsS_len (m : S_api_Mat) (x : List Int) (r c : Nat) : (quantsS m x r c).length = r := tabl_len _ _
end Go.Proofs.Ytfhpmaphgkiegaa
