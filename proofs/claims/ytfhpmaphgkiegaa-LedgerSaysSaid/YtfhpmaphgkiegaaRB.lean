/- The document's rows: brought to one size, weights, sums of rows, joined: in closed forms. -/
import Derived.Test.YtfhpmaphgkiegaaRA
namespace Go.Proofs.Ytfhpmaphgkiegaa
open Go Go.Hp
set_option linter.unusedVariables false
set_option linter.unusedSimpArgs false
theorem wu_in {x : Int} (h : 0 ≤ x ∧ x < 18446744073709551616) : IntKind.u64.wrap x = x := by rw [IntKind.wrap_u64]; omega
theorem above_tot (a b c : Int) : ∃ t, ref02_above a b c = some t := by
  unfold ref02_above
  by_cases h1 : a = 0
  · exact ⟨_, if_pos h1⟩
  rw [if_neg h1]
  by_cases h2 : b = 0
  · exact ⟨_, if_pos h2⟩
  rw [if_neg h2, chk_ok _ h2, chk_ok _ h1]
  exact ⟨_, rfl⟩
theorem greatest_tot (x0 x1 : Int) : ∀ (k : Nat) (j1 j2 : Int), 0 ≤ j1 → j1 ≤ j2 → j2 ≤ 4294967296 → j2 - j1 ≤ 2 ^ k → ∃ r, ∀ m, k < m → ref02_greatest.L1 x0 x1 m j1 j2 = some r := by
  intro k
  induction k with
  | zero =>
    intro j1 j2 h0 h1 h2 h3
    refine ⟨j1, fun m hm => ?_⟩
    obtain ⟨m, rfl⟩ : ∃ q, m = q + 1 := ⟨m - 1, by omega⟩
    rw [ref02_greatest.L1, wu_in (by omega), if_neg (by simp at h3; omega)]
  | succ k ih =>
    intro j1 j2 h0 h1 h2 h3
    by_cases c : j2 - j1 > 1
    · obtain ⟨b, hb⟩ := above_tot ((j1 + j2) / 2) x0 x1
      have hp : (2 : Int) ^ (k + 1) = 2 ^ k * 2 := Int.pow_succ 2 k
      have hstep : ∀ m, ref02_greatest.L1 x0 x1 (m + 1) j1 j2 = if b = true then ref02_greatest.L1 x0 x1 m j1 ((j1 + j2) / 2) else ref02_greatest.L1 x0 x1 m ((j1 + j2) / 2) j2 := by
        intro m
        have e : IntKind.u64.wrap (Int.tdiv (IntKind.u64.wrap (j1 + j2)) 2) = (j1 + j2) / 2 := by
          rw [wu_in (x := j1 + j2) (by omega), Int.tdiv_eq_ediv_of_nonneg (by omega), wu_in (by omega)]
        rw [ref02_greatest.L1, wu_in (x := j2 - j1) (by omega), if_pos c, Option.bind_some, e, hb, Option.bind_some]
      cases b with
      | true =>
        obtain ⟨r, hr⟩ := ih j1 ((j1 + j2) / 2) h0 (by omega) (by omega) (by omega)
        refine ⟨r, fun m hm => ?_⟩
        obtain ⟨m, rfl⟩ : ∃ q, m = q + 1 := ⟨m - 1, by omega⟩
        rw [hstep, if_pos rfl]
        exact hr m (by omega)
      | false =>
        obtain ⟨r, hr⟩ := ih ((j1 + j2) / 2) j2 (by omega) (by omega) h2 (by omega)
        refine ⟨r, fun m hm => ?_⟩
        obtain ⟨m, rfl⟩ : ∃ q, m = q + 1 := ⟨m - 1, by omega⟩
        rw [hstep, if_neg (by decide)]
        exact hr m (by omega)
    · refine ⟨j1, fun m hm => ?_⟩
      obtain ⟨m, rfl⟩ : ∃ q, m = q + 1 := ⟨m - 1, by omega⟩
      rw [ref02_greatest.L1, wu_in (by omega), if_neg c]
def invS (n : Int) : Int := (ref02_Inverse 100 n).getD 0
theorem inverse_is {N : Nat} (hN : 100 ≤ N) (n : Int) : ref02_Inverse N n = some (invS n) := by
  unfold invS ref02_Inverse ref02_greatest
  by_cases h : n = 0
  · rw [if_pos h, if_pos h]; rfl
  · rw [if_neg h, if_neg h]
    obtain ⟨r, hr⟩ := greatest_tot n 281474976710656 32 0 4294967296 (by decide) (by decide) (by decide) (by decide)
    rw [hr N (by omega), hr 100 (by omega)]; rfl
-- rows brought to one size
def sqS (x : List Int) : Nat → Int
  | 0 => 0
  | k + 1 => IntKind.u64.wrap (sqS x k + IntKind.u64.wrap (IntKind.i64.wrap (min (max (IntKind.i64.wrap (x.getD k 0)) (-8388608)) 8388607 * min (max (IntKind.i64.wrap (x.getD k 0)) (-8388608)) 8388607)))
def normS (g x : List Int) : List Int := tabl x.length fun i => IntKind.i8.wrap (min (max (sh (IntKind.i64.wrap (IntKind.i64.wrap (min (max (IntKind.i64.wrap (x.getD i 0)) (-8388608)) 8388607 * IntKind.i64.wrap (invS (IntKind.u64.wrap (Int.tdiv (sqS x x.length) (IntKind.u64.wrap ((x.length : Nat) : Int)))))) * IntKind.i64.wrap (g.getD i 0))) 23) (-128)) 127)
theorem norm_is {N : Nat} (hN : 200 < N) (g x : List Int) (hg : g.length = x.length) (hl : x.length ≤ 200) : ref05_Norm N g x = some (normS g x) := by
  unfold ref05_Norm
  refine loop_c (fun m (s : Int) i => ref05_Norm.L1 N g x m s i) (fun i => sqS x i) x.length _ (fun m i hi => ?_) (fun m => ?_) N (by omega)
  · show ref05_Norm.L1 N g x (m + 1) _ (i : Int) = ref05_Norm.L1 N g x m _ _
    rw [ref05_Norm.L1, if_pos (by omega), idx_d x 0 hi, Option.bind_some, near_is _ _ _ (by decide), Option.bind_some, Option.bind_some, W_succ i (by omega)]
    rfl
  · show ref05_Norm.L1 N g x (m + 1) _ (x.length : Int) = _
    rw [ref05_Norm.L1, if_neg (by omega)]
    refine loop_c (fun m (s : List Int) i => ref05_Norm.L2 N g x (sqS x x.length) m s i) (fun i => tabl i fun i => IntKind.i8.wrap (min (max (sh (IntKind.i64.wrap (IntKind.i64.wrap (min (max (IntKind.i64.wrap (x.getD i 0)) (-8388608)) 8388607 * IntKind.i64.wrap (invS (IntKind.u64.wrap (Int.tdiv (sqS x x.length) (IntKind.u64.wrap ((x.length : Nat) : Int)))))) * IntKind.i64.wrap (g.getD i 0))) 23) (-128)) 127)) x.length _ (fun m i hi => ?_) (fun m => ?_) N (by omega)
    · show ref05_Norm.L2 N g x _ (m + 1) _ (i : Int) = ref05_Norm.L2 N g x _ m _ _
      have hu : IntKind.u64.wrap ((x.length : Nat) : Int) = ((x.length : Nat) : Int) := wu_in (by omega)
      rw [ref05_Norm.L2, if_pos (by omega), chk_ok _ (by rw [hu]; omega), inverse_is (by omega), Option.bind_some, idx_d x 0 hi, Option.bind_some, near_is _ _ _ (by decide), Option.bind_some, idx_d g 0 (by omega), Option.bind_some, refshift_is (by omega) _ _ (W_range _), Option.bind_some, near_is _ _ _ (by decide), Option.bind_some, app_ok _ _ (by rw [tabl_len]; simp only [List.length_cons, List.length_nil]; omega), Option.bind_some, W_succ i (by omega), tabl_succ]
      rfl
    · show ref05_Norm.L2 N g x _ (m + 1) _ (x.length : Int) = _
      rw [ref05_Norm.L2, if_neg (by omega)]; rfl
theorem normS_len (g x : List Int) : (normS g x).length = x.length := tabl_len _ _
-- powers
def tbl : List Int := (65536 :: 64132 :: 62757 :: 61413 :: 60097 :: 58809 :: 57549 :: 56316 :: 55109 :: 53928 :: 52773 :: 51642 :: 50535 :: 49452 :: 48393 :: 47356 :: 46341 :: 45348 :: 44376 :: 43425 :: 42495 :: 41584 :: 40693 :: 39821 :: 38968 :: 38133 :: 37316 :: 36516 :: 35734 :: 34968 :: 34219 :: 33486 :: 32768 :: [])
theorem T_is (i : Nat) (h : i < 33) : ref02_T (i : Int) = some (tbl.getD i 0) := by
  unfold ref02_T
  exact (congrArg (fun o => Option.bind o _) (idx_d tbl 0 (show i < tbl.length from h))).trans rfl
def expS (x : Int) : Int :=
  if x > 0 then 65536 else if x < -10000000 then 0 else
    let t := (0 - x) * 94548 / 65536
    if t / 65536 > 31 then 0 else
    IntKind.i32.wrap (sh (IntKind.i64.wrap (tbl.getD (t % 65536 / 2048).toNat 0 - sh (IntKind.i64.wrap (IntKind.i64.wrap (tbl.getD (t % 65536 / 2048).toNat 0 - tbl.getD ((t % 65536 / 2048).toNat + 1) 0) * (t % 65536 % 2048))) 11)) (t / 65536).toNat)
theorem exp_is {N : Nat} (hN : 100 ≤ N) (x : Int) : ref02_Exp N x = some (expS x) := by
  unfold ref02_Exp expS
  by_cases h1 : x > 0
  · rw [if_pos h1, if_pos h1]
  rw [if_neg h1, if_neg h1]
  by_cases h2 : x < -10000000
  · rw [if_pos h2, if_pos h2]
  rw [if_neg h2, if_neg h2]
  have e3 : IntKind.i64.wrap (Int.tdiv (IntKind.i64.wrap (IntKind.i64.wrap (0 - x) * 94548)) 65536) = (0 - x) * 94548 / 65536 := by
    rw [W_in (x := 0 - x) (by omega), W_in (x := (0 - x) * 94548) (by omega), Int.tdiv_eq_ediv_of_nonneg (by omega), W_in (by omega)]
  have ht : 0 ≤ (0 - x) * 94548 / 65536 ∧ (0 - x) * 94548 / 65536 ≤ 20000000 := by omega
  generalize (0 - x) * 94548 / 65536 = t at e3 ht ⊢
  have m1 : Int.tmod t 65536 = t % 65536 := Int.tmod_eq_emod_of_nonneg ht.1
  obtain ⟨i, hi⟩ := Int.eq_ofNat_of_zero_le (show 0 ≤ t % 65536 / 2048 by omega)
  have hi2 : i < 32 := by omega
  have e5 : IntKind.i64.wrap (Int.tdiv (Int.tmod t 65536) 2048) = (i : Int) := by
    rw [m1, Int.tdiv_eq_ediv_of_nonneg (by omega), hi, W_in (by omega)]
  have e6 : Int.tmod (Int.tmod t 65536) 2048 = t % 65536 % 2048 := by rw [m1, Int.tmod_eq_emod_of_nonneg (by omega)]
  have e4 : IntKind.i64.wrap (Int.tdiv t 65536) = t / 65536 := by rw [Int.tdiv_eq_ediv_of_nonneg ht.1, W_in (by omega)]
  rw [e3, Option.bind_some, e4, Option.bind_some, e5, Option.bind_some, e6, Option.bind_some, T_is i (by omega), Option.bind_some, Option.bind_some, W_succ i (by omega), T_is (i + 1) (by omega), Option.bind_some, refshift_is hN _ _ (W_range _), Option.bind_some]
  by_cases h3 : t / 65536 > 31
  · rw [if_pos h3, if_pos h3]
  · rw [if_neg h3, if_neg h3, refshift_is hN _ _ (W_range _), Option.bind_some, hi, Int.toNat_natCast]
    rw [show min (max (t / 65536) 0) 62 = t / 65536 by omega]
    rfl
theorem w32_range (x : Int) : -2147483648 ≤ IntKind.i32.wrap x ∧ IntKind.i32.wrap x ≤ 2147483647 := by rw [IntKind.wrap_i32]; omega
theorem expS_range (x : Int) : -2147483648 ≤ expS x ∧ expS x ≤ 2147483647 := by
  unfold expS
  split
  · decide
  split
  · decide
  dsimp only
  split
  · decide
  · exact w32_range _
-- shares
def sumS (x : List Int) : Nat → Int
  | 0 => 0
  | k + 1 => if x.getD k 0 > 0 then sumS x k + x.getD k 0 else sumS x k
def sharesS (t : Int) (x : List Int) : List Int := tabl x.length fun i => if x.getD i 0 > 0 ∧ t > 0 then IntKind.i32.wrap (IntKind.i64.wrap (Int.tdiv (IntKind.i64.wrap (IntKind.i64.wrap (x.getD i 0) * IntKind.i64.wrap t)) (sumS x x.length))) else 0
def in32 (x : List Int) : Prop := ∀ k, -2147483648 ≤ x.getD k 0 ∧ x.getD k 0 ≤ 2147483647
theorem sumS_range (x : List Int) (h : in32 x) : ∀ k, 0 ≤ sumS x k ∧ sumS x k ≤ 2147483647 * k ∧ ∀ j, j < k → x.getD j 0 ≤ sumS x k
  | 0 => ⟨Int.le_refl _, Int.le_refl _, fun j hj => by omega⟩
  | k + 1 => by
    obtain ⟨a, b, c⟩ := sumS_range x h k
    have := h k
    rw [sumS]
    by_cases hk : x.getD k 0 > 0
    · rw [if_pos hk]
      refine ⟨by omega, by omega, fun j hj => ?_⟩
      by_cases e : j = k
      · subst e; omega
      · have := c j (by omega); omega
    · rw [if_neg hk]
      refine ⟨a, by omega, fun j hj => ?_⟩
      by_cases e : j = k
      · subst e; omega
      · exact c j (by omega)
theorem shares_is {N : Nat} (t : Int) (x : List Int) (h : in32 x) (hl : x.length ≤ 200) (hN : 200 < N) : ref02_Shares N t x = some (sharesS t x) := by
  unfold ref02_Shares
  refine loop_c (fun m (s : Int) i => ref02_Shares.L1 N t x m s i) (fun i => sumS x i) x.length _ (fun m i hi => ?_) (fun m => ?_) N (by omega)
  · show ref02_Shares.L1 N t x (m + 1) _ (i : Int) = ref02_Shares.L1 N t x m _ _
    obtain ⟨a, b, c⟩ := sumS_range x h i
    have hx := h i
    rw [ref02_Shares.L1, if_pos (by omega), idx_d x 0 hi, Option.bind_some]
    by_cases hk : x.getD i 0 > 0
    · rw [if_pos hk, Option.bind_some, Option.bind_some, ref02_Shares.J5, W_succ i (by omega), W_in (x := x.getD i 0) (by omega), W_in (by omega), sumS, if_pos hk]
    · rw [if_neg hk, ref02_Shares.J5, W_succ i (by omega), sumS, if_neg hk]
  · show ref02_Shares.L1 N t x (m + 1) _ (x.length : Int) = _
    rw [ref02_Shares.L1, if_neg (by omega)]
    refine loop_c (fun m (s : List Int) i => ref02_Shares.L2 t x (sumS x x.length) m s i) (fun i => tabl i fun i => if x.getD i 0 > 0 ∧ t > 0 then IntKind.i32.wrap (IntKind.i64.wrap (Int.tdiv (IntKind.i64.wrap (IntKind.i64.wrap (x.getD i 0) * IntKind.i64.wrap t)) (sumS x x.length))) else 0) x.length _ (fun m i hi => ?_) (fun m => ?_) N (by omega)
    · show ref02_Shares.L2 t x _ (m + 1) _ (i : Int) = ref02_Shares.L2 t x _ m _ _
      obtain ⟨a, b, c⟩ := sumS_range x h x.length
      have hx := c i hi
      rw [ref02_Shares.L2, if_pos (by omega), idx_d x 0 hi, Option.bind_some]
      have j4 : ∀ q : Bool, (q = true ↔ x.getD i 0 > 0 ∧ t > 0) → ref02_Shares.J4 t x (sumS x x.length) (tabl i fun i => if x.getD i 0 > 0 ∧ t > 0 then IntKind.i32.wrap (IntKind.i64.wrap (Int.tdiv (IntKind.i64.wrap (IntKind.i64.wrap (x.getD i 0) * IntKind.i64.wrap t)) (sumS x x.length))) else 0) (i : Int) (ref02_Shares.L2 t x (sumS x x.length) m) q = ref02_Shares.L2 t x (sumS x x.length) m (tabl (i + 1) fun i => if x.getD i 0 > 0 ∧ t > 0 then IntKind.i32.wrap (IntKind.i64.wrap (Int.tdiv (IntKind.i64.wrap (IntKind.i64.wrap (x.getD i 0) * IntKind.i64.wrap t)) (sumS x x.length))) else 0) ((i + 1 : Nat) : Int) := by
        intro q hq
        unfold ref02_Shares.J4 ref02_Shares.J3
        rw [W_succ i (by omega), tabl_succ]
        cases q with
        | true =>
          have hc := hq.1 rfl
          rw [if_pos rfl, idx_d x 0 hi, Option.bind_some, chk_ok _ (by omega), Option.bind_some, app_ok _ _ (by rw [tabl_len]; simp only [List.length_cons, List.length_nil]; omega), Option.bind_some, if_pos hc]
        | false =>
          rw [if_neg (by decide), app_ok _ _ (by rw [tabl_len]; simp only [List.length_cons, List.length_nil]; omega), Option.bind_some, if_neg (fun e => by cases hq.2 e)]
          rfl
      by_cases hk : x.getD i 0 > 0
      · rw [if_pos hk]
        exact j4 _ ⟨fun e => ⟨hk, of_decide_eq_true e⟩, fun e => decide_eq_true e.2⟩
      · rw [if_neg hk]
        exact j4 false ⟨fun e => (by cases e), fun e => absurd e.1 hk⟩
    · show ref02_Shares.L2 t x _ (m + 1) _ (x.length : Int) = _
      rw [ref02_Shares.L2, if_neg (by omega)]; rfl
theorem sharesS_len (t : Int) (x : List Int) : (sharesS t x).length = x.length := tabl_len _ _
-- weights
def topS (x : List Int) (t : Int) : Nat → Int
  | 0 => t
  | k + 1 => if x.getD k 0 > topS x t k then x.getD k 0 else topS x t k
def powS (by_ n : Int) (x : List Int) : List Int := tabl x.length fun i => expS (sh (IntKind.i64.wrap (IntKind.i64.wrap (IntKind.i64.wrap (x.getD i 0) - IntKind.i64.wrap (topS x (x.getD i 0) x.length)) * IntKind.i64.wrap by_)) (min (max n 0) 62).toNat)
def softS (by_ n : Int) (x : List Int) : List Int := sharesS 65536 (powS by_ n x)
theorem softmax_is {N : Nat} (by_ n : Int) (x : List Int) (hl : x.length ≤ 200) (hN : 200 < N) : ref05_Softmax N by_ n x = some (softS by_ n x) := by
  unfold ref05_Softmax
  refine loop_c (fun m (s : List Int) i => ref05_Softmax.L1 N by_ n x m s i) (fun i => tabl i fun i => expS (sh (IntKind.i64.wrap (IntKind.i64.wrap (IntKind.i64.wrap (x.getD i 0) - IntKind.i64.wrap (topS x (x.getD i 0) x.length)) * IntKind.i64.wrap by_)) (min (max n 0) 62).toNat)) x.length _ (fun m i hi => ?_) (fun m => ?_) N (by omega)
  · show ref05_Softmax.L1 N by_ n x (m + 1) _ (i : Int) = ref05_Softmax.L1 N by_ n x m _ _
    rw [ref05_Softmax.L1, if_pos (by omega), idx_d x 0 hi, Option.bind_some]
    refine loop_c (fun q (s : Int) j => ref05_Softmax.L2 N by_ n x (tabl i fun i => expS (sh (IntKind.i64.wrap (IntKind.i64.wrap (IntKind.i64.wrap (x.getD i 0) - IntKind.i64.wrap (topS x (x.getD i 0) x.length)) * IntKind.i64.wrap by_)) (min (max n 0) 62).toNat)) (i : Int) (ref05_Softmax.L1 N by_ n x m) q s j) (fun j => topS x (x.getD i 0) j) x.length _ (fun q j hj => ?_) (fun q => ?_) N (by omega)
    · show ref05_Softmax.L2 N by_ n x _ _ _ (q + 1) _ (j : Int) = _
      rw [ref05_Softmax.L2, if_pos (by omega), idx_d x 0 hj, Option.bind_some]
      by_cases c : x.getD j 0 > topS x (x.getD i 0) j
      · rw [if_pos c, Option.bind_some, ref05_Softmax.J3, W_succ j (by omega), topS, if_pos c]
      · rw [if_neg c, ref05_Softmax.J3, W_succ j (by omega), topS, if_neg c]
    · show ref05_Softmax.L2 N by_ n x _ _ _ (q + 1) _ (x.length : Int) = _
      rw [ref05_Softmax.L2, if_neg (by omega), idx_d x 0 hi, Option.bind_some, refshift_is (by omega) _ _ (W_range _), Option.bind_some, exp_is (by omega), Option.bind_some, app_ok _ _ (by rw [tabl_len]; simp only [List.length_cons, List.length_nil]; omega), Option.bind_some, W_succ i (by omega), tabl_succ]
  · show ref05_Softmax.L1 N by_ n x (m + 1) _ (x.length : Int) = _
    rw [ref05_Softmax.L1, if_neg (by omega)]
    have hp : in32 (powS by_ n x) := by
      intro k
      by_cases hk : k < x.length
      · rw [powS, tabl_getD _ _ _ _ hk]; exact expS_range _
      · rw [List.getD_eq_getElem?_getD, List.getElem?_eq_none (by rw [powS, tabl_len]; omega)]; decide
    have := shares_is (N := N) 65536 (powS by_ n x) hp (by rw [powS, tabl_len]; omega) hN
    rw [powS] at this
    rw [this, Option.bind_some]
    rfl
theorem softS_len (by_ n : Int) (x : List Int) : (softS by_ n x).length = x.length := by rw [softS, sharesS_len, powS, tabl_len]
-- sums of rows
def accS (ws : List Int) (rows : List (List Int)) (k : Nat) : Nat → Int
  | 0 => 0
  | i + 1 => IntKind.i64.wrap (accS ws rows k i + IntKind.i64.wrap (IntKind.i64.wrap (ws.getD i 0) * IntKind.i64.wrap ((rows.getD i []).getD k 0)))
theorem accS_range (ws : List Int) (rows : List (List Int)) (k : Nat) : ∀ i, -9223372036854775808 ≤ accS ws rows k i ∧ accS ws rows k i ≤ 9223372036854775807
  | 0 => by rw [accS]; decide
  | i + 1 => W_range _
def mixS (ws : List Int) (rows : List (List Int)) (n : Nat) : List Int := tabl n fun k => IntKind.i8.wrap (min (max (sh (accS ws rows k rows.length) 16) (-128)) 127)
theorem mix_is {N : Nat} (ws : List Int) (rows : List (List Int)) (n : Nat) (hw : ws.length = rows.length) (h0 : 0 < rows.length) (hr : rows.length ≤ 200) (hn : ∀ i, i < rows.length → (rows.getD i []).length = n) (hn2 : n ≤ 200) (hN : 200 < N) : ref05_Mix N ws rows = some (mixS ws rows n, true) := by
  unfold ref05_Mix
  rw [if_neg (by omega)]
  have h00 : idx rows (0 : Int) = some (rows.getD 0 []) := idx_d rows [] h0
  have hn0 := hn 0 h0
  refine loop_c (fun m (_ : Unit) i => ref05_Mix.L1 N ws rows m i) (fun _ => ()) rows.length _ (fun m i hi => ?_) (fun m => ?_) N (by omega)
  · show ref05_Mix.L1 N ws rows (m + 1) (i : Int) = ref05_Mix.L1 N ws rows m _
    have := hn i hi
    rw [ref05_Mix.L1, if_pos (by omega), idx_d rows [] hi, Option.bind_some, h00, Option.bind_some, if_neg (by omega), W_succ i (by omega)]
  · show ref05_Mix.L1 N ws rows (m + 1) (rows.length : Int) = _
    rw [ref05_Mix.L1, if_neg (by omega), if_neg (by omega)]
    refine loop_c (fun m (s : List Int) i => ref05_Mix.L2 N ws rows m s i) (fun i => tabl i fun k => IntKind.i8.wrap (min (max (sh (accS ws rows k rows.length) 16) (-128)) 127)) n _ (fun m k hk => ?_) (fun m => ?_) N (by omega)
    · show ref05_Mix.L2 N ws rows (m + 1) _ (k : Int) = ref05_Mix.L2 N ws rows m _ _
      rw [ref05_Mix.L2, h00, Option.bind_some, if_pos (by omega)]
      refine loop_c (fun q (s : Int) j => ref05_Mix.L3 N ws rows (tabl k fun k => IntKind.i8.wrap (min (max (sh (accS ws rows k rows.length) 16) (-128)) 127)) (k : Int) (ref05_Mix.L2 N ws rows m) q s j) (fun j => accS ws rows k j) rows.length _ (fun q j hj => ?_) (fun q => ?_) N (by omega)
      · show ref05_Mix.L3 N ws rows _ _ _ (q + 1) _ (j : Int) = _
        have := hn j hj
        rw [ref05_Mix.L3, if_pos (by omega), idx_d ws 0 (by omega), Option.bind_some, idx_d rows [] hj, Option.bind_some, idx_d _ 0 (by omega), Option.bind_some, W_succ j (by omega)]
        rfl
      · show ref05_Mix.L3 N ws rows _ _ _ (q + 1) _ (rows.length : Int) = _
        rw [ref05_Mix.L3, if_neg (by omega), refshift_is (by omega) _ _ (accS_range _ _ _ _), Option.bind_some, near_is _ _ _ (by decide), Option.bind_some, app_ok _ _ (by rw [tabl_len]; simp only [List.length_cons, List.length_nil]; omega), Option.bind_some, W_succ k (by omega), tabl_succ]
        rfl
    · show ref05_Mix.L2 N ws rows (m + 1) _ (n : Int) = _
      rw [ref05_Mix.L2, h00, Option.bind_some, if_neg (by omega)]; rfl
theorem mixS_len (ws : List Int) (rows : List (List Int)) (n : Nat) : (mixS ws rows n).length = n := tabl_len _ _
-- joined
def joinS (x y : List Int) (by_ n : Int) : List Int := tabl x.length fun i => IntKind.i32.wrap (x.getD i 0 + scl (y.getD i 0) by_ n (-2147483648) 2147483647)
theorem join_is {N : Nat} (x y : List Int) (by_ n : Int) (h : y.length = x.length) (hl : x.length ≤ 200) (hN : 200 < N) : ref05_Join N x y by_ n = some (joinS x y by_ n) := by
  unfold ref05_Join
  refine loop_c (fun m (s : List Int) i => ref05_Join.L1 N x y by_ n m s i) (fun i => tabl i fun i => IntKind.i32.wrap (x.getD i 0 + scl (y.getD i 0) by_ n (-2147483648) 2147483647)) x.length _ (fun m i hi => ?_) (fun m => ?_) N (by omega)
  · show ref05_Join.L1 N x y by_ n (m + 1) _ (i : Int) = ref05_Join.L1 N x y by_ n m _ _
    have e : IntKind.i32.wrap (tot [IntKind.i64.wrap (x.getD i 0), scl (y.getD i 0) by_ n (-2147483648) 2147483647]) = IntKind.i32.wrap (x.getD i 0 + scl (y.getD i 0) by_ n (-2147483648) 2147483647) := by
      simp only [tot, IntKind.wrap_i64, IntKind.wrap_i32]; omega
    rw [ref05_Join.L1, if_pos (by omega), idx_d x 0 hi, Option.bind_some, idx_d y 0 (by omega), Option.bind_some, refscale_is (by omega) _ _ _ _ _ (by decide), Option.bind_some, wrap_is _ (by simp; omega) (by simp), Option.bind_some, e, app_ok _ _ (by rw [tabl_len]; simp only [List.length_cons, List.length_nil]; omega), Option.bind_some, W_succ i (by omega), tabl_succ]
  · show ref05_Join.L1 N x y by_ n (m + 1) _ (x.length : Int) = _
    rw [ref05_Join.L1, if_neg (by omega)]; rfl
theorem joinS_len (x y : List Int) (by_ n : Int) : (joinS x y by_ n).length = x.length := tabl_len _ _
end Go.Proofs.Ytfhpmaphgkiegaa
