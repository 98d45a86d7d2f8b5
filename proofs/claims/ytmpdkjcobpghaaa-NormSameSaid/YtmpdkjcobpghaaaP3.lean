/- Rows joined; the law of rows mixed, gated and joined. -/
import Derived.Test.YtmpdkjcobpghaaaP2
namespace Go.Proofs.Ytmpdkjcobpghaaa
open Go Go.Hp
set_option linter.unusedVariables false
set_option linter.unusedSimpArgs false
theorem sum2 (a b : Int) : round_Sum 1000 [a, b] = some (IntKind.i32.wrap (a + b)) := by
  have i0 : idx [a, b] 0 = some a := rfl
  have i1 : idx [a, b] 1 = some b := rfl
  have w1 : IntKind.i64.wrap (0 + 1) = 1 := by decide
  have w2 : IntKind.i64.wrap (1 + 1) = 2 := by decide
  have key : ∀ m, round_Sum.L1 [a, b] (m + 3) 0 0 = some (IntKind.i32.wrap (a + b)) := by
    intro m
    rw [round_Sum.L1, if_pos (show (0 : Int) < (([a, b].length : Nat) : Int) by simp), i0, Option.bind_some, Option.bind_some, w1, round_Sum.L1, if_pos (show (1 : Int) < (([a, b].length : Nat) : Int) by simp), i1, Option.bind_some, Option.bind_some, w2, round_Sum.L1, if_neg (show ¬ (2 : Int) < (([a, b].length : Nat) : Int) by simp)]
    congr 1
    simp only [IntKind.wrap_u32, IntKind.wrap_i32]
    omega
  exact key 997
theorem mod_is (x : Int) : ref01_Mod x = some (IntKind.i32.wrap x) := by
  have a := Int.tmod_lt_of_pos x (show (0 : Int) < 4294967296 by decide)
  have b := Int.lt_tmod_of_pos x (show (0 : Int) < 4294967296 by decide)
  have h := Int.tmod_add_mul_tdiv x 4294967296
  have key : ∀ z q : Int, 0 ≤ z → z < 4294967296 → z + 4294967296 * q = x → ref01_Mod.J1 z = some (IntKind.i32.wrap x) := by
    intro z q h0 h1 h2
    unfold ref01_Mod.J1
    by_cases h3 : z ≥ 2147483648
    · rw [if_pos h3, Option.bind_some, W_in (by omega)]
      congr 1
      simp only [IntKind.wrap_i32]
      omega
    · rw [if_neg h3]
      congr 1
      simp only [IntKind.wrap_i32]
      omega
  unfold ref01_Mod
  by_cases hn : Int.tmod x 4294967296 < 0
  · rw [if_pos hn, Option.bind_some, W_in (by omega)]
    exact key _ (Int.tdiv x 4294967296 - 1) (by omega) (by omega) (by omega)
  · rw [if_neg hn]
    exact key _ (Int.tdiv x 4294967296) (by omega) (by omega) (by omega)
theorem wrap2 (a b : Int) : ref01_Wrap 1000 [a, b] = some (IntKind.i32.wrap (a + b)) := by
  have i0 : idx [a, b] 0 = some a := rfl
  have i1 : idx [a, b] 1 = some b := rfl
  have w1 : IntKind.i64.wrap (0 + 1) = 1 := by decide
  have w2 : IntKind.i64.wrap (1 + 1) = 2 := by decide
  have key : ∀ m, ref01_Wrap.L1 [a, b] (m + 3) 0 0 = some (IntKind.i32.wrap (a + b)) := by
    intro m
    rw [ref01_Wrap.L1, if_pos (show (0 : Int) < (([a, b].length : Nat) : Int) by simp), i0, Option.bind_some, mod_is, Option.bind_some, mod_is, Option.bind_some, w1, ref01_Wrap.L1, if_pos (show (1 : Int) < (([a, b].length : Nat) : Int) by simp), i1, Option.bind_some, mod_is, Option.bind_some, mod_is, Option.bind_some, w2, ref01_Wrap.L1, if_neg (show ¬ (2 : Int) < (([a, b].length : Nat) : Int) by simp)]
    congr 1
    simp only [IntKind.wrap_i64, IntKind.wrap_i32]
    omega
  exact key 997
def sc (y by_ n : Int) : Int := min (max (sh (IntKind.i64.wrap (IntKind.i64.wrap y * IntKind.i64.wrap by_)) (min (max n 0) 62).toNat) (-2147483648)) 2147483647
theorem scale_is (y by_ n : Int) : round_Scale y by_ n = some (IntKind.i32.wrap (sc y by_ n)) := by
  unfold round_Scale
  rw [shift_is _ _ (W_range _), Option.bind_some, sat32_is, Option.bind_some]
  rfl
theorem refscale_is (y by_ n : Int) : ref01_Scale 1000 y by_ n (-2147483648) 2147483647 = some (sc y by_ n) := by
  unfold ref01_Scale
  rw [refshift_is _ _ (W_range _), Option.bind_some, near_is _ _ _ (by decide), Option.bind_some]
  rfl
def jo (x y : List Int) (by_ n : Int) (k : Nat) : Int := IntKind.i32.wrap (x.getD k 0 + IntKind.i32.wrap (sc (y.getD k 0) by_ n))
theorem join_loop (x y : List Int) (by_ n : Int) (hl : x.length = y.length) (hx : x.length ≤ 200) (d : Nat) : ∀ m k : Nat, k + d = x.length → d < m →
    norm_Join.L1 1000 x y by_ n m (tabl x.length fun j => if j < k then jo x y by_ n j else 0) (k : Int) = some (tabl x.length (jo x y by_ n), 0) := by
  induction d with
  | zero =>
    intro m k hk hm
    obtain ⟨m, rfl⟩ : ∃ q, m = q + 1 := ⟨m - 1, by omega⟩
    rw [norm_Join.L1, if_neg (by omega)]
    exact congrArg (fun l => some (l, 0)) (tabl_congr fun j hj => if_pos (by omega))
  | succ d ih =>
    intro m k hk hm
    obtain ⟨m, rfl⟩ : ∃ q, m = q + 1 := ⟨m - 1, by omega⟩
    rw [norm_Join.L1, if_pos (by omega), idx_d x 0 (show k < x.length by omega), Option.bind_some, idx_d y 0 (show k < y.length by omega), Option.bind_some, scale_is, Option.bind_some, sum2, Option.bind_some, idx_t _ (show k < x.length by omega), Option.bind_some, Int.toNat_natCast, tabl_set, W_succ k (by omega)]
    refine Eq.trans (congrArg (fun l => norm_Join.L1 1000 x y by_ n m l _) (tabl_congr fun j hj => ?_)) (ih m (k + 1) (by omega) (by omega))
    by_cases e : j = k
    · subst e
      rw [if_pos rfl, if_pos (by omega)]
      rfl
    · rw [if_neg e]
      by_cases h : j < k
      · rw [if_pos h, if_pos (by omega)]
      · rw [if_neg h, if_neg (by omega)]
theorem join_is (x y : List Int) (by_ n : Int) (hl : x.length = y.length) (hx : x.length ≤ 200) : norm_Join 1000 x y by_ n = some (tabl x.length (jo x y by_ n), 0) := by
  unfold norm_Join
  rw [if_neg (by omega), chk_ok _ (by omega), Int.toNat_natCast]
  have e2 : List.replicate x.length (0 : Int) = tabl x.length (fun j => if j < 0 then jo x y by_ n j else 0) := (tabl_rep _ _).trans (tabl_congr fun j hj => (if_neg (by omega)).symm)
  rw [e2]
  exact join_loop x y by_ n hl hx x.length 1000 0 (by omega) (by omega)
theorem join_bad (x y : List Int) (by_ n : Int) (hl : x.length ≠ y.length) : norm_Join 1000 x y by_ n = some ([], 30) := by
  unfold norm_Join
  rw [if_pos (by omega)]
theorem rj_loop (x y : List Int) (by_ n : Int) (hl : x.length = y.length) (hx : x.length ≤ 200) (d : Nat) : ∀ m k : Nat, k + d = x.length → d < m →
    ref05_Join.L1 1000 x y by_ n m (tabl k (jo x y by_ n)) (k : Int) = some (tabl x.length (jo x y by_ n)) := by
  induction d with
  | zero =>
    intro m k hk hm
    obtain ⟨m, rfl⟩ : ∃ q, m = q + 1 := ⟨m - 1, by omega⟩
    rw [ref05_Join.L1, if_neg (by omega), show k = x.length by omega]
  | succ d ih =>
    intro m k hk hm
    obtain ⟨m, rfl⟩ : ∃ q, m = q + 1 := ⟨m - 1, by omega⟩
    have e : IntKind.i32.wrap (IntKind.i64.wrap (x.getD k 0) + sc (y.getD k 0) by_ n) = jo x y by_ n k := by
      unfold jo
      generalize sc (y.getD k 0) by_ n = c
      generalize x.getD k 0 = a
      simp only [IntKind.wrap_i64, IntKind.wrap_i32]
      omega
    rw [ref05_Join.L1, if_pos (by omega), idx_d x 0 (show k < x.length by omega), Option.bind_some, idx_d y 0 (show k < y.length by omega), Option.bind_some, refscale_is, Option.bind_some, wrap2, Option.bind_some, app_ok _ _ (by rw [tabl_len]; simp only [List.length_cons, List.length_nil]; omega), Option.bind_some, W_succ k (by omega), e, ← tabl_succ]
    exact ih m (k + 1) (by omega) (by omega)
theorem refjoin_is (x y : List Int) (by_ n : Int) (hl : x.length = y.length) (hx : x.length ≤ 200) : ref05_Join 1000 x y by_ n = some (tabl x.length (jo x y by_ n)) := by
  unfold ref05_Join
  exact rj_loop x y by_ n hl hx x.length 1000 0 (by omega) (by omega)

/-! the law -/
theorem mixes_J2 (j : S_law05_Joined) (hx : j.X.length ≤ 200) : law05_NormMixes.J2 1000 j false = some true := by
  unfold law05_NormMixes.J2
  rw [if_neg (by decide)]
  by_cases hl : j.X.length = j.Y.length
  · rw [join_is _ _ _ _ hl hx, Option.bind_some, if_neg (by omega), if_pos (show ((tabl j.X.length (jo j.X j.Y j.By j.N), (0 : Int)) : List Int × Int).2 = 0 from rfl), refjoin_is _ _ _ _ hl hx, Option.bind_some, ints_refl _ (by rw [tabl_len]; omega)]
    rfl
  · rw [join_bad _ _ _ _ hl, Option.bind_some, if_pos (by omega), if_pos (show (([], (30 : Int)) : List Int × Int).2 = 30 from rfl)]
    rfl
theorem mixes_L3 (rows : List (List Int)) (i : Nat) (hi : i < rows.length) (hl : rows.length ≤ 60) (hr : (rows.getD i []).length ≤ 200) (k1 : Int → Option Bool) (d : Nat) : ∀ m k : Nat, k + d = (rows.getD i []).length → d < m →
    law05_NormMixes.L3 rows (i : Int) (tabl (rows.getD i []).length fun j => max ((rows.getD i []).getD j 0) 0) k1 m (k : Int) = k1 ((i + 1 : Nat) : Int) := by
  induction d with
  | zero =>
    intro m k hk hm
    obtain ⟨m, rfl⟩ : ∃ q, m = q + 1 := ⟨m - 1, by omega⟩
    rw [law05_NormMixes.L3, if_neg (by rw [tabl_len]; omega), W_succ i (by omega)]
  | succ d ih =>
    intro m k hk hm
    obtain ⟨m, rfl⟩ : ∃ q, m = q + 1 := ⟨m - 1, by omega⟩
    rw [law05_NormMixes.L3, if_pos (by rw [tabl_len]; omega), idx_t _ (show k < (rows.getD i []).length by omega), Option.bind_some, idx_d rows [] hi, Option.bind_some, idx_d _ 0 (show k < (rows.getD i []).length by omega), Option.bind_some, if_neg (fun h => h rfl), W_succ k (by omega)]
    exact ih m (k + 1) (by omega) (by omega)
theorem mixes_L1 (ws : List Int) (rows : List (List Int)) (j : S_law05_Joined) (hl : rows.length ≤ 60) (hx : j.X.length ≤ 200) (d : Nat) : ∀ m i : Nat, i + d = rows.length → d < m → (∀ p, p < i → (rows.getD p []).length ≤ 200) →
    law05_NormMixes.L1 1000 ws rows j m (i : Int) = some true := by
  induction d with
  | zero =>
    intro m i hi hm hp
    obtain ⟨m, rfl⟩ : ∃ q, m = q + 1 := ⟨m - 1, by omega⟩
    rw [law05_NormMixes.L1, if_neg (by omega)]
    rcases mix_is ws rows hl (fun p h => hp p (by omega)) with ⟨t, ht, h1, h2⟩ | ⟨h1, h2⟩
    · rw [h1, Option.bind_some, h2, Option.bind_some, if_neg (show ¬ (!(((t, true) : List Int × Bool).2 == decide (((t, (0 : Int)) : List Int × Int).2 = 0))) = true by simp), if_pos (show ((t, true) : List Int × Bool).2 = true from rfl), bytes_refl t (by omega), Option.bind_some, if_pos rfl]
      exact mixes_J2 j hx
    · rw [h1, Option.bind_some, h2, Option.bind_some, if_neg (by decide), if_neg (by decide), if_neg (by decide), if_neg (by decide)]
      exact mixes_J2 j hx
  | succ d ih =>
    intro m i hi hm hp
    obtain ⟨m, rfl⟩ : ∃ q, m = q + 1 := ⟨m - 1, by omega⟩
    rw [law05_NormMixes.L1, if_pos (by omega), idx_d rows [] (show i < rows.length by omega), Option.bind_some]
    by_cases hr : (rows.getD i []).length > 200
    · rw [if_pos (by omega)]
    · rw [if_neg (by omega), Option.bind_some, gate_is _ (by omega), Option.bind_some, Option.bind_some, if_neg (by rw [tabl_len]; exact fun h => h rfl)]
      refine (mixes_L3 rows i (by omega) hl (by omega) _ (rows.getD i []).length 1000 0 (by omega) (by omega)).trans ?_
      refine ih m (i + 1) (by omega) (by omega) fun p hp2 => ?_
      by_cases e : p = i
      · subst e; omega
      · exact hp p (by omega)
theorem normMixes (ws : List Int) (rows : List (List Int)) (j : S_law05_Joined) : law05_NormMixes 1000 ws rows j = some true := by
  unfold law05_NormMixes
  rw [law05_up, Option.bind_some, if_pos rfl]
  by_cases h1 : ws.length > 60
  · rw [if_pos (by omega), Option.bind_some]
  · rw [if_neg (by omega)]
    by_cases h2 : rows.length > 60
    · rw [if_pos (by omega), Option.bind_some]
    · rw [if_neg (by omega)]
      by_cases h3 : j.X.length > 200
      · rw [if_pos (by omega), Option.bind_some]
      · rw [if_neg (by omega)]
        by_cases h4 : j.Y.length > 200
        · rw [if_pos (by omega), Option.bind_some]
        · rw [if_neg (by omega)]
          exact mixes_L1 ws rows j (by omega) (by omega) rows.length 1000 0 (by omega) (by omega) (fun p h => by omega)
end Go.Proofs.Ytmpdkjcobpghaaa
