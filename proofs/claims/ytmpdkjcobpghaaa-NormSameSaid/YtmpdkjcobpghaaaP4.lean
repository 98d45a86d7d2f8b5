/- One row of weight one among rows of weight zero stays; a gate twice is a gate once; zeros joined change nothing. -/
import Derived.Test.YtmpdkjcobpghaaaP3
namespace Go.Proofs.Ytmpdkjcobpghaaa
open Go Go.Hp
set_option linter.unusedVariables false
set_option linter.unusedSimpArgs false
theorem range8 {n : Int} (h : (Lit.int .i8 n).wf = true) : -128 ≤ n ∧ n ≤ 127 := by
  simp only [Lit.wf, Bool.and_eq_true, decide_eq_true_eq] at h
  exact h
theorem range32 {n : Int} (h : (Lit.int .i32 n).wf = true) : -2147483648 ≤ n ∧ n ≤ 2147483647 := by
  simp only [Lit.wf, Bool.and_eq_true, decide_eq_true_eq] at h
  exact h
theorem wrap8 (n : Int) (h : -128 ≤ n ∧ n ≤ 127) : IntKind.i8.wrap n = n := by
  have k : ∀ m : Fin 256, IntKind.i8.wrap ((m.val : Int) - 128) = (m.val : Int) - 128 := by decide +kernel
  have := k ⟨(n + 128).toNat, by omega⟩
  rwa [show (((n + 128).toNat : Nat) : Int) - 128 = n by omega] at this
theorem rep0 (q k : Nat) : (List.replicate q (0 : Int)).getD k 0 = 0 := by
  rw [List.getD_eq_getElem?_getD, List.getElem?_replicate]
  split <;> rfl
theorem getD_mem (l : List Int) (k : Nat) (h : k < l.length) : l.getD k 0 ∈ l := by
  rw [List.getD_eq_getElem?_getD, List.getElem?_eq_getElem h]
  exact List.getElem_mem h
theorem tabl_getD (n : Nat) (f : Nat → Int) (k : Nat) (h : k < n) : (tabl n f).getD k 0 = f k := by
  rw [List.getD_eq_getElem?_getD, tabl_get? h]; rfl
theorem acc_same (row : List Int) (rs : List (List Int)) (q k : Nat) (h : -128 ≤ row.getD k 0 ∧ row.getD k 0 ≤ 127) : ∀ i, acc (65536 :: List.replicate q 0) (row :: rs) (i + 1) k = row.getD k 0 * 2 ^ 16
  | 0 => by
    rw [acc, acc]
    show IntKind.i64.wrap (0 + IntKind.i64.wrap (IntKind.i64.wrap 65536 * IntKind.i64.wrap (row.getD k 0))) = _
    rw [W_in (x := 65536) (by omega), W_in (x := row.getD k 0) (by omega), W_in (x := 65536 * row.getD k 0) (by omega), W_in (by omega)]
    omega
  | i + 1 => by
    rw [acc, acc_same row rs q k h i]
    show IntKind.i64.wrap (_ + IntKind.i64.wrap (IntKind.i64.wrap ((List.replicate q (0 : Int)).getD i 0) * _)) = _
    rw [rep0, W_in (x := 0) (by omega), Int.zero_mul, W_in (x := 0) (by omega), W_in (by omega)]
    omega
theorem same_mix (row : List Int) (rs : List (List Int)) (hr : ∀ v ∈ row, (Lit.int .i8 v).wf = true) (hl : row.length ≤ 200) (hq : rs.length ≤ 30) (hall : ∀ r ∈ rs, r.length = row.length) :
    norm_Mix 1000 (65536 :: List.replicate rs.length 0) (row :: rs) = some (row, 0) := by
  rw [mix_good (65536 :: List.replicate rs.length 0) (row :: rs) (by simp) (by simp only [List.length_cons]; omega) (by simp) hl (fun p hp => ?_)]
  · show some (tabl row.length _, (0 : Int)) = _
    refine congrArg (fun l => some (l, 0)) (Eq.trans (tabl_congr fun j hj => ?_) (tab row).symm)
    have h := range8 (hr _ (getD_mem row j hj))
    unfold mo
    rw [show (row :: rs).length = rs.length + 1 from rfl, acc_same row rs rs.length j h, sh_mul, show min (max (row.getD j 0) (-128)) 127 = row.getD j 0 by omega]
    exact wrap8 _ h
  · cases p with
    | zero => rfl
    | succ p =>
      have hp2 : p < rs.length := by simp only [List.length_cons] at hp; omega
      show (rs.getD p []).length = row.length
      rw [List.getD_eq_getElem?_getD, List.getElem?_eq_getElem hp2]
      exact hall _ (List.getElem_mem hp2)
theorem gate_twice (row : List Int) (hl : row.length ≤ 200) : norm_Gate 1000 (tabl row.length fun j => max (row.getD j 0) 0) = some (tabl row.length fun j => max (row.getD j 0) 0) := by
  rw [gate_is _ (by rw [tabl_len]; omega), tabl_len]
  refine congrArg some (tabl_congr fun j hj => ?_)
  rw [tabl_getD _ _ _ hj]
  omega
theorem same_join (xs : List Int) (hr : ∀ v ∈ xs, (Lit.int .i32 v).wf = true) (hl : xs.length ≤ 200) : norm_Join 1000 xs (List.replicate xs.length 0) 12345 7 = some (xs, 0) := by
  rw [join_is _ _ _ _ (by simp) hl]
  refine congrArg (fun l => some (l, 0)) (Eq.trans (tabl_congr fun j hj => ?_) (tab xs).symm)
  have h := range32 (hr _ (getD_mem xs j hj))
  have e : IntKind.i32.wrap (sc 0 12345 7) = 0 := by decide
  unfold jo
  rw [rep0, e, IntKind.wrap_i32]
  omega
theorem same_L1 (row : List Int) (others : List (List Int)) (xs : List Int) (hr : ∀ v ∈ row, (Lit.int .i8 v).wf = true) (hx : ∀ v ∈ xs, (Lit.int .i32 v).wf = true) (h1 : row.length ≤ 200) (h2 : others.length ≤ 30) (h3 : xs.length ≤ 200) (d : Nat) :
    ∀ (m i : Nat) (rs : List (List Int)), i + d = others.length → d < m → rs.length ≤ i → (∀ r ∈ rs, r.length = row.length) →
    law05_NormSame.L1 1000 row others xs m (65536 :: List.replicate rs.length 0) (row :: rs) (i : Int) = some true := by
  induction d with
  | zero =>
    intro m i rs hi hm hq hall
    obtain ⟨m, rfl⟩ : ∃ q, m = q + 1 := ⟨m - 1, by omega⟩
    rw [law05_NormSame.L1, if_neg (by omega), same_mix row rs hr h1 (by omega) hall, Option.bind_some, gate_is row (by omega), Option.bind_some, chk_ok _ (by omega), Int.toNat_natCast, same_join xs hx h3, Option.bind_some, if_pos (show ((row, (0 : Int)) : List Int × Int).2 = 0 from rfl), bytes_refl row (by omega), Option.bind_some, if_pos rfl, gate_twice row h1, Option.bind_some, bytes_refl _ (by rw [tabl_len]; omega), Option.bind_some, if_pos rfl, if_pos (show ((xs, (0 : Int)) : List Int × Int).2 = 0 from rfl), ints_refl xs (by omega), Option.bind_some]
  | succ d ih =>
    intro m i rs hi hm hq hall
    obtain ⟨m, rfl⟩ : ∃ q, m = q + 1 := ⟨m - 1, by omega⟩
    rw [law05_NormSame.L1, if_pos (by omega), idx_d others [] (show i < others.length by omega), Option.bind_some]
    by_cases h : (others.getD i []).length = row.length
    · rw [if_pos (by omega), app_ok _ _ (by simp only [List.length_cons, List.length_replicate, List.length_nil]; omega), Option.bind_some, Option.bind_some, app_ok _ _ (by simp only [List.length_cons, List.length_nil]; omega), Option.bind_some, law05_NormSame.J2, W_succ i (by omega)]
      have e := ih m (i + 1) (rs ++ [others.getD i []]) (by omega) (by omega) (by simp only [List.length_append, List.length_cons, List.length_nil]; omega) (fun r hr2 => by
        rcases List.mem_append.1 hr2 with h4 | h4
        · exact hall r h4
        · rw [List.mem_singleton] at h4; rw [h4, h])
      rw [List.length_append, show ([others.getD i []] : List (List Int)).length = 1 from rfl, List.replicate_succ'] at e
      exact e
    · rw [if_neg (by omega), law05_NormSame.J2, W_succ i (by omega)]
      exact ih m (i + 1) rs (by omega) (by omega) (by omega) hall
theorem normSame (row : List Int) (hr : ∀ v ∈ row, (Lit.int .i8 v).wf = true) (others : List (List Int)) (xs : List Int) (hx : ∀ v ∈ xs, (Lit.int .i32 v).wf = true) : law05_NormSame 1000 row others xs = some true := by
  unfold law05_NormSame
  rw [law05_up, Option.bind_some, if_pos rfl]
  by_cases h1 : row.length > 200
  · rw [if_pos (by omega), Option.bind_some]
  · rw [if_neg (by omega)]
    by_cases h2 : others.length > 30
    · rw [if_pos (by omega), Option.bind_some]
    · rw [if_neg (by omega)]
      by_cases h3 : xs.length > 200
      · rw [if_pos (by omega), Option.bind_some]
      · rw [if_neg (by omega)]
        exact same_L1 row others xs hr hx (by omega) (by omega) (by omega) others.length 1000 0 [] (by omega) (by omega) (by simp) (by simp)
end Go.Proofs.Ytmpdkjcobpghaaa
