/- At a tick at most as many bodies go as the window says, in order; as soon as all has come nothing goes. -/
import Derived.Test.YtjileigclbohdaaT1b
import Derived.Test.YtjileigclbohdaaPl
namespace Go.Proofs.Ytjileigclbohdaa
open Go Go.Hp
set_option linter.unusedVariables false
set_option linter.unusedSimpArgs false
theorem optc_some {α β : Type} (x : α) (a : Option β) (f : α → Option β) : optc (some x) a f = f x := rfl
theorem idx_t {α : Type} {n : Nat} (f : Nat → α) {k : Nat} (h : k < n) : idx (tabl n f) (k : Int) = some (f k) := by rw [idx_nat, tabl_get? h]
theorem tabl_succ {α : Type} (n : Nat) (f : Nat → α) : tabl (n + 1) f = tabl n f ++ [f n] := by simp [tabl, List.range_succ]
theorem law16_up : law16_awake 1000 = some true := by decide +kernel
def mkb (at' : Nat → Int) (A i : Nat) : S_link_body := ⟨((A + 1 + i : Nat) : Int), at' i, [((A + i : Nat) : Int)]⟩
def mk (q : Nat) : S_api_Seg := ⟨0, (q : Int), 0, [((q - 1 : Nat) : Int)]⟩
/-- The link. -/
def lk (w sp now k A S : Int) (out : List S_link_body) : S_link_Link := ⟨w, sp, 64, 0, now, k, A, S, out, 0, [], false⟩
theorem clone1 (x : Int) : bytes_Clone [x] = some [x] := by
  unfold bytes_Clone
  rw [app_ok _ _ (by simp), List.nil_append, Option.bind_some]
theorem tick_end (j : S_link_Link) (segs : List S_api_Seg) (h : j.owes = false) : link_Link_Tick.J1 j segs = some (segs, { j with owes := false }) := by
  unfold link_Link_Tick.J1 link_Link_Tick.J5
  rw [h]
  split <;> (rw [if_neg (by decide)])
theorem tick_loop (w A k S0 : Nat) (sp now : Int) (hw : w ≤ 9) (hA : A ≤ k) (hk : k ≤ 60) (x0 : S_link_Link) (hx : x0.out.length = k - A) (d : Nat) : ∀ (m i : Nat) (at' : Nat → Int) (qs : List Nat), i + d = k - A → d < m → i ≤ w → qs.length ≤ i → (∀ q ∈ qs, A < q ∧ q ≤ A + i) → qs.Pairwise (· < ·) →
    ∃ (at2 : Nat → Int) (qs2 : List Nat), link_Link_Tick.L2 x0 m (lk w sp now k A ((qs.foldl max S0 : Nat) : Int) (tabl (k - A) (mkb at' A))) (qs.map mk) (i : Int) = some (qs2.map mk, lk w sp now k A ((qs2.foldl max S0 : Nat) : Int) (tabl (k - A) (mkb at2 A))) ∧
      qs2.length ≤ w ∧ (∀ q ∈ qs2, A < q ∧ q ≤ A + w ∧ q ≤ k) ∧ qs2.Pairwise (· < ·) := by
  induction d with
  | zero =>
    intro m i at' qs hi hm hiw hl hq hp
    obtain ⟨m, rfl⟩ : ∃ q, m = q + 1 := ⟨m - 1, by omega⟩
    refine ⟨at', qs, ?_, by omega, fun q hq2 => ?_, hp⟩
    · rw [link_Link_Tick.L2, if_neg (by omega), tick_end _ _ rfl]
      rfl
    · have := hq q hq2
      omega
  | succ d ih =>
    intro m i at' qs hi hm hiw hl hq hp
    obtain ⟨m, rfl⟩ : ∃ q, m = q + 1 := ⟨m - 1, by omega⟩
    rw [link_Link_Tick.L2, if_pos (by omega)]
    rw [show (lk w sp now k A ((qs.foldl max S0 : Nat) : Int) (tabl (k - A) (mkb at' A))).out = tabl (k - A) (mkb at' A) from rfl, idx_t _ (show i < k - A by omega), Option.bind_some]
    by_cases h1 : i + 1 ≤ w
    · have hc1 : ¬ (mkb at' A i).seq > IntKind.i64.wrap ((lk w sp now k A ((qs.foldl max S0 : Nat) : Int) (tabl (k - A) (mkb at' A))).acked + (lk w sp now k A ((qs.foldl max S0 : Nat) : Int) (tabl (k - A) (mkb at' A))).window) := by
        show ¬ ((A + 1 + i : Nat) : Int) > IntKind.i64.wrap ((A : Int) + (w : Int))
        rw [W_in (by omega)]
        omega
      rw [if_neg hc1]
      have hJ : ∀ b : Bool, ∃ (at2 : Nat → Int) (qs2 : List Nat), link_Link_Tick.J4 (lk w sp now k A ((qs.foldl max S0 : Nat) : Int) (tabl (k - A) (mkb at' A))) (qs.map mk) (i : Int) (mkb at' A i) (link_Link_Tick.L2 x0 m) b = some (qs2.map mk, lk w sp now k A ((qs2.foldl max S0 : Nat) : Int) (tabl (k - A) (mkb at2 A))) ∧
          qs2.length ≤ w ∧ (∀ q ∈ qs2, A < q ∧ q ≤ A + w ∧ q ≤ k) ∧ qs2.Pairwise (· < ·) := by
        intro b
        unfold link_Link_Tick.J4 link_Link_Tick.J3
        cases b with
        | true =>
          obtain ⟨at2, qs2, e, r⟩ := ih m (i + 1) (fun j => if j = i then now else at' j) (qs ++ [A + 1 + i]) (by omega) (by omega) (by omega) (by simp; omega) (fun q hq2 => by
              rcases List.mem_append.1 hq2 with h | h
              · have := hq q h; omega
              · rw [List.mem_singleton] at h; omega) (by
              rw [List.pairwise_append]
              exact ⟨hp, by simp, fun a ha b hb => by rw [List.mem_singleton] at hb; have := hq a ha; omega⟩)
          refine ⟨at2, qs2, ?_, r⟩
          rw [if_pos rfl]
          show (bytes_Clone [((A + i : Nat) : Int)]).bind _ = _
          rw [clone1, Option.bind_some, app_ok _ _ (by simp; omega), Option.bind_some, W_succ i (by omega)]
          rw [← e]
          have e1 : (qs ++ [A + 1 + i]).map mk = qs.map mk ++ [(⟨0, ((A + 1 + i : Nat) : Int), 0, [((A + i : Nat) : Int)]⟩ : S_api_Seg)] := by
            rw [List.map_append]
            show _ ++ [mk (A + 1 + i)] = _
            unfold mk
            rw [show A + 1 + i - 1 = A + i by omega]
          have e2 : tabl (k - A) (mkb (fun j => if j = i then now else at' j) A) = (tabl (k - A) (mkb at' A)).set ((i : Int)).toNat (⟨((A + 1 + i : Nat) : Int), now, [((A + i : Nat) : Int)]⟩ : S_link_body) := by
            rw [Int.toNat_natCast, tabl_set]
            refine tabl_congr fun j hj => ?_
            unfold mkb
            dsimp only
            by_cases hji : j = i
            · subst hji; rw [if_pos rfl, if_pos rfl]
            · rw [if_neg hji, if_neg hji]
          have e3 : (((qs ++ [A + 1 + i]).foldl max S0 : Nat) : Int) = max ((qs.foldl max S0 : Nat) : Int) ((A + 1 + i : Nat) : Int) := by
            rw [List.foldl_append]
            show ((max (qs.foldl max S0) (A + 1 + i) : Nat) : Int) = _
            omega
          rw [e1, e2, e3]
          rfl
        | false =>
          rw [if_neg (by decide), W_succ i (by omega)]
          exact ih m (i + 1) at' qs (by omega) (by omega) (by omega) (by omega) (fun q hq2 => by have := hq q hq2; omega) hp
      split
      · exact hJ true
      · exact hJ _
    · have hc1 : (mkb at' A i).seq > IntKind.i64.wrap ((lk w sp now k A ((qs.foldl max S0 : Nat) : Int) (tabl (k - A) (mkb at' A))).acked + (lk w sp now k A ((qs.foldl max S0 : Nat) : Int) (tabl (k - A) (mkb at' A))).window) := by
        show ((A + 1 + i : Nat) : Int) > IntKind.i64.wrap ((A : Int) + (w : Int))
        rw [W_in (by omega)]
        omega
      rw [if_pos hc1, tick_end _ _ rfl]
      exact ⟨at', qs, rfl, by omega, fun q hq2 => by have := hq q hq2; omega, hp⟩
theorem tick_is (w A k S0 : Nat) (sp now : Int) (hw : w ≤ 9) (hA : A ≤ k) (hk : k ≤ 60) (at' : Nat → Int) :
    ∃ (now2 : Int) (at2 : Nat → Int) (qs2 : List Nat), link_Link_Tick 1000 (lk w sp now k A S0 (tabl (k - A) (mkb at' A))) = some (qs2.map mk, lk w sp now2 k A ((qs2.foldl max S0 : Nat) : Int) (tabl (k - A) (mkb at2 A))) ∧
      qs2.length ≤ w ∧ (∀ q ∈ qs2, A < q ∧ q ≤ A + w ∧ q ≤ k) ∧ qs2.Pairwise (· < ·) := by
  obtain ⟨at2, qs2, e, r⟩ := tick_loop w A k S0 sp (IntKind.i64.wrap (now + 1)) hw hA hk (lk w sp now k A S0 (tabl (k - A) (mkb at' A))) (tabl_len _ _) (k - A) 1000 0 at' [] (by omega) (by omega) (by omega) (by simp) (by simp) (by simp)
  exact ⟨_, at2, qs2, e, r⟩
/-! what is known to have come goes out of the row -/
theorem del_loop (f : Nat → S_link_body) (n c : Nat) (hc : 0 < c) (hcn : c ≤ n) (hn : n ≤ 60) (p : S_link_body → Option Bool) (hp : ∀ i, i < n → p (f i) = some (decide (i < c))) (d : Nat) : ∀ m i : Nat, i + d = n → d < m → 0 < i →
    slices_DeleteFunc_s_link_body_link_body.L1 (tabl n f) p m (tabl n fun j => if j < i - c then f (j + c) else f j) ((i - c : Nat) : Int) (i : Int) = some (tabl (n - c) fun j => f (j + c)) := by
  induction d with
  | zero =>
    intro m i hi hm h0
    obtain ⟨m, rfl⟩ : ∃ q, m = q + 1 := ⟨m - 1, by omega⟩
    obtain rfl : i = n := by omega
    rw [slices_DeleteFunc_s_link_body_link_body.L1, if_neg (by rw [tabl_len]; omega), chk_ok _ (by rw [tabl_len]; omega), chk_ok _ (by rw [tabl_len]; omega), Int.toNat_natCast]
    congr 1
    apply List.ext_getElem
    · simp [tabl_len]
    · intro j h1 h2
      rw [tabl_len] at h2
      rw [List.getElem_take, List.getElem_append_left (by simp [tabl_len]; omega), List.getElem_take, tabl_get, tabl_get, if_pos h2]
  | succ d ih =>
    intro m i hi hm h0
    obtain ⟨m, rfl⟩ : ∃ q, m = q + 1 := ⟨m - 1, by omega⟩
    rw [slices_DeleteFunc_s_link_body_link_body.L1, if_pos (by rw [tabl_len]; omega), idx_t _ (show i < n by omega), Option.bind_some, if_neg (show ¬ i < i - c by omega)]
    rw [show p (⟨(f i).seq, (f i).at_, (f i).b⟩ : S_link_body) = p (f i) from rfl, hp i (by omega), Option.bind_some]
    by_cases h1 : i < c
    · rw [if_pos (by simp [h1]), slices_DeleteFunc_s_link_body_link_body.J3, if_neg (by decide), slices_DeleteFunc_s_link_body_link_body.J2, W_succ i (by omega)]
      have e := ih m (i + 1) (by omega) (by omega) (by omega)
      rw [show i + 1 - c = i - c by omega] at e
      exact e
    · rw [if_neg (by simp [h1]), slices_DeleteFunc_s_link_body_link_body.J3, if_pos rfl, idx_t _ (show i - c < n by omega), Option.bind_some, slices_DeleteFunc_s_link_body_link_body.J2, W_succ i (by omega), W_succ (i - c) (by omega), Int.toNat_natCast, tabl_set]
      have e := ih m (i + 1) (by omega) (by omega) (by omega)
      rw [show i + 1 - c = i - c + 1 by omega] at e
      refine Eq.trans (congrArg (fun l => slices_DeleteFunc_s_link_body_link_body.L1 (tabl n f) p m l _ _) (tabl_congr fun j hj => ?_)) e
      by_cases h2 : j = i - c
      · subst h2
        rw [if_pos rfl, if_pos (by omega), show i - c + c = i by omega]
      · rw [if_neg h2]
        by_cases h3 : j < i - c
        · rw [if_pos h3, if_pos (by omega)]
        · rw [if_neg h3, if_neg (by omega)]
theorem index_none (f : Nat → S_link_body) (n : Nat) (hn : n ≤ 60) (p : S_link_body → Option Bool) (hp : ∀ i, i < n → p (f i) = some false) (d : Nat) : ∀ m i : Nat, i + d = n → d < m →
    slices_IndexFunc_s_link_body_link_body.L1 (tabl n f) p m (i : Int) = some (-1) := by
  induction d with
  | zero =>
    intro m i hi hm
    obtain ⟨m, rfl⟩ : ∃ q, m = q + 1 := ⟨m - 1, by omega⟩
    rw [slices_IndexFunc_s_link_body_link_body.L1, if_neg (by rw [tabl_len]; omega)]
  | succ d ih =>
    intro m i hi hm
    obtain ⟨m, rfl⟩ : ∃ q, m = q + 1 := ⟨m - 1, by omega⟩
    rw [slices_IndexFunc_s_link_body_link_body.L1, if_pos (by rw [tabl_len]; omega), idx_t _ (show i < n by omega), Option.bind_some, hp i (by omega), Option.bind_some, if_neg (by decide), W_succ i (by omega)]
    exact ih m (i + 1) (by omega) (by omega)
theorem del_is (A A2 k : Nat) (at' : Nat → Int) (h1 : A ≤ A2) (h2 : A2 ≤ k) (hk : k ≤ 60) (T : Int) (hT : T = (A2 : Int)) :
    ∃ at2 : Nat → Int, slices_DeleteFunc_s_link_body_link_body 1000 (tabl (k - A) (mkb at' A)) (fun y => some (decide (y.seq ≤ T))) = some (tabl (k - A2) (mkb at2 A2)) := by
  subst hT
  unfold slices_DeleteFunc_s_link_body_link_body slices_IndexFunc_s_link_body_link_body
  by_cases he : A2 = A
  · subst he
    refine ⟨at', ?_⟩
    have e := index_none (mkb at' A2) (k - A2) (by omega) (fun y => some (decide (y.seq ≤ (A2 : Int)))) (fun i hi => by
      show some (decide (((A2 + 1 + i : Nat) : Int) ≤ (A2 : Int))) = some false
      rw [decide_eq_false (by omega)]) (k - A2) 1000 0 (by omega) (by omega)
    rw [show ((0 : Nat) : Int) = 0 from rfl] at e
    rw [e, Option.bind_some, if_pos rfl]
  · refine ⟨fun i => at' (i + (A2 - A)), ?_⟩
    have hp : ∀ i, i < k - A → (fun y : S_link_body => some (decide (y.seq ≤ (A2 : Int)))) (mkb at' A i) = some (decide (i < A2 - A)) := by
      intro i hi
      show some (decide (((A + 1 + i : Nat) : Int) ≤ (A2 : Int))) = _
      congr 1
      by_cases h : i < A2 - A
      · rw [decide_eq_true h, decide_eq_true (by omega)]
      · rw [decide_eq_false h, decide_eq_false (by omega)]
    have e0 : slices_IndexFunc_s_link_body_link_body.L1 (tabl (k - A) (mkb at' A)) (fun y => some (decide (y.seq ≤ (A2 : Int)))) (999 + 1) ((0 : Nat) : Int) = some ((0 : Nat) : Int) := by
      rw [slices_IndexFunc_s_link_body_link_body.L1, if_pos (by rw [tabl_len]; omega), idx_t _ (show 0 < k - A by omega), Option.bind_some, show some (decide ((mkb at' A 0).seq ≤ (A2 : Int))) = some (decide (0 < A2 - A)) from hp 0 (by omega), Option.bind_some, if_pos (decide_eq_true (show 0 < A2 - A by omega))]
    rw [show slices_IndexFunc_s_link_body_link_body.L1 (tabl (k - A) (mkb at' A)) (fun y => some (decide (y.seq ≤ (A2 : Int)))) 1000 0 = some ((0 : Nat) : Int) from e0, Option.bind_some, if_neg (by omega), W_succ 0 (by omega)]
    have e := del_loop (mkb at' A) (k - A) (A2 - A) (by omega) (by omega) (by omega) (fun y => some (decide (y.seq ≤ (A2 : Int)))) hp (k - A - 1) 1000 1 (by omega) (by omega) (by omega)
    rw [show 1 - (A2 - A) = 0 by omega] at e
    refine Eq.trans (congrArg (fun l => slices_DeleteFunc_s_link_body_link_body.L1 _ _ 1000 l _ _) (tabl_congr fun j hj => (if_neg (by omega)).symm)) (e.trans ?_)
    rw [show k - A - (A2 - A) = k - A2 by omega]
    refine congrArg some (tabl_congr fun j hj => ?_)
    unfold mkb
    rw [show A + 1 + (j + (A2 - A)) = A2 + 1 + j by omega, show A + (j + (A2 - A)) = A2 + j by omega]
end Go.Proofs.Ytjileigclbohdaa
