/- LinkEpochs. -/
import Derived.Test.YtjileigclbohdaaP3
namespace Go.Proofs.Ytjileigclbohdaa
open Go Go.Hp
set_option linter.unusedVariables false
set_option linter.unusedSimpArgs false
theorem tickB (e now got : Int) : link_Link_Tick 1000 (lb e now got true) = some ([(⟨e, 0, got, []⟩ : S_api_Seg)], lb e (IntKind.i64.wrap (now + 1)) got false) := by
  unfold link_Link_Tick
  rw [show (1000 : Nat) = 999 + 1 from rfl, link_Link_Tick.L2, if_neg (show ¬ (0 : Int) < (((lb e now got true).out.length : Nat) : Int) by show ¬ (0 : Int) < ((0 : Nat) : Int); omega)]
  unfold link_Link_Tick.J1
  rw [if_pos (show ((([] : List S_api_Seg).length : Nat) : Int) = 0 from rfl)]
  show link_Link_Tick.J5 (lb e (IntKind.i64.wrap (now + 1)) got true) [] true = _
  unfold link_Link_Tick.J5
  rw [if_pos rfl, app_ok _ _ (by simp), Option.bind_some]
  rfl
theorem L7_is (e t now now3 nb : Int) (g : Nat → List Int) (A c k : Nat) (hc : c ≤ k - A) (hA : A ≤ k) (hk : k ≤ 30) (came : List (List Int)) (k4 : S_link_Link → S_link_Link → List (List Int) → Int → Option Bool) :
    law16_LinkEpochs.L7 1000 t came ([(⟨e, 0, ((A + c : Nat) : Int), []⟩ : S_api_Seg)], lb e nb ((A + c : Nat) : Int) false) k4 1000 (la e now k A ((A + c : Nat) : Int) (tabl (k - A) (mkc g (fun j => if j < c then now3 else -1) A))) 0 =
      k4 (la e now k ((A + c : Nat) : Int) ((A + c : Nat) : Int) (tabl (k - (A + c)) (mkc g (fun _ => -1) (A + c)))) (lb e nb ((A + c : Nat) : Int) false) came (IntKind.i64.wrap (t + 1)) := by
  have w1 : IntKind.i64.wrap (0 + 1) = 1 := by decide
  have key : ∀ m, law16_LinkEpochs.L7 1000 t came ([(⟨e, 0, ((A + c : Nat) : Int), []⟩ : S_api_Seg)], lb e nb ((A + c : Nat) : Int) false) k4 (m + 2) (la e now k A ((A + c : Nat) : Int) (tabl (k - A) (mkc g (fun j => if j < c then now3 else -1) A))) 0 =
      k4 (la e now k ((A + c : Nat) : Int) ((A + c : Nat) : Int) (tabl (k - (A + c)) (mkc g (fun _ => -1) (A + c)))) (lb e nb ((A + c : Nat) : Int) false) came (IntKind.i64.wrap (t + 1)) := by
    intro m
    rw [law16_LinkEpochs.L7, if_pos (show (0 : Int) < (([(⟨e, 0, ((A + c : Nat) : Int), []⟩ : S_api_Seg)].length : Nat) : Int) by simp), show idx [(⟨e, 0, ((A + c : Nat) : Int), []⟩ : S_api_Seg)] 0 = some (⟨e, 0, ((A + c : Nat) : Int), []⟩ : S_api_Seg) from rfl, Option.bind_some, hearA e now now3 g A c k hc hA hk, Option.bind_some, if_neg (fun h => h rfl), w1, law16_LinkEpochs.L7, if_neg (show ¬ (1 : Int) < (([(⟨e, 0, ((A + c : Nat) : Int), []⟩ : S_api_Seg)].length : Nat) : Int) by simp)]
  exact key 998
theorem L6_is (e t : Int) (g : Nat → List Int) (A c : Nat) (hc : 0 < c) (hb : A + c ≤ 30) (hg : ∀ i, i < A + c → (g i).length ≤ 500) (a2 : S_link_Link) (k4 : S_link_Link → S_link_Link → List (List Int) → Int → Option Bool)
    (hend : ∀ nb2 : Int, law16_LinkEpochs.L7 1000 t (tabl (A + c) g) ([(⟨e, 0, ((A + c : Nat) : Int), []⟩ : S_api_Seg)], lb e nb2 ((A + c : Nat) : Int) false) k4 1000 a2 0 = some true) (d : Nat) : ∀ (m i : Nat) (nb : Int) (ow : Bool), i + d = c → d < m → (i = c → ow = true) →
    law16_LinkEpochs.L6 1000 t (tabl c (mks e g A), a2) k4 m (lb e nb ((A + i : Nat) : Int) ow) (tabl (A + i) g) (i : Int) = some true := by
  induction d with
  | zero =>
    intro m i nb ow hi hm ho
    obtain ⟨m, rfl⟩ : ∃ q, m = q + 1 := ⟨m - 1, by omega⟩
    obtain rfl : i = c := by omega
    obtain rfl := ho rfl
    rw [law16_LinkEpochs.L6, if_neg (show ¬ (i : Int) < (((tabl i (mks e g A)).length : Nat) : Int) by rw [tabl_len]; omega), tickB, Option.bind_some]
    exact hend _
  | succ d ih =>
    intro m i nb ow hi hm ho
    obtain ⟨m, rfl⟩ : ∃ q, m = q + 1 := ⟨m - 1, by omega⟩
    rw [law16_LinkEpochs.L6, if_pos (show (i : Int) < (((tabl c (mks e g A)).length : Nat) : Int) by rw [tabl_len]; omega), idx_t _ (show i < c by omega), Option.bind_some, hearB e nb ow g A i (by omega) (hg _ (by omega)), Option.bind_some, if_neg (fun h => h rfl), app_ok _ _ (by rw [tabl_len]; simp only [List.length_cons, List.length_nil]; omega), Option.bind_some, W_succ i (by omega), ← tabl_succ]
    exact ih m (i + 1) nb true (by omega) (by omega) (fun _ => rfl)
theorem bodies_loop (a : List (List Int)) (ha : a.length ≤ 1000000) (d : Nat) : ∀ m k : Nat, k + d = a.length → d < m → law16_bodies.L1 a a m (k : Int) = some true := by
  induction d with
  | zero =>
    intro m k hk hm
    obtain ⟨m, rfl⟩ : ∃ q, m = q + 1 := ⟨m - 1, by omega⟩
    rw [law16_bodies.L1, if_neg (by omega)]
  | succ d ih =>
    intro m k hk hm
    obtain ⟨m, rfl⟩ : ∃ q, m = q + 1 := ⟨m - 1, by omega⟩
    rw [law16_bodies.L1, if_pos (by omega), idx_get _ _ (show k < a.length by omega), Option.bind_some, Option.bind_some, if_neg (fun h => h rfl), W_succ k (by omega)]
    exact ih m (k + 1) (by omega) (by omega)
theorem bodies_refl (a : List (List Int)) (h : a.length ≤ 900) : law16_bodies 1000 a a = some true := by
  rw [law16_bodies, if_neg (fun h => h rfl)]
  exact bodies_loop a (by omega) a.length 1000 0 (by omega) (by omega)
theorem rounds (e : Int) (xs : List (List Int)) (h1 : xs.length ≤ 30) (h2 : ∀ i, i < xs.length → (xs.getD i []).length ≤ 500) (d : Nat) : ∀ (m t A : Nat) (na nb : Int), xs.length - A ≤ d → d < m → t ≤ A → A ≤ xs.length →
    law16_LinkEpochs.L4 1000 xs e m (la e na xs.length A A (tabl (xs.length - A) (mkc (fun j => xs.getD j []) (fun _ => -1) A))) (lb e nb (A : Int) false) (tabl A (fun j => xs.getD j [])) (t : Int) = some true := by
  induction d with
  | zero =>
    intro m t A na nb hd hm ht hA
    obtain ⟨m, rfl⟩ : ∃ q, m = q + 1 := ⟨m - 1, by omega⟩
    obtain rfl : A = xs.length := by omega
    rw [law16_LinkEpochs.L4, if_pos (by omega)]
    unfold link_Link_Left
    rw [Option.bind_some]
    unfold law16_LinkEpochs.J5
    rw [if_neg (by
      intro h
      have h := of_decide_eq_true h
      have h : (((tabl (xs.length - xs.length) (mkc (fun j => xs.getD j []) (fun _ => -1) xs.length)).length : Nat) : Int) > 0 := h
      rw [tabl_len] at h
      omega), ← tabB, bodies_refl xs (by omega), Option.bind_some, if_pos rfl]
    unfold link_Link_Got link_Link_Epoch
    rw [Option.bind_some, if_pos (show (lb e nb ((xs.length : Nat) : Int) false).got = ((xs.length : Nat) : Int) from rfl), Option.bind_some]
    exact congrArg some (decide_eq_true rfl)
  | succ d ih =>
    intro m t A na nb hd hm ht hA
    by_cases h : xs.length - A ≤ d
    · exact ih m t A na nb h (by omega) ht hA
    · obtain ⟨m, rfl⟩ : ∃ q, m = q + 1 := ⟨m - 1, by omega⟩
      rw [law16_LinkEpochs.L4, if_pos (by omega)]
      unfold link_Link_Left
      rw [Option.bind_some]
      unfold law16_LinkEpochs.J5
      have hlen : (((la e na xs.length A A (tabl (xs.length - A) (mkc (fun j => xs.getD j []) (fun _ => -1) A))).out.length : Nat) : Int) > 0 := by
        show (((tabl (xs.length - A) (mkc (fun j => xs.getD j []) (fun _ => -1) A)).length : Nat) : Int) > 0
        rw [tabl_len]
        omega
      rw [if_pos (decide_eq_true hlen)]
      obtain ⟨now2, ht2⟩ := tickA e na (fun j => xs.getD j []) A xs.length hA h1 h2
      rw [ht2, Option.bind_some]
      refine L6_is e t (fun j => xs.getD j []) A (min 8 (xs.length - A)) (by omega) (by omega) (fun i hi => h2 i (by omega)) _ _ (fun nb2 => ?_) (min 8 (xs.length - A)) 1000 0 nb false (by omega) (by omega) (by omega)
      rw [L7_is e t now2 now2 nb2 (fun j => xs.getD j []) A (min 8 (xs.length - A)) xs.length (by omega) hA h1, W_succ t (by omega)]
      exact ih m (t + 1) (A + min 8 (xs.length - A)) now2 nb2 (by omega) (by omega) (by omega) (by omega)
theorem new_is : link_New 8 2 100 = some (some (la 0 0 0 0 0 []), 0) := rfl
theorem reset_is (e now k A S : Int) (out : List S_link_body) (h0 : 0 < e) (h1 : e ≤ 1000) : link_Link_Reset (la 0 now k A S out) e = some (0, la e 0 0 0 0 []) := by
  have c0 : ¬ e ≤ (la 0 now k A S out).epoch := by show ¬ e ≤ 0; omega
  unfold link_Link_Reset
  rw [if_neg c0, if_neg (show ¬ e ≥ 1099511627776 by omega), show link_New (la 0 now k A S out).window (la 0 now k A S out).span (la 0 now k A S out).room = some (some (la 0 0 0 0 0 []), 0) from new_is]
  rfl
theorem L3_is (e : Int) (h0 : 0 < e) (g : Nat → List Int) (A c : Nat) (hc : c ≤ 8) (xs : List (List Int)) (h1 : xs.length ≤ 30) (h2 : ∀ i, i < xs.length → (xs.getD i []).length ≤ 500) (a2 : S_link_Link) (x : Int) (d : Nat) : ∀ m i : Nat, i + d = c → d < m →
    law16_LinkEpochs.L3 1000 xs e (tabl c (mks 0 g A), a2) (x, la e 0 0 0 0 []) m (lb e 0 0 false) (i : Int) = some true := by
  induction d with
  | zero =>
    intro m i hi hm
    obtain ⟨m, rfl⟩ : ∃ q, m = q + 1 := ⟨m - 1, by omega⟩
    rw [law16_LinkEpochs.L3, if_neg (show ¬ (i : Int) < (((tabl c (mks 0 g A)).length : Nat) : Int) by rw [tabl_len]; omega), send_is e 0 xs h1 h2, Option.bind_some]
    exact rounds e xs h1 h2 xs.length 1000 0 0 0 0 (by omega) (by omega) (by omega) (by omega)
  | succ d ih =>
    intro m i hi hm
    obtain ⟨m, rfl⟩ : ∃ q, m = q + 1 := ⟨m - 1, by omega⟩
    have hh : link_Link_Hear 1000 (lb e 0 0 false) (mks 0 g A i) = some ([], 160, lb e 0 0 false) := by
      have c0 : (mks 0 g A i).Epoch ≠ (lb e 0 0 false).epoch := by show (0 : Int) ≠ e; omega
      unfold link_Link_Hear
      rw [if_pos c0]
    rw [law16_LinkEpochs.L3, if_pos (show (i : Int) < (((tabl c (mks 0 g A)).length : Nat) : Int) by rw [tabl_len]; omega), idx_t _ (show i < c by omega), Option.bind_some, hh, Option.bind_some, if_neg (fun h => h rfl), if_neg (fun h => h rfl)]
    unfold link_Link_Got
    rw [Option.bind_some, if_neg (fun h => h rfl), W_succ i (by omega)]
    exact ih m (i + 1) (by omega) (by omega)
theorem L2_is (x0 xs : List (List Int)) (x2 : Int) (g1 : x0.length ≤ 30) (g2 : ∀ i, i < x0.length → (x0.getD i []).length ≤ 500) (h1 : xs.length ≤ 30) (d : Nat) : ∀ m i : Nat, i + d = xs.length → d < m → (∀ j, j < i → (xs.getD j []).length ≤ 500) →
    law16_LinkEpochs.L2 1000 x0 xs x2 (la 0 0 0 0 0 []) (la 0 0 0 0 0 []) m (i : Int) = some true := by
  induction d with
  | zero =>
    intro m i hi hm h2
    obtain ⟨m, rfl⟩ : ∃ q, m = q + 1 := ⟨m - 1, by omega⟩
    obtain ⟨b, hb, eb⟩ := W_restN x2 1000 (by decide) (by decide)
    rw [law16_LinkEpochs.L2, if_neg (by omega), show Int.tmod (IntKind.i64.wrap (Int.tmod x2 1000 + 1000)) 1000 = (b : Int) from eb, W_in (x := 1 + (b : Int)) (by omega), Option.bind_some, send_is 0 0 x0 g1 g2, Option.bind_some]
    obtain ⟨now2, ht2⟩ := tickA 0 0 (fun j => x0.getD j []) 0 x0.length (by omega) g1 g2
    have ht3 : link_Link_Tick 1000 (la 0 0 x0.length 0 0 (tabl x0.length (mkc (fun j => x0.getD j []) (fun _ => -1) 0))) = _ := ht2
    rw [ht3, Option.bind_some, reset_is (1 + (b : Int)) _ _ _ _ _ (by omega) (by omega), Option.bind_some, if_neg (fun h => h rfl), reset_is (1 + (b : Int)) _ _ _ _ _ (by omega) (by omega), Option.bind_some, if_neg (fun h => h rfl)]
    have hr2 : link_Link_Reset (la (1 + (b : Int)) 0 0 0 0 []) (1 + (b : Int)) = some (160, la (1 + (b : Int)) 0 0 0 0 []) := by
      have c0 : 1 + (b : Int) ≤ (la (1 + (b : Int)) 0 0 0 0 []).epoch := by show 1 + (b : Int) ≤ 1 + (b : Int); omega
      unfold link_Link_Reset
      rw [if_pos c0]
    rw [hr2, Option.bind_some, if_neg (fun h => h rfl)]
    unfold link_Link_Left
    rw [Option.bind_some, if_neg (fun h => h rfl)]
    exact L3_is (1 + (b : Int)) (by omega) (fun j => x0.getD j []) 0 _ (by omega) xs h1 (fun j hj => h2 j (by omega)) _ 160 (min 8 (x0.length - 0)) 1000 0 (by omega) (by omega)
  | succ d ih =>
    intro m i hi hm h2
    obtain ⟨m, rfl⟩ : ∃ q, m = q + 1 := ⟨m - 1, by omega⟩
    rw [law16_LinkEpochs.L2, if_pos (by omega), idx_d xs [] (show i < xs.length by omega), Option.bind_some]
    by_cases h : (xs.getD i []).length > 500
    · rw [if_pos (by omega)]
    · rw [if_neg (by omega), W_succ i (by omega)]
      refine ih m (i + 1) (by omega) (by omega) fun j hj => ?_
      by_cases e : j = i
      · subst e; omega
      · exact h2 j (by omega)
theorem L1_is (x0 xs : List (List Int)) (x2 : Int) (g1 : x0.length ≤ 30) (h1 : xs.length ≤ 30) (d : Nat) : ∀ m i : Nat, i + d = x0.length → d < m → (∀ j, j < i → (x0.getD j []).length ≤ 500) →
    law16_LinkEpochs.L1 1000 x0 xs x2 (la 0 0 0 0 0 []) (la 0 0 0 0 0 []) m (i : Int) = some true := by
  induction d with
  | zero =>
    intro m i hi hm h2
    obtain ⟨m, rfl⟩ : ∃ q, m = q + 1 := ⟨m - 1, by omega⟩
    rw [law16_LinkEpochs.L1, if_neg (by omega)]
    exact L2_is x0 xs x2 g1 (fun j hj => h2 j (by omega)) h1 xs.length 1000 0 (by omega) (by omega) (fun j hj => by omega)
  | succ d ih =>
    intro m i hi hm h2
    obtain ⟨m, rfl⟩ : ∃ q, m = q + 1 := ⟨m - 1, by omega⟩
    rw [law16_LinkEpochs.L1, if_pos (by omega), idx_d x0 [] (show i < x0.length by omega), Option.bind_some]
    by_cases h : (x0.getD i []).length > 500
    · rw [if_pos (by omega)]
    · rw [if_neg (by omega), W_succ i (by omega)]
      refine ih m (i + 1) (by omega) (by omega) fun j hj => ?_
      by_cases e : j = i
      · subst e; omega
      · exact h2 j (by omega)
theorem linkEpochs (x0 xs : List (List Int)) (x2 : Int) : law16_LinkEpochs 1000 x0 xs x2 = some true := by
  unfold law16_LinkEpochs
  rw [law16_up, Option.bind_some, if_pos rfl]
  by_cases h1 : x0.length > 30
  · rw [if_pos (by omega), Option.bind_some]
  · rw [if_neg (by omega)]
    by_cases h2 : xs.length > 30
    · rw [if_pos (by omega), Option.bind_some]
    · rw [if_neg (by omega), new_is, Option.bind_some, Option.bind_some]
      rw [show ((some (la 0 0 0 0 0 []), (0 : Int)) : Option S_link_Link × Int).1 = some (la 0 0 0 0 0 []) from rfl, optc_some, optc_some]
      exact L1_is x0 xs x2 (by omega) (by omega) x0.length 1000 0 (by omega) (by omega) (fun j hj => by omega)
end Go.Proofs.Ytjileigclbohdaa
