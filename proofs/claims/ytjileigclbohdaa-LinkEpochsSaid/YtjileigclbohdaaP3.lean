/- Behind a reset nothing of the elder epoch counts; what is sent in the new one comes. -/
import Derived.Test.YtjileigclbohdaaP1
import Derived.Test.YtjileigclbohdaaT1c
namespace Go.Proofs.Ytjileigclbohdaa
open Go Go.Hp
set_option linter.unusedVariables false
set_option linter.unusedSimpArgs false
def la (e now k A S : Int) (out : List S_link_body) : S_link_Link := ⟨8, 2, 100, e, now, k, A, S, out, 0, [], false⟩
def lb (e now got : Int) (ow : Bool) : S_link_Link := ⟨8, 2, 100, e, now, 0, 0, 0, [], got, [], ow⟩
def mkc (g : Nat → List Int) (at' : Nat → Int) (A i : Nat) : S_link_body := ⟨((A + 1 + i : Nat) : Int), at' i, g (A + i)⟩
def mks (e : Int) (g : Nat → List Int) (A i : Nat) : S_api_Seg := ⟨e, ((A + 1 + i : Nat) : Int), 0, g (A + i)⟩
theorem idx_d {α : Type} (l : List α) (d : α) {k : Nat} (h : k < l.length) : idx l (k : Int) = some (l.getD k d) := by
  rw [idx_get l k h, List.getD_eq_getElem?_getD, List.getElem?_eq_getElem h]; rfl
theorem tabB (l : List (List Int)) : l = tabl l.length (fun i => l.getD i []) := by
  apply List.ext_getElem
  · rw [tabl_len]
  · intro i h1 h2
    rw [tabl_get, List.getD_eq_getElem?_getD, List.getElem?_eq_getElem h1]; rfl
theorem clone_is (x : List Int) (h : x.length ≤ 500) : bytes_Clone x = some x := by
  unfold bytes_Clone
  rw [app_ok _ _ (by simp only [List.length_nil]; omega), List.nil_append, Option.bind_some]
theorem none_long (xs : List (List Int)) (h1 : xs.length ≤ 30) (h2 : ∀ i, i < xs.length → (xs.getD i []).length ≤ 500) (d : Nat) : ∀ m i : Nat, i + d = xs.length → d < m →
    slices_IndexFunc_s_s_byte_s_byte.L1 xs (fun y2 => some (decide (((y2.length : Nat) : Int) > 65536))) m (i : Int) = some (-1) := by
  induction d with
  | zero =>
    intro m i hi hm
    obtain ⟨m, rfl⟩ : ∃ q, m = q + 1 := ⟨m - 1, by omega⟩
    rw [slices_IndexFunc_s_s_byte_s_byte.L1, if_neg (by omega)]
  | succ d ih =>
    intro m i hi hm
    obtain ⟨m, rfl⟩ : ∃ q, m = q + 1 := ⟨m - 1, by omega⟩
    have := h2 i (by omega)
    rw [slices_IndexFunc_s_s_byte_s_byte.L1, if_pos (by omega), idx_d xs [] (show i < xs.length by omega), Option.bind_some, Option.bind_some, if_neg (fun h => by have := of_decide_eq_true h; omega), W_succ i (by omega)]
    exact ih m (i + 1) (by omega) (by omega)
theorem send_loop (e now : Int) (xs : List (List Int)) (h1 : xs.length ≤ 30) (h2 : ∀ i, i < xs.length → (xs.getD i []).length ≤ 500) (d : Nat) : ∀ m i : Nat, i + d = xs.length → d < m →
    link_Link_Send.L1 xs m (la e now i 0 0 (tabl i (mkc (fun j => xs.getD j []) (fun _ => -1) 0))) (i : Int) = some (0, la e now xs.length 0 0 (tabl xs.length (mkc (fun j => xs.getD j []) (fun _ => -1) 0))) := by
  induction d with
  | zero =>
    intro m i hi hm
    obtain ⟨m, rfl⟩ : ∃ q, m = q + 1 := ⟨m - 1, by omega⟩
    obtain rfl : i = xs.length := by omega
    rw [link_Link_Send.L1, if_neg (by omega)]
  | succ d ih =>
    intro m i hi hm
    obtain ⟨m, rfl⟩ : ∃ q, m = q + 1 := ⟨m - 1, by omega⟩
    rw [link_Link_Send.L1, if_pos (by omega), idx_d xs [] (show i < xs.length by omega), Option.bind_some, clone_is _ (h2 i (by omega)), Option.bind_some,
      show (la e now i 0 0 (tabl i (mkc (fun j => xs.getD j []) (fun _ => -1) 0))).out = tabl i (mkc (fun j => xs.getD j []) (fun _ => -1) 0) from rfl,
      show (la e now i 0 0 (tabl i (mkc (fun j => xs.getD j []) (fun _ => -1) 0))).next = (i : Int) from rfl, app_ok _ _ (by rw [tabl_len]; simp only [List.length_cons, List.length_nil]; omega), Option.bind_some, W_succ i (by omega)]
    have e1 := ih m (i + 1) (by omega) (by omega)
    rw [tabl_succ] at e1
    have e2 : mkc (fun j => xs.getD j []) (fun _ => -1) 0 i = (⟨((i + 1 : Nat) : Int), -1, xs.getD i []⟩ : S_link_body) := by
      unfold mkc
      rw [show 0 + 1 + i = i + 1 by omega, show 0 + i = i by omega]
    rw [e2] at e1
    exact e1
theorem send_is (e now : Int) (xs : List (List Int)) (h1 : xs.length ≤ 30) (h2 : ∀ i, i < xs.length → (xs.getD i []).length ≤ 500) :
    link_Link_Send 1000 (la e now 0 0 0 []) xs = some (0, la e now xs.length 0 0 (tabl xs.length (mkc (fun j => xs.getD j []) (fun _ => -1) 0))) := by
  have hroom : ¬ ((xs.length : Nat) : Int) > IntKind.i64.wrap ((la e now 0 0 0 []).room - (((la e now 0 0 0 []).out.length : Nat) : Int)) := by
    show ¬ ((xs.length : Nat) : Int) > IntKind.i64.wrap ((100 : Int) - ((0 : Nat) : Int))
    rw [W_in (by omega)]
    omega
  unfold link_Link_Send slices_ContainsFunc_s_s_byte_s_byte slices_IndexFunc_s_s_byte_s_byte
  rw [show slices_IndexFunc_s_s_byte_s_byte.L1 xs (fun y2 => some (decide (((y2.length : Nat) : Int) > 65536))) 1000 0 = some (-1) from none_long xs h1 h2 xs.length 1000 0 (by omega) (by omega), Option.bind_some, Option.bind_some, if_neg (by decide), if_neg hroom]
  exact send_loop e now xs h1 h2 xs.length 1000 0 (by omega) (by omega)
theorem tickA_loop (e now : Int) (g : Nat → List Int) (A k : Nat) (hA : A ≤ k) (hk : k ≤ 30) (hg : ∀ i, i < k → (g i).length ≤ 500) (x0 : S_link_Link) (hx : x0.out.length = k - A) (d : Nat) : ∀ m i : Nat, i + d = k - A → d < m → i ≤ 8 →
    link_Link_Tick.L2 x0 m (la e now k A ((A + i : Nat) : Int) (tabl (k - A) (mkc g (fun j => if j < i then now else -1) A))) (tabl i (mks e g A)) (i : Int) =
      some (tabl (min 8 (k - A)) (mks e g A), la e now k A ((A + min 8 (k - A) : Nat) : Int) (tabl (k - A) (mkc g (fun j => if j < min 8 (k - A) then now else -1) A))) := by
  induction d with
  | zero =>
    intro m i hi hm h8
    obtain ⟨m, rfl⟩ : ∃ q, m = q + 1 := ⟨m - 1, by omega⟩
    rw [link_Link_Tick.L2, if_neg (by omega), tick_end _ _ rfl, show min 8 (k - A) = i by omega]
    rfl
  | succ d ih =>
    intro m i hi hm h8
    obtain ⟨m, rfl⟩ : ∃ q, m = q + 1 := ⟨m - 1, by omega⟩
    rw [link_Link_Tick.L2, if_pos (by omega), show (la e now k A ((A + i : Nat) : Int) (tabl (k - A) (mkc g (fun j => if j < i then now else -1) A))).out = tabl (k - A) (mkc g (fun j => if j < i then now else -1) A) from rfl, idx_t _ (show i < k - A by omega), Option.bind_some]
    by_cases h : i = 8
    · have hc : (mkc g (fun j => if j < i then now else -1) A i).seq > IntKind.i64.wrap ((la e now k A ((A + i : Nat) : Int) (tabl (k - A) (mkc g (fun j => if j < i then now else -1) A))).acked + (la e now k A ((A + i : Nat) : Int) (tabl (k - A) (mkc g (fun j => if j < i then now else -1) A))).window) := by
        show ((A + 1 + i : Nat) : Int) > IntKind.i64.wrap ((A : Int) + 8)
        rw [W_in (by omega)]
        omega
      rw [if_pos hc, tick_end _ _ rfl, show min 8 (k - A) = i by omega]
      rfl
    · have hc : ¬ (mkc g (fun j => if j < i then now else -1) A i).seq > IntKind.i64.wrap ((la e now k A ((A + i : Nat) : Int) (tabl (k - A) (mkc g (fun j => if j < i then now else -1) A))).acked + (la e now k A ((A + i : Nat) : Int) (tabl (k - A) (mkc g (fun j => if j < i then now else -1) A))).window) := by
        show ¬ ((A + 1 + i : Nat) : Int) > IntKind.i64.wrap ((A : Int) + 8)
        rw [W_in (by omega)]
        omega
      have hat : (mkc g (fun j => if j < i then now else -1) A i).at_ < 0 := by
        show (if i < i then now else -1) < 0
        rw [if_neg (by omega)]
        decide
      rw [if_neg hc, if_pos hat]
      unfold link_Link_Tick.J4 link_Link_Tick.J3
      rw [if_pos rfl]
      show (bytes_Clone (g (A + i))).bind _ = _
      rw [clone_is _ (hg _ (by omega)), Option.bind_some, app_ok _ _ (by rw [tabl_len]; simp only [List.length_cons, List.length_nil]; omega), Option.bind_some, W_succ i (by omega)]
      have e1 := ih m (i + 1) (by omega) (by omega) (by omega)
      rw [← e1]
      have e2 : tabl (i + 1) (mks e g A) = tabl i (mks e g A) ++ [(⟨e, ((A + 1 + i : Nat) : Int), 0, g (A + i)⟩ : S_api_Seg)] := tabl_succ _ _
      have e3 : tabl (k - A) (mkc g (fun j => if j < i + 1 then now else -1) A) = (tabl (k - A) (mkc g (fun j => if j < i then now else -1) A)).set ((i : Int)).toNat (⟨((A + 1 + i : Nat) : Int), now, g (A + i)⟩ : S_link_body) := by
        rw [Int.toNat_natCast, tabl_set]
        refine tabl_congr fun j hj => ?_
        unfold mkc
        dsimp only
        by_cases hji : j = i
        · subst hji; rw [if_pos rfl, if_pos (by omega)]
        · rw [if_neg hji]
          by_cases h3 : j < i
          · rw [if_pos h3, if_pos (by omega)]
          · rw [if_neg h3, if_neg (by omega)]
      have e4 : ((A + (i + 1) : Nat) : Int) = max ((A + i : Nat) : Int) ((A + 1 + i : Nat) : Int) := by omega
      rw [e2, e3, e4]
      rfl
theorem tickA (e now : Int) (g : Nat → List Int) (A k : Nat) (hA : A ≤ k) (hk : k ≤ 30) (hg : ∀ i, i < k → (g i).length ≤ 500) :
    ∃ now2 : Int, link_Link_Tick 1000 (la e now k A A (tabl (k - A) (mkc g (fun _ => -1) A))) = some (tabl (min 8 (k - A)) (mks e g A), la e now2 k A ((A + min 8 (k - A) : Nat) : Int) (tabl (k - A) (mkc g (fun j => if j < min 8 (k - A) then now2 else -1) A))) := by
  refine ⟨IntKind.i64.wrap (now + 1), ?_⟩
  have h := tickA_loop e (IntKind.i64.wrap (now + 1)) g A k hA hk hg (la e now k A A (tabl (k - A) (mkc g (fun _ => -1) A))) (tabl_len _ _) (k - A) 1000 0 (by omega) (by omega) (by omega)
  refine Eq.trans ?_ h
  unfold link_Link_Tick
  rw [show tabl (k - A) (mkc g (fun j => if j < 0 then IntKind.i64.wrap (now + 1) else -1) A) = tabl (k - A) (mkc g (fun _ => -1) A) from tabl_congr fun j hj => by unfold mkc; rfl]
  rfl
theorem del_gen (f : Nat → S_link_body) (n c : Nat) (hcn : c ≤ n) (hn : n ≤ 60) (p : S_link_body → Option Bool) (hp : ∀ i, i < n → p (f i) = some (decide (i < c))) :
    slices_DeleteFunc_s_link_body_link_body 1000 (tabl n f) p = some (tabl (n - c) fun j => f (j + c)) := by
  unfold slices_DeleteFunc_s_link_body_link_body slices_IndexFunc_s_link_body_link_body
  by_cases he : c = 0
  · subst he
    have e := index_none f n hn p (fun i hi => by rw [hp i hi, decide_eq_false (by omega)]) n 1000 0 (by omega) (by omega)
    rw [show ((0 : Nat) : Int) = 0 from rfl] at e
    rw [e, Option.bind_some, if_pos rfl]
    rfl
  · have e0 : slices_IndexFunc_s_link_body_link_body.L1 (tabl n f) p (999 + 1) ((0 : Nat) : Int) = some ((0 : Nat) : Int) := by
      rw [slices_IndexFunc_s_link_body_link_body.L1, if_pos (by rw [tabl_len]; omega), idx_t _ (show 0 < n by omega), Option.bind_some, hp 0 (by omega), Option.bind_some, if_pos (decide_eq_true (show 0 < c by omega))]
    rw [show slices_IndexFunc_s_link_body_link_body.L1 (tabl n f) p 1000 0 = some ((0 : Nat) : Int) from e0, Option.bind_some, if_neg (by omega), W_succ 0 (by omega)]
    have e := del_loop f n c (by omega) hcn hn p hp (n - 1) 1000 1 (by omega) (by omega) (by omega)
    rw [show 1 - c = 0 by omega] at e
    exact Eq.trans (congrArg (fun l => slices_DeleteFunc_s_link_body_link_body.L1 _ _ 1000 l _ _) (tabl_congr fun j hj => (if_neg (by omega)).symm)) e
theorem hearA (e now now3 : Int) (g : Nat → List Int) (A c k : Nat) (hc : c ≤ k - A) (hA : A ≤ k) (hk : k ≤ 30) :
    link_Link_Hear 1000 (la e now k A ((A + c : Nat) : Int) (tabl (k - A) (mkc g (fun j => if j < c then now3 else -1) A))) (⟨e, 0, ((A + c : Nat) : Int), []⟩ : S_api_Seg) = some ([], 0, la e now k ((A + c : Nat) : Int) ((A + c : Nat) : Int) (tabl (k - (A + c)) (mkc g (fun _ => -1) (A + c)))) := by
  have hd := del_gen (mkc g (fun j => if j < c then now3 else -1) A) (k - A) c hc (by omega) (fun y => some (decide (y.seq ≤ max (A : Int) ((A + c : Nat) : Int)))) (fun i hi => by
    show some (decide (((A + 1 + i : Nat) : Int) ≤ max (A : Int) ((A + c : Nat) : Int))) = _
    congr 1
    by_cases h : i < c
    · rw [decide_eq_true h, decide_eq_true (by omega)]
    · rw [decide_eq_false h, decide_eq_false (by omega)])
  have c3 : ¬ (⟨e, 0, ((A + c : Nat) : Int), []⟩ : S_api_Seg).Ack > (la e now k A ((A + c : Nat) : Int) (tabl (k - A) (mkc g (fun j => if j < c then now3 else -1) A))).sent := by
    show ¬ ((A + c : Nat) : Int) > ((A + c : Nat) : Int)
    omega
  unfold link_Link_Hear
  rw [if_neg (fun h => h rfl), if_neg (show ¬ ((A + c : Nat) : Int) < 0 by omega), if_neg c3, if_neg (show ¬ (0 : Int) < 0 by decide), if_pos (show (0 : Int) = 0 from rfl)]
  unfold link_Link_Hear.J1
  rw [if_neg (show ¬ decide ((((⟨e, 0, ((A + c : Nat) : Int), []⟩ : S_api_Seg).Body.length : Nat) : Int) > 0) = true by simp)]
  refine Eq.trans (congrArg (fun o => Option.bind o _) hd) ?_
  rw [Option.bind_some, if_pos (show (0 : Int) = 0 from rfl)]
  have e1 : tabl (k - A - c) (fun j => mkc g (fun j => if j < c then now3 else -1) A (j + c)) = tabl (k - (A + c)) (mkc g (fun _ => -1) (A + c)) := by
    rw [show k - A - c = k - (A + c) by omega]
    refine tabl_congr fun j hj => ?_
    unfold mkc
    dsimp only
    rw [if_neg (by omega), show A + 1 + (j + c) = A + c + 1 + j by omega, show A + (j + c) = A + c + j by omega]
  have e2 : max (A : Int) ((A + c : Nat) : Int) = ((A + c : Nat) : Int) := by omega
  rw [e1]
  show some (([] : List (List Int)), (0 : Int), la e now k (max (A : Int) ((A + c : Nat) : Int)) ((A + c : Nat) : Int) (tabl (k - (A + c)) (mkc g (fun _ => -1) (A + c)))) = _
  rw [e2]
theorem hearB (e now : Int) (ow : Bool) (g : Nat → List Int) (A i : Nat) (hb : A + i ≤ 30) (hg : (g (A + i)).length ≤ 500) :
    link_Link_Hear 1000 (lb e now ((A + i : Nat) : Int) ow) (mks e g A i) = some ([g (A + i)], 0, lb e now ((A + (i + 1) : Nat) : Int) true) := by
  have hW : IntKind.i64.wrap (((A + i : Nat) : Int) + 1) = ((A + 1 + i : Nat) : Int) := by rw [W_in (by omega)]; omega
  have hdel : slices_DeleteFunc_s_link_body_link_body 1000 ([] : List S_link_body) (fun y => some (decide (y.seq ≤ max (0 : Int) 0))) = some [] := rfl
  have c1 : ¬ (mks e g A i).Seq < 0 := by show ¬ ((A + 1 + i : Nat) : Int) < 0; omega
  have c2 : ¬ (mks e g A i).Seq = 0 := by show ¬ ((A + 1 + i : Nat) : Int) = 0; omega
  have c3 : (mks e g A i).Seq > (lb e now ((A + i : Nat) : Int) ow).got := by show ((A + 1 + i : Nat) : Int) > ((A + i : Nat) : Int); omega
  have c4 : (mks e g A i).Seq ≤ IntKind.i64.wrap ((lb e now ((A + i : Nat) : Int) ow).got + (lb e now ((A + i : Nat) : Int) ow).window) := by
    show ((A + 1 + i : Nat) : Int) ≤ IntKind.i64.wrap (((A + i : Nat) : Int) + 8)
    rw [W_in (by omega)]
    omega
  unfold link_Link_Hear
  have c5 : ¬ (mks e g A i).Ack < 0 := by show ¬ (0 : Int) < 0; decide
  have c6 : ¬ (mks e g A i).Ack > (lb e now ((A + i : Nat) : Int) ow).sent := by show ¬ (0 : Int) > 0; decide
  have c7 : ¬ (mget (lb e now ((A + i : Nat) : Int) ow).early (mks e g A i).Seq).isSome = true := by
    show ¬ (none : Option (List Int)).isSome = true
    simp
  rw [if_neg (fun h => h rfl), if_neg c5, if_neg c6, if_neg c1, if_neg c2]
  unfold link_Link_Hear.J1
  rw [if_neg (by decide)]
  refine Eq.trans (congrArg (fun o => Option.bind o _) hdel) ?_
  rw [Option.bind_some, if_neg c2, Option.bind_some, if_pos c3, if_pos c4, if_neg c7]
  unfold link_Link_Hear.J3 link_Link_Hear.J2
  rw [if_pos rfl]
  show (bytes_Clone (g (A + i))).bind _ = _
  rw [clone_is _ hg, Option.bind_some]
  have key : ∀ m, link_Link_Hear.L4 (m + 2) (⟨8, 2, 100, e, now, 0, 0, 0, [], ((A + i : Nat) : Int), [(((A + 1 + i : Nat) : Int), g (A + i))], true⟩ : S_link_Link) [] = some ([g (A + i)], 0, lb e now ((A + (i + 1) : Nat) : Int) true) := by
    intro m
    rw [link_Link_Hear.L4]
    dsimp only
    rw [hW, show mget [(((A + 1 + i : Nat) : Int), g (A + i))] ((A + 1 + i : Nat) : Int) = some (g (A + i)) by simp [mget], Option.bind_some, if_pos (show (some (g (A + i))).isSome = true from rfl), show ((some (g (A + i))).getD []) = g (A + i) from rfl, app_ok _ _ (by simp), Option.bind_some, show mdel [(((A + 1 + i : Nat) : Int), g (A + i))] ((A + 1 + i : Nat) : Int) = [] by simp [mdel], link_Link_Hear.L4]
    dsimp only
    rw [Option.bind_some, if_neg (by simp [mget]), show A + (i + 1) = A + 1 + i by omega]
    rfl
  exact key 998
end Go.Proofs.Ytjileigclbohdaa
