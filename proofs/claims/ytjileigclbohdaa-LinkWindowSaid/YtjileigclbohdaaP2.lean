/- LinkWindow. -/
import Derived.Test.YtjileigclbohdaaP1
namespace Go.Proofs.Ytjileigclbohdaa
open Go Go.Hp
set_option linter.unusedVariables false
set_option linter.unusedSimpArgs false
theorem max_cast (a b : Nat) : max (a : Int) (b : Int) = ((max a b : Nat) : Int) := by omega
theorem min_cast (a b : Nat) : min (a : Int) (b : Int) = ((min a b : Nat) : Int) := by omega
theorem hear_ack (w A A1 S k : Nat) (sp now : Int) (at' : Nat → Int) (hA : A ≤ k) (hk : k ≤ 60) (h1 : A1 ≤ S) (hS : S ≤ k) :
    ∃ at2 : Nat → Int, link_Link_Hear 1000 (lk w sp now k A S (tabl (k - A) (mkb at' A))) (⟨0, 0, (A1 : Int), []⟩ : S_api_Seg) = some ([], 0, lk w sp now k ((max A A1 : Nat) : Int) S (tabl (k - max A A1) (mkb at2 (max A A1)))) := by
  obtain ⟨at2, e⟩ := del_is A (max A A1) k at' (by omega) (by omega) hk (max (A : Int) (A1 : Int)) (max_cast A A1)
  refine ⟨at2, ?_⟩
  have c3 : ¬ (⟨0, 0, (A1 : Int), []⟩ : S_api_Seg).Ack > (lk w sp now k A S (tabl (k - A) (mkb at' A))).sent := by
    show ¬ (A1 : Int) > (S : Int)
    omega
  unfold link_Link_Hear
  rw [if_neg (fun h => h rfl), if_neg (show ¬ (A1 : Int) < 0 by omega), if_neg c3, if_neg (show ¬ (0 : Int) < 0 by decide), if_pos (show (0 : Int) = 0 from rfl)]
  unfold link_Link_Hear.J1
  rw [if_neg (show ¬ decide ((((⟨0, 0, (A1 : Int), []⟩ : S_api_Seg).Body.length : Nat) : Int) > 0) = true by simp)]
  refine Eq.trans (congrArg (fun o => Option.bind o _) e) ?_
  rw [Option.bind_some, if_pos (show (0 : Int) = 0 from rfl), ← max_cast]
  rfl
theorem win_L3 (w A S k t : Nat) (acks : List Int) (hw : w ≤ 9) (hA : A ≤ k) (hk : k ≤ 60) (ht : t < acks.length) (hta : acks.length ≤ 60) (qs : List Nat) (hq : ∀ q ∈ qs, A < q ∧ q ≤ A + w ∧ q ≤ k) (hp : qs.Pairwise (· < ·)) (hlen : qs.length ≤ w) (hSk : S ≤ k)
    (sp now : Int) (at' : Nat → Int) (S2 : Nat) (hS2 : S2 = qs.foldl max S) (hS2k : S2 ≤ k) (k2 : S_link_Link → Int → Int → Int → Option Bool)
    (hk2 : ∀ (A2 : Nat) (at2 : Nat → Int), A2 ≤ k → k2 (lk w sp now k A2 S2 (tabl (k - A2) (mkb at2 A2))) (A2 : Int) (S2 : Int) ((t + 1 : Nat) : Int) = some true) (d : Nat) : ∀ m i : Nat, i + d = qs.length → d < m →
    law16_LinkWindow.L3 1000 acks (w : Int) (k : Int) (A : Int) (t : Int) (qs.map mk, lk w sp now k A S2 (tabl (k - A) (mkb at' A))) k2 m (((qs.take i).foldl max S : Nat) : Int) (i : Int) = some true := by
  induction d with
  | zero =>
    intro m i hi hm
    obtain ⟨m, rfl⟩ : ∃ q, m = q + 1 := ⟨m - 1, by omega⟩
    rw [law16_LinkWindow.L3, if_neg (show ¬ (i : Int) < (((qs.map mk).length : Nat) : Int) by rw [List.length_map]; omega), idx_get _ _ ht, Option.bind_some, List.take_of_length_le (by omega), ← hS2]
    obtain ⟨c, hc, e⟩ := W_restN acks[t] 4 (by decide) (by decide)
    rw [show Int.tmod (IntKind.i64.wrap (Int.tmod acks[t] 4 + 4)) 4 = (c : Int) from e, W_in (x := (A : Int) + (c : Int)) (by omega), show (A : Int) + (c : Int) = ((A + c : Nat) : Int) by omega, min_cast, Option.bind_some]
    obtain ⟨at2, e2⟩ := hear_ack w A (min S2 (A + c)) S2 k sp now at' hA hk (by omega) hS2k
    rw [show ((qs.map mk, lk w sp now k A S2 (tabl (k - A) (mkb at' A))) : List S_api_Seg × S_link_Link).2 = lk w sp now k A S2 (tabl (k - A) (mkb at' A)) from rfl, e2, Option.bind_some, if_neg (fun h => h rfl)]
    unfold link_Link_Left
    rw [Option.bind_some, if_neg (show ¬ ((((lk w sp now k ((max A (min S2 (A + c)) : Nat) : Int) S2 (tabl (k - max A (min S2 (A + c))) (mkb at2 (max A (min S2 (A + c)))))).out.length : Nat) : Int) ≠ IntKind.i64.wrap ((k : Int) - max (A : Int) ((min S2 (A + c) : Nat) : Int))) by
      show ¬ (((tabl (k - max A (min S2 (A + c))) (mkb at2 (max A (min S2 (A + c))))).length : Nat) : Int) ≠ _
      rw [tabl_len, W_in (by omega)]
      omega), max_cast, W_succ t (by omega)]
    exact hk2 _ _ (by omega)
  | succ d ih =>
    intro m i hi hm
    obtain ⟨m, rfl⟩ : ∃ q, m = q + 1 := ⟨m - 1, by omega⟩
    have hil : i < qs.length := by omega
    have hqi := hq _ (List.getElem_mem hil)
    have hidx : idx (qs.map mk) (i : Int) = some (mk qs[i]) := by rw [idx_get _ _ (by rw [List.length_map]; exact hil), List.getElem_map]
    have hnext : law16_LinkWindow.L3 1000 acks (w : Int) (k : Int) (A : Int) (t : Int) (qs.map mk, lk w sp now k A S2 (tabl (k - A) (mkb at' A))) k2 m (max (((qs.take i).foldl max S : Nat) : Int) (mk qs[i]).Seq) (IntKind.i64.wrap ((i : Int) + 1)) = some true := by
      have e := ih m (i + 1) (by omega) (by omega)
      rw [List.take_succ_eq_append_getElem hil, List.foldl_append] at e
      rw [show (mk qs[i]).Seq = ((qs[i] : Nat) : Int) from rfl, max_cast, W_succ i (by omega)]
      exact e
    have hbody : idx (mk qs[i]).Body (0 : Int) = some ((qs[i] - 1 : Nat) : Int) := rfl
    have hfin : law16_LinkWindow.J4 (((qs.take i).foldl max S : Nat) : Int) (i : Int) (mk qs[i]) (law16_LinkWindow.L3 1000 acks (w : Int) (k : Int) (A : Int) (t : Int) (qs.map mk, lk w sp now k A S2 (tabl (k - A) (mkb at' A))) k2 m) (decide (IntKind.i64.wrap ((qs[i] - 1 : Nat) : Int) ≠ IntKind.i64.wrap ((mk qs[i]).Seq - 1))) = some true := by
      unfold law16_LinkWindow.J4
      rw [if_neg (by
        intro h
        refine of_decide_eq_true h ?_
        rw [show (mk qs[i]).Seq = ((qs[i] : Nat) : Int) from rfl, show ((qs[i] - 1 : Nat) : Int) = ((qs[i] : Nat) : Int) - 1 by omega])]
      exact hnext
    have c1 : ¬ (mk qs[i]).Seq ≤ (A : Int) := by show ¬ ((qs[i] : Nat) : Int) ≤ (A : Int); omega
    have c2 : ¬ (mk qs[i]).Seq > IntKind.i64.wrap ((A : Int) + (w : Int)) := by show ¬ ((qs[i] : Nat) : Int) > IntKind.i64.wrap ((A : Int) + (w : Int)); rw [W_in (by omega)]; omega
    have c3 : ¬ (mk qs[i]).Seq > (k : Int) := by show ¬ ((qs[i] : Nat) : Int) > (k : Int); omega
    rw [law16_LinkWindow.L3, if_pos (show (i : Int) < (((qs.map mk).length : Nat) : Int) by rw [List.length_map]; omega), show ((qs.map mk, lk w sp now k A S2 (tabl (k - A) (mkb at' A))) : List S_api_Seg × S_link_Link).1 = qs.map mk from rfl, hidx, Option.bind_some, if_neg c1, if_neg c2, if_neg c3]
    by_cases h0 : i = 0
    · rw [if_neg (by omega), Option.bind_some, if_neg (show ¬ ((((mk qs[i]).Body.length : Nat) : Int) ≠ 1) from fun h => h rfl), Option.bind_some, hbody, Option.bind_some]
      exact hfin
    · have hprev : idx (qs.map mk) (IntKind.i64.wrap ((i : Int) - 1)) = some (mk qs[i - 1]) := by
        rw [W_in (by omega), show (i : Int) - 1 = ((i - 1 : Nat) : Int) by omega, idx_get _ _ (by rw [List.length_map]; omega), List.getElem_map]
      have hlt : qs[i - 1] < qs[i] := List.pairwise_iff_getElem.1 hp (i - 1) i (by omega) hil (by omega)
      have c4 : ¬ (mk qs[i - 1]).Seq ≥ (mk qs[i]).Seq := by show ¬ ((qs[i - 1] : Nat) : Int) ≥ ((qs[i] : Nat) : Int); omega
      rw [if_pos (by omega), hprev, Option.bind_some, if_neg c4, Option.bind_some, if_neg (show ¬ ((((mk qs[i]).Body.length : Nat) : Int) ≠ 1) from fun h => h rfl), Option.bind_some, hbody, Option.bind_some]
      exact hfin
theorem fold_le (qs : List Nat) (k : Nat) : ∀ S : Nat, S ≤ k → (∀ q ∈ qs, q ≤ k) → qs.foldl max S ≤ k := by
  induction qs with
  | nil => intro S h _; exact h
  | cons a l ih =>
    intro S h hq
    have := hq a (by simp)
    exact ih (max S a) (by omega) fun q hq2 => hq q (by simp [hq2])
theorem win_L2 (w k : Nat) (acks : List Int) (hw : w ≤ 9) (hk : k ≤ 60) (hta : acks.length ≤ 60) (sp : Int) (d : Nat) : ∀ (m t A S : Nat) (now : Int) (at' : Nat → Int), t + d = acks.length → d < m → A ≤ k → S ≤ k →
    law16_LinkWindow.L2 1000 acks (w : Int) (k : Int) m (lk w sp now k A S (tabl (k - A) (mkb at' A))) (A : Int) (S : Int) (t : Int) = some true := by
  induction d with
  | zero =>
    intro m t A S now at' ht hm hA hS
    obtain ⟨m, rfl⟩ : ∃ q, m = q + 1 := ⟨m - 1, by omega⟩
    rw [law16_LinkWindow.L2, if_neg (by omega)]
    by_cases h : A < k
    · rw [if_pos (by omega)]
    · rw [if_neg (by omega)]
      obtain ⟨now2, at2, qs2, e, hl, hq, hp⟩ := tick_is w A k S sp now hw hA hk at'
      rw [e, Option.bind_some]
      cases qs2 with
      | nil => rfl
      | cons q l => have := hq q (by simp); omega
  | succ d ih =>
    intro m t A S now at' ht hm hA hS
    obtain ⟨m, rfl⟩ : ∃ q, m = q + 1 := ⟨m - 1, by omega⟩
    rw [law16_LinkWindow.L2, if_pos (by omega)]
    obtain ⟨now2, at2, qs2, e, hl, hq, hp⟩ := tick_is w A k S sp now hw hA hk at'
    have hf := fold_le qs2 k S hS fun q hq2 => (hq q hq2).2.2
    rw [e, Option.bind_some, if_neg (show ¬ (((qs2.map mk).length : Nat) : Int) > (w : Int) by rw [List.length_map]; omega)]
    exact win_L3 w A S k t acks hw hA hk (by omega) hta qs2 hq hp hl hS sp now2 at2 _ rfl hf _ (fun A2 at3 h2 => ih m (t + 1) A2 _ now2 at3 (by omega) (by omega) h2 hf) qs2.length 1000 0 (by omega) (by omega)
theorem send1 (w i : Nat) (sp : Int) (hi : i < 60) :
    link_Link_Send 1000 (lk w sp 0 i ((0 : Nat) : Int) ((0 : Nat) : Int) (tabl i (mkb (fun _ => -1) 0))) [[IntKind.u8.wrap (i : Int)]] = some (0, lk w sp 0 ((i + 1 : Nat) : Int) ((0 : Nat) : Int) ((0 : Nat) : Int) (tabl (i + 1) (mkb (fun _ => -1) 0))) := by
  have hu : IntKind.u8.wrap (i : Int) = (i : Int) := by rw [IntKind.wrap_u8]; omega
  have hc : slices_ContainsFunc_s_s_byte_s_byte 1000 [[(i : Int)]] (fun y2 => some (decide (((y2.length : Nat) : Int) > 65536))) = some false := by
    unfold slices_ContainsFunc_s_s_byte_s_byte slices_IndexFunc_s_s_byte_s_byte
    have w1 : IntKind.i64.wrap (0 + 1) = 1 := by decide
    have key : ∀ m, slices_IndexFunc_s_s_byte_s_byte.L1 [[(i : Int)]] (fun y2 => some (decide (((y2.length : Nat) : Int) > 65536))) (m + 2) 0 = some (-1) := by
      intro m
      rw [slices_IndexFunc_s_s_byte_s_byte.L1, if_pos (show (0 : Int) < (([[(i : Int)]].length : Nat) : Int) by simp), show idx [[(i : Int)]] 0 = some [(i : Int)] from rfl, Option.bind_some, Option.bind_some, if_neg (by simp), w1, slices_IndexFunc_s_s_byte_s_byte.L1, if_neg (show ¬ (1 : Int) < (([[(i : Int)]].length : Nat) : Int) by simp)]
    rw [show slices_IndexFunc_s_s_byte_s_byte.L1 [[(i : Int)]] (fun y2 => some (decide (((y2.length : Nat) : Int) > 65536))) 1000 0 = some (-1) from key 998]
    rfl
  rw [hu]
  have hroom : ¬ (([[(i : Int)]].length : Nat) : Int) > IntKind.i64.wrap ((lk w sp 0 i ((0 : Nat) : Int) ((0 : Nat) : Int) (tabl i (mkb (fun _ => -1) 0))).room - (((lk w sp 0 i ((0 : Nat) : Int) ((0 : Nat) : Int) (tabl i (mkb (fun _ => -1) 0))).out.length : Nat) : Int)) := by
    show ¬ ((1 : Nat) : Int) > IntKind.i64.wrap ((64 : Int) - (((tabl i (mkb (fun _ => -1) 0)).length : Nat) : Int))
    rw [tabl_len, W_in (by omega)]
    omega
  unfold link_Link_Send
  rw [hc, Option.bind_some, if_neg (by decide), if_neg hroom]
  have w1 : IntKind.i64.wrap (0 + 1) = 1 := by decide
  have key : ∀ m, link_Link_Send.L1 [[(i : Int)]] (m + 2) (lk w sp 0 i ((0 : Nat) : Int) ((0 : Nat) : Int) (tabl i (mkb (fun _ => -1) 0))) 0 = some (0, lk w sp 0 ((i + 1 : Nat) : Int) ((0 : Nat) : Int) ((0 : Nat) : Int) (tabl (i + 1) (mkb (fun _ => -1) 0))) := by
    intro m
    rw [link_Link_Send.L1, if_pos (show (0 : Int) < (([[(i : Int)]].length : Nat) : Int) by simp), show idx [[(i : Int)]] 0 = some [(i : Int)] from rfl, Option.bind_some, clone1, Option.bind_some]
    rw [show (lk w sp 0 i ((0 : Nat) : Int) ((0 : Nat) : Int) (tabl i (mkb (fun _ => -1) 0))).out = tabl i (mkb (fun _ => -1) 0) from rfl, app_ok _ _ (by rw [tabl_len]; simp; omega), Option.bind_some, w1, link_Link_Send.L1, if_neg (show ¬ (1 : Int) < (([[(i : Int)]].length : Nat) : Int) by simp)]
    rw [show (lk w sp 0 i ((0 : Nat) : Int) ((0 : Nat) : Int) (tabl i (mkb (fun _ => -1) 0))).next = (i : Int) from rfl, W_succ i (by omega), tabl_succ]
    have e : mkb (fun _ => -1) 0 i = (⟨((i + 1 : Nat) : Int), -1, [(i : Int)]⟩ : S_link_body) := by
      unfold mkb
      rw [show 0 + 1 + i = i + 1 by omega, show 0 + i = i by omega]
    rw [e]
    rfl
  exact key 998
theorem win_L1 (w k : Nat) (acks : List Int) (hw : w ≤ 9) (hk : k ≤ 59) (hta : acks.length ≤ 60) (sp : Int) (d : Nat) : ∀ m i : Nat, i + d = k → d < m →
    law16_LinkWindow.L1 1000 acks (w : Int) (k : Int) m (lk w sp 0 i ((0 : Nat) : Int) ((0 : Nat) : Int) (tabl i (mkb (fun _ => -1) 0))) (i : Int) = some true := by
  induction d with
  | zero =>
    intro m i hi hm
    obtain ⟨m, rfl⟩ : ∃ q, m = q + 1 := ⟨m - 1, by omega⟩
    obtain rfl : i = k := by omega
    rw [law16_LinkWindow.L1, if_neg (by omega)]
    exact win_L2 w i acks hw (by omega) hta sp acks.length 1000 0 0 0 0 (fun _ => -1) (by omega) (by omega) (by omega) (by omega)
  | succ d ih =>
    intro m i hi hm
    obtain ⟨m, rfl⟩ : ∃ q, m = q + 1 := ⟨m - 1, by omega⟩
    rw [law16_LinkWindow.L1, if_pos (by omega), send1 w i sp (by omega), Option.bind_some, if_neg (fun h => h rfl), W_succ i (by omega)]
    exact ih m (i + 1) (by omega) (by omega)
theorem linkWindow (s : S_law16_Sides) (n : Int) (acks : List Int) : law16_LinkWindow 1000 s n acks = some true := by
  unfold law16_LinkWindow
  rw [law16_up, Option.bind_some, if_pos rfl]
  by_cases h : acks.length > 60
  · rw [if_pos (by omega), Option.bind_some]
  · rw [if_neg (by omega)]
    obtain ⟨a, ha, ea⟩ := W_restN s.Window 9 (by decide) (by decide)
    obtain ⟨b, hb, eb⟩ := W_restN s.Span 5 (by decide) (by decide)
    obtain ⟨c, hc, ec⟩ := W_restN n 60 (by decide) (by decide)
    rw [show Int.tmod (IntKind.i64.wrap (Int.tmod s.Window 9 + 9)) 9 = (a : Int) from ea, show Int.tmod (IntKind.i64.wrap (Int.tmod s.Span 5 + 5)) 5 = (b : Int) from eb, show Int.tmod (IntKind.i64.wrap (Int.tmod n 60 + 60)) 60 = (c : Int) from ec, W_in (x := 1 + (a : Int)) (by omega), W_in (x := 1 + (b : Int)) (by omega), Option.bind_some]
    have hnew : link_New (1 + (a : Int)) (1 + (b : Int)) 64 = some (some (lk ((a + 1 : Nat) : Int) (1 + (b : Int)) 0 ((0 : Nat) : Int) ((0 : Nat) : Int) ((0 : Nat) : Int) (tabl 0 (mkb (fun _ => -1) 0))), 0) := by
      unfold link_New link_in
      rw [if_pos (by omega), Option.bind_some, if_pos (decide_eq_true (by omega)), if_pos (by omega), Option.bind_some, if_pos (decide_eq_true (by omega)), if_pos (by omega), Option.bind_some, if_pos (decide_eq_true (by omega))]
      rw [show (1 : Int) + (a : Int) = ((a + 1 : Nat) : Int) by omega]
      rfl
    rw [hnew, Option.bind_some]
    rw [show ((some (lk ((a + 1 : Nat) : Int) (1 + (b : Int)) 0 ((0 : Nat) : Int) ((0 : Nat) : Int) ((0 : Nat) : Int) (tabl 0 (mkb (fun _ => -1) 0))), (0 : Int)) : Option S_link_Link × Int).1 = some (lk ((a + 1 : Nat) : Int) (1 + (b : Int)) 0 ((0 : Nat) : Int) ((0 : Nat) : Int) ((0 : Nat) : Int) (tabl 0 (mkb (fun _ => -1) 0))) from rfl, optc_some, if_neg (fun h => h rfl), Option.bind_some, show (1 : Int) + (a : Int) = ((a + 1 : Nat) : Int) by omega]
    exact win_L1 (a + 1) c acks (by omega) (by omega) (by omega) (1 + (b : Int)) c 1000 0 (by omega) (by omega)
end Go.Proofs.Ytjileigclbohdaa
