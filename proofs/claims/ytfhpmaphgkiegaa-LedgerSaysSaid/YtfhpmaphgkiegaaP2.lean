/- Fed what a model answers, and rewound whenever one likes, a ledger says just what is generated. -/
import Derived.Test.YtfhpmaphgkiegaaRG
namespace Go.Proofs.Ytfhpmaphgkiegaa
open Go Go.Hp
set_option linter.unusedVariables false
set_option linter.unusedSimpArgs false
theorem awake23 : law23_awake 5000 = some true := by decide +kernel
def lg (id most : Int) (p log : List Nat) (fed : Nat) : S_ledger_Ledger := ⟨[(id, ⟨⟨id, most, toks p⟩, toks log, (fed : Int)⟩)]⟩
theorem clone_is (xs : List Int) (h : xs.length ≤ 100000) : slices_Clone_s_int_int xs = some xs := by
  unfold slices_Clone_s_int_int
  rw [app_ok _ _ (by simp only [List.length_nil]; omega), List.nil_append, Option.bind_some]
theorem rewind_is {N : Nat} (hN : 100 < N) (id most : Int) (p log : List Nat) (fed : Nat) : ledger_Ledger_Rewind N (lg id most p log fed) [id] = some (lg id most p log 0) := by
  obtain ⟨m, rfl⟩ : ∃ m, N = m + 2 := ⟨N - 2, by omega⟩
  have hc : slices_Contains_s_int_int (m + 2) [id] id = some true := by
    unfold slices_Contains_s_int_int slices_Index_s_int_int
    have h0 : idx [id] 0 = some id := rfl
    rw [slices_Index_s_int_int.L1, if_pos (by simp), h0, Option.bind_some, if_pos rfl]
    rfl
  have r1 : remK (lg id most p log fed).m [] = [id] := rfl
  have r2 : ∀ e : S_ledger_entry, remK [(id, e)] [id] = [] := fun e => by simp [remK]
  unfold ledger_Ledger_Rewind
  rw [chk_ok _ (by simp [lg]), ledger_Ledger_Rewind.L1, r1]
  simp only [anyK, List.all_nil, if_true]
  have hg : mget (lg id most p log fed).m id = some ⟨⟨id, most, toks p⟩, toks log, (fed : Int)⟩ := by simp [lg, mget]
  rw [hg, Option.bind_some, if_neg (by simp), hc, Option.bind_some]
  unfold ledger_Ledger_Rewind.J2
  rw [if_pos rfl]
  have hs : ∀ e : S_ledger_entry, mset (lg id most p log fed).m id e = [(id, e)] := fun e => by simp [lg, mset]
  rw [hs, ledger_Ledger_Rewind.L1, r2]
  rfl
theorem done_is (id : Int) (most : Nat) (p log : List Nat) (fed : Nat) : ledger_Ledger_Done (lg id most p log fed) id = some (decide (most ≤ log.length)) := by
  unfold ledger_Ledger_Done
  rw [show mget (lg id most p log fed).m id = some ⟨⟨id, most, toks p⟩, toks log, (fed : Int)⟩ by simp [lg, mget], optc_some, ledger_entry_done, Option.bind_some]
  congr 1
  exact decide_eq_decide.2 (by show (((toks log).length : Nat) : Int) ≥ (most : Int) ↔ most ≤ log.length; rw [toks_len]; omega)
theorem next_is (id : Int) (most : Nat) (p log : List Nat) (fed : Nat) (h : log.length < most) (hf : fed < p.length + log.length) (hb : p.length + log.length ≤ 1000) : ledger_Ledger_Next (lg id most p log fed) id = some ((fed : Int), (((p ++ log).getD fed 0 : Nat) : Int), true) := by
  unfold ledger_Ledger_Next
  rw [show mget (lg id most p log fed).m id = some ⟨⟨id, most, toks p⟩, toks log, (fed : Int)⟩ by simp [lg, mget], optc_some, ledger_entry_done, Option.bind_some, if_neg (by rw [toks_len]; simp; omega)]
  have ht : ledger_entry_token ⟨⟨id, most, toks p⟩, toks log, (fed : Int)⟩ (fed : Int) = some (((p ++ log).getD fed 0 : Nat) : Int) := by
    unfold ledger_entry_token
    by_cases c : fed < p.length
    · rw [if_pos (by rw [toks_len]; omega), toks_get p fed c, Option.bind_some, List.getD_eq_getElem?_getD, List.getD_eq_getElem?_getD, List.getElem?_append_left c]
    · have e : IntKind.i64.wrap ((fed : Int) - (((toks p).length : Nat) : Int)) = ((fed - p.length : Nat) : Int) := by rw [toks_len, W_in (by omega)]; omega
      rw [if_neg (by rw [toks_len]; omega)]
      show (idx (toks log) (IntKind.i64.wrap ((fed : Int) - (((toks p).length : Nat) : Int)))).bind _ = _
      rw [e, toks_get log _ (by omega), Option.bind_some, List.getD_eq_getElem?_getD, List.getD_eq_getElem?_getD, List.getElem?_append_right (by omega)]
  rw [ht, Option.bind_some]
theorem next_done (id : Int) (most : Nat) (p log : List Nat) (fed : Nat) (h : most ≤ log.length) : ledger_Ledger_Next (lg id most p log fed) id = some (0, 0, false) := by
  unfold ledger_Ledger_Next
  rw [show mget (lg id most p log fed).m id = some ⟨⟨id, most, toks p⟩, toks log, (fed : Int)⟩ by simp [lg, mget], optc_some, ledger_entry_done, Option.bind_some, if_pos (decide_eq_true (by show (((toks log).length : Nat) : Int) ≥ (most : Int); rw [toks_len]; omega))]
theorem answer_is (id : Int) (most : Nat) (p log : List Nat) (fed t : Nat) (h : log.length < most) (hp : 0 < p.length) (hb : p.length + log.length ≤ 1000) (hf : fed < p.length + log.length) :
    ledger_Ledger_Answer (lg id most p log fed) id (fed : Int) (t : Int) = if fed + 1 < p.length + log.length then some ((⟨0, 0, 0⟩ : S_api_Say), false, 0, lg id most p log (fed + 1)) else some ((⟨id, ((log.length : Nat) : Int), (t : Int)⟩ : S_api_Say), true, 0, lg id most p (log ++ [t]) (fed + 1)) := by
  have hW : IntKind.i64.wrap ((fed : Int) + 1) = ((fed + 1 : Nat) : Int) := W_succ fed (by omega)
  have he : IntKind.i64.wrap ((fed : Int) - IntKind.i64.wrap ((((toks p).length : Nat) : Int) - 1)) = (fed : Int) - ((p.length : Int) - 1) := by
    rw [toks_len, W_in (x := ((p.length : Nat) : Int) - 1) (by omega), W_in (by omega)]
  have hs : ∀ e : S_ledger_entry, mset (lg id most p log fed).m id e = [(id, e)] := fun e => by simp [lg, mset]
  unfold ledger_Ledger_Answer
  rw [show mget (lg id most p log fed).m id = some ⟨⟨id, most, toks p⟩, toks log, (fed : Int)⟩ by simp [lg, mget], optc_some, ledger_entry_done, Option.bind_some, if_neg (by rw [toks_len]; simp; omega), if_neg (fun q => q rfl)]
  show (some (IntKind.i64.wrap ((fed : Int) - IntKind.i64.wrap ((((toks p).length : Nat) : Int) - 1)))).bind _ = _
  rw [he, Option.bind_some, hs]
  show (if (fed : Int) - ((p.length : Int) - 1) < (((toks log).length : Nat) : Int) then some ((⟨0, 0, 0⟩ : S_api_Say), false, (0 : Int), (⟨[(id, (⟨⟨id, most, toks p⟩, toks log, IntKind.i64.wrap ((fed : Int) + 1)⟩ : S_ledger_entry))]⟩ : S_ledger_Ledger)) else (app (toks log) [(t : Int)]).bind fun z27 => some ((⟨id, (fed : Int) - ((p.length : Int) - 1), (t : Int)⟩ : S_api_Say), true, (0 : Int), (⟨mset (lg id most p log fed).m id (⟨⟨id, most, toks p⟩, z27, IntKind.i64.wrap ((fed : Int) + 1)⟩ : S_ledger_entry)⟩ : S_ledger_Ledger))) = _
  rw [toks_len, hW]
  by_cases c : fed + 1 < p.length + log.length
  · rw [if_pos (by omega), if_pos c]; rfl
  · rw [if_neg (by omega), if_neg c, app_ok _ _ (by rw [toks_len]; simp; omega), Option.bind_some, hs]
    have : (fed : Int) - ((p.length : Int) - 1) = ((log.length : Nat) : Int) := by omega
    rw [this]
    have e2 : toks log ++ [(t : Int)] = toks (log ++ [t]) := by rw [toks_app]; rfl
    rw [e2]; rfl
theorem log_is (id : Int) (most : Nat) (p log : List Nat) (fed : Nat) (hb : log.length ≤ 1000) : ledger_Ledger_Log (lg id most p log fed) id = some (toks log) := by
  unfold ledger_Ledger_Log
  rw [show mget (lg id most p log fed).m id = some ⟨⟨id, most, toks p⟩, toks log, (fed : Int)⟩ by simp [lg, mget], optc_some]
  show (slices_Clone_s_int_int (toks log)).bind _ = _
  rw [clone_is _ (by rw [toks_len]; omega), Option.bind_some]
theorem genS_pre (d : Dim) (w : S_api_Weights) (p : List Nat) (k : Nat) : ∀ n, k ≤ n → (genS d w p n).take k = genS d w p k
  | 0, h => by obtain rfl : k = 0 := by omega
               rfl
  | n + 1, h => by
    by_cases e : k = n + 1
    · subst e; rw [List.take_of_length_le (by rw [genS_len]; omega)]
    · rw [genS, List.take_append_of_le_length (by rw [genS_len]; omega), genS_pre d w p k n (by omega)]
theorem prefix_is {N : Nat} (hN : 1000 < N) (d : Dim) (w : S_api_Weights) (p : List Nat) (k n : Nat) (h : k ≤ n) (hn : n ≤ 100) : ref09_Prefix N (toks (genS d w p k)) (toks (genS d w p n)) = some true := by
  unfold ref09_Prefix
  rw [toks_len, toks_len, genS_len, genS_len, if_pos (by omega), chk_ok _ (by omega), Int.toNat_natCast]
  have e : (toks (genS d w p n)).take k = toks (genS d w p k) := by rw [← genS_pre d w p k n h, toks, toks, List.map_take]
  rw [e, ints_same _ (by rw [toks_len, genS_len]; omega) (by rw [toks_len, genS_len]; omega), Option.bind_some]
theorem says_loop {N : Nat} (hN : 5000 ≤ N) {d : Dim} (hd : DOK d) {w : S_api_Weights} (hw : WOK d w) (id : Int) (p : List Nat) (hp : p ≠ []) (hpv : ∀ t ∈ p, t < d.voc) (most : Nat) (hm : p.length + most ≤ d.pl + 1) (hm0 : 0 < most) (x2 : List Int) (hx2 : x2.length ≤ 60) :
    ∀ (dd m i k fed : Nat), i + dd = 100 → dd < m → k ≤ most → fed < p.length + k → i ≤ fed + 60 →
      law23_LedgerSays.L1 N ⟨id, most, toks p⟩ x2 w (toks (genS d w p most)) m (lg id most p (genS d w p k) fed) w.Embed.V w.Blocks w.Last w.Head.V ⟨w, stS d w [] ((p ++ genS d w p k).take fed)⟩ (toks (genS d w p k)) (i : Int) = some true := by
  have hpl := hd.pl
  have hp0 : 0 < p.length := List.length_pos_iff.2 hp
  intro dd
  induction dd with
  | zero => intro m i k fed hi hmm hk hf hif; omega
  | succ dd ih =>
    intro m i k fed hi hmm hk hf hif
    obtain ⟨m, rfl⟩ : ∃ q, m = q + 1 := ⟨m - 1, by omega⟩
    have hgl := genS_len d w p k
    rw [law23_LedgerSays.L1, if_pos (by omega)]
    show (ledger_Ledger_Done (lg id most p (genS d w p k) fed) id).bind _ = _
    rw [done_is, Option.bind_some]
    by_cases hkm : most ≤ k
    · obtain rfl : k = most := by omega
      rw [if_pos (by rw [hgl]; exact decide_eq_true hkm)]
      unfold law23_LedgerSays.J2
      rw [if_neg (by decide)]
      show (ledger_Ledger_Next (lg id k p (genS d w p k) fed) id).bind _ = _
      rw [next_done _ _ _ _ _ (by omega), Option.bind_some, ints_same _ (by rw [toks_len]; omega) (by rw [toks_len]; omega), Option.bind_some, if_pos rfl, if_neg (by decide)]
    · rw [if_neg (by rw [hgl]; simp; omega)]
      -- one token
      have j3 : ∀ f : Nat, f < p.length + k → i + 1 ≤ f + 1 + 60 → law23_LedgerSays.J3 N ⟨id, most, toks p⟩ w (toks (genS d w p most)) (toks (genS d w p k)) (i : Int) (law23_LedgerSays.L1 N ⟨id, most, toks p⟩ x2 w (toks (genS d w p most)) m) (lg id most p (genS d w p k) f) w.Embed.V w.Blocks w.Last w.Head.V ⟨w, stS d w [] ((p ++ genS d w p k).take f)⟩ = some true := by
        intro f hf hif
        have htl : ((p ++ genS d w p k).take f).length = f := by rw [List.length_take, List.length_append, hgl]; omega
        have hst := stS_len d w ((p ++ genS d w p k).take f) []
        simp only [List.length_nil] at hst
        have hall : ∀ t ∈ p ++ genS d w p k, t < d.voc := fun t ht => by
          rcases List.mem_append.1 ht with h | h
          · exact hpv t h
          · exact genS_lt hd w p hp k t h
        have htv : (p ++ genS d w p k).getD f 0 < d.voc := hall _ (getD_in _ _ _ (by rw [List.length_append, hgl]; exact hf))
        have htk : (p ++ genS d w p k).take f ++ [(p ++ genS d w p k).getD f 0] = (p ++ genS d w p k).take (f + 1) := by
          have hlt : f < (p ++ genS d w p k).length := by rw [List.length_append, hgl]; exact hf
          rw [List.take_succ_eq_append_getElem hlt, List.getD_eq_getElem?_getD, List.getElem?_eq_getElem hlt]; rfl
        unfold law23_LedgerSays.J3
        show (ledger_Ledger_Next (lg id most p (genS d w p k) f) id).bind _ = _
        rw [next_is _ _ _ _ _ (by omega) (by omega) (by omega), Option.bind_some, if_pos rfl, if_neg (by show ¬ (f : Int) ≠ (((stS d w [] ((p ++ genS d w p k).take f)).length : Nat) : Int); omega), if_neg (by show ¬ (((p ++ genS d w p k).getD f 0 : Nat) : Int) < 0; omega), if_neg (by show ¬ (((p ++ genS d w p k).getD f 0 : Nat) : Int) ≥ w.Shape.Vocab; rw [hw.vocab]; omega)]
        show (ref08_Run_One N ⟨w, stS d w [] ((p ++ genS d w p k).take f)⟩ (((p ++ genS d w p k).getD f 0 : Nat) : Int)).bind _ = _
        rw [one_is hd (by omega) hw _ (by omega) (stS_ok hd hw _ [] (by simp)) _ htv, Option.bind_some]
        have hol := outS_len hd w (stS d w [] ((p ++ genS d w p k).take f)) ((p ++ genS d w p k).getD f 0)
        have erun : stS d w [] ((p ++ genS d w p k).take f) ++ [keptS d w (stS d w [] ((p ++ genS d w p k).take f)) ((p ++ genS d w p k).getD f 0)] = stS d w [] ((p ++ genS d w p k).take (f + 1)) := by
          rw [← htk, stS_app]; rfl
        have eout : ¬ f + 1 < p.length + k → outS d w (stS d w [] ((p ++ genS d w p k).take f)) ((p ++ genS d w p k).getD f 0) = lastS d w [] [] (p ++ genS d w p k) := by
          intro c
          have efull : (p ++ genS d w p k).take (f + 1) = p ++ genS d w p k := List.take_of_length_le (by rw [List.length_append, hgl]; omega)
          have h3 := lastS_app d w ((p ++ genS d w p k).take f) [(p ++ genS d w p k).getD f 0] [] []
          rw [htk, efull] at h3
          exact h3.symm
        rw [erun]
        clear erun htk
        generalize outS d w (stS d w [] ((p ++ genS d w p k).take f)) ((p ++ genS d w p k).getD f 0) = o at hol eout ⊢
        show (ref01_Argmax N o).bind _ = _
        rw [argmax_is o (by rw [hol]; exact hd.voc.1) (by rw [hol]; have := hd.voc; omega) (by omega), Option.bind_some, hol]
        generalize hA : argS o d.voc = A at ⊢
        show (ledger_Ledger_Answer (lg id most p (genS d w p k) f) id (f : Int) (A : Int)).bind _ = _
        rw [answer_is _ _ _ _ _ _ (by omega) hp0 (by omega) (by omega), hgl]
        have hfin : ∀ k' : Nat, k' ≤ most → f + 1 < p.length + k' → (p ++ genS d w p k).take (f + 1) = (p ++ genS d w p k').take (f + 1) → law23_LedgerSays.J6 N ⟨id, most, toks p⟩ (toks (genS d w p most)) (i : Int) w.Embed.V w.Blocks w.Last w.Head.V (o, ⟨w, stS d w [] ((p ++ genS d w p k).take (f + 1))⟩) (lg id most p (genS d w p k') (f + 1)) (law23_LedgerSays.L1 N ⟨id, most, toks p⟩ x2 w (toks (genS d w p most)) m) (toks (genS d w p k')) = some true := by
          intro k' hk' hf' eT
          have hgl' := genS_len d w p k'
          unfold law23_LedgerSays.J6
          rw [prefix_is (by omega) d w p k' most (by omega) (by omega), Option.bind_some, if_pos rfl]
          show (ledger_Ledger_Log (lg id most p (genS d w p k') (f + 1)) id).bind _ = _
          rw [log_is _ _ _ _ _ (by omega), Option.bind_some, ints_same _ (by rw [toks_len]; omega) (by rw [toks_len]; omega), Option.bind_some, if_pos rfl, W_succ i (by omega)]
          show law23_LedgerSays.L1 N _ x2 w _ m _ _ _ _ _ ⟨w, stS d w [] ((p ++ genS d w p k).take (f + 1))⟩ _ _ = _
          rw [eT]
          exact ih m (i + 1) k' (f + 1) (by omega) (by omega) hk' hf' (by omega)
        by_cases c : f + 1 < p.length + k
        · rw [if_pos c, Option.bind_some]
          unfold law23_LedgerSays.J5
          rw [if_neg (fun q => q rfl), if_neg (by show ¬ false = true; decide)]
          exact hfin k hk c rfl
        · have egen : genS d w p k ++ [A] = genS d w p (k + 1) := by rw [genS, ← eout c, hA]
          rw [if_neg c, Option.bind_some, egen]
          unfold law23_LedgerSays.J5
          rw [if_neg (fun q => q rfl), if_pos rfl, if_neg (fun q => q rfl), if_neg (by rw [toks_len, hgl]; exact fun q => q rfl), app_ok _ _ (by rw [toks_len, hgl]; simp; omega), Option.bind_some]
          have e3 : toks (genS d w p k) ++ [(A : Int)] = toks (genS d w p (k + 1)) := by rw [← egen, toks_app]; rfl
          rw [e3]
          exact hfin (k + 1) (by omega) (by omega) (by
            have hz : f + 1 ≤ (p ++ genS d w p k).length := by rw [List.length_append, hgl]; omega
            have h4 := List.take_append_of_le_length (l₂ := [A]) hz
            rw [List.append_assoc, egen] at h4
            exact h4.symm)
      have j4 : ∀ q : Bool, (q = true → i < 60) → law23_LedgerSays.J4 N ⟨id, most, toks p⟩ w (toks (genS d w p most)) (lg id most p (genS d w p k) fed) w.Embed.V w.Blocks w.Last w.Head.V ⟨w, stS d w [] ((p ++ genS d w p k).take fed)⟩ (toks (genS d w p k)) (i : Int) (law23_LedgerSays.L1 N ⟨id, most, toks p⟩ x2 w (toks (genS d w p most)) m) q = some true := by
        intro q hq
        unfold law23_LedgerSays.J4
        cases q with
        | true =>
          rw [if_pos rfl]
          show (ledger_Ledger_Rewind N (lg id most p (genS d w p k) fed) [id]).bind _ = _
          rw [rewind_is (by omega), Option.bind_some]
          exact j3 0 (by omega) (by have := hq rfl; omega)
        | false =>
          rw [if_neg (by decide)]
          exact j3 fed hf (by omega)
      unfold law23_LedgerSays.J2
      rw [if_pos rfl]
      by_cases c : i < x2.length
      · rw [if_pos (by omega), idx_get x2 i c, Option.bind_some]
        exact j4 _ (fun _ => by omega)
      · rw [if_neg (by omega)]
        exact j4 false (fun e => by cases e)
theorem ledgerSays (x0 : S_law23_Seeds) (x1 : S_api_Request) (x2 : List Int) : law23_LedgerSays 5000 x0 x1 x2 = some true := by
  have key : ∀ N : Nat, 5000 ≤ N → law23_awake N = some true → law23_LedgerSays N x0 x1 x2 = some true := by
    intro N hN aw
    unfold law23_LedgerSays
    rw [aw, Option.bind_some, if_pos rfl]
    by_cases h1 : ((x1.Prompt.length : Nat) : Int) > 12
    · rw [if_pos h1, Option.bind_some]
    rw [if_neg h1]
    by_cases h2 : ((x2.length : Nat) : Int) > 60
    · rw [if_pos h2, Option.bind_some]
    rw [if_neg h2]
    obtain ⟨d, w, hd, hv, hp, hw, hsh, em⟩ := made_is hN x0.N x0.Seed [] (by simp)
    show (ref08_Made N x0.N x0.Seed []).bind _ = _
    rw [em, Option.bind_some]
    obtain ⟨c, ec, hc⟩ := check_is hN hd x1.Prompt (by omega) x1.Most
    have ec2 : ref09_Check N (⟨w.Shape.Layers, w.Shape.Width, w.Shape.Heads, w.Shape.Inner, w.Shape.Vocab, w.Shape.Places⟩ : S_api_Shape) x1.Prompt x1.Most = some c := by
      rw [← ec, ← hsh]
    rw [ec2, Option.bind_some]
    by_cases hc0 : c ≠ 0
    · rw [if_pos hc0]
    rw [if_neg hc0]
    obtain ⟨ts, k, e1, e2, e3, e4, e5, e6⟩ := hc (by omega)
    obtain ⟨id, mo, pr⟩ := x1
    dsimp only at e1 e4 h1 ⊢
    subst e1 e4
    show (ref09_Generate N w (toks ts) (k : Int)).bind _ = _
    rw [generate_is hd (by omega) hw ts e2 e3 k e6 e5, Option.bind_some]
    unfold ledger_New
    rw [Option.bind_some]
    have hpos : 0 < ts.length := List.length_pos_iff.2 e2
    have ho : ledger_Ledger_Open ⟨[]⟩ (⟨id, (k : Int), toks ts⟩ : S_api_Request) = some (0, lg id k ts [] 0) := by
      unfold ledger_Ledger_Open
      show optc none _ _ = _
      rw [optc_none]
      show (if (((toks ts).length : Nat) : Int) = 0 then _ else if (k : Int) < 1 then _ else (slices_Clone_s_int_int (toks ts)).bind _) = _
      rw [toks_len, if_neg (by omega), if_neg (by omega), clone_is _ (by rw [toks_len]; rw [toks_len] at h1; omega), Option.bind_some]
      rfl
    rw [ho, Option.bind_some, if_neg (fun q => q rfl)]
    exact says_loop hN hd hw id ts e2 e3 k e6 e5 x2 (by omega) 100 N 0 0 0 (by omega) (by omega) (by omega) (by omega) (by omega)
  exact key 5000 (Nat.le_refl _) awake23
end Go.Proofs.Ytfhpmaphgkiegaa
