/- Requests of a ledger don't touch one another. -/
import Derived.Test.YtfhpmaphgkiegaaT1b
import Derived.Test.YtfhpmaphgkiegaaPl2
namespace Go.Proofs.Ytfhpmaphgkiegaa
open Go Go.Hp
set_option linter.unusedVariables false
set_option linter.unusedSimpArgs false
theorem awake23 : law23_awake 1000 = some true := by decide +kernel
theorem index_loop (xs : List Int) (v : Int) (hx : xs.length < 1000) : ∀ (d m k : Nat), k + d = xs.length → d < m → ∃ r, slices_Index_s_int_int.L1 xs v m (k : Int) = some r ∧ (0 ≤ r ↔ v ∈ xs.drop k) := by
  intro d
  induction d with
  | zero =>
    intro m k hk hm
    obtain ⟨m, rfl⟩ : ∃ q, m = q + 1 := ⟨m - 1, by omega⟩
    rw [slices_Index_s_int_int.L1, if_neg (by omega), List.drop_of_length_le (by omega)]
    exact ⟨_, rfl, by simp⟩
  | succ d ih =>
    intro m k hk hm
    obtain ⟨m, rfl⟩ : ∃ q, m = q + 1 := ⟨m - 1, by omega⟩
    have hlt : k < xs.length := by omega
    obtain ⟨r, h1, h2⟩ := ih m (k + 1) (by omega) (by omega)
    rw [slices_Index_s_int_int.L1, if_pos (by omega), idx_get _ _ hlt, List.drop_eq_getElem_cons hlt]
    simp only [Option.bind_some]
    by_cases e : v = xs[k]
    · rw [if_pos e]; exact ⟨(k : Int), rfl, ⟨fun _ => by rw [e]; exact List.mem_cons_self, fun _ => by omega⟩⟩
    · rw [if_neg e, W_succ k (by omega)]
      refine ⟨r, h1, ?_⟩
      rw [h2, List.mem_cons]
      exact ⟨.inr, fun h => h.resolve_left e⟩
theorem contains_eq (xs : List Int) (v : Int) (hx : xs.length < 1000) : slices_Contains_s_int_int 1000 xs v = some (decide (v ∈ xs)) := by
  obtain ⟨r, h1, h2⟩ := index_loop xs v hx xs.length 1000 0 (by omega) (by omega)
  rw [slices_Contains_s_int_int, slices_Index_s_int_int, show (0 : Int) = ((0 : Nat) : Int) from rfl, h1]
  simp only [Option.bind_some, ge_iff_le, List.drop_zero] at h2 ⊢
  congr 1
  exact decide_eq_decide.2 h2
theorem clone_eq (xs : List Int) (hx : xs.length ≤ 4294967296) : slices_Clone_s_int_int xs = some xs := by
  rw [slices_Clone_s_int_int, app_ok _ _ (by simpa using hx)]; rfl
theorem ints_loop (xs : List Int) (hx : xs.length < 1000) : ∀ (d m k : Nat), k + d = xs.length → d < m → ref09_Ints.L1 xs xs m (k : Int) = some true := by
  intro d
  induction d with
  | zero =>
    intro m k hk hm
    obtain ⟨m, rfl⟩ : ∃ q, m = q + 1 := ⟨m - 1, by omega⟩
    rw [ref09_Ints.L1, if_neg (by omega)]
  | succ d ih =>
    intro m k hk hm
    obtain ⟨m, rfl⟩ : ∃ q, m = q + 1 := ⟨m - 1, by omega⟩
    have hlt : k < xs.length := by omega
    rw [ref09_Ints.L1, if_pos (by omega), idx_get _ _ hlt]
    simp only [Option.bind_some, ne_eq, not_true_eq_false, if_false]
    rw [W_succ k (by omega)]
    exact ih m (k + 1) (by omega) (by omega)
theorem ints_refl (xs : List Int) (hx : xs.length < 1000) : ref09_Ints 1000 xs xs = some true := by
  rw [ref09_Ints, if_neg (by simp)]
  exact ints_loop xs hx xs.length 1000 0 (by omega) (by omega)
/-- An entry from its beginning again. -/
def rst (e : S_ledger_entry) : S_ledger_entry := ⟨e.Request, e.log, 0⟩
def rewF (x1 : List Int) (k : Int) (e : S_ledger_entry) : S_ledger_entry := if x1.length = 0 ∨ k ∈ x1 then rst e else e
theorem rewind_loop (l0 : List (Int × S_ledger_entry)) (hn : (l0.map Prod.fst).Nodup) (x1 : List Int) (hx : x1.length < 1000) : ∀ (d m : Nat) (seen : List Int), (remK l0 seen).length ≤ d → d < m →
    ledger_Ledger_Rewind.L1 1000 x1 m (l0.map fun p => (p.1, if p.1 ∈ seen then rewF x1 p.1 p.2 else p.2)) seen = some ⟨l0.map fun p => (p.1, rewF x1 p.1 p.2)⟩ := by
  have hrem : ∀ seen : List Int, remK (l0.map fun p => (p.1, if p.1 ∈ seen then rewF x1 p.1 p.2 else p.2)) seen = remK l0 seen := fun seen => remK_keys (by simp [List.map_map, Function.comp_def]) seen
  have hdone : ∀ seen : List Int, remK l0 seen = [] → (l0.map fun p => (p.1, if p.1 ∈ seen then rewF x1 p.1 p.2 else p.2)) = l0.map fun p => (p.1, rewF x1 p.1 p.2) := by
    intro seen h
    apply List.map_congr_left
    intro p hp
    have : p.1 ∈ seen := by
      apply Classical.byContradiction
      intro hc
      have : p.1 ∈ remK l0 seen := mem_remK.2 ⟨List.mem_map.2 ⟨p, hp, rfl⟩, hc⟩
      rw [h] at this; cases this
    rw [if_pos this]
  intro d
  induction d with
  | zero =>
    intro m seen hd hm
    obtain ⟨m, rfl⟩ : ∃ q, m = q + 1 := ⟨m - 1, by omega⟩
    have h0 : remK l0 seen = [] := List.eq_nil_of_length_eq_zero (by omega)
    rw [ledger_Ledger_Rewind.L1, hrem, h0, anyK, hdone seen h0]
  | succ d ih =>
    intro m seen hd hm
    obtain ⟨m, rfl⟩ : ∃ q, m = q + 1 := ⟨m - 1, by omega⟩
    rw [ledger_Ledger_Rewind.L1, hrem]
    by_cases h0 : remK l0 seen = []
    · rw [h0, anyK, hdone seen h0]
    · refine anyK_eq (fun k hk => ?_) h0
      have hkm := mem_remK.1 hk
      obtain ⟨⟨k', e⟩, hp, hke⟩ := List.mem_map.1 hkm.1
      simp only at hke; subst hke
      have hg := mget_of_mem hn hp
      have hg2 : mget (l0.map fun p => (p.1, if p.1 ∈ seen then rewF x1 p.1 p.2 else p.2)) k' = some e := by
        rw [mget_map (fun k e => if k ∈ seen then rewF x1 k e else e), hg]
        simp [hkm.2]
      have hlen := remK_len l0 seen hn hk
      have hstep : ∀ b : Bool, (b = true ↔ (x1.length = 0 ∨ k' ∈ x1)) → ledger_Ledger_Rewind.J2 (l0.map fun p => (p.1, if p.1 ∈ seen then rewF x1 p.1 p.2 else p.2)) seen k' e (ledger_Ledger_Rewind.L1 1000 x1 m) b = some ⟨l0.map fun p => (p.1, rewF x1 p.1 p.2)⟩ := by
        intro b hb
        rw [ledger_Ledger_Rewind.J2]
        have hnext := ih m (k' :: seen) (by omega) (by omega)
        have huniq : ∀ p ∈ l0, p.1 = k' → p.2 = e := fun p hp1 hpk => by
          have h1 := mget_of_mem hn (show (p.1, p.2) ∈ l0 from hp1)
          rw [hpk, hg] at h1; injection h1 with h1; exact h1.symm
        split
        · rename_i ht
          have hsel := hb.1 ht
          rw [mset_map (by rw [keys_map (fun k e => if k ∈ seen then rewF x1 k e else e)]; exact hn) hg2]
          rw [← hnext, List.map_map]
          congr 1
          apply List.map_congr_left
          intro p hp1
          simp only [Function.comp_def]
          by_cases hpk : p.1 = k'
          · have := huniq p hp1 hpk
            rw [if_pos hpk, if_pos (by simp [hpk]), hpk, this]
            rw [rewF, if_pos hsel]; rfl
          · rw [if_neg hpk]
            by_cases hs : p.1 ∈ seen
            · rw [if_pos hs, if_pos (by simp [hs])]
            · rw [if_neg hs, if_neg (by simp [hs, hpk])]
        · rename_i ht
          have hsel : ¬ (x1.length = 0 ∨ k' ∈ x1) := fun h => ht (hb.2 h)
          rw [← hnext]
          congr 1
          apply List.map_congr_left
          intro p hp1
          by_cases hpk : p.1 = k'
          · rw [if_neg (by rw [hpk]; exact hkm.2), if_pos (by simp [hpk]), rewF, if_neg (by rw [hpk]; exact hsel)]
          · by_cases hs : p.1 ∈ seen
            · rw [if_pos hs, if_pos (by simp [hs])]
            · rw [if_neg hs, if_neg (by simp [hs, hpk])]
      simp only [hg2, Option.bind_some]
      by_cases hz : x1.length = 0
      · rw [if_pos (by omega)]
        exact hstep true (by simp [hz])
      · rw [if_neg (by omega), contains_eq _ _ hx]
        simp only [Option.bind_some]
        exact hstep _ (by simp [hz])
theorem rewind_eq (x : S_ledger_Ledger) (hn : (x.m.map Prod.fst).Nodup) (hl : x.m.length < 1000) (x1 : List Int) (hx : x1.length < 1000) :
    ledger_Ledger_Rewind 1000 x x1 = some ⟨x.m.map fun p => (p.1, rewF x1 p.1 p.2)⟩ := by
  rw [ledger_Ledger_Rewind, chk_ok _ hn]
  have := rewind_loop x.m hn x1 hx x.m.length 1000 [] (by rw [remK_all]; simp) hl
  rw [← this]
  congr 1
  simp
/-- An entry that may be: of a prompt of at most 30 and a log of at most B. -/
structure OkE (B : Nat) (e : S_ledger_entry) : Prop where
  p0 : 1 ≤ e.Request.Prompt.length
  p1 : e.Request.Prompt.length ≤ 100
  l : e.log.length ≤ B
  f0 : 0 ≤ e.fed
  f1 : e.fed < e.Request.Prompt.length + e.log.length
theorem OkE.mono {B C : Nat} {e : S_ledger_entry} (h : OkE B e) (hBC : B ≤ C) : OkE C e := ⟨h.p0, h.p1, Nat.le_trans h.l hBC, h.f0, h.f1⟩
theorem OkE.rst {B : Nat} {e : S_ledger_entry} (h : OkE B e) : OkE B (rst e) := ⟨h.p0, h.p1, h.l, Int.le_refl _, by have := h.p0; show (0 : Int) < e.Request.Prompt.length + e.log.length; omega⟩
theorem token_eq {B : Nat} (hB : B ≤ 10000) {e : S_ledger_entry} (h : OkE B e) : ∃ t, (e.Request.Prompt ++ e.log)[e.fed.toNat]? = some t ∧ ledger_entry_token e e.fed = some t := by
  have h1 := h.p0
  have h2 := h.p1
  have h3 := h.l
  have h4 := h.f0
  have h5 := h.f1
  obtain ⟨f, hf⟩ := Int.eq_ofNat_of_zero_le h4
  rw [hf] at h5 ⊢
  rw [ledger_entry_token]
  by_cases hlt : f < e.Request.Prompt.length
  · rw [if_pos (by omega), idx_get _ _ hlt]
    exact ⟨_, by rw [Int.toNat_natCast, List.getElem?_append_left hlt, List.getElem?_eq_getElem hlt], rfl⟩
  · rw [if_neg (by omega), show IntKind.i64.wrap ((f : Int) - ((e.Request.Prompt.length : Nat) : Int)) = ((f - e.Request.Prompt.length : Nat) : Int) by rw [W_in (by omega)]; omega]
    have hl : f - e.Request.Prompt.length < e.log.length := by omega
    rw [idx_get _ _ hl]
    exact ⟨_, by rw [Int.toNat_natCast, List.getElem?_append_right (by omega), List.getElem?_eq_getElem hl], rfl⟩
theorem done_eq (e : S_ledger_entry) : ledger_entry_done e = some (decide (((e.log.length : Nat) : Int) ≥ e.Request.Most)) := rfl
theorem next_same {x y : S_ledger_Ledger} {k : Int} (h : mget x.m k = mget y.m k) : ledger_Ledger_Next x k = ledger_Ledger_Next y k := by rw [ledger_Ledger_Next, ledger_Ledger_Next, h]
theorem next_ok {B : Nat} (hB : B ≤ 10000) {x : S_ledger_Ledger} {k : Int} (h : ∀ e, mget x.m k = some e → OkE B e) : ∃ r, ledger_Ledger_Next x k = some r := by
  rw [ledger_Ledger_Next]
  cases hg : mget x.m k with
  | none => exact ⟨_, rfl⟩
  | some e =>
    obtain ⟨t, _, ht⟩ := token_eq hB (h e hg)
    simp only [optc, done_eq, Option.bind_some, ht]
    split
    · exact ⟨_, rfl⟩
    · exact ⟨_, rfl⟩
def upd (x : S_ledger_Ledger) (k : Int) (o : Option S_ledger_entry) : S_ledger_Ledger := match o with
  | none => x
  | some e' => ⟨mset x.m k e'⟩
/-- What an answer comes to, of whatever ledger that has just this of the number. -/
theorem answer_ok {B : Nat} (hB : B ≤ 10000) (k place tok : Int) (g : Option S_ledger_entry) (h : ∀ e, g = some e → OkE B e) : ∃ s b er o, (∀ x : S_ledger_Ledger, mget x.m k = g → ledger_Ledger_Answer x k place tok = some (s, b, er, upd x k o)) ∧ ∀ e', o = some e' → ∃ e, g = some e ∧ OkE (B + 1) e' := by
  cases g with
  | none => exact ⟨_, _, _, none, fun x hx => by rw [ledger_Ledger_Answer, hx]; rfl, fun e' he => by cases he⟩
  | some e =>
    have hE := h e rfl
    have h1 := hE.p0
    have h2 := hE.p1
    have h3 := hE.l
    have h4 := hE.f0
    have h5 := hE.f1
    by_cases hd : ((e.log.length : Nat) : Int) ≥ e.Request.Most
    · refine ⟨⟨0, 0, 0⟩, false, 2, none, fun x hx => ?_, fun e' he => by cases he⟩
      rw [ledger_Ledger_Answer, hx]
      simp only [optc, done_eq, Option.bind_some, decide_eq_true hd, if_true, upd]
    · by_cases hp : place = e.fed
      · subst hp
        have hw : IntKind.i64.wrap (e.fed - IntKind.i64.wrap (((e.Request.Prompt.length : Nat) : Int) - 1)) = e.fed - (e.Request.Prompt.length - 1) := by rw [W_in (x := ((e.Request.Prompt.length : Nat) : Int) - 1) (by omega), W_in (by omega)]
        have hf : IntKind.i64.wrap (e.fed + 1) = e.fed + 1 := W_in (by omega)
        by_cases hn : e.fed - (e.Request.Prompt.length - 1) < ((e.log.length : Nat) : Int)
        · refine ⟨⟨0, 0, 0⟩, false, 0, some ⟨e.Request, e.log, e.fed + 1⟩, fun x hx => ?_, fun e' he => ⟨e, rfl, ?_⟩⟩
          · rw [ledger_Ledger_Answer, hx]
            simp only [optc, done_eq, Option.bind_some, decide_eq_false hd, Bool.false_eq_true, if_false, ne_eq, not_true_eq_false, hw, hf, if_pos hn, upd]
          · injection he with he; subst he
            exact ⟨h1, h2, by show e.log.length ≤ B + 1; omega, by show 0 ≤ e.fed + 1; omega, by show e.fed + 1 < e.Request.Prompt.length + e.log.length; omega⟩
        · refine ⟨⟨k, e.fed - (e.Request.Prompt.length - 1), tok⟩, true, 0, some ⟨e.Request, e.log ++ [tok], e.fed + 1⟩, fun x hx => ?_, fun e' he => ⟨e, rfl, ?_⟩⟩
          · rw [ledger_Ledger_Answer, hx]
            simp only [optc, done_eq, Option.bind_some, decide_eq_false hd, Bool.false_eq_true, if_false, ne_eq, not_true_eq_false, hw, hf, if_neg hn, app_ok e.log [tok] (by simp; omega), upd]
          · injection he with he; subst he
            exact ⟨h1, h2, by show (e.log ++ [tok]).length ≤ B + 1; simp; omega, by show 0 ≤ e.fed + 1; omega, by show e.fed + 1 < e.Request.Prompt.length + (e.log ++ [tok]).length; simp; omega⟩
      · refine ⟨⟨0, 0, 0⟩, false, 2, none, fun x hx => ?_, fun e' he => by cases he⟩
        rw [ledger_Ledger_Answer, hx]
        simp only [optc, done_eq, Option.bind_some, decide_eq_false hd, Bool.false_eq_true, if_false, ne_eq, hp, not_false_eq_true, if_true, upd]
theorem log_same {x y : S_ledger_Ledger} {k : Int} (h : mget x.m k = mget y.m k) : ledger_Ledger_Log x k = ledger_Ledger_Log y k := by rw [ledger_Ledger_Log, ledger_Ledger_Log, h]
theorem log_ok {B : Nat} (hB : B ≤ 900) {x : S_ledger_Ledger} {k : Int} (h : ∀ e, mget x.m k = some e → OkE B e) : ∃ r, ledger_Ledger_Log x k = some r ∧ r.length < 1000 := by
  rw [ledger_Ledger_Log]
  cases hg : mget x.m k with
  | none => exact ⟨_, rfl, by simp⟩
  | some e =>
    have := (h e hg).l
    simp only [optc, clone_eq e.log (by omega), Option.bind_some]
    exact ⟨_, rfl, by omega⟩
/-- One ledger for all, and one for each. -/
structure Inv (n B : Nat) (all : S_ledger_Ledger) (al : List S_ledger_Ledger) : Prop where
  len : al.length = n
  nd : (all.m.map Prod.fst).Nodup
  sz : all.m.length ≤ n
  each : ∀ (i : Nat) (h : i < al.length), (al[i].m = [] ∧ mget all.m (i : Int) = none) ∨ ∃ e, al[i].m = [((i : Int), e)] ∧ mget all.m (i : Int) = some e ∧ OkE B e
theorem Inv.same {n B : Nat} {all : S_ledger_Ledger} {al : List S_ledger_Ledger} (h : Inv n B all al) {i : Nat} (hi : i < al.length) : mget all.m (i : Int) = mget al[i].m (i : Int) ∧ ∀ e, mget all.m (i : Int) = some e → OkE B e := by
  rcases h.each i hi with ⟨h1, h2⟩ | ⟨e, h1, h2, h3⟩
  · rw [h1, h2]; exact ⟨by simp [mget], fun e he => by cases he⟩
  · rw [h1, h2]; exact ⟨by simp [mget], fun e' he => by injection he with he; rw [← he]; exact h3⟩
theorem Inv.mono {n B C : Nat} {all : S_ledger_Ledger} {al : List S_ledger_Ledger} (h : Inv n B all al) (hBC : B ≤ C) : Inv n C all al := ⟨h.len, h.nd, h.sz, fun i hi => by
  rcases h.each i hi with h1 | ⟨e, h1, h2, h3⟩
  · exact .inl h1
  · exact .inr ⟨e, h1, h2, h3.mono hBC⟩⟩
/-- Both turn at one number. -/
theorem Inv.put {n B : Nat} {all : S_ledger_Ledger} {al : List S_ledger_Ledger} (h : Inv n B all al) {k : Nat} (hk : k < al.length) {e e' : S_ledger_entry} (hg : mget all.m (k : Int) = some e) (he : OkE B e') : Inv n B ⟨mset all.m k e'⟩ (al.set k ⟨mset al[k].m k e'⟩) := by
  refine ⟨by simpa using h.len, nodup_mset h.nd _ _, ?_, fun i hi => ?_⟩
  · have hm : (k : Int) ∈ all.m.map Prod.fst := List.mem_map.2 ⟨_, mget_mem hg, rfl⟩
    show (mset all.m k e').length ≤ n
    rw [len_mset, if_pos hm]; exact h.sz
  · have hi' : i < al.length := by simpa using hi
    rw [List.getElem_set]
    show _ ∨ ∃ e, _ ∧ mget (mset all.m k e') (i : Int) = _ ∧ _
    by_cases hki : k = i
    · subst hki
      rw [if_pos rfl]
      rcases h.each k hk with ⟨h1, h2⟩ | ⟨e0, h1, h2, h3⟩
      · rw [h2] at hg; cases hg
      · exact .inr ⟨e', by rw [h1]; simp [mset], by rw [mget_mset, if_pos rfl], he⟩
    · rw [if_neg hki]
      show (_ ∧ mget (mset all.m k e') (i : Int) = none) ∨ _
      rw [mget_mset, if_neg (by omega)]
      exact h.each i hi'
theorem Inv.rewind {n B : Nat} {all : S_ledger_Ledger} {al : List S_ledger_Ledger} (h : Inv n B all al) (hn : n ≤ 6) {k : Nat} (hk : k < al.length) : ∃ a b, ledger_Ledger_Rewind 1000 all [(k : Int)] = some a ∧ ledger_Ledger_Rewind 1000 al[k] [] = some b ∧ Inv n B a (al.set k b) := by
  have hs := h.sz
  have hkm : (al[k].m.map Prod.fst).Nodup ∧ al[k].m.length ≤ 1 := by
    rcases h.each k hk with ⟨h1, _⟩ | ⟨e, h1, _⟩ <;> rw [h1] <;> simp
  refine ⟨_, _, rewind_eq all h.nd (by omega) _ (by simp), rewind_eq al[k] hkm.1 (by omega) _ (by simp), by simpa using h.len, ?_, ?_, fun i hi => ?_⟩
  · rw [keys_map (rewF [(k : Int)])]; exact h.nd
  · simpa using h.sz
  · have hi' : i < al.length := by simpa using hi
    rw [List.getElem_set, mget_map (rewF [(k : Int)])]
    by_cases hki : k = i
    · subst hki
      rw [if_pos rfl]
      rcases h.each k hk with ⟨h1, h2⟩ | ⟨e0, h1, h2, h3⟩
      · exact .inl ⟨by rw [h1]; rfl, by rw [h2]; rfl⟩
      · exact .inr ⟨rst e0, by rw [h1]; simp [rewF], by rw [h2]; simp [rewF], h3.rst⟩
    · rw [if_neg hki]
      have hne : ∀ e : S_ledger_entry, rewF [(k : Int)] (i : Int) e = e := fun e => by rw [rewF, if_neg (by simp; omega)]
      rcases h.each i hi' with ⟨h1, h2⟩ | ⟨e0, h1, h2, h3⟩
      · exact .inl ⟨h1, by rw [h2]; rfl⟩
      · exact .inr ⟨e0, h1, by rw [h2]; simp [hne], h3⟩
theorem apart_loop2 (xs : List Int) (hx : xs.length ≤ 100) (js : List Int) (hj : js.length ≤ 6) : ∀ (d m c : Nat) (all : S_ledger_Ledger) (al : List S_ledger_Ledger), c + d = xs.length → d < m → Inv js.length c all al →
    law23_LedgerApart.L2 1000 xs js m all al (c : Int) = some true := by
  intro d
  induction d with
  | zero =>
    intro m c all al hc hm hI
    obtain ⟨m, rfl⟩ : ∃ q, m = q + 1 := ⟨m - 1, by omega⟩
    rw [law23_LedgerApart.L2, if_neg (by omega), law23_LedgerApart.J3, if_neg (by simp)]
  | succ d ih =>
    intro m c all al hc hm hI
    obtain ⟨m, rfl⟩ : ∃ q, m = q + 1 := ⟨m - 1, by omega⟩
    have hlt : c < xs.length := by omega
    rw [law23_LedgerApart.L2, if_pos (by omega), law23_LedgerApart.J3]
    by_cases h0 : js.length = 0
    · rw [if_neg (by simp [h0])]
    · rw [if_pos (by simp; omega), idx_get _ _ hlt]
      simp only [Option.bind_some]
      rw [chk_ok _ (by omega), chk_ok _ (by omega)]
      obtain ⟨k, hk, hke⟩ := W_restN xs[c] js.length (by omega) (by omega)
      rw [hke]
      have hkl : k < al.length := by rw [hI.len]; exact hk
      obtain ⟨hs1, hs2⟩ := hI.same hkl
      obtain ⟨r, hr⟩ := next_ok (B := c) (by omega) hs2
      have hr2 : ledger_Ledger_Next al[k] (k : Int) = some r := by rw [← hr]; exact (next_same hs1).symm
      simp only [hr, Option.bind_some, idx_get _ _ hkl, hr2, ne_eq, not_true_eq_false, if_false, beq_self_eq_true, Bool.not_true, Bool.false_eq_true]
      obtain ⟨s, b, er, o, ho1, ho2⟩ := answer_ok (B := c) (by omega) (k : Int) r.1 (c : Int) (mget all.m (k : Int)) hs2
      have hA := ho1 all rfl
      have hB := ho1 al[k] hs1.symm
      -- what stands behind the answer
      obtain ⟨a', b', ha', hb', hI'⟩ : ∃ a' b', upd all (k : Int) o = a' ∧ upd al[k] (k : Int) o = b' ∧ Inv js.length (c + 1) a' (al.set k b') := by
        cases o with
        | none =>
          refine ⟨all, al[k], rfl, rfl, ?_⟩
          rw [set_same (List.getElem?_eq_getElem hkl)]
          exact hI.mono (by omega)
        | some e' =>
          obtain ⟨e, hg, hE⟩ := ho2 e' rfl
          exact ⟨_, _, rfl, rfl, (hI.mono (by omega)).put hkl hg hE⟩
      rw [ha'] at hA
      rw [hb'] at hB
      simp only [hA, hB, Option.bind_some, decide_true, ne_eq, not_true_eq_false, if_false, beq_self_eq_true, Bool.not_true, Bool.false_eq_true]
      have hkl2 : k < (al.set k b').length := by simpa using hkl
      obtain ⟨q1, q2⟩ := hI'.same hkl2
      have hset : (al.set k b')[k] = b' := by simp
      rw [hset] at q1
      obtain ⟨lg, hl1, hl2⟩ := log_ok (B := c + 1) (by omega) q2
      have hl3 : ledger_Ledger_Log b' (k : Int) = some lg := by rw [← hl1]; exact (log_same q1).symm
      simp only [hl1, hl3, Option.bind_some, ints_refl lg hl2, if_true, idx_get _ _ hlt]
      split
      · obtain ⟨a2, b2, g1, g2, g3⟩ := hI'.rewind hj hkl2
        rw [hset] at g2
        simp only [g1, g2, Option.bind_some, law23_LedgerApart.J4, Int.toNat_natCast, W_succ c (by omega)]
        rw [List.set_set] at g3
        exact ih m (c + 1) _ _ (by omega) (by omega) g3
      · simp only [law23_LedgerApart.J4, Int.toNat_natCast, W_succ c (by omega)]
        exact ih m (c + 1) _ _ (by omega) (by omega) hI'
theorem apart_loop1 (rs : List S_api_Request) (hr : rs.length ≤ 6) (xs : List Int) (hx : xs.length ≤ 100) : ∀ (d m c : Nat) (all : S_ledger_Ledger) (al : List S_ledger_Ledger) (js : List Int), c + d = rs.length → d < m → js.length = c → Inv c 0 all al → (∀ k ∈ all.m.map Prod.fst, k < (c : Int)) →
    law23_LedgerApart.L1 1000 rs xs m all al js (c : Int) = some true := by
  intro d
  induction d with
  | zero =>
    intro m c all al js hc hm hjs hI hK
    obtain ⟨m, rfl⟩ : ∃ q, m = q + 1 := ⟨m - 1, by omega⟩
    rw [law23_LedgerApart.L1, if_neg (by omega)]
    subst hjs
    exact apart_loop2 xs hx js (by omega) xs.length 1000 0 all al (by omega) (by omega) hI
  | succ d ih =>
    intro m c all al js hc hm hjs hI hK
    obtain ⟨m, rfl⟩ : ∃ q, m = q + 1 := ⟨m - 1, by omega⟩
    have hlt : c < rs.length := by omega
    rw [law23_LedgerApart.L1, if_pos (by omega), idx_get _ _ hlt]
    simp only [Option.bind_some]
    split
    · rfl
    · rename_i hp
      have hN : mget all.m (c : Int) = none := mget_none.2 fun h => by have := hK _ h; omega
      have hal := hI.len
      have hO : ∀ x : S_ledger_Ledger, mget x.m (c : Int) = none → ledger_Ledger_Open x ⟨(c : Int), rs[c].Most, rs[c].Prompt⟩ = some (if ((rs[c].Prompt.length : Nat) : Int) = 0 then (90, x) else if rs[c].Most < 1 then (2, x) else (0, ⟨mset x.m (c : Int) ⟨⟨(c : Int), rs[c].Most, rs[c].Prompt⟩, [], 0⟩⟩)) := by
        intro x hx
        rw [ledger_Ledger_Open]
        simp only [hx, optc, clone_eq rs[c].Prompt (by omega), Option.bind_some]
        split
        · rfl
        · split <;> rfl
      have happ1 : ∀ z : S_ledger_Ledger, app al [z] = some (al ++ [z]) := fun z => app_ok _ _ (by simp; omega)
      have happ2 : app js [(c : Int)] = some (js ++ [(c : Int)]) := app_ok _ _ (by simp; omega)
      simp only [ledger_New, Option.bind_some, hO all hN, hO ⟨[]⟩ (by simp [mget]), happ1, happ2, W_succ c (by omega)]
      have hkeep : ∀ (i : Nat) (h : i < al.length) (z : S_ledger_Ledger) (h' : i < (al ++ [z]).length), (al ++ [z])[i] = al[i] := fun i h z h' => List.getElem_append_left h
      by_cases h1 : ((rs[c].Prompt.length : Nat) : Int) = 0
      · simp only [if_pos h1, ne_eq, not_true_eq_false, if_false]
        refine ih m (c + 1) _ _ _ (by omega) (by omega) (by simp [hjs]) ⟨by simp [hal], hI.nd, Nat.le_succ_of_le hI.sz, fun i hi => ?_⟩ (fun k hk => by have := hK k hk; omega)
        by_cases hic : i < al.length
        · rw [hkeep i hic]; exact hI.each i hic
        · have : i = c := by simp at hi; omega
          subst this
          exact .inl ⟨by rw [List.getElem_append_right (by omega)]; simp, hN⟩
      · by_cases h2 : rs[c].Most < 1
        · simp only [if_neg h1, if_pos h2, ne_eq, not_true_eq_false, if_false]
          refine ih m (c + 1) _ _ _ (by omega) (by omega) (by simp [hjs]) ⟨by simp [hal], hI.nd, Nat.le_succ_of_le hI.sz, fun i hi => ?_⟩ (fun k hk => by have := hK k hk; omega)
          by_cases hic : i < al.length
          · rw [hkeep i hic]; exact hI.each i hic
          · have : i = c := by simp at hi; omega
            subst this
            exact .inl ⟨by rw [List.getElem_append_right (by omega)]; simp, hN⟩
        · simp only [if_neg h1, if_neg h2, ne_eq, not_true_eq_false, if_false]
          have hnk : (c : Int) ∉ all.m.map Prod.fst := mget_none.1 hN
          refine ih m (c + 1) _ _ _ (by omega) (by omega) (by simp [hjs]) ⟨by simp [hal], nodup_mset hI.nd _ _, ?_, fun i hi => ?_⟩ (fun k hk => ?_)
          · show (mset all.m (c : Int) _).length ≤ c + 1
            rw [len_mset, if_neg hnk]; have := hI.sz; omega
          · show (_ ∧ mget (mset all.m (c : Int) _) (i : Int) = none) ∨ ∃ e, _ ∧ mget (mset all.m (c : Int) _) (i : Int) = _ ∧ _
            rw [mget_mset]
            by_cases hic : i < al.length
            · rw [hkeep i hic, if_neg (by omega)]; exact hI.each i hic
            · have hi2 : i = c := by simp at hi; omega
              subst hi2
              rw [if_pos rfl]
              refine .inr ⟨_, by rw [List.getElem_append_right (by omega)]; simp [mset], rfl, ?_⟩
              exact ⟨by show 1 ≤ rs[i].Prompt.length; omega, by show rs[i].Prompt.length ≤ 100; omega, Nat.le_refl _, Int.le_refl _, by show (0 : Int) < rs[i].Prompt.length + ([] : List Int).length; simp; omega⟩
          · have hk' : k ∈ (mset all.m (c : Int) _).map Prod.fst := hk
            rw [keys_mset, if_neg hnk, List.mem_append] at hk'
            rcases hk' with hk' | hk'
            · have := hK k hk'; omega
            · simp at hk'; omega
theorem ledgerApart (rs : List S_api_Request) (xs : List Int) : law23_LedgerApart 1000 rs xs = some true := by
  rw [law23_LedgerApart]
  simp only [awake23, Option.bind_some, if_true]
  split
  · rfl
  · split
    · rfl
    · simp only [ledger_New, Option.bind_some]
      rw [show (0 : Int) = ((0 : Nat) : Int) from rfl]
      exact apart_loop1 rs (by omega) xs (by omega) rs.length 1000 0 ⟨[]⟩ [] [] (by omega) (by omega) rfl ⟨rfl, by simp, by simp, fun i hi => by simp at hi⟩ (by simp)
end Go.Proofs.Ytfhpmaphgkiegaa
