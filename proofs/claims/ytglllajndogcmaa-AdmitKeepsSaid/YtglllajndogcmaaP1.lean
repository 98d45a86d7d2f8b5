/- By number and room alone. -/
import Derived.Test.YtglllajndogcmaaT1b
import Derived.Test.YtglllajndogcmaaPl
namespace Go.Proofs.Ytglllajndogcmaa
open Go Go.Hp
set_option linter.unusedVariables false
set_option linter.unusedSimpArgs false
theorem awake21 : law21_awake 1000 = some true := by decide +kernel
def shp : S_api_Shape := ⟨1, 4, 2, 3, 5, 8⟩
def isIn (l : List (Int × Bool)) (y : Int) : Bool := (mget l y).getD false
theorem isIn_mset (l : List (Int × Bool)) (k y : Int) : isIn (mset l k true) y = (decide (y = k) || isIn l y) := by
  induction l with
  | nil =>
    simp only [mset, isIn, mget]
    by_cases e : k = y
    · rw [if_pos e]; simp [e]
    · have e' : ¬ y = k := fun h => e h.symm
      rw [if_neg e]; simp [e']
  | cons x l ih =>
    obtain ⟨k', x'⟩ := x
    simp only [mset, isIn] at ih ⊢
    by_cases e : k' = k
    · rw [if_pos e]
      subst e
      simp only [mget]
      by_cases e2 : k' = y
      · simp [e2]
      · have e' : ¬ y = k' := fun h => e2 h.symm
        simp [e2, e']
    · rw [if_neg e]
      simp only [mget]
      by_cases e2 : k' = y
      · subst e2; simp [e]
      · rw [if_neg e2, if_neg e2]; exact ih
theorem idxf_some (xs : List Int) (f : Int → Option Bool) (p : Int → Bool) (hf : ∀ y, f y = some (p y)) (hx : xs.length < 1000) : ∀ (d m k : Nat), k + d = xs.length → d < m → ∃ r, slices_IndexFunc_s_int_int.L1 xs f m (k : Int) = some r := by
  intro d
  induction d with
  | zero =>
    intro m k hk hm
    obtain ⟨m, rfl⟩ : ∃ q, m = q + 1 := ⟨m - 1, by omega⟩
    rw [slices_IndexFunc_s_int_int.L1, if_neg (by omega)]
    exact ⟨_, rfl⟩
  | succ d ih =>
    intro m k hk hm
    obtain ⟨m, rfl⟩ : ∃ q, m = q + 1 := ⟨m - 1, by omega⟩
    have hlt : k < xs.length := by omega
    rw [slices_IndexFunc_s_int_int.L1, if_pos (by omega), idx_get _ _ hlt]
    simp only [Option.bind_some, hf]
    split
    · exact ⟨_, rfl⟩
    · rw [W_succ k (by omega)]
      exact ih m (k + 1) (by omega) (by omega)
theorem check_some (s : S_api_Shape) (xs : List Int) (v : Int) (hx : xs.length < 1000) : ∃ c, gen_Check 1000 s xs v = some c := by
  rw [gen_Check]
  split
  · exact ⟨_, rfl⟩
  · obtain ⟨r, hr⟩ := idxf_some xs (fun y6 => if y6 < 0 then some true else some (decide (y6 ≥ s.Vocab))) (fun y6 => if y6 < 0 then true else decide (y6 ≥ s.Vocab)) (fun y => by split <;> rfl) hx xs.length 1000 0 (by omega) (by omega)
    have hr0 : slices_IndexFunc_s_int_int.L1 xs (fun y6 => if y6 < 0 then some true else some (decide (y6 ≥ s.Vocab))) 1000 0 = some r := hr
    rw [slices_ContainsFunc_s_int_int, slices_IndexFunc_s_int_int, hr0]
    simp only [Option.bind_some]
    split
    · exact ⟨_, rfl⟩
    · split
      · exact ⟨_, rfl⟩
      · split
        · exact ⟨_, rfl⟩
        · split
          · exact ⟨_, rfl⟩
          · exact ⟨_, rfl⟩
/-- What is answered, by what is looked at. -/
theorem judge_eq (d : S_admit_Desk) (r : S_api_Request) : admit_Desk_Judge 1000 d r = (if r.ID < 0 then some 2 else if r.ID ≥ 1099511627776 then some 2 else if isIn d.took r.ID = true then some 210 else (gen_Check 1000 d.s r.Prompt r.Most).bind fun c => if c ≠ 0 then some c else if ((d.row.length : Nat) : Int) ≥ d.room then some 211 else some 0) := rfl
theorem judge_same (a b : S_admit_Desk) (r : S_api_Request) (h1 : a.s = b.s) (h2 : a.room = b.room) (h3 : a.took = b.took) (h4 : a.row.length = b.row.length) : admit_Desk_Judge 1000 a r = admit_Desk_Judge 1000 b r := by
  rw [judge_eq, judge_eq, h1, h2, h3, h4]
theorem judge_some (d : S_admit_Desk) (r : S_api_Request) (h : r.Prompt.length < 1000) : ∃ c, admit_Desk_Judge 1000 d r = some c := by
  rw [judge_eq]
  obtain ⟨c, hc⟩ := check_some d.s r.Prompt r.Most h
  rw [hc]
  split
  · exact ⟨_, rfl⟩
  · split
    · exact ⟨_, rfl⟩
    · split
      · exact ⟨_, rfl⟩
      · simp only [Option.bind_some]
        split
        · exact ⟨_, rfl⟩
        · split <;> exact ⟨_, rfl⟩
def jd (tk : List (Int × Bool)) (n : Nat) (room id : Int) : Int := if isIn tk id = true then 210 else if (n : Int) ≥ room then 211 else 0
theorem check1 : gen_Check 1000 shp [1] 2 = some 0 := by decide +kernel
theorem check2 : gen_Check 1000 shp [2, 3] 1 = some 0 := by decide +kernel
theorem judge_ok (d : S_admit_Desk) (r : S_api_Request) (hs : d.s = shp) (h0 : 0 ≤ r.ID ∧ r.ID < 30) (hc : gen_Check 1000 shp r.Prompt r.Most = some 0) : admit_Desk_Judge 1000 d r = some (jd d.took d.row.length d.room r.ID) := by
  rw [judge_eq, if_neg (by omega), if_neg (by omega), hs, hc, jd]
  split
  · rfl
  · simp only [Option.bind_some, ne_eq, not_true_eq_false, if_false]
    split <;> rfl
def put (d : S_admit_Desk) (r : S_api_Request) : S_admit_Desk := ⟨d.s, d.room, d.row ++ [r], mset d.took r.ID true⟩
theorem submit_loop (m : Nat) (d : S_admit_Desk) (r : S_api_Request) (c : Int) (hj : admit_Desk_Judge 1000 d r = some c) (hp : r.Prompt.length < 1000) (hr : d.row.length < 1000) : admit_Desk_Submit.L1 1000 [r] (m + 1 + 1) d [] 0 = some ([c], if c = 0 then put d r else d) := by
  rw [admit_Desk_Submit.L1, if_pos (by simp), show (0 : Int) = ((0 : Nat) : Int) from rfl, idx_get _ _ (by simp)]
  simp only [Option.bind_some, List.getElem_cons_zero, admit_Desk_Submit.J2]
  rw [show (⟨r.ID, r.Most, r.Prompt⟩ : S_api_Request) = r from rfl, hj]
  simp only [Option.bind_some]
  rw [app_ok _ _ (by simp), W_succ 0 (by omega)]
  simp only [Option.bind_some, List.nil_append]
  by_cases e : c = 0
  · have e' : c = ((0 : Nat) : Int) := e
    rw [if_pos e', slices_Clone_s_int_int, app_ok _ _ (by simp; omega)]
    simp only [Option.bind_some, List.nil_append]
    rw [app_ok _ _ (by simp; omega)]
    simp only [Option.bind_some, admit_set_int_put]
    rw [admit_Desk_Submit.L1, if_neg (by simp), if_pos e']
    rfl
  · have e' : ¬ c = ((0 : Nat) : Int) := e
    rw [if_neg e', admit_Desk_Submit.L1, if_neg (by simp), if_neg e']
theorem submit_eq (d : S_admit_Desk) (r : S_api_Request) (c : Int) (hj : admit_Desk_Judge 1000 d r = some c) (hp : r.Prompt.length < 1000) (hr : d.row.length < 1000) : admit_Desk_Submit 1000 d [r] = some ([c], if c = 0 then put d r else d) := submit_loop 998 d r c hj hp hr
theorem delete_eq (x : S_api_Request) (l : List S_api_Request) : slices_Delete_s_api_Request_api_Request (x :: l) 0 1 = some l := by
  rw [slices_Delete_s_api_Request_api_Request, chk_ok _ (by simp; omega), if_neg (by omega), chk_ok _ (by simp; omega), chk_ok _ (by simp; omega), chk_ok _ (by simp), chk_ok _ (by simp; omega)]
  simp
theorem take_eq (d : S_admit_Desk) (x : S_api_Request) (l : List S_api_Request) (h : d.row = x :: l) : admit_Desk_Take d = some (x, true, ⟨d.s, d.room, l, d.took⟩) := by
  rw [admit_Desk_Take, h, if_neg (by simp; omega), show (0 : Int) = ((0 : Nat) : Int) from rfl, idx_get _ _ (by simp)]
  simp only [Option.bind_some, List.getElem_cons_zero]
  rw [show ((0 : Nat) : Int) = 0 from rfl, delete_eq]
  rfl
def nums (l : List S_api_Request) : List Int := l.map (·.ID)
theorem fair_loop2 (B : S_admit_Desk) (took : List Int) (tk : List (Int × Bool)) (hB : B.row.length = took.length) (hl : took.length ≤ 40) (ht : ∀ y ∈ took, (0 ≤ y ∧ y < 30) ∧ isIn tk y = true) : ∀ (d m k : Nat) (A : S_admit_Desk), k + d = took.length → d < m → A.s = shp → A.took = tk → nums A.row = took.drop k →
    law21_AdmitFair.L2 1000 B took m A (k : Int) = some true := by
  intro d
  induction d with
  | zero =>
    intro m k A hk hm hs htk hr
    obtain ⟨m, rfl⟩ : ∃ q, m = q + 1 := ⟨m - 1, by omega⟩
    rw [List.drop_of_length_le (by omega)] at hr
    have hr' : A.row = [] := by simpa [nums] using hr
    rw [law21_AdmitFair.L2, if_neg (by omega), admit_Desk_Take, if_pos (by rw [hr']; rfl)]
    simp [admit_Desk_Len, hB]
  | succ d ih =>
    intro m k A hk hm hs htk hr
    obtain ⟨m, rfl⟩ : ∃ q, m = q + 1 := ⟨m - 1, by omega⟩
    have hlt : k < took.length := by omega
    rw [List.drop_eq_getElem_cons hlt] at hr
    obtain ⟨x, l, hA⟩ : ∃ x l, A.row = x :: l := by
      cases h : A.row with
      | nil => rw [h] at hr; cases hr
      | cons x l => exact ⟨x, l, rfl⟩
    rw [hA] at hr
    simp only [nums, List.map_cons, List.cons.injEq] at hr
    obtain ⟨hy, hin⟩ := ht took[k] (List.getElem_mem hlt)
    rw [law21_AdmitFair.L2, if_pos (by omega), take_eq A x l hA, idx_get _ _ hlt]
    simp only [Option.bind_some, if_true]
    rw [if_neg (by simpa using hr.1)]
    simp only [admit_Desk_Took, Option.bind_some, htk, show (mget tk took[k]).getD false = isIn tk took[k] from rfl, hin, if_true, law21_asks]
    rw [judge_ok ⟨A.s, A.room, l, tk⟩ ⟨took[k], 2, [1]⟩ hs hy check1]
    simp only [Option.bind_some, jd, hin, if_true, ne_eq, not_true_eq_false, if_false]
    rw [W_succ k (by omega)]
    exact ih m (k + 1) _ (by omega) (by omega) hs rfl hr.2
theorem fair_loop (xs : List Int) (r : S_api_Request) (hx : xs.length ≤ 40) (hp : r.Prompt.length ≤ 300) : ∀ (d m k : Nat) (A B : S_admit_Desk) (took : List Int), k + d = xs.length → d < m → took.length ≤ k → A.s = shp → B.s = shp → A.room = B.room → A.took = B.took → nums A.row = took → nums B.row = took →
    (∀ y ∈ took, (0 ≤ y ∧ y < 30) ∧ isIn A.took y = true) → law21_AdmitFair.L1 1000 xs r m B A took (k : Int) = some true := by
  intro d
  induction d with
  | zero =>
    intro m k A B took hk hm ht hA hB hroom htk hna hnb hall
    obtain ⟨m, rfl⟩ : ∃ q, m = q + 1 := ⟨m - 1, by omega⟩
    have la : A.row.length = took.length := by rw [← hna]; simp [nums]
    have lb : B.row.length = took.length := by rw [← hnb]; simp [nums]
    obtain ⟨c, hc⟩ := judge_some A r (by omega)
    have hc2 : admit_Desk_Judge 1000 B r = some c := by rw [← judge_same A B r (hA.trans hB.symm) hroom htk (la.trans lb.symm)]; exact hc
    rw [law21_AdmitFair.L1, if_neg (by omega), show (⟨r.ID, r.Most, r.Prompt⟩ : S_api_Request) = r from rfl, hc, hc2]
    simp only [Option.bind_some, ne_eq, not_true_eq_false, if_false]
    exact fair_loop2 B took A.took lb (by omega) hall took.length 1000 0 A (by omega) (by omega) hA rfl (by simpa using hna)
  | succ d ih =>
    intro m k A B took hk hm ht hA hB hroom htk hna hnb hall
    obtain ⟨m, rfl⟩ : ∃ q, m = q + 1 := ⟨m - 1, by omega⟩
    have hlt : k < xs.length := by omega
    have la : A.row.length = took.length := by rw [← hna]; simp [nums]
    have lb : B.row.length = took.length := by rw [← hnb]; simp [nums]
    obtain ⟨i, hi, he⟩ := W_restN xs[k] 30 (by omega) (by omega)
    have he' : Int.tmod (IntKind.i64.wrap (Int.tmod xs[k] 30 + 30)) 30 = (i : Int) := he
    rw [law21_AdmitFair.L1, if_pos (by omega), idx_get _ _ hlt]
    simp only [Option.bind_some, he', law21_asks]
    have ja := judge_ok A ⟨(i : Int), 2, [1]⟩ hA ⟨by simp only []; omega, by simp only []; omega⟩ check1
    have jb := judge_ok B ⟨(i : Int), 1, [2, 3]⟩ hB ⟨by simp only []; omega, by simp only []; omega⟩ check2
    rw [← htk, lb, ← la, ← hroom] at jb
    generalize jd A.took A.row.length A.room (i : Int) = c at ja jb
    rw [submit_eq A _ c ja (by simp) (by omega), submit_eq B _ c jb (by simp) (by omega)]
    simp only [Option.bind_some]
    rw [if_neg (by simp), if_neg (by simp), show (0 : Int) = ((0 : Nat) : Int) from rfl, idx_get _ _ (by simp)]
    simp only [Option.bind_some, List.getElem_cons_zero, ne_eq, not_true_eq_false, if_false, law21_AdmitFair.J3]
    rw [W_succ k (by omega)]
    by_cases e : c = 0
    · have e' : c = ((0 : Nat) : Int) := e
      simp only [if_pos e']
      rw [app_ok _ _ (by simp; omega)]
      simp only [Option.bind_some]
      refine ih m (k + 1) (put A ⟨(i : Int), 2, [1]⟩) (put B ⟨(i : Int), 1, [2, 3]⟩) (took ++ [(i : Int)]) (by omega) (by omega) (by simp; omega) hA hB hroom (by simp only [put, htk]) (by simp [put, nums, ← hna]) (by simp [put, nums, ← hnb]) ?_
      intro y hy
      simp only [put, isIn_mset, Bool.or_eq_true, decide_eq_true_eq]
      rcases List.mem_append.1 hy with hy | hy
      · exact ⟨(hall y hy).1, .inr (hall y hy).2⟩
      · rw [List.mem_singleton] at hy
        subst hy
        exact ⟨⟨by omega, by omega⟩, .inl rfl⟩
    · have e' : ¬ c = ((0 : Nat) : Int) := e
      simp only [if_neg e']
      exact ih m (k + 1) A B took (by omega) (by omega) (by omega) hA hB hroom htk hna hnb hall
theorem new_eq (n : Nat) (h : n < 20) : admit_New ⟨1, 4, 2, 3, 5, 8⟩ (n : Int) = some (some ⟨shp, (n : Int), [], []⟩, 0) := by
  rw [admit_New, show weight_Right ⟨1, 4, 2, 3, 5, 8⟩ = some true by decide +kernel]
  simp only [Option.bind_some, if_true]
  rw [if_neg (by omega), if_neg (by omega)]
  rfl
theorem admitFair (xs : List Int) (r : S_api_Request) (v : Int) : law21_AdmitFair 1000 xs r v = some true := by
  rw [law21_AdmitFair, awake21]
  simp only [Option.bind_some, if_true]
  split
  · rfl
  · split
    · rfl
    · obtain ⟨n, hn, he⟩ := W_restN v 20 (by omega) (by omega)
      have he' : Int.tmod (IntKind.i64.wrap (Int.tmod v 20 + 20)) 20 = (n : Int) := he
      simp only [he', law21_shape, Option.bind_some]
      rw [new_eq n hn]
      simp only [Option.bind_some, optc]
      exact fair_loop xs r (by omega) (by omega) xs.length 1000 0 _ _ [] (by omega) (by omega) (by simp) rfl rfl rfl rfl rfl rfl (by simp)
end Go.Proofs.Ytglllajndogcmaa
