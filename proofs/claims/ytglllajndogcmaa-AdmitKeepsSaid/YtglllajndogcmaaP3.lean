/- A refusal leaves no trace: the law. -/
import Derived.Test.YtglllajndogcmaaP2
namespace Go.Proofs.Ytglllajndogcmaa
open Go Go.Hp Go.RowKit
set_option linter.unusedVariables false
set_option linter.unusedSimpArgs false
theorem rtook_eq (q : S_ref21_Desk) (v : Int) (h : q.Ids = [100, 101]) : ref21_Desk_Took 1000 q v = some (decide (v = 100 ∨ v = 101)) := by
  rw [ref21_Desk_Took, show (1000 : Nat) = 997 + 1 + 1 + 1 from rfl, ref21_Desk_Took.L1, if_pos (by rw [h]; decide), h]
  simp only [show idx [(100 : Int), 101] 0 = some 100 from rfl, Option.bind_some]
  by_cases e : (100 : Int) = v
  · rw [if_pos e]; simp [← e]
  · rw [if_neg e, show IntKind.i64.wrap ((0 : Int) + 1) = 1 by decide, ref21_Desk_Took.L1, if_pos (by rw [h]; decide), h]
    simp only [show idx [(100 : Int), 101] 1 = some 101 from rfl, Option.bind_some]
    by_cases e2 : (101 : Int) = v
    · rw [if_pos e2]; simp [← e2]
    · rw [if_neg e2, show IntKind.i64.wrap ((1 : Int) + 1) = 2 by decide, ref21_Desk_Took.L1, if_neg (by rw [h]; decide)]
      congr 1
      have a1 : ¬ v = 100 := fun h => e h.symm
      have a2 : ¬ v = 101 := fun h => e2 h.symm
      simp [a1, a2]
structure KR (d : S_admit_Desk) (q : S_ref21_Desk) : Prop where
  s : d.s = shp
  s' : q.S = shp
  m : d.room = 2
  m' : q.Room = 2
  row : d.row = q.L
  tk : ∀ y, isIn d.took y = decide (y = 100 ∨ y = 101)
  ids : q.Ids = [100, 101]
  len : q.L.length ≤ 2
theorem rjudge_eq {d : S_admit_Desk} {q : S_ref21_Desk} (h : KR d q) (r : S_api_Request) (hp : r.Prompt.length ≤ 300) (hv : -9223372036854775808 ≤ r.Most ∧ r.Most ≤ 9223372036854775807) : ref21_Desk_Judge 1000 q r = admit_Desk_Judge 1000 d r := by
  rw [judge_eq, h.s, check_same _ _ hp hv, h.tk, h.row, h.m, ref21_Desk_Judge, rtook_eq q _ h.ids, show (⟨q.S.Layers, q.S.Width, q.S.Heads, q.S.Inner, q.S.Vocab, q.S.Places⟩ : S_api_Shape) = q.S from rfl, h.s', h.m']
  rfl
theorem rsubmit_eq (q : S_ref21_Desk) (r : S_api_Request) (c : Int) (hj : ref21_Desk_Judge 1000 q r = some c) (hp : r.Prompt.length ≤ 300) (hl : q.L.length ≤ 2) (hi : q.Ids.length ≤ 2) : ref21_Desk_Submit 1000 q r = some (c, if c = 0 then ⟨q.S, q.Room, q.L ++ [r], q.Ids ++ [r.ID]⟩ else q) := by
  rw [ref21_Desk_Submit, show (⟨r.ID, r.Most, r.Prompt⟩ : S_api_Request) = r from rfl, hj]
  simp only [Option.bind_some]
  by_cases e : c = 0
  · rw [if_pos e, if_pos e, app_ok _ _ (by simp; omega)]
    simp only [Option.bind_some, List.nil_append]
    rw [app_ok _ _ (by simp; omega)]
    simp only [Option.bind_some]
    rw [app_ok _ _ (by simp; omega)]
    rfl
  · rw [if_neg e, if_neg e]
theorem judge_full (d : S_admit_Desk) (r : S_api_Request) (c : Int) (hf : ((d.row.length : Nat) : Int) ≥ d.room) (h : admit_Desk_Judge 1000 d r = some c) : c ≠ 0 := by
  rw [judge_eq] at h
  intro e
  subst e
  split at h
  · simp at h
  · split at h
    · simp at h
    · split at h
      · simp at h
      · cases hc : gen_Check 1000 d.s r.Prompt r.Most with
        | none => rw [hc] at h; simp at h
        | some x =>
          rw [hc] at h
          simp only [Option.bind_some] at h
          split at h
          · rename_i hx
            injection h with h
            exact hx h
          · first
            | (rw [if_pos hf] at h; simp at h)
            | simp at h
theorem kr_cancel {d : S_admit_Desk} {q : S_ref21_Desk} (h : KR d q) (v : Int) : KR ⟨d.s, d.room, gone d.row v, d.took⟩ ⟨q.S, q.Room, gone q.L v, q.Ids⟩ :=
  ⟨h.s, h.s', h.m, h.m', by simp only [h.row], h.tk, h.ids, Nat.le_trans (List.length_filter_le _ _) h.len⟩
theorem keeps_loop (r : S_api_Request) (xs : List Int) (hx : xs.length ≤ 30) (hp : r.Prompt.length ≤ 300) (hv : -9223372036854775808 ≤ r.Most ∧ r.Most ≤ 9223372036854775807) : ∀ (d m k : Nat) (D : S_admit_Desk) (Q : S_ref21_Desk), k + d = xs.length → d < m → KR D Q →
    law21_AdmitKeeps.L2 1000 r xs m D Q (k : Int) = some true := by
  intro d
  induction d with
  | zero =>
    intro m k D Q hk hm h
    obtain ⟨m, rfl⟩ : ∃ q, m = q + 1 := ⟨m - 1, by omega⟩
    have hl := h.len
    rw [law21_AdmitKeeps.L2, if_neg (by omega), cancel_eq D 100 (by rw [h.row]; omega), rcancel_eq Q 100 (by omega)]
    simp only [Option.bind_some]
    have h2 := kr_cancel h 100
    generalize (⟨D.s, D.room, gone D.row 100, D.took⟩ : S_admit_Desk) = D2 at h2
    generalize (⟨Q.S, Q.Room, gone Q.L 100, Q.Ids⟩ : S_ref21_Desk) = Q2 at h2
    have hl2 := h2.len
    obtain ⟨c, hc⟩ := judge_some D2 r (by omega)
    have hc2 := hc
    rw [← rjudge_eq h2 r hp hv] at hc2
    rw [show (⟨r.ID, r.Most, r.Prompt⟩ : S_api_Request) = r from rfl, submit_eq D2 r c hc (by omega) (by rw [h2.row]; omega), rsubmit_eq Q2 r c hc2 hp hl2 (by rw [h2.ids]; simp)]
    simp only [Option.bind_some]
    rw [if_pos (by simp), show idx [c] (0 : Int) = some c from rfl]
    simp only [Option.bind_some, if_true, admit_Desk_Took, law21_asks, admit_Desk_Len]
    have t100 : isIn D2.took 100 = true := by rw [h2.tk]; rfl
    by_cases e : c = 0
    · simp only [if_pos e]
      have t2 : isIn (put D2 r).took 100 = true := by simp only [put, isIn_mset, t100, Bool.or_true]
      rw [show (mget (put D2 r).took 100).getD false = isIn (put D2 r).took 100 from rfl, t2, if_pos rfl, judge_eq, if_neg (by simp), if_neg (by simp), if_pos t2]
      simp [put, h2.row]
    · simp only [if_neg e]
      rw [show (mget D2.took 100).getD false = isIn D2.took 100 from rfl, t100, if_pos rfl, judge_eq, if_neg (by simp), if_neg (by simp), if_pos t100]
      simp [h2.row]
  | succ d ih =>
    intro m k D Q hk hm h
    obtain ⟨m, rfl⟩ : ∃ q, m = q + 1 := ⟨m - 1, by omega⟩
    have hlt : k < xs.length := by omega
    have hl := h.len
    rw [law21_AdmitKeeps.L2, if_pos (by omega), idx_get _ _ hlt]
    simp only [Option.bind_some]
    rw [cancel_eq D _ (by rw [h.row]; omega), rcancel_eq Q _ (by omega)]
    simp only [Option.bind_some]
    rw [if_neg (by rw [h.row]; simp), W_succ k (by omega)]
    exact ih m (k + 1) _ _ (by omega) (by omega) (kr_cancel h _)
theorem first_d : admit_Desk_Submit 1000 ⟨shp, 2, [], []⟩ [⟨100, 2, [1]⟩, ⟨101, 2, [1]⟩] = some ([0, 0], ⟨shp, 2, [⟨100, 2, [1]⟩, ⟨101, 2, [1]⟩], [(100, true), (101, true)]⟩) := by kernel_rfl
theorem first_q : ref21_Desk_Submit 1000 ⟨shp, 2, [], []⟩ ⟨100, 2, [1]⟩ = some (0, ⟨shp, 2, [⟨100, 2, [1]⟩], [100]⟩) := by kernel_rfl
theorem next_q : ref21_Desk_Submit 1000 ⟨shp, 2, [⟨100, 2, [1]⟩], [100]⟩ ⟨101, 2, [1]⟩ = some (0, ⟨shp, 2, [⟨100, 2, [1]⟩, ⟨101, 2, [1]⟩], [100, 101]⟩) := by kernel_rfl
theorem kr1 : KR ⟨shp, 2, [⟨100, 2, [1]⟩, ⟨101, 2, [1]⟩], [(100, true), (101, true)]⟩ ⟨shp, 2, [⟨100, 2, [1]⟩, ⟨101, 2, [1]⟩], [100, 101]⟩ :=
  ⟨rfl, rfl, rfl, rfl, rfl, fun y => by
    simp only [isIn, mget]
    by_cases e : (100 : Int) = y
    · rw [if_pos e]; simp [← e]
    · rw [if_neg e]
      have a1 : ¬ y = 100 := fun h => e h.symm
      by_cases e2 : (101 : Int) = y
      · rw [if_pos e2]; simp [← e2]
      · have a2 : ¬ y = 101 := fun h => e2 h.symm
        rw [if_neg e2]; simp [a1, a2], rfl, by simp⟩
theorem admitKeeps (r : S_api_Request) (hv : -9223372036854775808 ≤ r.Most ∧ r.Most ≤ 9223372036854775807) (xs : List Int) : law21_AdmitKeeps 1000 r xs = some true := by
  rw [law21_AdmitKeeps, awake21]
  simp only [Option.bind_some, if_true]
  split
  · rfl
  · split
    · rfl
    · have hn := new_eq 2 (by omega)
      have hn' : admit_New ⟨1, 4, 2, 3, 5, 8⟩ 2 = some (some ⟨shp, 2, [], []⟩, 0) := hn
      simp only [law21_shape, Option.bind_some, law21_asks]
      rw [hn']
      simp only [Option.bind_some, optc, ne_eq, not_true_eq_false, if_false]
      rw [first_d, show (⟨1, 4, 2, 3, 5, 8⟩ : S_api_Shape) = shp from rfl, first_q]
      simp only [Option.bind_some]
      rw [next_q]
      simp only [Option.bind_some]
      have h := kr1
      have hlen : (⟨shp, 2, [⟨100, 2, [1]⟩, ⟨101, 2, [1]⟩], [(100, true), (101, true)]⟩ : S_admit_Desk).row.length = 2 := rfl
      generalize (⟨shp, 2, [⟨100, 2, [1]⟩, ⟨101, 2, [1]⟩], [(100, true), (101, true)]⟩ : S_admit_Desk) = D at h hlen ⊢
      generalize (⟨shp, 2, [⟨100, 2, [1]⟩, ⟨101, 2, [1]⟩], [100, 101]⟩ : S_ref21_Desk) = Q at h ⊢
      obtain ⟨c, hc⟩ := judge_some D r (by omega)
      have hc2 := hc
      rw [← rjudge_eq h r (by omega) hv] at hc2
      have hc0 := judge_full D r c (by rw [hlen, h.m]; decide) hc
      rw [show (⟨r.ID, r.Most, r.Prompt⟩ : S_api_Request) = r from rfl, submit_eq D r c hc (by omega) (by omega), rsubmit_eq Q r c hc2 (by omega) h.len (by rw [h.ids]; simp)]
      simp only [Option.bind_some, if_neg hc0]
      rw [if_neg (by simp), show idx [c] (0 : Int) = some c from rfl]
      simp only [Option.bind_some, not_true_eq_false, if_false, if_neg hc0, admit_Desk_Len, hlen]
      rw [if_neg (by simp)]
      have tk : ∀ y, (mget D.took y).getD false = decide (y = 100 ∨ y = 101) := h.tk
      have go : law21_AdmitKeeps.L2 1000 r xs 1000 D Q 0 = some true := keeps_loop r xs (by omega) (by omega) hv xs.length 1000 0 D Q (by omega) (by omega) h
      simp only [admit_Desk_Took, tk, Option.bind_some]
      by_cases e : r.ID = 100
      · simp [e, law21_AdmitKeeps.J1, go]
      · simp [e, law21_AdmitKeeps.J1, go]
end Go.Proofs.Ytglllajndogcmaa
