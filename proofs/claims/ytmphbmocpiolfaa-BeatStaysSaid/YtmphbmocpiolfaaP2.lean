/- As long as all live. -/
import Derived.Test.YtmphbmocpiolfaaP1
namespace Go.Proofs.Ytmphbmocpiolfaa
open Go Go.Hp
set_option linter.unusedVariables false
set_option linter.unusedSectionVars false
set_option linter.unusedSimpArgs false
/-- Each since so many ticks. -/
def since (s : Nat → Nat) (i : Nat) : S_beat_one := ⟨true, ((3 + i : Nat) : Int), (s i : Int)⟩
def Wt (n : Nat) (p : Int) (ep : Int) (f : Nat → S_beat_one) : S_beat_Watch := ⟨p, ep, tabl n f⟩
def up (f : Nat → Nat) (i v : Nat) : Nat → Nat := fun j => if j = i then v else f j
theorem since_up (s : Nat → Nat) (i v : Nat) : (fun j => if j = i then (⟨true, ((3 + i : Nat) : Int), (v : Int)⟩ : S_beat_one) else since s j) = since (up s i v) := by
  funext j
  unfold since up
  by_cases e : j = i
  · subst e; simp
  · simp [e]
theorem beatS_in {x : S_beat_Watch} {k : Nat} {o : S_beat_one} (h : x.l[k]? = some o) (e life : Int) : beatS x (k : Int) e life = if o.ready = true then heardS x k o life (decide (e = x.epoch)) else (false, x) := by
  unfold beatS
  rw [if_pos (by omega), Int.toNat_natCast, h]
theorem readyS_in {x : S_beat_Watch} {k : Nat} {o : S_beat_one} (h : x.l[k]? = some o) (e life : Int) : readyS x (k : Int) e life = if e ≠ x.epoch then (false, x) else if o.ready = true then heardS x k o life true else (false, { x with l := x.l.set k ⟨true, life, 0⟩ }) := by
  unfold readyS
  rw [if_pos (by omega), Int.toNat_natCast, h]
theorem beat_now (n : Nat) (p : Int) (s : Nat → Nat) (i : Nat) (hi : i < n) : beatS (Wt n p 1 (since s)) (i : Int) 1 ((3 + i : Nat) : Int) = (false, Wt n p 1 (since (up s i 0))) := by
  rw [beatS_in (o := since s i) (tabl_get? hi), if_pos (show (since s i).ready = true from rfl), heardS, if_neg (by simp [since]), if_pos ⟨by simp [Wt], rfl⟩]
  simp only [Wt, tabl_set]
  rw [← since_up]; rfl
theorem beat_old (n : Nat) (p : Int) (s : Nat → Nat) (i : Nat) (hi : i < n) : beatS (Wt n p 1 (since s)) (i : Int) 0 ((3 + i : Nat) : Int) = (false, Wt n p 1 (since s)) := by
  rw [beatS_in (o := since s i) (tabl_get? hi), if_pos (show (since s i).ready = true from rfl), heardS, if_neg (by simp [since]), if_neg (by simp [Wt])]
theorem beat_life (n : Nat) (p : Int) (s : Nat → Nat) (i : Nat) (hi : i < n) (hn : n ≤ 8) : beatS (Wt n p 1 (since s)) (i : Int) 0 99 = (true, Wt n p 2 (fun _ => ⟨false, 0, 0⟩)) := by
  rw [beatS_in (o := since s i) (tabl_get? hi), if_pos (show (since s i).ready = true from rfl), heardS, if_pos (by simp [since]; omega)]
  simp only [bumpS, Wt, tabl_len, tabl_rep]
  rfl
theorem tick_since (n : Nat) (p : Int) (s : Nat → Nat) (hs : ∀ j, j < n → s j < 1000) : tickS (Wt n p 1 (since s)) =
    if ∃ j, j < n ∧ p ≤ ((s j + 1 : Nat) : Int) then (true, Wt n p 2 (fun _ => ⟨false, 0, 0⟩)) else (false, Wt n p 1 (since (fun j => s j + 1))) := by
  have hm : (tabl n (since s)).map incO = tabl n (since (fun j => s j + 1)) := by
    rw [tabl_map]
    refine tabl_congr fun j hj => ?_
    simp only [incO, since]
    rw [W_succ (s j) (by have := hs j hj; omega)]
  simp only [tickS, Wt, hm]
  have hw : wholeB (tabl n (since fun j => s j + 1)) = true := by rw [wholeB, tabl_all]; intro j _; rfl
  have hl : lateB p (tabl n (since fun j => s j + 1)) = true ↔ ∃ j, j < n ∧ p ≤ ((s j + 1 : Nat) : Int) := by
    rw [lateB, tabl_any]
    simp [lateR, since]
  by_cases h : ∃ j, j < n ∧ p ≤ ((s j + 1 : Nat) : Int)
  · rw [if_pos h, if_pos ⟨hw, hl.2 h⟩]
    simp only [bumpS, tabl_len, tabl_rep]; rfl
  · rw [if_neg h, if_neg (fun e => h (hl.1 e.2))]
theorem W_3 (i : Nat) (hi : i < 1000) : IntKind.i64.wrap (3 + (i : Int)) = ((3 + i : Nat) : Int) := by rw [W_in (by omega)]; omega
section
variable (a b : Int) (s : S_law24_Stay) (n : Nat) (p : Nat) (hn : n ≤ 8) (hn1 : 1 ≤ n) (hp : p ≤ 20) (hp1 : 1 ≤ p)
include hn hn1 hp hp1
theorem stays_L8 (j21 : Int) (k2 : S_beat_Watch → Int → Option Bool) : ∀ (d m k : Nat) (f : Nat → Nat), k + d = n → d < m → (∀ j, j < k → f j = 0) →
    law24_BeatStays.L8 (n : Int) j21 k2 m (Wt n p 1 (since f)) (k : Int) = k2 (Wt n p 1 (since (fun _ => 0))) (IntKind.i64.wrap (j21 + 1)) := by
  intro d
  induction d with
  | zero =>
    intro m k f hk hm hf
    obtain ⟨m, rfl⟩ : ∃ q, m = q + 1 := ⟨m - 1, by omega⟩
    rw [law24_BeatStays.L8, if_neg (by omega)]
    congr 1
    unfold Wt
    congr 1
    exact tabl_congr fun j hj => by simp only [since]; rw [hf j (by omega)]
  | succ d ih =>
    intro m k f hk hm hf
    obtain ⟨m, rfl⟩ : ∃ q, m = q + 1 := ⟨m - 1, by omega⟩
    rw [law24_BeatStays.L8, if_pos (by omega), W_3 k (by omega), beat_eq, beat_now n p f k (by omega)]
    simp only [Option.bind_some, Bool.false_eq_true, if_false]
    rw [beat_eq, beat_old n p _ k (by omega)]
    simp only [Option.bind_some, Bool.false_eq_true, if_false]
    rw [W_succ k (by omega)]
    refine ih m (k + 1) _ (by omega) (by omega) fun j hj => ?_
    unfold up
    split
    · rfl
    · exact hf j (by omega)
theorem stays_L7 (j21 : Int) (k2 : S_beat_Watch → Int → Option Bool) : ∀ (d m k : Nat), k + 1 + d = p → d < m →
    law24_BeatStays.L7 1000 (n : Int) (p : Int) j21 k2 m (Wt n p 1 (since fun _ => k)) ((k + 1 : Nat) : Int) = k2 (Wt n p 1 (since (fun _ => 0))) (IntKind.i64.wrap (j21 + 1)) := by
  intro d
  induction d with
  | zero =>
    intro m k hk hm
    obtain ⟨m, rfl⟩ : ∃ q, m = q + 1 := ⟨m - 1, by omega⟩
    rw [law24_BeatStays.L7, if_neg (by omega)]
    exact stays_L8 n p hn hn1 hp hp1 j21 k2 n 1000 0 _ (by omega) (by omega) (fun j hj => by omega)
  | succ d ih =>
    intro m k hk hm
    obtain ⟨m, rfl⟩ : ∃ q, m = q + 1 := ⟨m - 1, by omega⟩
    rw [law24_BeatStays.L7, if_pos (by omega), tick_eq _ (by simp [Wt, tabl_len]; omega), tick_since n p _ (fun j _ => by omega), if_neg (by rintro ⟨j, _, h⟩; omega)]
    simp only [Option.bind_some, Bool.false_eq_true, if_false]
    rw [W_succ (k + 1) (by omega)]
    exact ih m (k + 1) (by omega) (by omega)
theorem stays_J3 (who : Nat) (hw : who < n) : law24_BeatStays.J3 1000 (n : Int) (who : Int) (Wt n p 2 (fun _ => ⟨false, 0, 0⟩)) = some true := by
  have hmiss : ∀ (f : Nat → S_beat_one), beat_Watch_Missing 1000 (Wt n p 2 f) = some (sel notR (tabl n f) 0) := fun f => missing_eq _ (by simp [Wt, tabl_len]; omega)
  have h0 : (sel notR (tabl n (fun _ => (⟨false, 0, 0⟩ : S_beat_one))) 0).length = n := by
    rw [sel_every, tabl_len]
    intro o ho
    simp [tabl] at ho
    rw [← ho.2]; rfl
  have hr1 : readyS (Wt n p 2 (fun _ => ⟨false, 0, 0⟩)) (who : Int) 1 ((3 + who : Nat) : Int) = (false, Wt n p 2 (fun _ => ⟨false, 0, 0⟩)) := by
    rw [readyS_in (o := ⟨false, 0, 0⟩) (tabl_get? hw), if_pos (by simp [Wt])]
  have hr2 : readyS (Wt n p 2 (fun _ => ⟨false, 0, 0⟩)) (who : Int) 2 50 = (false, Wt n p 2 (fun j => if j = who then ⟨true, 50, 0⟩ else ⟨false, 0, 0⟩)) := by
    rw [readyS_in (o := ⟨false, 0, 0⟩) (tabl_get? hw), if_neg (by simp [Wt]), if_neg (by simp)]
    simp only [Wt, tabl_set]
  have h1 : (sel notR (tabl n (fun j => if j = who then (⟨true, 50, 0⟩ : S_beat_one) else ⟨false, 0, 0⟩)) 0).length = n - 1 := by
    have key : ∀ n, n ≤ 8 → ∀ who, who < n → (sel notR (tabl n (fun j => if j = who then (⟨true, 50, 0⟩ : S_beat_one) else ⟨false, 0, 0⟩)) 0).length = n - 1 := by decide +kernel
    exact key n hn who hw
  rw [law24_BeatStays.J3]
  simp only [beat_Watch_Epoch, Option.bind_some, hmiss, h0, ready_eq]
  simp only [W_3 who (by omega), hr1, hr2]
  simp only [Wt, if_true, Option.bind_some, Bool.false_eq_true, if_false]
  have e2 : beat_Watch_Missing 1000 ⟨(p : Int), 2, tabl n (fun j => if j = who then (⟨true, 50, 0⟩ : S_beat_one) else ⟨false, 0, 0⟩)⟩ = some (sel notR (tabl n (fun j => if j = who then (⟨true, 50, 0⟩ : S_beat_one) else ⟨false, 0, 0⟩)) 0) := hmiss _
  have e1 : beat_Watch_Missing 1000 ⟨(p : Int), 2, tabl n (fun _ => (⟨false, 0, 0⟩ : S_beat_one))⟩ = some (sel notR (tabl n (fun _ => (⟨false, 0, 0⟩ : S_beat_one))) 0) := hmiss _
  simp only [e1, e2, Option.bind_some, h0, h1, if_true]
  rw [W_in (by omega)]
  simp; omega
theorem stays_L5 (who : Nat) (hw : who < n) (q : Nat) (hq : 1 ≤ q) (hqp : q ≤ p) (k4 : S_beat_Watch → Int → Option Bool) : ∀ (d m k : Nat) (f : Nat → Nat), k + d = n → d < m → (∀ j, j < k → j ≠ who → f j = 0) → f who = q - 1 →
    law24_BeatStays.L5 1000 (n : Int) (p : Int) (who : Int) (q : Int) k4 m (Wt n p 1 (since f)) (k : Int) =
      k4 (if q = p then Wt n p 2 (fun _ => ⟨false, 0, 0⟩) else Wt n p 1 (since (fun j => if j = who then q else 1))) ((q + 1 : Nat) : Int) := by
  intro d
  induction d with
  | zero =>
    intro m k f hk hm hf hfw
    obtain ⟨m, rfl⟩ : ∃ q, m = q + 1 := ⟨m - 1, by omega⟩
    have hs : ∀ j, j < n → f j < 1000 := fun j hj => by
      by_cases e : j = who
      · subst e; omega
      · rw [hf j (by omega) e]; omega
    rw [law24_BeatStays.L5, if_neg (by omega), tick_eq _ (by simp [Wt, tabl_len]; omega), tick_since n p f hs]
    by_cases hqp' : q = p
    · have h9 : ∃ j, j < n ∧ (p : Int) ≤ ((f j + 1 : Nat) : Int) := ⟨who, hw, by omega⟩
      rw [if_pos h9, if_pos hqp']
      simp only [Option.bind_some]
      rw [if_neg (by simp [hqp']), W_succ q (by omega)]
    · have h9 : ¬ ∃ j, j < n ∧ (p : Int) ≤ ((f j + 1 : Nat) : Int) := by
        rintro ⟨j, hj, h⟩
        by_cases e : j = who
        · subst e; omega
        · rw [hf j (by omega) e] at h; omega
      rw [if_neg h9, if_neg hqp']
      simp only [Option.bind_some]
      rw [if_neg (by simp; omega), W_succ q (by omega)]
      congr 1
      unfold Wt
      congr 1
      exact tabl_congr fun j hj => by
        simp only [since]
        by_cases e : j = who
        · subst e; rw [if_pos rfl, hfw, show q - 1 + 1 = q by omega]
        · rw [if_neg e, hf j (by omega) e]
  | succ d ih =>
    intro m k f hk hm hf hfw
    obtain ⟨m, rfl⟩ : ∃ q, m = q + 1 := ⟨m - 1, by omega⟩
    rw [law24_BeatStays.L5, if_pos (by omega)]
    by_cases e : k = who
    · rw [if_neg (by omega), law24_BeatStays.J6, W_succ k (by omega)]
      exact ih m (k + 1) f (by omega) (by omega) (fun j hj hne => hf j (by omega) hne) hfw
    · rw [if_pos (by omega), W_3 k (by omega), beat_eq, beat_now n p f k (by omega)]
      simp only [Option.bind_some, law24_BeatStays.J6]
      rw [W_succ k (by omega)]
      refine ih m (k + 1) _ (by omega) (by omega) (fun j hj hne => ?_) ?_
      · unfold up
        split
        · rfl
        · exact hf j (by omega) hne
      · unfold up; rw [if_neg (fun h => e h.symm)]; exact hfw
theorem stays_L4 (who : Nat) (hw : who < n) : ∀ (d m q : Nat) (f : Nat → Nat), q + d = p → 1 ≤ q → d + 1 < m → f who = q - 1 →
    law24_BeatStays.L4 1000 (n : Int) (p : Int) (who : Int) m (Wt n p 1 (since f)) (q : Int) = some true := by
  intro d
  induction d with
  | zero =>
    intro m q f hq h1 hm hf
    obtain ⟨m, rfl⟩ : ∃ q, m = q + 2 := ⟨m - 2, by omega⟩
    rw [law24_BeatStays.L4, if_pos (by omega), show (0 : Int) = ((0 : Nat) : Int) from rfl, stays_L5 n p hn hn1 hp hp1 who hw q h1 (by omega) _ n 1000 0 f (by omega) (by omega) (fun j hj => by omega) hf, if_pos (by omega)]
    rw [law24_BeatStays.L4, if_neg (by omega)]
    exact stays_J3 n p hn hn1 hp hp1 who hw
  | succ d ih =>
    intro m q f hq h1 hm hf
    obtain ⟨m, rfl⟩ : ∃ q, m = q + 1 := ⟨m - 1, by omega⟩
    rw [law24_BeatStays.L4, if_pos (by omega), show (0 : Int) = ((0 : Nat) : Int) from rfl, stays_L5 n p hn hn1 hp hp1 who hw q h1 (by omega) _ n 1000 0 f (by omega) (by omega) (fun j hj => by omega) hf, if_neg (by omega)]
    exact ih m (q + 1) _ (by omega) (by omega) (by omega) (by simp)
theorem stays_L2 : ∀ (d m k : Nat) (e22 : Nat), k + d = e22 → d < m → e22 ≤ 40 →
    law24_BeatStays.L2 1000 s (n : Int) (p : Int) (e22 : Int) m (Wt n p 1 (since fun _ => 0)) (k : Int) = some true := by
  intro d
  induction d with
  | zero =>
    intro m k e22 hk hm he
    obtain ⟨m, rfl⟩ : ∃ q, m = q + 1 := ⟨m - 1, by omega⟩
    obtain ⟨who, hw, hwho⟩ := W_restN s.Who n (by omega) (by omega)
    have hwl : wholeB (tabl n (since fun _ => 0)) = true := by rw [wholeB, tabl_all]; intro j _; rfl
    rw [law24_BeatStays.L2, if_neg (by omega)]
    simp only [beat_Watch_Epoch, Option.bind_some]
    rw [if_neg (by simp [Wt]), whole_eq _ (by simp [Wt, tabl_len]; omega)]
    simp only [Option.bind_some]
    rw [if_pos (show wholeB (Wt n p 1 (since fun x => 0)).l = true from hwl), chk_ok _ (by omega), chk_ok _ (by omega), hwho]
    split
    · rw [beat_eq, beat_life n p _ who hw hn]
      simp only [Option.bind_some, if_true]
      exact stays_J3 n p hn hn1 hp hp1 who hw
    · exact stays_L4 n p hn hn1 hp hp1 who hw (p - 1) 1000 1 _ (by omega) (by omega) (by omega) rfl
  | succ d ih =>
    intro m k e22 hk hm he
    obtain ⟨m, rfl⟩ : ∃ q, m = q + 1 := ⟨m - 1, by omega⟩
    have h7 := stays_L7 n p hn hn1 hp hp1 (k : Int) (law24_BeatStays.L2 1000 s (n : Int) (p : Int) (e22 : Int) m) (p - 1) 1000 0 (by omega) (by omega)
    rw [show ((0 + 1 : Nat) : Int) = 1 from rfl, W_succ k (by omega)] at h7
    rw [law24_BeatStays.L2, if_pos (by omega), h7]
    exact ih m (k + 1) e22 (by omega) (by omega) he
theorem stays_L1 : ∀ (d m k : Nat), k + d = n → d < m →
    law24_BeatStays.L1 1000 s (n : Int) (p : Int) m (Wt n p 1 (fun j => if j < k then since (fun _ => 0) j else ⟨false, 0, 0⟩)) (k : Int) = some true := by
  intro d
  induction d with
  | zero =>
    intro m k hk hm
    obtain ⟨m, rfl⟩ : ∃ q, m = q + 1 := ⟨m - 1, by omega⟩
    obtain ⟨e, he, hee⟩ := W_restN s.Rounds 40 (by omega) (by omega)
    have hee' : Int.tmod (IntKind.i64.wrap ((Int.tmod s.Rounds 40) + 40)) 40 = (e : Int) := hee
    rw [law24_BeatStays.L1, if_neg (by omega), hee']
    have : Wt n p 1 (fun j => if j < k then since (fun _ => 0) j else ⟨false, 0, 0⟩) = Wt n p 1 (since fun _ => 0) := by
      unfold Wt
      congr 1
      exact tabl_congr fun j hj => by rw [if_pos (by omega)]
    rw [this]
    exact stays_L2 s n p hn hn1 hp hp1 e 1000 0 e (by omega) (by omega) (by omega)
  | succ d ih =>
    intro m k hk hm
    obtain ⟨m, rfl⟩ : ∃ q, m = q + 1 := ⟨m - 1, by omega⟩
    rw [law24_BeatStays.L1, if_pos (by omega), W_3 k (by omega), ready_eq, readyS_in (o := ⟨false, 0, 0⟩) (by show (tabl n _)[k]? = _; rw [tabl_get? (by omega), if_neg (by omega)]), if_neg (by simp [Wt]), if_neg (by simp)]
    simp only [Option.bind_some, Bool.false_eq_true, if_false]
    rw [W_succ k (by omega)]
    have := ih m (k + 1) (by omega) (by omega)
    simp only [Wt, tabl_set] at this ⊢
    have e : (fun j => if j = k then (⟨true, ((3 + k : Nat) : Int), 0⟩ : S_beat_one) else if j < k then since (fun _ => 0) j else ⟨false, 0, 0⟩) = (fun j => if j < k + 1 then since (fun _ => 0) j else ⟨false, 0, 0⟩) := by
      funext j
      by_cases e1 : j = k
      · subst e1; rw [if_pos rfl, if_pos (by omega)]; rfl
      · by_cases e2 : j < k
        · rw [if_neg e1, if_pos e2, if_pos (by omega)]
        · rw [if_neg e1, if_neg e2, if_neg (by omega)]
    rw [e]
    exact this
end
theorem stays (workers patience : Int) (s : S_law24_Stay) : law24_BeatStays 1000 workers patience s = some true := by
  rw [law24_BeatStays, awake24]
  simp only [Option.bind_some, if_true]
  obtain ⟨n, h1, h3⟩ := W_restN workers 8 (by omega) (by omega)
  obtain ⟨p, h2, h4⟩ := W_restN patience 20 (by omega) (by omega)
  have h5 : Int.tmod (IntKind.i64.wrap (Int.tmod workers 8 + 8)) 8 = n := h3
  have h6 : Int.tmod (IntKind.i64.wrap (Int.tmod patience 20 + 20)) 20 = p := h4
  rw [show IntKind.i64.wrap (1 + Int.tmod (IntKind.i64.wrap (Int.tmod workers 8 + 8)) 8) = ((n + 1 : Nat) : Int) by rw [h5, W_in (by omega)]; omega,
    show IntKind.i64.wrap (1 + Int.tmod (IntKind.i64.wrap (Int.tmod patience 20 + 20)) 20) = ((p + 1 : Nat) : Int) by rw [h6, W_in (by omega)]; omega]
  rw [new_ok _ _ (by omega)]
  simp only [Option.bind_some, optc, ne_eq, not_true, if_false]
  have := stays_L1 s (n + 1) (p + 1) (by omega) (by omega) (by omega) (by omega) (n + 1) 1000 0 (by omega) (by omega)
  simpa [Wt, tabl_rep] using this
end Go.Proofs.Ytmphbmocpiolfaa
