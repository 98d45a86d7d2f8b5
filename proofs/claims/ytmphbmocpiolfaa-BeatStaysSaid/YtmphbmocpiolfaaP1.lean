/- What a watch's functions come to. -/
import Derived.Test.YtmphbmocpiolfaaT1b
import Derived.Test.YtmphbmocpiolfaaPl
namespace Go.Proofs.Ytmphbmocpiolfaa
open Go Go.Hp
set_option linter.unusedVariables false
theorem awake24 : law24_awake 1000 = some true := by decide +kernel
def notR (o : S_beat_one) : Bool := !o.ready
def lateR (p : Int) (o : S_beat_one) : Bool := o.ready && decide (o.since ≥ p)
theorem missing_loop (x : S_beat_Watch) (hx : x.l.length ≤ 64) : ∀ (d m k : Nat), k + d = x.l.length → d < m →
    beat_Watch_Missing.L1 x m (sel notR (x.l.take k) 0) (k : Int) = some (sel notR x.l 0) := by
  intro d
  induction d with
  | zero =>
    intro m k hk hm
    obtain ⟨m, rfl⟩ : ∃ q, m = q + 1 := ⟨m - 1, by omega⟩
    rw [beat_Watch_Missing.L1, if_neg (by omega), List.take_of_length_le (by omega)]
  | succ d ih =>
    intro m k hk hm
    obtain ⟨m, rfl⟩ : ∃ q, m = q + 1 := ⟨m - 1, by omega⟩
    have hlt : k < x.l.length := by omega
    have hs := sel_snoc notR x.l k hlt
    have hle := sel_len notR (x.l.take k) 0
    rw [List.length_take] at hle
    have h2 := ih m (k + 1) (by omega) (by omega)
    rw [hs] at h2
    rw [beat_Watch_Missing.L1, if_pos (by omega), idx_get _ _ hlt]
    simp only [Option.bind_some, beat_one_missing, beat_Watch_Missing.J2]
    rw [W_succ k (by omega)]
    cases hr : x.l[k].ready
    · rw [show notR x.l[k] = true by simp [notR, hr], if_pos rfl] at h2
      simp only [Bool.false_eq_true, if_false, Option.bind_some, if_true]
      rw [app_ok _ _ (by simp; omega)]
      exact h2
    · rw [show notR x.l[k] = false by simp [notR, hr], if_neg (by simp), List.append_nil] at h2
      simpa using h2
theorem missing_eq (x : S_beat_Watch) (hx : x.l.length ≤ 64) : beat_Watch_Missing 1000 x = some (sel notR x.l 0) := by
  have := missing_loop x hx x.l.length 1000 0 (by omega) (by omega)
  simpa [sel, beat_Watch_Missing] using this
theorem late_loop (x : S_beat_Watch) (hx : x.l.length ≤ 64) : ∀ (d m k : Nat), k + d = x.l.length → d < m →
    beat_Watch_Late.L1 x m (sel (lateR x.patience) (x.l.take k) 0) (k : Int) = some (sel (lateR x.patience) x.l 0) := by
  intro d
  induction d with
  | zero =>
    intro m k hk hm
    obtain ⟨m, rfl⟩ : ∃ q, m = q + 1 := ⟨m - 1, by omega⟩
    rw [beat_Watch_Late.L1, if_neg (by omega), List.take_of_length_le (by omega)]
  | succ d ih =>
    intro m k hk hm
    obtain ⟨m, rfl⟩ : ∃ q, m = q + 1 := ⟨m - 1, by omega⟩
    have hlt : k < x.l.length := by omega
    have hs := sel_snoc (lateR x.patience) x.l k hlt
    have hle := sel_len (lateR x.patience) (x.l.take k) 0
    rw [List.length_take] at hle
    have h2 := ih m (k + 1) (by omega) (by omega)
    rw [hs] at h2
    rw [beat_Watch_Late.L1, if_pos (by omega), idx_get _ _ hlt]
    simp only [Option.bind_some, beat_Watch_Late.J3, beat_Watch_Late.J2]
    rw [W_succ k (by omega)]
    cases hl : lateR x.patience x.l[k]
    · rw [hl, if_neg (by simp), List.append_nil] at h2
      cases hr : x.l[k].ready
      · simpa using h2
      · have : decide (x.l[k].since ≥ x.patience) = false := by simpa [lateR, hr] using hl
        rw [this]; simpa using h2
    · rw [hl, if_pos rfl] at h2
      have hr : x.l[k].ready = true := by simp [lateR] at hl; exact hl.1
      have h3 : decide (x.l[k].since ≥ x.patience) = true := by simp [lateR] at hl; simpa using hl.2
      rw [hr, h3, if_pos rfl, if_pos rfl, app_ok _ _ (by simp; omega)]
      exact h2
theorem late_eq (x : S_beat_Watch) (hx : x.l.length ≤ 64) : beat_Watch_Late 1000 x = some (sel (lateR x.patience) x.l 0) := by
  have := late_loop x hx x.l.length 1000 0 (by omega) (by omega)
  simpa [sel, beat_Watch_Late] using this
def bumpS (x : S_beat_Watch) : S_beat_Watch := ⟨x.patience, IntKind.i64.wrap (x.epoch + 1), List.replicate x.l.length ⟨false, 0, 0⟩⟩
theorem bump_eq (x : S_beat_Watch) : beat_Watch_Bump x = some ((bumpS x).epoch, bumpS x) := rfl
def incO (o : S_beat_one) : S_beat_one := { o with since := IntKind.i64.wrap (o.since + 1) }
def wholeB (l : List S_beat_one) : Bool := l.all (·.ready)
def lateB (p : Int) (l : List S_beat_one) : Bool := l.any (lateR p)
theorem sel_notR (l : List S_beat_one) (i : Nat) : (sel notR l i).length = 0 ↔ wholeB l = true := by
  induction l generalizing i with
  | nil => simp [sel, wholeB]
  | cons o l ih =>
    have := ih (i + 1)
    cases hr : o.ready <;> simp [sel, notR, wholeB, hr] at this ⊢
    exact this
theorem sel_lateR (p : Int) (l : List S_beat_one) (i : Nat) : (sel (lateR p) l i).length = 0 ↔ lateB p l = false := by
  induction l generalizing i with
  | nil => simp [sel, lateB]
  | cons o l ih =>
    have := ih (i + 1)
    cases hr : lateR p o <;> simp [sel, lateB, hr] at this ⊢
    exact this
theorem whole_eq (x : S_beat_Watch) (hx : x.l.length ≤ 64) : beat_Watch_Whole 1000 x = some (wholeB x.l) := by
  rw [beat_Watch_Whole, missing_eq x hx]
  have := sel_notR x.l 0
  cases h : wholeB x.l
  · have h2 : ¬ (sel notR x.l 0).length = 0 := fun e => by rw [this.1 e] at h; cases h
    simp only [Option.bind_some, Option.some.injEq, decide_eq_false_iff_not]; omega
  · have h2 := this.2 h
    simp only [Option.bind_some, Option.some.injEq, decide_eq_true_eq]; omega
def tickS (x : S_beat_Watch) : Bool × S_beat_Watch :=
  let y : S_beat_Watch := { x with l := x.l.map incO }
  if wholeB y.l = true ∧ lateB y.patience y.l = true then (true, bumpS y) else (false, y)
theorem tick_loop (x : S_beat_Watch) (hx : x.l.length ≤ 64) : ∀ (d m k : Nat), k + d = x.l.length → d < m →
    beat_Watch_Tick.L1 1000 x m { x with l := (x.l.take k).map incO ++ x.l.drop k } (k : Int) = some (tickS x) := by
  intro d
  induction d with
  | zero =>
    intro m k hk hm
    obtain ⟨m, rfl⟩ : ∃ q, m = q + 1 := ⟨m - 1, by omega⟩
    rw [beat_Watch_Tick.L1, if_neg (by omega), List.take_of_length_le (by omega), List.drop_of_length_le (by omega), List.append_nil]
    rw [whole_eq _ (by simpa using hx), late_eq _ (by simpa using hx)]
    have h1 := sel_lateR x.patience (x.l.map incO) 0
    simp only [Option.bind_some, bump_eq, tickS]
    cases hw : wholeB (x.l.map incO)
    · simp
    · cases hl : lateB x.patience (x.l.map incO)
      · rw [hl] at h1
        rw [if_pos rfl, if_pos (by have := h1.2 rfl; omega)]; simp
      · rw [hl] at h1
        rw [if_pos rfl, if_neg (by intro e; have := h1.1 (by omega); simp at this)]; simp
  | succ d ih =>
    intro m k hk hm
    obtain ⟨m, rfl⟩ : ∃ q, m = q + 1 := ⟨m - 1, by omega⟩
    have hlt : k < x.l.length := by omega
    have hg : ((x.l.take k).map incO ++ x.l.drop k)[k]? = some x.l[k] := by
      rw [List.getElem?_append_right (by simp; omega)]
      simp [Nat.min_eq_left (Nat.le_of_lt hlt)]
    have hset : ((x.l.take k).map incO ++ x.l.drop k).set k (incO x.l[k]) = (x.l.take (k + 1)).map incO ++ x.l.drop (k + 1) := by
      rw [List.set_append_right _ _ (by simp; omega)]
      simp only [List.length_map, List.length_take, Nat.min_eq_left (Nat.le_of_lt hlt), Nat.sub_self]
      rw [List.drop_eq_getElem_cons hlt, List.set_cons_zero, List.take_succ_eq_append_getElem hlt, List.map_append]
      simp
    rw [beat_Watch_Tick.L1, if_pos (by omega), idx_nat, hg]
    simp only [Option.bind_some, Int.toNat_natCast]
    have h2 := ih m (k + 1) (by omega) (by omega)
    rw [← hset] at h2
    rw [W_succ k (by omega)]
    exact h2
theorem tick_eq (x : S_beat_Watch) (hx : x.l.length ≤ 64) : beat_Watch_Tick 1000 x = some (tickS x) := by
  have := tick_loop x hx x.l.length 1000 0 (by omega) (by omega)
  simpa [beat_Watch_Tick] using this
def heardS (x : S_beat_Watch) (k : Nat) (o : S_beat_one) (life : Int) (now : Bool) : Bool × S_beat_Watch :=
  if life > o.life then (true, bumpS x) else if now = true ∧ life = o.life then (false, { x with l := x.l.set k { o with since := 0 } }) else (false, x)
theorem heard_eq (x : S_beat_Watch) (k : Nat) (h : k < x.l.length) (life : Int) (now : Bool) : beat_Watch_heard x (k : Int) life now = some (heardS x k x.l[k] life now) := by
  rw [beat_Watch_heard, idx_get _ _ h]
  simp only [Option.bind_some, beat_Watch_heard.J1, bump_eq, heardS, Int.toNat_natCast]
  split
  · rfl
  · cases now
    · simp
    · by_cases e : life = x.l[k].life <;> simp [e]
theorem there_eq (x : S_beat_Watch) (i : Int) : beat_Watch_there x i = some (decide (0 ≤ i ∧ i < x.l.length)) := by
  rw [beat_Watch_there]
  split
  · congr 1; simp only [decide_eq_decide]; constructor
    · intro h; exact ⟨by omega, by omega⟩
    · intro h; omega
  · rw [decide_eq_false (by omega)]
def beatS (x : S_beat_Watch) (worker epoch life : Int) : Bool × S_beat_Watch :=
  match (if 0 ≤ worker then x.l[worker.toNat]? else none) with
  | none => (false, x)
  | some o => if o.ready = true then heardS x worker.toNat o life (decide (epoch = x.epoch)) else (false, x)
def readyS (x : S_beat_Watch) (worker epoch life : Int) : Bool × S_beat_Watch :=
  match (if 0 ≤ worker then x.l[worker.toNat]? else none) with
  | none => (false, x)
  | some o => if epoch ≠ x.epoch then (false, x) else if o.ready = true then heardS x worker.toNat o life true else (false, { x with l := x.l.set worker.toNat ⟨true, life, 0⟩ })
theorem beat_eq (x : S_beat_Watch) (worker epoch life : Int) : beat_Watch_Beat x worker epoch life = some (beatS x worker epoch life) := by
  rw [beat_Watch_Beat, there_eq]
  by_cases h : 0 ≤ worker ∧ worker < x.l.length
  · obtain ⟨k, rfl⟩ := Int.eq_ofNat_of_zero_le h.1
    have hk : k < x.l.length := by omega
    have e : (if (0 : Int) ≤ (k : Int) then x.l[(k : Int).toNat]? else none) = some x.l[k] := by rw [if_pos (by omega), Int.toNat_natCast, List.getElem?_eq_getElem hk]
    rw [beatS, e, decide_eq_true h, idx_get _ _ hk, heard_eq x k hk]
    simp only [Option.bind_some, Int.toNat_natCast, if_true]
    split <;> rfl
  · have e : (if 0 ≤ worker then x.l[worker.toNat]? else none) = none := by
      split
      · exact List.getElem?_eq_none (by omega)
      · rfl
    rw [beatS, e, decide_eq_false h]; rfl
theorem ready_eq (x : S_beat_Watch) (worker epoch life : Int) : beat_Watch_Ready x worker epoch life = some (readyS x worker epoch life) := by
  rw [beat_Watch_Ready, there_eq]
  by_cases h : 0 ≤ worker ∧ worker < x.l.length
  · obtain ⟨k, rfl⟩ := Int.eq_ofNat_of_zero_le h.1
    have hk : k < x.l.length := by omega
    have e : (if (0 : Int) ≤ (k : Int) then x.l[(k : Int).toNat]? else none) = some x.l[k] := by rw [if_pos (by omega), Int.toNat_natCast, List.getElem?_eq_getElem hk]
    rw [readyS, e, decide_eq_true h, idx_get _ _ hk, heard_eq x k hk]
    simp only [Option.bind_some, Int.toNat_natCast, if_true]
    split
    · rfl
    · split <;> rfl
  · have e : (if 0 ≤ worker then x.l[worker.toNat]? else none) = none := by
      split
      · exact List.getElem?_eq_none (by omega)
      · rfl
    rw [readyS, e, decide_eq_false h]; rfl
/-- What holds of each thing that a watch hears. -/
def Rise (x : S_beat_Watch) (r : Bool × S_beat_Watch) : Prop :=
  r.2.l.length = x.l.length ∧ r.2.patience = x.patience ∧ (r.1 = true → r.2.epoch = IntKind.i64.wrap (x.epoch + 1) ∧ ∀ o ∈ r.2.l, o.ready = false) ∧ (r.1 = false → r.2.epoch = x.epoch)
theorem rise_bump (x : S_beat_Watch) : Rise x (true, bumpS x) := ⟨by simp [bumpS], rfl, fun _ => ⟨rfl, fun o ho => by simp [bumpS] at ho; rw [ho.2]⟩, fun h => by cases h⟩
theorem rise_heard (x : S_beat_Watch) (k : Nat) (o : S_beat_one) (life : Int) (now : Bool) : Rise x (heardS x k o life now) := by
  unfold heardS
  split
  · exact rise_bump x
  · split
    · exact ⟨by simp, rfl, (fun h => by cases h), fun _ => rfl⟩
    · exact ⟨rfl, rfl, (fun h => by cases h), fun _ => rfl⟩
theorem rise_tick (x : S_beat_Watch) : Rise x (tickS x) := by
  simp only [tickS]
  split
  · have := rise_bump { x with l := x.l.map incO }
    exact ⟨by simpa using this.1, this.2.1, this.2.2.1, this.2.2.2⟩
  · exact ⟨by simp, rfl, (fun h => by cases h), fun _ => rfl⟩
theorem rise_same (x : S_beat_Watch) : Rise x (false, x) := ⟨rfl, rfl, (fun h => by cases h), fun _ => rfl⟩
theorem rise_beat (x : S_beat_Watch) (worker epoch life : Int) : Rise x (beatS x worker epoch life) := by
  unfold beatS
  split
  · exact rise_same x
  · split
    · exact rise_heard _ _ _ _ _
    · exact rise_same x
theorem rise_ready (x : S_beat_Watch) (worker epoch life : Int) : Rise x (readyS x worker epoch life) := by
  unfold readyS
  split
  · exact rise_same x
  · split
    · exact rise_same x
    · split
      · exact rise_heard _ _ _ _ _
      · exact ⟨by simp, rfl, (fun h => by cases h), fun _ => rfl⟩
theorem new_ok (n p : Int) (h : 1 ≤ n ∧ n ≤ 64 ∧ 1 ≤ p ∧ p ≤ 10000) : beat_New n p = some (some ⟨p, 1, List.replicate n.toNat ⟨false, 0, 0⟩⟩, 0) := by
  rw [beat_New, if_neg (by omega), if_neg (by omega), if_neg (by omega), if_neg (by omega), chk_ok _ (by omega)]
theorem rises_step (n : Nat) (hn : n ≤ 64) (acts : List S_law24_Act) (q : Nat) (k : Nat) (x : S_beat_Watch) (r : Bool × S_beat_Watch) (hx : x.l.length = n) (hr : Rise x r) (hk : k < 200) (k1 : S_beat_Watch → Int → Option Bool) :
    law24_BeatRises.J2 1000 (n : Int) (k : Int) x.epoch k1 r.2 r.1 = k1 r.2 ((k + 1 : Nat) : Int) := by
  obtain ⟨h1, _, h2, h3⟩ := hr
  rw [law24_BeatRises.J2]
  cases hb : r.1
  · simp only [Bool.false_eq_true, if_false, law24_BeatRises.J3, law24_BeatRises.J4, beat_Watch_Epoch, Option.bind_some, h3 hb, ne_eq, not_true, if_false]
    rw [W_succ k (by omega)]
  · obtain ⟨h4, h5⟩ := h2 hb
    have hm : (sel notR r.2.l 0).length = n := by rw [sel_every notR _ _ (fun o ho => by simp [notR, h5 o ho])]; omega
    have hl : sel (lateR r.2.patience) r.2.l 0 = [] := sel_none _ _ _ (fun o ho => by simp [lateR, h5 o ho])
    simp only [if_true, law24_BeatRises.J3, law24_BeatRises.J4, beat_Watch_Epoch, Option.bind_some, h4, ne_eq, not_true, if_false]
    rw [missing_eq _ (by omega), late_eq _ (by omega), hl]
    simp only [Option.bind_some, hm, not_true, if_false, List.length_nil]
    rw [W_succ k (by omega)]
    rfl
theorem rises_loop (n : Nat) (hn : n ≤ 64) (acts : List S_law24_Act) (ha : acts.length ≤ 200) : ∀ (d m k : Nat) (x : S_beat_Watch), k + d = acts.length → d < m → x.l.length = n →
    law24_BeatRises.L1 1000 acts (n : Int) m x (k : Int) = some true := by
  intro d
  induction d with
  | zero =>
    intro m k x hk hm hx
    obtain ⟨m, rfl⟩ : ∃ q, m = q + 1 := ⟨m - 1, by omega⟩
    rw [law24_BeatRises.L1, if_neg (by omega)]
  | succ d ih =>
    intro m k x hk hm hx
    obtain ⟨m, rfl⟩ : ∃ q, m = q + 1 := ⟨m - 1, by omega⟩
    have hlt : k < acts.length := by omega
    rw [law24_BeatRises.L1, if_pos (by omega), idx_get _ _ hlt]
    simp only [Option.bind_some, beat_Watch_Epoch, tick_eq x (by omega), beat_eq, ready_eq, bump_eq]
    have go : ∀ r : Bool × S_beat_Watch, Rise x r → law24_BeatRises.J2 1000 (n : Int) (k : Int) x.epoch (law24_BeatRises.L1 1000 acts (n : Int) m) r.2 r.1 = some true := fun r hr => by
      rw [rises_step n hn acts m k x r hx hr (by omega)]
      exact ih m (k + 1) r.2 (by omega) (by omega) (by rw [hr.1, hx])
    split
    · exact go _ (rise_tick x)
    · split
      · exact go _ (rise_beat x _ _ _)
      · split
        · exact go _ (rise_ready x _ _ _)
        · split
          · rw [if_pos (by simp [bumpS])]; exact go (true, bumpS x) (rise_bump x)
          · exact go (false, x) (rise_same x)
theorem rises (workers : Int) (acts : List S_law24_Act) : law24_BeatRises 1000 workers acts = some true := by
  rw [law24_BeatRises, awake24]
  simp only [Option.bind_some, if_true]
  split
  · rfl
  · obtain ⟨n, h1, h3⟩ := W_restN workers 6 (by omega) (by omega)
    rw [show IntKind.i64.wrap (1 + Int.tmod (IntKind.i64.wrap (Int.tmod workers 6 + 6)) 6) = ((n + 1 : Nat) : Int) by
      have h4 : Int.tmod (IntKind.i64.wrap (Int.tmod workers 6 + 6)) 6 = n := h3
      rw [h4, W_in (by omega)]; omega]
    rw [new_ok _ 3 (by omega)]
    simp only [Option.bind_some, optc, ne_eq, not_true, if_false]
    exact rises_loop (n + 1) (by omega) acts (by omega) acts.length 1000 0 _ (by omega) (by omega) (by simp)
end Go.Proofs.Ytmphbmocpiolfaa
