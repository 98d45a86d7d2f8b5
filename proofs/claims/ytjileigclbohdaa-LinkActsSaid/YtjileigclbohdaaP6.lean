/- Whatever a link is asked, each answer and all that it tells is the document's. -/
import Derived.Test.YtjileigclbohdaaP5
namespace Go.Proofs.Ytjileigclbohdaa
open Go Go.Hp
set_option linter.unusedVariables false
set_option linter.unusedSimpArgs false
def bad (l : S_link_Link) (s : S_api_Seg) : Prop := s.Ack < 0 ∨ s.Ack > l.sent ∨ s.Seq < 0 ∨ (s.Seq = 0 ∧ s.Body.length > 0)
instance (l : S_link_Link) (s : S_api_Seg) : Decidable (bad l s) := by unfold bad; infer_instance
/-- What is known to have come is let go. -/
def acks (l : S_link_Link) (s : S_api_Seg) : S_link_Link := { l with acked := max l.acked s.Ack, out := l.out.filter fun b => decide (b.seq > max l.acked s.Ack) }
def takes (l : S_link_Link) (s : S_api_Seg) : Prop := s.Seq > l.got ∧ s.Seq ≤ l.got + l.window ∧ mget l.early s.Seq = none
instance (l : S_link_Link) (s : S_api_Seg) : Decidable (takes l s) := by unfold takes; infer_instance
def lays (l : S_link_Link) (s : S_api_Seg) : S_link_Link := { acks l s with owes := true, early := if takes l s then l.early ++ [(s.Seq, s.Body)] else l.early }
theorem l3_is (N : Nat) (x1 : S_api_Seg) (j26 : S_ref16_Link) : ∀ (post pre acc : List S_ref16_Body) (m : Nat), j26.Out = pre ++ post → (pre ++ post).length ≤ 4000 → acc.length ≤ pre.length → post.length < m → ∀ r, (∀ m, ref16_Link_Hear.L3 N x1 j26 (m + 1) (acc ++ post.filter fun b => decide (b.Seq > j26.Acked)) (j26.Out.length : Int) = r) →
    ref16_Link_Hear.L3 N x1 j26 m acc (pre.length : Int) = r
  | [], pre, acc, m, e, hl, ha, hm, r, hr => by
    obtain ⟨m, rfl⟩ : ∃ q, m = q + 1 := ⟨m - 1, by omega⟩
    have := hr m
    rw [e] at this
    simpa using this
  | x :: post, pre, acc, m, e, hl, ha, hm, r, hr => by
    obtain ⟨m, rfl⟩ : ∃ q, m = q + 1 := ⟨m - 1, by omega⟩
    have hlt : pre.length < 4000 := by simp at hl; omega
    have hi : idx j26.Out (pre.length : Int) = some x := by rw [e]; exact idx_mid _ _ _
    rw [ref16_Link_Hear.L3, if_pos (by rw [e]; simp; omega), hi, Option.bind_some]
    by_cases c : x.Seq > j26.Acked
    · rw [if_pos c, Option.bind_some, app_ok _ _ (by simp; omega), Option.bind_some]
      unfold ref16_Link_Hear.J9
      rw [W_succ _ (by omega), ← len_snoc pre x]
      refine l3_is N x1 j26 post (pre ++ [x]) _ m (by rw [e]; simp) (by simpa using hl) (by simp; omega) (by simp at hm; omega) r fun m' => ?_
      have := hr m'
      rw [List.filter_cons, if_pos (decide_eq_true c)] at this
      simpa using this
    · rw [if_neg c]
      unfold ref16_Link_Hear.J9
      rw [W_succ _ (by omega), ← len_snoc pre x]
      refine l3_is N x1 j26 post (pre ++ [x]) _ m (by rw [e]; simp) (by simpa using hl) (by simp; omega) (by simp at hm; omega) r fun m' => ?_
      have := hr m'
      rwa [List.filter_cons, if_neg (by simpa using c)] at this
theorem Inv.acks {rm : Int} {k : Nat} {l : S_link_Link} (h : Inv rm k l) {s : S_api_Seg} (hs : s.Ack ≤ l.sent) : Inv rm k (acks l s) := by
  have h9 := h.acked
  refine ⟨h.w, h.s, h.r, h.now, h.next, ⟨by show 0 ≤ max l.acked s.Ack; omega, by show max l.acked s.Ack ≤ l.sent; omega⟩, h.sent, h.got, ?_, ?_, ?_, ?_, h.nod⟩
  · show ((l.out.filter _).length : Int) ≤ rm
    have := List.length_filter_le (fun b => decide (b.seq > max l.acked s.Ack)) l.out
    have := h.olen
    omega
  · show (l.out.filter _).length ≤ _
    have := List.length_filter_le (fun b => decide (b.seq > max l.acked s.Ack)) l.out
    have := h.olen2
    omega
  · exact h.sorted.sublist List.filter_sublist
  · exact fun b hb => h.el b (List.mem_filter.1 hb).1
theorem Inv.lays {rm : Int} {k : Nat} {l : S_link_Link} (h : Inv rm k l) {s : S_api_Seg} (hs : s.Ack ≤ l.sent) : Inv rm (k + 1) (lays l s) := by
  have a := h.acks hs
  have u := a.up
  refine ⟨u.w, u.s, u.r, u.now, u.next, u.acked, u.sent, ?_, u.olen, u.olen2, u.sorted, u.el, ?_⟩
  · have := a.got
    refine ⟨this.1, ?_⟩
    show l.got + ((if takes l s then l.early ++ [(s.Seq, s.Body)] else l.early).length : Int) ≤ _
    have h2 : l.got + (l.early.length : Int) ≤ k := this.2
    split
    · simp; omega
    · omega
  · show ((if takes l s then l.early ++ [(s.Seq, s.Body)] else l.early).map Prod.fst).Nodup
    split
    · rename_i ht
      rw [List.map_append, List.nodup_append]
      refine ⟨h.nod, by simp, fun a ha b hb e => ?_⟩
      simp at hb
      subst hb e
      exact mget_none.1 ht.2.2 ha
    · exact h.nod
theorem toR_acks (l : S_link_Link) (s : S_api_Seg) : (toR (acks l s)).Out = (l.out.map (conv l.now)).filter fun b => decide (b.Seq > max l.acked s.Ack) := by
  show (l.out.filter _).map (conv l.now) = _
  rw [List.filter_map]
  rfl
theorem hear_is {rm : Int} {k : Nat} {l : S_link_Link} (h : Inv rm k l) (hk : k < 100) {s : S_api_Seg} (hb : s.Body.length ≤ 500) :
    ∃ (o : List (List Int)) (f : Int) (l' : S_link_Link), link_Link_Hear 5000 l s = some (o, f, l') ∧ ref16_Link_Hear 5000 (toR l) s = some (o, f, toR l') ∧ Inv rm (k + 1) l' ∧ o.length ≤ 200 := by
  have h1 := h.olen; have h2 := h.olen2; have h3 := h.w; have h4 := h.acked; have h5 := h.sent; have h6 := h.next; have h7 := h.got
  by_cases he : s.Epoch ≠ l.epoch
  · refine ⟨[], 160, l, ?_, ?_, h.up, by simp⟩
    · unfold link_Link_Hear; rw [if_pos he]
    · unfold ref16_Link_Hear; rw [if_pos (show s.Epoch ≠ (toR l).Epoch from he)]
  have j1 : ∀ q : Bool, (q = true ↔ bad l s) → (∃ (o : List (List Int)) (f : Int) (l' : S_link_Link), link_Link_Hear.J1 5000 l s q = some (o, f, l') ∧ ref16_Link_Hear.J1 5000 (toR l) s q = some (o, f, toR l') ∧ Inv rm (k + 1) l' ∧ o.length ≤ 200) := by
    intro q hq
    unfold link_Link_Hear.J1 ref16_Link_Hear.J1
    cases q with
    | true => exact ⟨[], 150, l, if_pos rfl, if_pos rfl, h.up, by simp⟩
    | false =>
      have hnb : ¬ bad l s := fun e => by cases hq.2 e
      have hle : s.Ack ≤ l.sent := by
        unfold bad at hnb
        omega
      rw [if_neg (by decide), if_neg (by decide)]
      have hdel : slices_DeleteFunc_s_link_body_link_body 5000 l.out (fun (y35_ : S_link_body) => some (decide (y35_.seq ≤ (max l.acked s.Ack)))) = some (acks l s).out := by
        rw [del_is (fun y => decide (y.seq ≤ max l.acked s.Ack)) _ (fun y => rfl) l.out (by omega)]
        congr 1
        show _ = l.out.filter _
        apply List.filter_congr
        intro b hb
        rw [← decide_not]
        exact decide_eq_decide.2 (by omega)
      rw [hdel, Option.bind_some]
      -- the document's, up to where it goes on
      have hout : ∀ r, (∀ m, ref16_Link_Hear.L3 5000 s { toR l with Acked := max l.acked s.Ack } (m + 1) (toR (acks l s)).Out (((toR l).Out.length : Nat) : Int) = r) → (if s.Ack > (toR l).Acked then ref16_Link_Hear.J2 5000 s (⟨(toR l).Window, (toR l).Span, (toR l).Room, (toR l).Epoch, (toR l).Next, s.Ack, (toR l).Sent, (toR l).Got, (toR l).Out, (toR l).Early, (toR l).Owes⟩ : S_ref16_Link) else ref16_Link_Hear.J2 5000 s (toR l)) = r := by
        intro r hr
        have hj : ref16_Link_Hear.J2 5000 s { toR l with Acked := max l.acked s.Ack } = r := by
          unfold ref16_Link_Hear.J2
          refine l3_is 5000 s { toR l with Acked := max l.acked s.Ack } (toR l).Out [] [] 5000 rfl (by simp [toR]; omega) (by simp) (by simp [toR]; omega) r fun m => ?_
          have := hr m
          rw [toR_acks] at this
          exact this
        by_cases c : s.Ack > (toR l).Acked
        · rw [if_pos c]
          have : max l.acked s.Ack = s.Ack := by have : s.Ack > l.acked := c; omega
          rw [this] at hj
          exact hj
        · rw [if_neg c]
          have : max l.acked s.Ack = l.acked := by have : ¬ s.Ack > l.acked := c; omega
          rw [this] at hj
          exact hj
      by_cases hz : s.Seq = 0
      · refine ⟨[], 0, acks l s, ?_, ?_, (h.acks hle).up, by simp⟩
        · rw [if_pos hz]; rfl
        · refine hout _ fun m => ?_
          rw [ref16_Link_Hear.L3, if_neg (by show ¬ (((toR l).Out.length : Nat) : Int) < (((toR l).Out.length : Nat) : Int); omega), if_pos hz]
          rfl
      · rw [if_neg hz, Option.bind_some]
        have hi := h.lays hle
        have hig := hi.got
        obtain ⟨o', l', e1, e2, e3, e4, e5, e6, e7⟩ := pop_is 200 (lays l s) [] 5000 5000 (by omega) (by omega) (by omega) (by omega) hi.nod hig.1 (by omega) (by simp)
        refine ⟨o', 0, l', ?_, ?_, ?_, by simpa using e7⟩
        · have hno : ¬ takes l s → link_Link_Hear.J3 5000 s { acks l s with owes := true } false = some (o', 0, l') := by
            intro ht
            unfold link_Link_Hear.J3 link_Link_Hear.J2
            rw [if_neg (by decide)]
            have : lays l s = { acks l s with owes := true } := by unfold lays; rw [if_neg ht]; rfl
            rw [← this]
            exact e1
          have hyes : takes l s → link_Link_Hear.J3 5000 s { acks l s with owes := true } true = some (o', 0, l') := by
            intro ht
            unfold link_Link_Hear.J3 link_Link_Hear.J2
            rw [if_pos rfl, clone_is _ hb, Option.bind_some]
            have : lays l s = { acks l s with owes := true, early := mset (acks l s).early s.Seq s.Body } := by
              unfold lays
              rw [if_pos ht]
              show _ = ({ acks l s with owes := true, early := mset l.early s.Seq s.Body } : S_link_Link)
              rw [mset_new _ ht.2.2]
            rw [this] at e1
            exact e1
          by_cases c1 : s.Seq > l.got
          · rw [if_pos c1, W_in (x := l.got + l.window) (by omega)]
            by_cases c2 : s.Seq ≤ l.got + l.window
            · rw [if_pos c2]
              cases c3 : mget l.early s.Seq with
              | none => rw [if_neg (by decide)]; exact hyes ⟨c1, c2, c3⟩
              | some v => rw [if_pos (show (some v).isSome = true from rfl)]; exact hno fun t => by rw [t.2.2] at c3; cases c3
            · rw [if_neg c2]; exact hno fun t => c2 t.2.1
          · rw [if_neg c1]; exact hno fun t => c1 t.1
        · refine hout _ fun m => ?_
          have hno : ¬ takes l s → ref16_Link_Hear.J5 5000 s { toR (acks l s) with Owes := true } false = some (o', 0, toR l') := by
            intro ht
            unfold ref16_Link_Hear.J5 ref16_Link_Hear.J4
            rw [if_neg (by decide)]
            have : toR (lays l s) = { toR (acks l s) with Owes := true } := by unfold lays; rw [if_neg ht]; rfl
            rw [← this]
            exact e2
          have hyes : takes l s → ref16_Link_Hear.J5 5000 s { toR (acks l s) with Owes := true } true = some (o', 0, toR l') := by
            intro ht
            unfold ref16_Link_Hear.J5 ref16_Link_Hear.J4
            rw [if_pos rfl, app_ok _ _ (by simp only [List.length_nil]; omega), List.nil_append, Option.bind_some, app_ok _ _ (by show (l.early.map toE).length + _ ≤ _; simp; omega), Option.bind_some]
            have : toR (lays l s) = { toR (acks l s) with Owes := true, Early := (toR (acks l s)).Early ++ [⟨s.Seq, s.Body⟩] } := by
              unfold lays
              rw [if_pos ht]
              show (⟨_, _, _, _, _, _, _, _, _, (l.early ++ [(s.Seq, s.Body)]).map toE, _⟩ : S_ref16_Link) = ⟨_, _, _, _, _, _, _, _, _, l.early.map toE ++ [⟨s.Seq, s.Body⟩], _⟩
              rw [List.map_append]
              rfl
            rw [this] at e2
            exact e2
          rw [ref16_Link_Hear.L3, if_neg (by show ¬ (((toR l).Out.length : Nat) : Int) < (((toR l).Out.length : Nat) : Int); omega), if_neg hz]
          by_cases c1 : s.Seq > l.got
          · rw [if_pos (show s.Seq > (toR l).Got from c1), show ({ toR l with Acked := max l.acked s.Ack } : S_ref16_Link).Got = l.got from rfl, show ({ toR l with Acked := max l.acked s.Ack } : S_ref16_Link).Window = l.window from rfl, W_in (x := l.got + l.window) (by omega)]
            by_cases c2 : s.Seq ≤ l.got + l.window
            · rw [if_pos c2]
              have hE : (l.early).length ≤ 4000 := by omega
              cases c3 : mget l.early s.Seq with
              | none =>
                have hf := find_none { toR (acks l s) with Owes := true } s.Seq l.early [] 5000 rfl (by simpa using hE) (by omega) c3
                refine Eq.trans (congrArg (fun x => Option.bind x _) hf) ?_
                rw [Option.bind_some]
                exact hyes ⟨c1, c2, c3⟩
              | some v =>
                obtain ⟨i, hf, _⟩ := find_some { toR (acks l s) with Owes := true } s.Seq v l.early [] 5000 rfl (by simpa using hE) (by omega) c3
                refine Eq.trans (congrArg (fun x => Option.bind x _) hf) ?_
                rw [Option.bind_some, decide_eq_false (by omega)]
                exact hno fun t => by rw [t.2.2] at c3; cases c3
            · rw [if_neg c2]; exact hno fun t => c2 t.2.1
          · rw [if_neg (show ¬ s.Seq > (toR l).Got from c1)]; exact hno fun t => c1 t.1
        · have u := hi
          rw [e3]
          refine ⟨u.w, u.s, u.r, u.now, u.next, u.acked, u.sent, ⟨by show 0 ≤ l'.got; omega, by show l'.got + (l'.early.length : Int) ≤ _; omega⟩, u.olen, u.olen2, u.sorted, u.el, e6⟩
  unfold link_Link_Hear ref16_Link_Hear
  rw [if_neg he, if_neg (show ¬ s.Epoch ≠ (toR l).Epoch from he)]
  by_cases c1 : s.Ack < 0
  · rw [if_pos c1, if_pos c1]
    exact j1 true ⟨fun _ => .inl c1, fun _ => rfl⟩
  rw [if_neg c1, if_neg c1]
  by_cases c2 : s.Ack > l.sent
  · rw [if_pos c2, if_pos (show s.Ack > (toR l).Sent from c2)]
    exact j1 true ⟨fun _ => .inr (.inl c2), fun _ => rfl⟩
  rw [if_neg c2, if_neg (show ¬ s.Ack > (toR l).Sent from c2)]
  by_cases c3 : s.Seq < 0
  · rw [if_pos c3, if_pos c3]
    exact j1 true ⟨fun _ => .inr (.inr (.inl c3)), fun _ => rfl⟩
  rw [if_neg c3, if_neg c3]
  by_cases c4 : s.Seq = 0
  · rw [if_pos c4, if_pos c4]
    exact j1 (decide (((s.Body.length : Nat) : Int) > 0)) ⟨fun e => .inr (.inr (.inr ⟨c4, by have := of_decide_eq_true e; omega⟩)), fun e => by unfold bad at e; exact decide_eq_true (by omega)⟩
  rw [if_neg c4, if_neg c4]
  exact j1 false ⟨fun e => (by cases e), fun e => by unfold bad at e; omega⟩
theorem reset_is {rm : Int} {k : Nat} {l : S_link_Link} (h : Inv rm k l) (e : Int) : ∃ (f : Int) (l' : S_link_Link), link_Link_Reset l e = some (f, l') ∧ ref16_Link_Reset (toR l) e = some (f, toR l') ∧ Inv rm (k + 1) l' := by
  have h3 := h.w; have h4 := h.s; have h5 := h.r
  unfold link_Link_Reset ref16_Link_Reset
  by_cases c1 : e ≤ l.epoch
  · exact ⟨160, l, if_pos c1, if_pos (show e ≤ (toR l).Epoch from c1), h.up⟩
  rw [if_neg c1, if_neg (show ¬ e ≤ (toR l).Epoch from c1)]
  by_cases c2 : e ≥ 1099511627776
  · exact ⟨160, l, if_pos c2, if_pos c2, h.up⟩
  rw [if_neg c2, if_neg c2]
  have hn : link_New l.window l.span l.room = some (some ⟨l.window, l.span, l.room, 0, 0, 0, 0, 0, [], 0, [], false⟩, 0) := by
    unfold link_New link_in
    rw [if_pos (by omega), Option.bind_some, if_pos (by simp; omega), if_pos (by omega), Option.bind_some, if_pos (by simp; omega), if_pos (by omega), Option.bind_some, if_pos (by simp; omega)]
  rw [hn, Option.bind_some, Option.bind_some]
  refine ⟨0, _, rfl, rfl, ⟨h.w, h.s, h.r, ⟨Int.le_refl _, by show (0 : Int) ≤ _; omega⟩, ⟨Int.le_refl _, by show (0 : Int) ≤ _; omega⟩, ⟨Int.le_refl _, Int.le_refl _⟩, Int.le_refl _, ⟨Int.le_refl _, by show (0 : Int) + ((0 : Nat) : Int) ≤ _; omega⟩, by show ((0 : Nat) : Int) ≤ rm; omega, by show 0 ≤ _; omega, ?_, ?_, ?_⟩⟩
  · show ([] : List S_link_body).Pairwise _; simp
  · intro b hb; cases hb
  · show ([] : List Int).Nodup; simp
theorem bodies_same (x : List (List Int)) (h : x.length ≤ 4000) : law16_bodies 5000 x x = some true := by
  unfold law16_bodies
  rw [if_neg (by omega)]
  refine loop_c (fun m (_ : Unit) i => law16_bodies.L1 x x m i) (fun _ => ()) x.length _ (fun m i hi => ?_) (fun m => ?_) 5000 (by omega)
  · show law16_bodies.L1 x x (m + 1) (i : Int) = _
    rw [law16_bodies.L1, if_pos (by omega), idx_get _ _ hi, Option.bind_some, Option.bind_some, if_neg (fun h => h rfl), W_succ i (by omega)]
  · show law16_bodies.L1 x x (m + 1) (x.length : Int) = _
    rw [law16_bodies.L1, if_neg (by omega)]
theorem segs_same (x : List S_api_Seg) (h : x.length ≤ 4000) : law16_segs 5000 x x = some true := by
  unfold law16_segs
  rw [if_neg (by omega)]
  refine loop_c (fun m (_ : Unit) i => law16_segs.L1 x x m i) (fun _ => ()) x.length _ (fun m i hi => ?_) (fun m => ?_) 5000 (by omega)
  · show law16_segs.L1 x x (m + 1) (i : Int) = _
    have hs : ref16_Same x[i] x[i] = some true := by
      unfold ref16_Same
      rw [if_pos rfl, if_pos rfl, if_pos rfl, decide_eq_true rfl]
    rw [law16_segs.L1, if_pos (by omega), idx_get _ _ hi, Option.bind_some, Option.bind_some, hs, Option.bind_some, if_pos rfl, W_succ i (by omega)]
  · show law16_segs.L1 x x (m + 1) (x.length : Int) = _
    rw [law16_segs.L1, if_neg (by omega)]
theorem small_is (a : S_law16_Act) : ∃ b, law16_Act_small 5000 a = some b ∧ (b = true → small a.Bodies ∧ a.S.Body.length ≤ 500) := by
  unfold law16_Act_small
  by_cases c1 : (a.Bodies.length : Int) > 20
  · exact ⟨false, if_pos c1, fun e => by cases e⟩
  rw [if_neg c1]
  by_cases c2 : (a.S.Body.length : Int) > 500
  · exact ⟨false, if_pos c2, fun e => by cases e⟩
  rw [if_neg c2]
  have key : ∀ (d m i : Nat), i + d = a.Bodies.length → d < m → (∀ j, j < i → (a.Bodies.getD j []).length ≤ 500) → ∃ b, law16_Act_small.L1 a m (i : Int) = some b ∧ (b = true → ∀ j, j < a.Bodies.length → (a.Bodies.getD j []).length ≤ 500) := by
    intro d
    induction d with
    | zero =>
      intro m i hi hm hj
      obtain ⟨m, rfl⟩ : ∃ q, m = q + 1 := ⟨m - 1, by omega⟩
      exact ⟨true, by rw [law16_Act_small.L1, if_neg (by omega)], fun _ j h => hj j (by omega)⟩
    | succ d ih =>
      intro m i hi hm hj
      obtain ⟨m, rfl⟩ : ∃ q, m = q + 1 := ⟨m - 1, by omega⟩
      have hlt : i < a.Bodies.length := by omega
      have hg : a.Bodies.getD i [] = a.Bodies[i] := by rw [List.getD_eq_getElem?_getD, List.getElem?_eq_getElem hlt]; rfl
      rw [law16_Act_small.L1, if_pos (by omega), idx_get _ _ hlt, Option.bind_some, ← hg]
      by_cases c : ((a.Bodies.getD i []).length : Int) > 500
      · exact ⟨false, if_pos c, fun e => by cases e⟩
      · rw [if_neg c, W_succ i (by omega)]
        refine ih m (i + 1) (by omega) (by omega) fun j h => ?_
        by_cases e : j = i
        · subst e; omega
        · exact hj j (by omega)
  obtain ⟨b, e1, e2⟩ := key a.Bodies.length 5000 0 (by omega) (by omega) (fun j h => by omega)
  refine ⟨b, e1, fun hb => ⟨⟨by omega, fun x hx => ?_⟩, by omega⟩⟩
  obtain ⟨j, hj, rfl⟩ := List.mem_iff_getElem.1 hx
  have := e2 hb j hj
  rwa [List.getD_eq_getElem?_getD, List.getElem?_eq_getElem hj] at this
theorem acts_loop (x0 : S_law16_Sides) (acts : List S_law16_Act) (ha : acts.length ≤ 100) : ∀ (d m i : Nat) (l : S_link_Link), i + d = acts.length → d < m → Inv x0.Room i l → law16_LinkActs.L2 5000 x0 acts m (toR l) l (i : Int) = some true := by
  intro d
  induction d with
  | zero =>
    intro m i l hi hm h
    obtain ⟨m, rfl⟩ : ∃ q, m = q + 1 := ⟨m - 1, by omega⟩
    rw [law16_LinkActs.L2, if_neg (by omega)]
  | succ d ih =>
    intro m i l hi hm h
    obtain ⟨m, rfl⟩ : ∃ q, m = q + 1 := ⟨m - 1, by omega⟩
    have hlt : i < acts.length := by omega
    have j3 : ∀ l', Inv x0.Room (i + 1) l' → law16_LinkActs.J3 x0 (i : Int) (law16_LinkActs.L2 5000 x0 acts m) (toR l') l' = some true := by
      intro l' h'
      unfold law16_LinkActs.J3 link_Link_Left link_Link_Got link_Link_Epoch
      have ho : (toR l').Out.length = l'.out.length := by simp [toR]
      rw [Option.bind_some, if_neg (by rw [ho]; exact fun q => q rfl), Option.bind_some, if_neg (fun q => q rfl), Option.bind_some, if_neg (fun q => q rfl), Option.bind_some, if_neg (by have := h'.olen; omega), W_succ i (by omega)]
      exact ih m (i + 1) l' (by omega) (by omega) h'
    rw [law16_LinkActs.L2, if_pos (by omega), idx_get _ _ hlt, Option.bind_some]
    obtain ⟨b, e1, e2⟩ := small_is acts[i]
    rw [show (⟨acts[i].Kind, acts[i].N, acts[i].Bodies, (⟨acts[i].S.Epoch, acts[i].S.Seq, acts[i].S.Ack, acts[i].S.Body⟩ : S_api_Seg)⟩ : S_law16_Act) = acts[i] from rfl, e1, Option.bind_some]
    cases b with
    | false => rw [if_neg (by decide)]
    | true =>
      rw [if_pos rfl]
      obtain ⟨s1, s2⟩ := e2 rfl
      by_cases k0 : acts[i].Kind = 0
      · rw [if_pos k0, send_is h (by omega) s1, Option.bind_some, sendR_is h (by omega) s1, Option.bind_some]
        by_cases c : (l.out.length : Int) + (acts[i].Bodies.length : Int) > l.room
        · rw [if_pos c, if_pos c, if_neg (fun q => q rfl)]
          exact j3 l h.up
        · rw [if_neg c, if_neg c, if_neg (fun q => q rfl)]
          exact j3 _ (h.send s1 c)
      rw [if_neg k0]
      by_cases k1 : acts[i].Kind = 1
      · have hl : (tickS l).1.length ≤ 4000 := by
          have := segs_len l l.out; have := h.olen2
          unfold tickS
          dsimp only
          split
          · simp
          · omega
        rw [if_pos k1, tick_is h (by omega), Option.bind_some, tickR_is h (by omega), Option.bind_some, segs_same _ hl, Option.bind_some, if_pos rfl]
        exact j3 _ h.tick
      rw [if_neg k1]
      by_cases k2 : acts[i].Kind = 2
      · rw [if_pos k2, show (⟨acts[i].S.Epoch, acts[i].S.Seq, acts[i].S.Ack, acts[i].S.Body⟩ : S_api_Seg) = acts[i].S from rfl]
        obtain ⟨o, f, l', g1, g2, g3, g4⟩ := hear_is h (by omega) s2
        rw [g1, Option.bind_some, g2, Option.bind_some, if_neg (fun q => q rfl), bodies_same o (by omega), Option.bind_some, if_pos rfl]
        exact j3 l' g3
      rw [if_neg k2]
      by_cases k3 : acts[i].Kind = 3
      · obtain ⟨f, l', g1, g2, g3⟩ := reset_is h acts[i].N
        rw [if_pos k3, g1, Option.bind_some, g2, Option.bind_some, if_neg (fun q => q rfl)]
        exact j3 l' g3
      rw [if_neg k3]
      exact j3 l h.up
theorem linkActs (x0 : S_law16_Sides) (acts : List S_law16_Act) : law16_LinkActs 5000 x0 acts = some true := by
  unfold law16_LinkActs
  rw [law16_up5, Option.bind_some, if_pos rfl]
  by_cases h1 : (acts.length : Int) > 100
  · rw [if_pos h1, Option.bind_some]
  rw [if_neg h1]
  by_cases c : (0 < x0.Window ∧ x0.Window < 65) ∧ (0 < x0.Span ∧ x0.Span < 1001) ∧ 0 < x0.Room ∧ x0.Room < 4097
  · have hn : link_New x0.Window x0.Span x0.Room = some (some ⟨x0.Window, x0.Span, x0.Room, 0, 0, 0, 0, 0, [], 0, [], false⟩, 0) := by
      unfold link_New link_in
      rw [if_pos (by omega), Option.bind_some, if_pos (by simp; omega), if_pos (by omega), Option.bind_some, if_pos (by simp; omega), if_pos (by omega), Option.bind_some, if_pos (by simp; omega)]
    have hr : ref16_Right x0.Window x0.Span x0.Room = some true := by
      unfold ref16_Right
      rw [if_pos (by omega), if_pos (by omega), if_pos (by omega), if_pos (by omega), if_pos (by omega), decide_eq_true (by omega)]
    rw [hn, Option.bind_some, hr, Option.bind_some, if_pos rfl]
    unfold law16_LinkActs.J1
    rw [if_neg (by decide), optc_some, if_neg (fun q => q rfl)]
    refine acts_loop x0 acts (by omega) acts.length 5000 0 _ (by omega) (by omega) ⟨c.1, c.2.1, ⟨rfl, c.2.2⟩, ⟨Int.le_refl _, Int.le_refl _⟩, ⟨Int.le_refl _, Int.le_refl _⟩, ⟨Int.le_refl _, Int.le_refl _⟩, Int.le_refl _, ⟨Int.le_refl _, Int.le_refl _⟩, by show ((0 : Nat) : Int) ≤ x0.Room; omega, Nat.le_refl _, ?_, ?_, ?_⟩
    · show ([] : List S_link_body).Pairwise _; simp
    · intro b hb; cases hb
    · show ([] : List Int).Nodup; simp
  · have hn : link_New x0.Window x0.Span x0.Room = some (none, 2) := by
      unfold link_New link_in
      by_cases a1 : x0.Window ≥ 1
      · rw [if_pos a1, Option.bind_some]
        by_cases a2 : x0.Window ≤ 64
        · rw [if_pos (decide_eq_true a2)]
          by_cases a3 : x0.Span ≥ 1
          · rw [if_pos a3, Option.bind_some]
            by_cases a4 : x0.Span ≤ 1000
            · rw [if_pos (decide_eq_true a4)]
              by_cases a5 : x0.Room ≥ 1
              · rw [if_pos a5, Option.bind_some, if_neg (by simp; omega)]
              · rw [if_neg a5, Option.bind_some, if_neg (by decide)]
            · rw [if_neg (by simp; omega)]
          · rw [if_neg a3, Option.bind_some, if_neg (by decide)]
        · rw [if_neg (by simp; omega)]
      · rw [if_neg a1, Option.bind_some, if_neg (by decide)]
    have hr : ref16_Right x0.Window x0.Span x0.Room = some false := by
      unfold ref16_Right
      by_cases a1 : x0.Window > 0
      · rw [if_pos a1]
        by_cases a2 : x0.Window < 65
        · rw [if_pos a2]
          by_cases a3 : x0.Span > 0
          · rw [if_pos a3]
            by_cases a4 : x0.Span < 1001
            · rw [if_pos a4]
              by_cases a5 : x0.Room > 0
              · rw [if_pos a5, decide_eq_false (by omega)]
              · rw [if_neg a5]
            · rw [if_neg a4]
          · rw [if_neg a3]
        · rw [if_neg a2]
      · rw [if_neg a1]
    rw [hn, Option.bind_some, hr, Option.bind_some, if_neg (by decide)]
    unfold law16_LinkActs.J1
    rw [if_pos rfl, optc_none]; rfl
end Go.Proofs.Ytjileigclbohdaa
