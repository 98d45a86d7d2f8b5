/- A region that draws its order, in which pure operations stand beside few writing ones: one walk in the text's order serves every order. -/
import Derived.Still
import Derived.Laws.World
namespace Go.Hp
open Go

/-- Operations that may turn the world. -/
def effB : Op → Bool
  | .move _ | .assign _ | .pick .. | .load .. | .nilCheck _ | .binOp .. | .unOp .. | .makeInterface .. | .makeFunc .. | .slice .. | .fieldAddr .. | .field .. | .indexAddr .. | .index ..
  | .lookup .. | .extract .. | .sliceToArrayPointer .. | .convert .. => false
  | .build .. => false
  | .call { callee := .builtin b, .. } => (match b with | .len | .cap | .min | .max => false | _ => true)
  | _ => true

section
variable {P : Program} {ops : Array Oper} {F : World → Prop} {G : Nat → World → Prop} {em : Nat} {md : Region.Mode} {xm : Nat} {bm : List Nat}

/-- An operation yields v, whatever world of the class it is run in. -/
def YF (P : Program) (ops : Array Oper) (F : World → Prop) (o : Oper) (v : Value) (a : Act) : Prop :=
  (Region.wanted o (yielded ops a.tmps) = true ∧ ∀ w, F w → (execOp a.eval o).run P w = .ok (.value v) w) ∨
  (Region.wanted o (yielded ops a.tmps) = false ∧ v = undef)

/-- .. in this very world. -/
def YX (P : Program) (ops : Array Oper) (o : Oper) (v : Value) (a : Act) (w : World) : Prop :=
  (Region.wanted o (yielded ops a.tmps) = true ∧ (execOp a.eval o).run P w = .ok (.value v) w) ∨ (Region.wanted o (yielded ops a.tmps) = false ∧ v = undef)

/-- What a writing operation comes to. -/
def effUpon (P : Program) (o : Oper) (a : Act) (K : Act → World → Prop) : Result Next → Prop
  | .ok (.value v) w' => K (a.put o.dst v) w'
  | .ok .skip w' => K (a.put o.dst undef) w'
  | .ok (.enter f args) w' => Calls P f args w' fun e w'' => ∃ v, e = .returned v ∧ K (a.put o.dst v) w''
  | _ => False
def effW (P : Program) (ops : Array Oper) (o : Oper) (a : Act) (w : World) (K : Act → World → Prop) : Prop :=
  Region.wanted o (yielded ops a.tmps) = true ∧ effUpon P o a K ((execOp a.eval o).run P w)

theorem effUpon_mono {o : Oper} {a : Act} {K K' : Act → World → Prop} (h : ∀ v w, K (a.put o.dst v) w → K' (a.put o.dst v) w) {r : Result Next} (hh : effUpon P o a K r) : effUpon P o a K' r := by
  cases r with
  | ok n w' =>
    cases n <;> simp only [effUpon] at hh ⊢
    case enter f args => exact hh.mono fun e w'' ⟨v, he, hk⟩ => ⟨v, he, h _ _ hk⟩
    all_goals exact h _ _ hh
  | halt x w' => simp only [effUpon] at hh
theorem effUpon_some {o : Oper} {a : Act} {K : Act → World → Prop} {r : Result Next} (hh : effUpon P o a K r) : ∃ v w, K (a.put o.dst v) w := by
  cases r with
  | ok n w' =>
    cases n <;> simp only [effUpon] at hh
    case enter f args =>
      obtain ⟨e, w'', fr, ⟨v, he, hk⟩, _⟩ := hh []
      exact ⟨v, w'', hk⟩
    all_goals exact ⟨_, _, hh⟩
  | halt x w' => simp only [effUpon] at hh
theorem effUpon_put {o : Oper} {a : Act} {K : Act → World → Prop} {dst : Option Tmp} {u : Value} (hd : ∀ d, o.dst = some d → dst ≠ some d) {r : Result Next}
    (hh : effUpon P o a (fun a' w' => K (a'.put dst u) w') r) : effUpon P o (a.put dst u) K r := by
  cases r with
  | ok n w' =>
    cases n <;> simp only [effUpon] at hh ⊢
    case enter f args => exact hh.mono fun e w'' ⟨v, he, hk⟩ => ⟨v, he, by rw [← Act.put_comm a v u hd]; exact hk⟩
    all_goals (rw [← Act.put_comm a _ u hd]; exact hh)
  | halt x w' => simp only [effUpon] at hh

/-- What a writing operation leaves: the class of each one that isn't bound to stand before it. -/
def blocked (bm : List Nat) (em i j : Nat) : Bool := (List.range bm.length).any fun e => em.testBit e && (bm.getD j 0).testBit e && (bm.getD e 0).testBit i
def free (bm : List Nat) (em j : Nat) : Bool := (List.range bm.length).all fun e => !(em.testBit e && (bm.getD j 0).testBit e)
def FX (bm : List Nat) (em : Nat) (G : Nat → World → Prop) (i : Nat) (w : World) : Prop := ∀ j, (bm.getD i 0).testBit j = false → blocked bm em i j = false → G j w

/-- Nothing else for what isn't bound to stand behind it. -/
def Agree (bm : List Nat) (i : Nat) (G G' : Nat → World → Prop) : Prop := ∀ j, (bm.getD j 0).testBit i = false → G' j = G j
theorem Agree.rfl' {bm : List Nat} {i : Nat} {G : Nat → World → Prop} : Agree bm i G G := fun _ _ => rfl

def opF (P : Program) (ops : Array Oper) (bm : List Nat) (em : Nat) (G : Nat → World → Prop) (xm : Nat) (i : Nat) (K : (Nat → World → Prop) → Act → World → Prop) (a : Act) (w : World) : Prop :=
  ∃ o, ops[i]? = some o ∧ ((∃ v, YF P ops (G i) o v a ∧ (em.testBit i = false ∨ (effB o.op = true ∧ FX bm em G i w)) ∧ K G (a.put o.dst v) w) ∨ (effB o.op = true ∧ effW P ops o a w fun a' w' => ∃ G', Agree bm i G G' ∧ FX bm em G' i w' ∧ K G' a' w') ∨ (xm.testBit i = true ∧ em.testBit i = false ∧ ∃ v, YX P ops o v a w ∧ K G (a.put o.dst v) w))

theorem opF_mono {i : Nat} {K K' : (Nat → World → Prop) → Act → World → Prop} {a : Act} {w : World} (h : ∀ G a w, K G a w → K' G a w) (hh : opF P ops bm em G xm i K a w) : opF P ops bm em G xm i K' a w := by
  obtain ⟨o, ho, hh⟩ := hh
  refine ⟨o, ho, ?_⟩
  rcases hh with ⟨v, hy, hz, hk⟩ | ⟨he, hw, hu⟩ | ⟨hx, hz, v, hy, hk⟩
  · exact .inl ⟨v, hy, hz, h _ _ _ hk⟩
  · exact .inr (.inl ⟨he, hw, effUpon_mono (fun v w ⟨G', h1, h2, hk⟩ => ⟨G', h1, h2, h _ _ _ hk⟩) hu⟩)
  · exact .inr (.inr ⟨hx, hz, v, hy, h _ _ _ hk⟩)

def wpAnyF (P : Program) (md : Region.Mode) (ops : Array Oper) (bm : List Nat) (em : Nat) (xm : Nat) (Q : Act → World → Prop) : Nat → (Nat → World → Prop) → Array Bool → Act → World → Prop
  | 0, _, listed, a, w => Region.ready md ops listed = [] ∧ Q a w
  | fuel + 1, G, listed, a, w => (Region.ready md ops listed = [] → Q a w) ∧
    ∀ i ∈ Region.ready md ops listed, opF P ops bm em G xm i (fun G' a' w' => wpAnyF P md ops bm em xm Q fuel G' (listed.setIfInBounds i true) a' w') a w

theorem YF.of_same {o : Oper} {v : Value} {a a' : Act} (hy : YF P ops F o v a) (he : execOp a'.eval o = execOp a.eval o)
    (hw : Region.wanted o (yielded ops a'.tmps) = Region.wanted o (yielded ops a.tmps)) : YF P ops F o v a' := by
  unfold YF at *
  rw [he, hw]
  exact hy
theorem YF.unique {o : Oper} {v v' : Value} {a : Act} {w : World} (hF : F w) (h : YF P ops F o v a) (h' : YF P ops F o v' a) : v = v' := by
  rcases h with ⟨h1, h2⟩ | ⟨h1, h2⟩ <;> rcases h' with ⟨k1, k2⟩ | ⟨k1, k2⟩
  · have := h2 w hF; rw [k2 w hF] at this; injection this with e _; injection e with e; exact e.symm
  · rw [h1] at k1; cases k1
  · rw [h1] at k1; cases k1
  · rw [h2, k2]

theorem YX.of_same {o : Oper} {v : Value} {a a' : Act} {w : World} (hy : YX P ops o v a w) (he : execOp a'.eval o = execOp a.eval o)
    (hw : Region.wanted o (yielded ops a'.tmps) = Region.wanted o (yielded ops a.tmps)) : YX P ops o v a' w := by
  unfold YX at *
  rw [he, hw]
  exact hy

/-- Apart, and no writing operation beside another, or beside one that looks at just this world. -/
def apartX (ops : Array Oper) (xm i j : Nat) (x y : Oper) : Bool := x.apart ops y && !(effB x.op && effB y.op) && !(xm.testBit i && effB y.op) && !(effB x.op && xm.testBit j)

/-- Each listed operation's forerunners are listed. -/
def DC (md : Region.Mode) (ops : Array Oper) (listed : Array Bool) : Prop := ∀ j o, ops[j]? = some o → listed.getD j false = true → ∀ e ∈ o.after, Region.binds md e = true → listed.getD e.on false = true
theorem DC.add {listed : Array Bool} (h : DC md ops listed) {i : Nat} (hi : i ∈ Region.ready md ops listed) : DC md ops (listed.setIfInBounds i true) := by
  intro j o ho hl e he hb
  by_cases hij : i = j
  · subst hij
    obtain ⟨_, o', ho', hall⟩ := mem_ready.1 hi
    obtain rfl : o = o' := by rw [ho] at ho'; exact Option.some.inj ho'
    exact getD_set_true (hall e he hb)
  · rw [getD_set_ne false hij] at hl
    exact getD_set_true (h j o ho hl e he hb)
def joined (md : Region.Mode) (bm : List Nat) (o : Oper) : Nat := o.after.toList.foldl (fun s e => if Region.binds md e then s ||| 2 ^ e.on ||| bm.getD e.on 0 else s) 0
def maskOk (md : Region.Mode) (ops : Array Oper) (bm : List Nat) : Bool :=
  (List.range ops.size).all fun j => match ops[j]? with
    | some o => o.after.all (fun e => !Region.binds md e || decide (e.on < j)) && (bm.getD j 0 &&& joined md bm o) == bm.getD j 0
    | none => true
theorem joined_bit {o : Oper} {i : Nat} (h : (joined md bm o).testBit i = true) : ∃ e ∈ o.after, Region.binds md e = true ∧ (e.on = i ∨ (bm.getD e.on 0).testBit i = true) := by
  have key : ∀ (l : List Edge) (s : Nat), (l.foldl (fun s e => if Region.binds md e then s ||| 2 ^ e.on ||| bm.getD e.on 0 else s) s).testBit i = true → s.testBit i = true ∨ ∃ e ∈ l, Region.binds md e = true ∧ (e.on = i ∨ (bm.getD e.on 0).testBit i = true) := by
    intro l
    induction l with
    | nil => intro s h; exact .inl h
    | cons e l ih =>
      intro s h
      rcases ih _ h with h1 | ⟨e', he', hh⟩
      · by_cases hb : Region.binds md e = true
        · dsimp only at h1
          rw [if_pos hb] at h1
          simp only [Nat.testBit_or, Bool.or_eq_true] at h1
          rcases h1 with (h1 | h1) | h1
          · exact .inl h1
          · refine .inr ⟨e, by simp, hb, .inl ?_⟩
            rw [Nat.testBit_two_pow] at h1
            exact of_decide_eq_true h1
          · exact .inr ⟨e, by simp, hb, .inr h1⟩
        · dsimp only at h1
          rw [if_neg hb] at h1
          exact .inl h1
      · exact .inr ⟨e', by simp [he'], hh⟩
  rcases key _ _ h with h1 | ⟨e, he, hh⟩
  · simp at h1
  · exact ⟨e, by simpa using he, hh⟩
theorem mask_bit (hm : maskOk md ops bm = true) {j i : Nat} {o : Oper} (ho : ops[j]? = some o) (h : (bm.getD j 0).testBit i = true) : ∃ e ∈ o.after, Region.binds md e = true ∧ e.on < j ∧ (e.on = i ∨ (bm.getD e.on 0).testBit i = true) := by
  have hj : j < ops.size := (Array.getElem?_eq_some_iff.1 ho).1
  have := List.all_eq_true.1 hm j (List.mem_range.2 hj)
  simp only [ho, Bool.and_eq_true, beq_iff_eq] at this
  obtain ⟨h1, h2⟩ := this
  rw [← h2, Nat.testBit_and, Bool.and_eq_true] at h
  obtain ⟨e, he, hb, hh⟩ := joined_bit h.2
  have := Array.all_eq_true_iff_forall_mem.1 h1 e he
  simp only [hb, Bool.not_true, Bool.false_or, decide_eq_true_eq] at this
  exact ⟨e, he, hb, this, hh⟩
theorem not_listed (hm : maskOk md ops bm = true) {listed : Array Bool} (hd : DC md ops listed) {i : Nat} (hi : listed.getD i false = false) : ∀ j o, ops[j]? = some o → (bm.getD j 0).testBit i = true → listed.getD j false = true → False := by
  intro j
  induction j using Nat.strongRecOn with
  | _ j ih =>
    intro o ho hb hl
    obtain ⟨e, he, hbe, hlt, hh⟩ := mask_bit hm ho hb
    have hle := hd j o ho hl e he hbe
    rcases hh with rfl | hh
    · rw [hi] at hle; cases hle
    · have : e.on < ops.size := by
        have : j < ops.size := (Array.getElem?_eq_some_iff.1 ho).1
        omega
      exact ih e.on hlt _ (Array.getElem?_eq_getElem this) hh hle
theorem not_ready (hm : maskOk md ops bm = true) {listed : Array Bool} (hd : DC md ops listed) {i j : Nat} (hi : listed.getD i false = false) (hj : j ∈ Region.ready md ops listed) : (bm.getD j 0).testBit i = false := by
  cases hb : (bm.getD j 0).testBit i
  · rfl
  · exfalso
    obtain ⟨_, o, ho, hall⟩ := mem_ready.1 hj
    obtain ⟨e, he, hbe, hlt, hh⟩ := mask_bit hm ho hb
    have hle := hall e he hbe
    rcases hh with rfl | hh
    · rw [hi] at hle; cases hle
    · have : e.on < ops.size := by
        have : j < ops.size := (Array.getElem?_eq_some_iff.1 ho).1
        omega
      exact not_listed hm hd hi e.on _ (Array.getElem?_eq_getElem this) hh hle
theorem unlisted_of_ready {listed : Array Bool} {i : Nat} (hi : i ∈ Region.ready md ops listed) : listed.getD i false = false := by
  have h0 := (mem_ready.1 hi).1
  rcases Nat.lt_or_ge i listed.size with h' | h'
  · simp [h'] at h0 ⊢; exact h0
  · simp [Array.getElem?_eq_none h']

/-- The classes of all that isn't listed. -/
def Inv (bm : List Nat) (em : Nat) (G : Nat → World → Prop) (listed : Array Bool) (w : World) : Prop := ∀ j, listed.getD j false = false → (∀ e, e < bm.length → em.testBit e = true → (bm.getD j 0).testBit e = true → listed.getD e false = true) → G j w
theorem Inv.set {listed : Array Bool} {w : World} (h : Inv bm em G listed w) (i : Nat) (hi : em.testBit i = false) : Inv bm em G (listed.setIfInBounds i true) w := fun j hj he => h j (by
  cases hl : listed.getD j false
  · rfl
  · rw [getD_set_true hl] at hj; cases hj) (fun e hb h1 h2 => by
  have h3 := he e hb h1 h2
  have hne : i ≠ e := fun e' => by rw [e', h1] at hi; cases hi
  rwa [getD_set_ne false hne] at h3)
theorem ready_anc {listed : Array Bool} {i e : Nat} (hm : maskOk md ops bm = true) (hd : DC md ops listed) (hi : i ∈ Region.ready md ops listed) (h : (bm.getD i 0).testBit e = true) : listed.getD e false = true := by
  cases hl : listed.getD e false
  · rw [not_ready hm hd hl hi] at h; cases h
  · rfl
theorem Inv.of_FX {listed : Array Bool} {w : World} {i : Nat} (hm : maskOk md ops bm = true) (hbl : bm.length = ops.size) (hd : DC md ops listed) (hi : i ∈ Region.ready md ops listed) (h : FX bm em G i w) : Inv bm em G (listed.setIfInBounds i true) w := fun j hj he => h j (not_ready hm hd (by
  cases hl : listed.getD j false
  · rfl
  · rw [getD_set_true hl] at hj; cases hj) hi) (by
  cases hb : blocked bm em i j
  · rfl
  · exfalso
    obtain ⟨e, h1, h2⟩ := List.any_eq_true.1 hb
    simp only [Bool.and_eq_true] at h2
    have hlt : e < bm.length := List.mem_range.1 h1
    have h3 := he e hlt h2.1.1 h2.1.2
    by_cases hie : i = e
    · subst hie
      rw [not_ready hm hd (unlisted_of_ready hi) hi] at h2
      cases h2.2
    · rw [getD_set_ne false hie] at h3
      exact not_listed hm hd (unlisted_of_ready hi) e _ (Array.getElem?_eq_getElem (hbl ▸ hlt)) h2.2 h3)

theorem wpOp_of_opF {listed : Array Bool} {i : Nat} {K : (Nat → World → Prop) → Act → World → Prop} {Q : Exit → Act → World → Prop} {a : Act} {w : World} (hm : maskOk md ops bm = true) (hbl : bm.length = ops.size) (hd : DC md ops listed) (hi : i ∈ Region.ready md ops listed) (hI : Inv bm em G listed w)
    (hh : opF P ops bm em G xm i K a w) : wpOp P ops Q i (fun a' w' => ∃ G', Inv bm em G' (listed.setIfInBounds i true) w' ∧ K G' a' w') a w := by
  have hF : G i w := hI i (unlisted_of_ready hi) (fun e _ _ h => ready_anc hm hd hi h)
  obtain ⟨o, ho, hh⟩ := hh
  unfold wpOp
  simp only [ho]
  have hn : (em.testBit i = false ∨ (effB o.op = true ∧ FX bm em G i w)) → Inv bm em G (listed.setIfInBounds i true) w := fun h => h.elim (hI.set i) (fun h => Inv.of_FX hm hbl hd hi h.2)
  rcases hh with ⟨v, ⟨hw, hy⟩ | ⟨hw, rfl⟩, hz, hk⟩ | ⟨he, hw, hu⟩ | ⟨_, hz, v, ⟨hw, hy⟩ | ⟨hw, rfl⟩, hk⟩
  · simp only [hw, if_true, Oper.wp, hy w hF, Oper.upon]; exact .inl ⟨G, hn hz, hk⟩
  · simp only [hw, Bool.false_eq_true, if_false]; exact ⟨G, hn hz, hk⟩
  rotate_left
  · simp only [hw, if_true, Oper.wp, hy, Oper.upon]; exact .inl ⟨G, hn (.inl hz), hk⟩
  · simp only [hw, Bool.false_eq_true, if_false]; exact ⟨G, hn (.inl hz), hk⟩
  · simp only [hw, if_true, Oper.wp]
    refine .inl ?_
    generalize (execOp a.eval o).run P w = r at hu
    cases r with
    | ok n w' =>
      cases n <;> simp only [effUpon] at hu <;> simp only [Oper.upon]
      case enter f args => exact hu.mono fun e w'' ⟨v, he, G', _, h2, hk⟩ => by subst he; exact ⟨G', Inv.of_FX hm hbl hd hi h2, hk⟩
      all_goals exact (let ⟨G', _, h2, hk⟩ := hu; ⟨G', Inv.of_FX hm hbl hd hi h2, hk⟩)
    | halt x w' => simp only [effUpon] at hu

theorem wpAny_of_F {Q : Act → World → Prop} {Q' : Exit → Act → World → Prop} (hm : maskOk md ops bm = true) (hbl : bm.length = ops.size) (hQ : ∀ a w, Q a w → Q' .normal a w) : ∀ (fuel : Nat) (G : Nat → World → Prop) (listed : Array Bool) (a : Act) (w : World), DC md ops listed → Inv bm em G listed w →
    wpAnyF P md ops bm em xm Q fuel G listed a w → wpAny P md ops Q' fuel listed a w
  | 0, _, _, _, _, _, _, h => ⟨h.1, hQ _ _ h.2⟩
  | fuel + 1, _, _, _, _, hd, hF, h => ⟨fun h0 => hQ _ _ (h.1 h0), fun i hi => wpOp_mono (fun a' w' ⟨G', h1, h2⟩ => wpAny_of_F hm hbl hQ fuel G' _ a' w' (hd.add hi) h1 h2) (wpOp_of_opF hm hbl hd hi hF (h.2 i hi))⟩

theorem first_pure {Q : Act → World → Prop} {i : Nat} {oi : Oper} {v : Value} (hm : maskOk md ops bm = true) (hi : ops[i]? = some oi) (hsel : ∀ (j : Nat) (o : Oper) cs b, ops[j]? = some o → o.op ≠ .select cs b) :
    ∀ (fuel : Nat) (G : Nat → World → Prop) (listed : Array Bool) (a : Act) (w : World), DC md ops listed →
      (∀ j oj, ops[j]? = some oj → j ≠ i → listed.getD j true = false → (bm.getD j 0).testBit i = false → apartX ops xm i j oi oj = true) →
      i ∈ Region.ready md ops listed → ((YF P ops (G i) oi v a ∧ (em.testBit i = false ∨ (effB oi.op = true ∧ FX bm em G i w))) ∨ (xm.testBit i = true ∧ em.testBit i = false ∧ YX P ops oi v a w)) →
      wpAnyF P md ops bm em xm Q fuel G (listed.setIfInBounds i true) (a.put oi.dst v) w → wpAnyF P md ops bm em xm Q (fuel + 1) G listed a w := by
  have me : ∀ {G : Nat → World → Prop} {a : Act} {w : World} {K : (Nat → World → Prop) → Act → World → Prop}, ((YF P ops (G i) oi v a ∧ (em.testBit i = false ∨ (effB oi.op = true ∧ FX bm em G i w))) ∨ (xm.testBit i = true ∧ em.testBit i = false ∧ YX P ops oi v a w)) → K G (a.put oi.dst v) w → opF P ops bm em G xm i K a w := by
    intro G a w K hy hk
    rcases hy with ⟨hy, hz⟩ | ⟨hx, hz, hy⟩
    · exact ⟨oi, hi, .inl ⟨v, hy, hz, hk⟩⟩
    · exact ⟨oi, hi, .inr (.inr ⟨hx, hz, v, hy, hk⟩)⟩
  intro fuel
  induction fuel with
  | zero =>
    intro G listed a w _ _ hr hy H
    refine ⟨fun h => (by rw [h] at hr; cases hr), fun j hj => ?_⟩
    by_cases hji : j = i
    · subst hji; exact me hy H
    · have := ready_mono hj hji
      rw [H.1] at this
      cases this
  | succ fuel ih =>
    intro G listed a w hd hfree hr hy H
    refine ⟨fun h => (by rw [h] at hr; cases hr), fun j hj => ?_⟩
    by_cases hji : j = i
    · subst hji; exact me hy H
    · have h1 := H.2 j (ready_mono hj hji)
      obtain ⟨hjun, oj, hoj, hall⟩ := mem_ready.1 hj
      have hap := hfree j oj hoj hji hjun (not_ready hm hd (unlisted_of_ready hr) hj)
      simp only [apartX, Bool.and_eq_true] at hap
      obtain ⟨h1a, h2a, h3a⟩ := Oper.apart_spec hap.1.1.1
      have hfree' : ∀ k ok, ops[k]? = some ok → k ≠ i → (listed.setIfInBounds j true).getD k true = false →
          (bm.getD k 0).testBit i = false → apartX ops xm i k oi ok = true := fun k ok hk hki hun hno => by
        refine hfree k ok hk hki ?_ hno
        by_cases hjk : j = k
        · subst hjk; exact hjun
        · rw [getD_set_ne true hjk] at hun; exact hun
      have keep : ∀ u, ((YF P ops (G i) oi v (a.put oj.dst u) ∧ (em.testBit i = false ∨ (effB oi.op = true ∧ FX bm em G i w))) ∨ (xm.testBit i = true ∧ em.testBit i = false ∧ YX P ops oi v (a.put oj.dst u) w)) := fun u => by
        have e1 := execOp_put oi (fun cs b => hsel i oi cs b hi) a oj.dst u h3a
        have e2 := wanted_put oi a oj.dst u h3a
        rcases hy with ⟨hy, hz⟩ | ⟨hx, hz, hy⟩
        · exact .inl ⟨hy.of_same e1 e2, hz⟩
        · exact .inr ⟨hx, hz, hy.of_same e1 e2⟩
      obtain ⟨oj', hoj', h1⟩ := h1
      obtain rfl : oj = oj' := by rw [hoj] at hoj'; exact Option.some.inj hoj'
      have hex := execOp_put oj (fun cs b => hsel j oj cs b hoj) a oi.dst v h1a
      have hwa := wanted_put oj a oi.dst v h1a
      have hd' := hd.add hj
      have hij : (bm.getD i 0).testBit j = false := not_ready hm hd (unlisted_of_ready hj) hr
      refine ⟨oj, hoj, ?_⟩
      rcases h1 with ⟨u, hyu, hzj, hk⟩ | ⟨he, hw, hu⟩ | ⟨hxj, hzj, u, hyu, hk⟩
      · refine .inl ⟨u, hyu.of_same hex.symm hwa.symm, hzj, ih _ _ _ _ hd' hfree' (ready_mono hr (Ne.symm hji)) (keep u) ?_⟩
        rw [Array.setIfInBounds_comm _ _ hji, ← Act.put_comm a v u h2a]
        exact hk
      · have hyF : YF P ops (G i) oi v a ∧ em.testBit i = false := by
          rcases hy with ⟨hy, hz | ⟨hz, _⟩⟩ | ⟨hx, _⟩
          · exact ⟨hy, hz⟩
          · rw [hz, he] at hap; simp at hap
          · rw [hx, he] at hap; simp at hap
        have keepF : ∀ u, YF P ops (G i) oi v (a.put oj.dst u) := fun u => hyF.1.of_same (execOp_put oi (fun cs b => hsel i oi cs b hi) a oj.dst u h3a) (wanted_put oi a oj.dst u h3a)
        refine .inr (.inl ⟨he, by rw [← hwa]; exact hw, ?_⟩)
        rw [← hex]
        generalize (execOp (a.put oi.dst v).eval oj).run P w = r at hu
        cases r with
        | ok n w' =>
          cases n <;> simp only [effUpon] at hu ⊢
          case enter f args =>
            refine hu.mono fun e w'' ⟨x, he, G', hA, hF, hk⟩ => ⟨x, he, G', hA, hF, ih _ _ _ _ hd' hfree' (ready_mono hr (Ne.symm hji)) (.inl ⟨by rw [hA i hij]; exact keepF x, .inl hyF.2⟩) ?_⟩
            rw [Array.setIfInBounds_comm _ _ hji, ← Act.put_comm a v x h2a]; exact hk
          all_goals
            obtain ⟨G', hA, hF, hk⟩ := hu
            refine ⟨G', hA, hF, ih _ _ _ _ hd' hfree' (ready_mono hr (Ne.symm hji)) (.inl ⟨by rw [hA i hij]; exact keepF _, .inl hyF.2⟩) ?_⟩
            rw [Array.setIfInBounds_comm _ _ hji, ← Act.put_comm a v _ h2a]; exact hk
        | halt x w' => simp only [effUpon] at hu
      · refine .inr (.inr ⟨hxj, hzj, u, hyu.of_same hex.symm hwa.symm, ih _ _ _ _ hd' hfree' (ready_mono hr (Ne.symm hji)) (keep u) ?_⟩)
        rw [Array.setIfInBounds_comm _ _ hji, ← Act.put_comm a v u h2a]
        exact hk

theorem first_eff {Q : Act → World → Prop} {i : Nat} {oi : Oper} (hm : maskOk md ops bm = true) (hi : ops[i]? = some oi) (heff : effB oi.op = true) (hsel : ∀ (j : Nat) (o : Oper) cs b, ops[j]? = some o → o.op ≠ .select cs b) :
    ∀ (fuel : Nat) (G : Nat → World → Prop) (listed : Array Bool) (a : Act) (w : World), DC md ops listed → Inv bm em G listed w →
      (∀ j oj, ops[j]? = some oj → j ≠ i → listed.getD j true = false → (bm.getD j 0).testBit i = false → apartX ops xm i j oi oj = true) →
      i ∈ Region.ready md ops listed →
      effW P ops oi a w (fun a' w' => ∃ G', Agree bm i G G' ∧ FX bm em G' i w' ∧ wpAnyF P md ops bm em xm Q fuel G' (listed.setIfInBounds i true) a' w') → wpAnyF P md ops bm em xm Q (fuel + 1) G listed a w := by
  intro fuel
  induction fuel with
  | zero =>
    intro G listed a w _ hF _ hr H
    refine ⟨fun h => (by rw [h] at hr; cases hr), fun j hj => ?_⟩
    by_cases hji : j = i
    · subst hji; exact ⟨oi, hi, .inr (.inl ⟨heff, H⟩)⟩
    · have h0 := ready_mono hj hji
      obtain ⟨_, _, _, _, _, hk⟩ := effUpon_some H.2
      rw [hk.1] at h0
      cases h0
  | succ fuel ih =>
    intro G listed a w hd hF hfree hr H
    refine ⟨fun h => (by rw [h] at hr; cases hr), fun j hj => ?_⟩
    by_cases hji : j = i
    · subst hji; exact ⟨oi, hi, .inr (.inl ⟨heff, H⟩)⟩
    · obtain ⟨hjun, oj, hoj, hall⟩ := mem_ready.1 hj
      have hap := hfree j oj hoj hji hjun (not_ready hm hd (unlisted_of_ready hr) hj)
      simp only [apartX, Bool.and_eq_true, Bool.not_eq_true', heff, Bool.true_and] at hap
      obtain ⟨⟨⟨hap, hne⟩, _⟩, hnx⟩ := hap
      obtain ⟨h1a, h2a, h3a⟩ := Oper.apart_spec hap
      have hfree' : ∀ k ok, ops[k]? = some ok → k ≠ i → (listed.setIfInBounds j true).getD k true = false →
          (bm.getD k 0).testBit i = false → apartX ops xm i k oi ok = true := fun k ok hk hki hun hno => by
        refine hfree k ok hk hki ?_ hno
        by_cases hjk : j = k
        · subst hjk; exact hjun
        · rw [getD_set_ne true hjk] at hun; exact hun
      have hjF := unlisted_of_ready hj
      -- what j yields, in whichever outcome
      have hij : (bm.getD j 0).testBit i = false := not_ready hm hd (unlisted_of_ready hr) hj
      have out : ∀ G' u w1, Agree bm i G G' → wpAnyF P md ops bm em xm Q (fuel + 1) G' (listed.setIfInBounds i true) (a.put oi.dst u) w1 → ∃ v, (YF P ops (G j) oj v a ∧ em.testBit j = false) ∧ wpAnyF P md ops bm em xm Q fuel G' ((listed.setIfInBounds i true).setIfInBounds j true) ((a.put oi.dst u).put oj.dst v) w1 := by
        intro G' u w1 hA hk
        obtain ⟨oj', hoj', h1⟩ := hk.2 j (ready_mono hj hji)
        obtain rfl : oj = oj' := by rw [hoj] at hoj'; exact Option.some.inj hoj'
        have hex := execOp_put oj (fun cs b => hsel j oj cs b hoj) a oi.dst u h1a
        have hwa := wanted_put oj a oi.dst u h1a
        rcases h1 with ⟨v, hyv, hz, hk⟩ | ⟨he, _⟩ | ⟨hx, _⟩
        · rw [hA j hij] at hyv
          refine ⟨v, ⟨hyv.of_same hex.symm hwa.symm, hz.resolve_right fun h => ?_⟩, hk⟩
          rw [hne] at h; cases h.1
        · rw [hne] at he; cases he
        · rw [hnx] at hx; cases hx
      obtain ⟨u0, w0, G0, hA0, _, hk0⟩ := effUpon_some H.2
      obtain ⟨v, hyv, _⟩ := out G0 u0 w0 hA0 hk0
      refine ⟨oj, hoj, .inl ⟨v, hyv.1, .inl hyv.2, ih _ _ _ _ (hd.add hj) (hF.set j hyv.2) hfree' (ready_mono hr (Ne.symm hji)) ⟨?_, ?_⟩⟩⟩
      · rw [wanted_put oi a oj.dst v h3a]; exact H.1
      · rw [execOp_put oi (fun cs b => hsel i oi cs b hi) a oj.dst v h3a]
        refine effUpon_put (fun d hd => h2a d hd) (effUpon_mono (fun u w1 ⟨G', hA, hX, hk⟩ => ⟨G', hA, hX, ?_⟩) H.2)
        obtain ⟨v', hyv', hk'⟩ := out G' u w1 hA hk
        obtain rfl := hyv.1.unique (hF j hjF (fun e _ _ h => ready_anc hm hd hj h)) hyv'.1
        rw [Array.setIfInBounds_comm _ _ hji]
        exact hk'

/-- One walk in the text's order. -/
def wpF (P : Program) (ops : Array Oper) (bm : List Nat) (em : Nat) (xm : Nat) (Q : Act → World → Prop) : Nat → List Oper → (Nat → World → Prop) → Act → World → Prop
  | _, [], _, a, w => Q a w
  | i, o :: rest, G, a, w => (∃ v, YF P ops (G i) o v a ∧ (em.testBit i = false ∨ (effB o.op = true ∧ FX bm em G i w)) ∧ wpF P ops bm em xm Q (i + 1) rest G (a.put o.dst v) w) ∨ (effB o.op = true ∧ effW P ops o a w fun a' w' => ∃ G', Agree bm i G G' ∧ FX bm em G' i w' ∧ wpF P ops bm em xm Q (i + 1) rest G' a' w') ∨
    (xm.testBit i = true ∧ em.testBit i = false ∧ ∃ v, YX P ops o v a w ∧ wpF P ops bm em xm Q (i + 1) rest G (a.put o.dst v) w)

def freeX (ops : Array Oper) (bm : List Nat) (xm : Nat) (listed : Array Bool) (i : Nat) : Bool :=
  match ops[i]? with
  | none => false
  | some oi => (List.range ops.size).all fun j => j == i || listed.getD j true || match ops[j]? with
      | some oj => (bm.getD j 0).testBit i || apartX ops xm i j oi oj
      | none => true
theorem freeX_spec {i : Nat} {oi : Oper} {listed : Array Bool} (hi : ops[i]? = some oi) (h : freeX ops bm xm listed i = true) (j : Nat) (oj : Oper)
    (hj : ops[j]? = some oj) (hne : j ≠ i) (hun : listed.getD j true = false) (hno : (bm.getD j 0).testBit i = false) :
    apartX ops xm i j oi oj = true := by
  simp only [freeX, hi, List.all_eq_true, List.mem_range] at h
  have h1 := h j (Array.getElem?_eq_some_iff.1 hj).1
  simp only [hj, Bool.or_eq_true, beq_iff_eq, hne, false_or, hun, Bool.false_eq_true, hno] at h1
  exact h1
def lexFromX (md : Region.Mode) (ops : Array Oper) (bm : List Nat) (xm : Nat) : Nat → Nat → Array Bool → Bool
  | 0, _, listed => (Region.ready md ops listed).isEmpty
  | fuel + 1, k, listed => (Region.ready md ops listed).contains k && freeX ops bm xm listed k && lexFromX md ops bm xm fuel (k + 1) (listed.setIfInBounds k true)
def lexX (ops : Array Oper) (bm : List Nat) (xm : Nat) : Bool := (bm.length == ops.size && Region.noSelect ops) && maskOk .any ops bm && lexFromX .any ops bm xm ops.size 0 (Array.replicate ops.size false)

theorem wpAnyF_lex {Q : Act → World → Prop} (hs : Region.noSelect ops = true) (hm : maskOk md ops bm = true) (hbl : bm.length = ops.size) : ∀ (l : List Oper) (k : Nat) (G : Nat → World → Prop) (listed : Array Bool) (a : Act) (w : World), DC md ops listed → Inv bm em G listed w → (∀ j, l[j]? = ops[k + j]?) →
    lexFromX md ops bm xm l.length k listed = true → wpF P ops bm em xm Q k l G a w → wpAnyF P md ops bm em xm Q l.length G listed a w
  | [], _, _, _, _, _, _, _, _, hB, h => ⟨by simpa [lexFromX] using hB, h⟩
  | o :: l, k, G, listed, a, w, hd, hF, hl, hB, h => by
    have h0 : ops[k]? = some o := by simpa using (hl 0).symm
    simp only [List.length_cons, lexFromX, Bool.and_eq_true] at hB
    obtain ⟨⟨hr, hf⟩, hB'⟩ := hB
    have hr' : k ∈ Region.ready md ops listed := by simpa using hr
    have hl' : ∀ j, l[j]? = ops[k + 1 + j]? := fun j => by have := hl (j + 1); simpa [Nat.add_assoc, Nat.add_comm 1 j] using this
    rcases h with ⟨v, hy, hz, hK⟩ | ⟨he, hw, hu⟩ | ⟨hx, hz, v, hy, hK⟩
    · exact first_pure hm h0 (Region.noSelect_spec hs) l.length _ listed a w hd (freeX_spec h0 hf) hr' (.inl ⟨hy, hz⟩) (wpAnyF_lex hs hm hbl l (k + 1) _ _ _ _ (hd.add hr') (hz.elim (hF.set k) fun h => Inv.of_FX hm hbl hd hr' h.2) hl' hB' hK)
    · exact first_eff hm h0 he (Region.noSelect_spec hs) l.length _ listed a w hd hF (freeX_spec h0 hf) hr'
        ⟨hw, effUpon_mono (fun v w1 ⟨G', hA, hX, hk⟩ => ⟨G', hA, hX, wpAnyF_lex hs hm hbl l (k + 1) _ _ _ _ (hd.add hr') (Inv.of_FX hm hbl hd hr' hX) hl' hB' hk⟩) hu⟩
    · exact first_pure hm h0 (Region.noSelect_spec hs) l.length _ listed a w hd (freeX_spec h0 hf) hr' (.inr ⟨hx, hz, hy⟩) (wpAnyF_lex hs hm hbl l (k + 1) _ _ _ _ (hd.add hr') (hF.set k hz) hl' hB' hK)

theorem wp_region_F (bm : List Nat) (em : Nat) (xm : Nat) {id : Nat} {Q : Exit → Act → World → Prop} {a : Act} {w : World} {l : List Oper} (hm : P.follows .mixedOrders = true) (hB : lexX l.toArray bm xm = true) (hF : ∀ j, free bm em j = true → G j w.drew)
    (h : wpF P l.toArray bm em xm (fun a' w' => Q .normal a' w') 0 l G a w.drew) : (Code.region id l.toArray true).wp P Q a w := by
  simp only [lexX, Bool.and_eq_true, beq_iff_eq] at hB
  have hd : DC .any l.toArray (Array.replicate l.toArray.size false) := by
    intro j o ho hl
    have : (Array.replicate l.toArray.size false).getD j false = false := by
      rw [Array.getD_eq_getD_getElem?, Array.getElem?_replicate]
      split <;> rfl
    rw [this] at hl
    cases hl
  have hI : Inv bm em G (Array.replicate l.toArray.size false) w.drew := fun j _ he => hF j (by
    refine List.all_eq_true.2 fun e h1 => ?_
    cases hb : (em.testBit e && (bm.getD j 0).testBit e)
    · rfl
    · simp only [Bool.and_eq_true] at hb
      have h3 := he e (List.mem_range.1 h1) hb.1 hb.2
      rw [Array.getD_eq_getD_getElem?, Array.getElem?_replicate] at h3
      split at h3 <;> cases h3)
  refine wp_region_any hm (wpAny_of_F (em := em) (xm := xm) (Q := fun a' w' => Q .normal a' w') hB.1.2 hB.1.1.1 (fun _ _ h => h) _ G _ _ _ hd hI ?_)
  have := wpAnyF_lex (md := .any) hB.1.1.2 hB.1.2 hB.1.1.1 l 0 G (Array.replicate l.toArray.size false) a w.drew hd hI (by simp) (by simpa using hB.2) h
  simpa using this
end
end Go.Hp
