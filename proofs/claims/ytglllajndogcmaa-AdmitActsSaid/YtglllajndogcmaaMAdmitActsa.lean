/- What the law needs. -/
import Derived.Still
import Derived.Laws.World
import Derived.WalkKit
import Derived.OneCell
import Derived.LoopN
import Derived.WalkSpells
import Derived.Laws.MakeOwn
import Derived.Deep.Slices
import Derived.ProofKit
import Derived.Below
import Derived.OpenShut
import Derived.ChangeOld
import Derived.MapKept
import Derived.Maps.RangeRun
import Derived.Laws.BytesArg
import Derived.RangeFuncIn
import Derived.RangeFuncLeaves
import Derived.RangeFuncRecord
import Derived.TacticsIn
import Derived.Sort.EveryDepth
section
namespace Go.Hp
open Go

def effB : Op → Bool
  | .move _ | .assign _ | .pick .. | .load .. | .nilCheck _ | .binOp .. | .unOp .. | .makeInterface .. | .makeFunc .. | .slice .. | .fieldAddr .. | .field .. | .indexAddr .. | .index ..
  | .lookup .. | .extract .. | .sliceToArrayPointer .. | .convert .. => false
  | .build .. => false
  | .call { callee := .builtin b, .. } => (match b with | .len | .cap | .min | .max => false | _ => true)
  | _ => true

section
variable {P : Program} {ops : Array Oper} {F : World → Prop} {G : Nat → World → Prop} {em : Nat} {md : Region.Mode} {xm : Nat} {bm : List Nat}

def YF (P : Program) (ops : Array Oper) (F : World → Prop) (o : Oper) (v : Value) (a : Act) : Prop :=
  (Region.wanted o (yielded ops a.tmps) = true ∧ ∀ w, F w → (execOp a.eval o).run P w = .ok (.value v) w) ∨
  (Region.wanted o (yielded ops a.tmps) = false ∧ v = undef)

def YX (P : Program) (ops : Array Oper) (o : Oper) (v : Value) (a : Act) (w : World) : Prop :=
  (Region.wanted o (yielded ops a.tmps) = true ∧ (execOp a.eval o).run P w = .ok (.value v) w) ∨ (Region.wanted o (yielded ops a.tmps) = false ∧ v = undef)

def effUpon (P : Program) (o : Oper) (a : Act) (K : Act → World → Prop) : Result Next → Prop
  | .ok (.value v) w' => K (a.put o.dst v) w'
  | .ok .skip w' => K (a.put o.dst undef) w'
  | .ok (.enter f args) w' => Calls P f args w' fun e w'' => ∃ v, e = .returned v ∧ K (a.put o.dst v) w''
  | _ => False
def effW (P : Program) (ops : Array Oper) (o : Oper) (a : Act) (w : World) (K : Act → World → Prop) : Prop :=
  Region.wanted o (yielded ops a.tmps) = true ∧ effUpon P o a K ((execOp a.eval o).run P w)

theorem effUpon_mono {o : Oper} {a : Act} {K K' : Act → World → Prop} (h : ∀ v w, K (a.put o.dst v) w → K' (a.put o.dst v) w) {r : Result Next} (hh : effUpon P o a K r) : effUpon P o a K' r := by
  cases r with
  | ok n w' =>
    cases n <;> simp only [effUpon] at hh ⊢
    case enter f args => exact hh.mono fun e w'' ⟨v, he, hk⟩ => ⟨v, he, h _ _ hk⟩
    all_goals exact h _ _ hh
  | halt x w' => simp only [effUpon] at hh
theorem effUpon_some {o : Oper} {a : Act} {K : Act → World → Prop} {r : Result Next} (hh : effUpon P o a K r) : ∃ v w, K (a.put o.dst v) w := by
  cases r with
  | ok n w' =>
    cases n <;> simp only [effUpon] at hh
    case enter f args =>
      obtain ⟨e, w'', fr, ⟨v, he, hk⟩, _⟩ := hh []
      exact ⟨v, w'', hk⟩
    all_goals exact ⟨_, _, hh⟩
  | halt x w' => simp only [effUpon] at hh
theorem effUpon_put {o : Oper} {a : Act} {K : Act → World → Prop} {dst : Option Tmp} {u : Value} (hd : ∀ d, o.dst = some d → dst ≠ some d) {r : Result Next}
    (hh : effUpon P o a (fun a' w' => K (a'.put dst u) w') r) : effUpon P o (a.put dst u) K r := by
  cases r with
  | ok n w' =>
    cases n <;> simp only [effUpon] at hh ⊢
    case enter f args => exact hh.mono fun e w'' ⟨v, he, hk⟩ => ⟨v, he, by rw [← Act.put_comm a v u hd]; exact hk⟩
    all_goals (rw [← Act.put_comm a _ u hd]; exact hh)
  | halt x w' => simp only [effUpon] at hh

def blocked (bm : List Nat) (em i j : Nat) : Bool := (List.range bm.length).any fun e => em.testBit e && (bm.getD j 0).testBit e && (bm.getD e 0).testBit i
def free (bm : List Nat) (em j : Nat) : Bool := (List.range bm.length).all fun e => !(em.testBit e && (bm.getD j 0).testBit e)
def FX (bm : List Nat) (em : Nat) (G : Nat → World → Prop) (i : Nat) (w : World) : Prop := ∀ j, (bm.getD i 0).testBit j = false → blocked bm em i j = false → G j w

def Agree (bm : List Nat) (i : Nat) (G G' : Nat → World → Prop) : Prop := ∀ j, (bm.getD j 0).testBit i = false → G' j = G j
theorem Agree.rfl' {bm : List Nat} {i : Nat} {G : Nat → World → Prop} : Agree bm i G G := fun _ _ => rfl

def opF (P : Program) (ops : Array Oper) (bm : List Nat) (em : Nat) (G : Nat → World → Prop) (xm : Nat) (i : Nat) (K : (Nat → World → Prop) → Act → World → Prop) (a : Act) (w : World) : Prop :=
  ∃ o, ops[i]? = some o ∧ ((∃ v, YF P ops (G i) o v a ∧ (em.testBit i = false ∨ (effB o.op = true ∧ FX bm em G i w)) ∧ K G (a.put o.dst v) w) ∨ (effB o.op = true ∧ effW P ops o a w fun a' w' => ∃ G', Agree bm i G G' ∧ FX bm em G' i w' ∧ K G' a' w') ∨ (xm.testBit i = true ∧ em.testBit i = false ∧ ∃ v, YX P ops o v a w ∧ K G (a.put o.dst v) w))

def wpAnyF (P : Program) (md : Region.Mode) (ops : Array Oper) (bm : List Nat) (em : Nat) (xm : Nat) (Q : Act → World → Prop) : Nat → (Nat → World → Prop) → Array Bool → Act → World → Prop
  | 0, _, listed, a, w => Region.ready md ops listed = [] ∧ Q a w
  | fuel + 1, G, listed, a, w => (Region.ready md ops listed = [] → Q a w) ∧
    ∀ i ∈ Region.ready md ops listed, opF P ops bm em G xm i (fun G' a' w' => wpAnyF P md ops bm em xm Q fuel G' (listed.setIfInBounds i true) a' w') a w

theorem YF.of_same {o : Oper} {v : Value} {a a' : Act} (hy : YF P ops F o v a) (he : execOp a'.eval o = execOp a.eval o)
    (hw : Region.wanted o (yielded ops a'.tmps) = Region.wanted o (yielded ops a.tmps)) : YF P ops F o v a' := by
  unfold YF at *
  rw [he, hw]
  exact hy
theorem YF.unique {o : Oper} {v v' : Value} {a : Act} {w : World} (hF : F w) (h : YF P ops F o v a) (h' : YF P ops F o v' a) : v = v' := by
  rcases h with ⟨h1, h2⟩ | ⟨h1, h2⟩ <;> rcases h' with ⟨k1, k2⟩ | ⟨k1, k2⟩
  · have := h2 w hF; rw [k2 w hF] at this; injection this with e _; injection e with e; exact e.symm
  · rw [h1] at k1; cases k1
  · rw [h1] at k1; cases k1
  · rw [h2, k2]

theorem YX.of_same {o : Oper} {v : Value} {a a' : Act} {w : World} (hy : YX P ops o v a w) (he : execOp a'.eval o = execOp a.eval o)
    (hw : Region.wanted o (yielded ops a'.tmps) = Region.wanted o (yielded ops a.tmps)) : YX P ops o v a' w := by
  unfold YX at *
  rw [he, hw]
  exact hy

def apartX (ops : Array Oper) (xm i j : Nat) (x y : Oper) : Bool := x.apart ops y && !(effB x.op && effB y.op) && !(xm.testBit i && effB y.op) && !(effB x.op && xm.testBit j)

def DC (md : Region.Mode) (ops : Array Oper) (listed : Array Bool) : Prop := ∀ j o, ops[j]? = some o → listed.getD j false = true → ∀ e ∈ o.after, Region.binds md e = true → listed.getD e.on false = true
theorem DC.add {listed : Array Bool} (h : DC md ops listed) {i : Nat} (hi : i ∈ Region.ready md ops listed) : DC md ops (listed.setIfInBounds i true) := by
  intro j o ho hl e he hb
  by_cases hij : i = j
  · subst hij
    obtain ⟨_, o', ho', hall⟩ := mem_ready.1 hi
    obtain rfl : o = o' := by rw [ho] at ho'; exact Option.some.inj ho'
    exact getD_set_true (hall e he hb)
  · rw [getD_set_ne false hij] at hl
    exact getD_set_true (h j o ho hl e he hb)
def joined (md : Region.Mode) (bm : List Nat) (o : Oper) : Nat := o.after.toList.foldl (fun s e => if Region.binds md e then s ||| 2 ^ e.on ||| bm.getD e.on 0 else s) 0
def maskOk (md : Region.Mode) (ops : Array Oper) (bm : List Nat) : Bool :=
  (List.range ops.size).all fun j => match ops[j]? with
    | some o => o.after.all (fun e => !Region.binds md e || decide (e.on < j)) && (bm.getD j 0 &&& joined md bm o) == bm.getD j 0
    | none => true
theorem joined_bit {o : Oper} {i : Nat} (h : (joined md bm o).testBit i = true) : ∃ e ∈ o.after, Region.binds md e = true ∧ (e.on = i ∨ (bm.getD e.on 0).testBit i = true) := by
  have key : ∀ (l : List Edge) (s : Nat), (l.foldl (fun s e => if Region.binds md e then s ||| 2 ^ e.on ||| bm.getD e.on 0 else s) s).testBit i = true → s.testBit i = true ∨ ∃ e ∈ l, Region.binds md e = true ∧ (e.on = i ∨ (bm.getD e.on 0).testBit i = true) := by
    intro l
    induction l with
    | nil => intro s h; exact .inl h
    | cons e l ih =>
      intro s h
      rcases ih _ h with h1 | ⟨e', he', hh⟩
      · by_cases hb : Region.binds md e = true
        · dsimp only at h1
          rw [if_pos hb] at h1
          simp only [Nat.testBit_or, Bool.or_eq_true] at h1
          rcases h1 with (h1 | h1) | h1
          · exact .inl h1
          · refine .inr ⟨e, by simp, hb, .inl ?_⟩
            rw [Nat.testBit_two_pow] at h1
            exact of_decide_eq_true h1
          · exact .inr ⟨e, by simp, hb, .inr h1⟩
        · dsimp only at h1
          rw [if_neg hb] at h1
          exact .inl h1
      · exact .inr ⟨e', by simp [he'], hh⟩
  rcases key _ _ h with h1 | ⟨e, he, hh⟩
  · simp at h1
  · exact ⟨e, by simpa using he, hh⟩
theorem mask_bit (hm : maskOk md ops bm = true) {j i : Nat} {o : Oper} (ho : ops[j]? = some o) (h : (bm.getD j 0).testBit i = true) : ∃ e ∈ o.after, Region.binds md e = true ∧ e.on < j ∧ (e.on = i ∨ (bm.getD e.on 0).testBit i = true) := by
  have hj : j < ops.size := (Array.getElem?_eq_some_iff.1 ho).1
  have := List.all_eq_true.1 hm j (List.mem_range.2 hj)
  simp only [ho, Bool.and_eq_true, beq_iff_eq] at this
  obtain ⟨h1, h2⟩ := this
  rw [← h2, Nat.testBit_and, Bool.and_eq_true] at h
  obtain ⟨e, he, hb, hh⟩ := joined_bit h.2
  have := Array.all_eq_true_iff_forall_mem.1 h1 e he
  simp only [hb, Bool.not_true, Bool.false_or, decide_eq_true_eq] at this
  exact ⟨e, he, hb, this, hh⟩
theorem not_listed (hm : maskOk md ops bm = true) {listed : Array Bool} (hd : DC md ops listed) {i : Nat} (hi : listed.getD i false = false) : ∀ j o, ops[j]? = some o → (bm.getD j 0).testBit i = true → listed.getD j false = true → False := by
  intro j
  induction j using Nat.strongRecOn with
  | _ j ih =>
    intro o ho hb hl
    obtain ⟨e, he, hbe, hlt, hh⟩ := mask_bit hm ho hb
    have hle := hd j o ho hl e he hbe
    rcases hh with rfl | hh
    · rw [hi] at hle; cases hle
    · have : e.on < ops.size := by
        have : j < ops.size := (Array.getElem?_eq_some_iff.1 ho).1
        omega
      exact ih e.on hlt _ (Array.getElem?_eq_getElem this) hh hle
theorem not_ready (hm : maskOk md ops bm = true) {listed : Array Bool} (hd : DC md ops listed) {i j : Nat} (hi : listed.getD i false = false) (hj : j ∈ Region.ready md ops listed) : (bm.getD j 0).testBit i = false := by
  cases hb : (bm.getD j 0).testBit i
  · rfl
  · exfalso
    obtain ⟨_, o, ho, hall⟩ := mem_ready.1 hj
    obtain ⟨e, he, hbe, hlt, hh⟩ := mask_bit hm ho hb
    have hle := hall e he hbe
    rcases hh with rfl | hh
    · rw [hi] at hle; cases hle
    · have : e.on < ops.size := by
        have : j < ops.size := (Array.getElem?_eq_some_iff.1 ho).1
        omega
      exact not_listed hm hd hi e.on _ (Array.getElem?_eq_getElem this) hh hle
theorem unlisted_of_ready {listed : Array Bool} {i : Nat} (hi : i ∈ Region.ready md ops listed) : listed.getD i false = false := by
  have h0 := (mem_ready.1 hi).1
  rcases Nat.lt_or_ge i listed.size with h' | h'
  · simp [h'] at h0 ⊢; exact h0
  · simp [Array.getElem?_eq_none h']

def Inv (bm : List Nat) (em : Nat) (G : Nat → World → Prop) (listed : Array Bool) (w : World) : Prop := ∀ j, listed.getD j false = false → (∀ e, e < bm.length → em.testBit e = true → (bm.getD j 0).testBit e = true → listed.getD e false = true) → G j w
theorem Inv.set {listed : Array Bool} {w : World} (h : Inv bm em G listed w) (i : Nat) (hi : em.testBit i = false) : Inv bm em G (listed.setIfInBounds i true) w := fun j hj he => h j (by
  cases hl : listed.getD j false
  · rfl
  · rw [getD_set_true hl] at hj; cases hj) (fun e hb h1 h2 => by
  have h3 := he e hb h1 h2
  have hne : i ≠ e := fun e' => by rw [e', h1] at hi; cases hi
  rwa [getD_set_ne false hne] at h3)
theorem ready_anc {listed : Array Bool} {i e : Nat} (hm : maskOk md ops bm = true) (hd : DC md ops listed) (hi : i ∈ Region.ready md ops listed) (h : (bm.getD i 0).testBit e = true) : listed.getD e false = true := by
  cases hl : listed.getD e false
  · rw [not_ready hm hd hl hi] at h; cases h
  · rfl
theorem Inv.of_FX {listed : Array Bool} {w : World} {i : Nat} (hm : maskOk md ops bm = true) (hbl : bm.length = ops.size) (hd : DC md ops listed) (hi : i ∈ Region.ready md ops listed) (h : FX bm em G i w) : Inv bm em G (listed.setIfInBounds i true) w := fun j hj he => h j (not_ready hm hd (by
  cases hl : listed.getD j false
  · rfl
  · rw [getD_set_true hl] at hj; cases hj) hi) (by
  cases hb : blocked bm em i j
  · rfl
  · exfalso
    obtain ⟨e, h1, h2⟩ := List.any_eq_true.1 hb
    simp only [Bool.and_eq_true] at h2
    have hlt : e < bm.length := List.mem_range.1 h1
    have h3 := he e hlt h2.1.1 h2.1.2
    by_cases hie : i = e
    · subst hie
      rw [not_ready hm hd (unlisted_of_ready hi) hi] at h2
      cases h2.2
    · rw [getD_set_ne false hie] at h3
      exact not_listed hm hd (unlisted_of_ready hi) e _ (Array.getElem?_eq_getElem (hbl ▸ hlt)) h2.2 h3)

theorem wpOp_of_opF {listed : Array Bool} {i : Nat} {K : (Nat → World → Prop) → Act → World → Prop} {Q : Exit → Act → World → Prop} {a : Act} {w : World} (hm : maskOk md ops bm = true) (hbl : bm.length = ops.size) (hd : DC md ops listed) (hi : i ∈ Region.ready md ops listed) (hI : Inv bm em G listed w)
    (hh : opF P ops bm em G xm i K a w) : wpOp P ops Q i (fun a' w' => ∃ G', Inv bm em G' (listed.setIfInBounds i true) w' ∧ K G' a' w') a w := by
  have hF : G i w := hI i (unlisted_of_ready hi) (fun e _ _ h => ready_anc hm hd hi h)
  obtain ⟨o, ho, hh⟩ := hh
  unfold wpOp
  simp only [ho]
  have hn : (em.testBit i = false ∨ (effB o.op = true ∧ FX bm em G i w)) → Inv bm em G (listed.setIfInBounds i true) w := fun h => h.elim (hI.set i) (fun h => Inv.of_FX hm hbl hd hi h.2)
  rcases hh with ⟨v, ⟨hw, hy⟩ | ⟨hw, rfl⟩, hz, hk⟩ | ⟨he, hw, hu⟩ | ⟨_, hz, v, ⟨hw, hy⟩ | ⟨hw, rfl⟩, hk⟩
  · simp only [hw, if_true, Oper.wp, hy w hF, Oper.upon]; exact .inl ⟨G, hn hz, hk⟩
  · simp only [hw, Bool.false_eq_true, if_false]; exact ⟨G, hn hz, hk⟩
  rotate_left
  · simp only [hw, if_true, Oper.wp, hy, Oper.upon]; exact .inl ⟨G, hn (.inl hz), hk⟩
  · simp only [hw, Bool.false_eq_true, if_false]; exact ⟨G, hn (.inl hz), hk⟩
  · simp only [hw, if_true, Oper.wp]
    refine .inl ?_
    generalize (execOp a.eval o).run P w = r at hu
    cases r with
    | ok n w' =>
      cases n <;> simp only [effUpon] at hu <;> simp only [Oper.upon]
      case enter f args => exact hu.mono fun e w'' ⟨v, he, G', _, h2, hk⟩ => by subst he; exact ⟨G', Inv.of_FX hm hbl hd hi h2, hk⟩
      all_goals exact (let ⟨G', _, h2, hk⟩ := hu; ⟨G', Inv.of_FX hm hbl hd hi h2, hk⟩)
    | halt x w' => simp only [effUpon] at hu

theorem wpAny_of_F {Q : Act → World → Prop} {Q' : Exit → Act → World → Prop} (hm : maskOk md ops bm = true) (hbl : bm.length = ops.size) (hQ : ∀ a w, Q a w → Q' .normal a w) : ∀ (fuel : Nat) (G : Nat → World → Prop) (listed : Array Bool) (a : Act) (w : World), DC md ops listed → Inv bm em G listed w →
    wpAnyF P md ops bm em xm Q fuel G listed a w → wpAny P md ops Q' fuel listed a w
  | 0, _, _, _, _, _, _, h => ⟨h.1, hQ _ _ h.2⟩
  | fuel + 1, _, _, _, _, hd, hF, h => ⟨fun h0 => hQ _ _ (h.1 h0), fun i hi => wpOp_mono (fun a' w' ⟨G', h1, h2⟩ => wpAny_of_F hm hbl hQ fuel G' _ a' w' (hd.add hi) h1 h2) (wpOp_of_opF hm hbl hd hi hF (h.2 i hi))⟩

theorem first_pure {Q : Act → World → Prop} {i : Nat} {oi : Oper} {v : Value} (hm : maskOk md ops bm = true) (hi : ops[i]? = some oi) (hsel : ∀ (j : Nat) (o : Oper) cs b, ops[j]? = some o → o.op ≠ .select cs b) :
    ∀ (fuel : Nat) (G : Nat → World → Prop) (listed : Array Bool) (a : Act) (w : World), DC md ops listed →
      (∀ j oj, ops[j]? = some oj → j ≠ i → listed.getD j true = false → (bm.getD j 0).testBit i = false → apartX ops xm i j oi oj = true) →
      i ∈ Region.ready md ops listed → ((YF P ops (G i) oi v a ∧ (em.testBit i = false ∨ (effB oi.op = true ∧ FX bm em G i w))) ∨ (xm.testBit i = true ∧ em.testBit i = false ∧ YX P ops oi v a w)) →
      wpAnyF P md ops bm em xm Q fuel G (listed.setIfInBounds i true) (a.put oi.dst v) w → wpAnyF P md ops bm em xm Q (fuel + 1) G listed a w := by
  have me : ∀ {G : Nat → World → Prop} {a : Act} {w : World} {K : (Nat → World → Prop) → Act → World → Prop}, ((YF P ops (G i) oi v a ∧ (em.testBit i = false ∨ (effB oi.op = true ∧ FX bm em G i w))) ∨ (xm.testBit i = true ∧ em.testBit i = false ∧ YX P ops oi v a w)) → K G (a.put oi.dst v) w → opF P ops bm em G xm i K a w := by
    intro G a w K hy hk
    rcases hy with ⟨hy, hz⟩ | ⟨hx, hz, hy⟩
    · exact ⟨oi, hi, .inl ⟨v, hy, hz, hk⟩⟩
    · exact ⟨oi, hi, .inr (.inr ⟨hx, hz, v, hy, hk⟩)⟩
  intro fuel
  induction fuel with
  | zero =>
    intro G listed a w _ _ hr hy H
    refine ⟨fun h => (by rw [h] at hr; cases hr), fun j hj => ?_⟩
    by_cases hji : j = i
    · subst hji; exact me hy H
    · have := ready_mono hj hji
      rw [H.1] at this
      cases this
  | succ fuel ih =>
    intro G listed a w hd hfree hr hy H
    refine ⟨fun h => (by rw [h] at hr; cases hr), fun j hj => ?_⟩
    by_cases hji : j = i
    · subst hji; exact me hy H
    · have h1 := H.2 j (ready_mono hj hji)
      obtain ⟨hjun, oj, hoj, hall⟩ := mem_ready.1 hj
      have hap := hfree j oj hoj hji hjun (not_ready hm hd (unlisted_of_ready hr) hj)
      simp only [apartX, Bool.and_eq_true] at hap
      obtain ⟨h1a, h2a, h3a⟩ := Oper.apart_spec hap.1.1.1
      have hfree' : ∀ k ok, ops[k]? = some ok → k ≠ i → (listed.setIfInBounds j true).getD k true = false →
          (bm.getD k 0).testBit i = false → apartX ops xm i k oi ok = true := fun k ok hk hki hun hno => by
        refine hfree k ok hk hki ?_ hno
        by_cases hjk : j = k
        · subst hjk; exact hjun
        · rw [getD_set_ne true hjk] at hun; exact hun
      have keep : ∀ u, ((YF P ops (G i) oi v (a.put oj.dst u) ∧ (em.testBit i = false ∨ (effB oi.op = true ∧ FX bm em G i w))) ∨ (xm.testBit i = true ∧ em.testBit i = false ∧ YX P ops oi v (a.put oj.dst u) w)) := fun u => by
        have e1 := execOp_put oi (fun cs b => hsel i oi cs b hi) a oj.dst u h3a
        have e2 := wanted_put oi a oj.dst u h3a
        rcases hy with ⟨hy, hz⟩ | ⟨hx, hz, hy⟩
        · exact .inl ⟨hy.of_same e1 e2, hz⟩
        · exact .inr ⟨hx, hz, hy.of_same e1 e2⟩
      obtain ⟨oj', hoj', h1⟩ := h1
      obtain rfl : oj = oj' := by rw [hoj] at hoj'; exact Option.some.inj hoj'
      have hex := execOp_put oj (fun cs b => hsel j oj cs b hoj) a oi.dst v h1a
      have hwa := wanted_put oj a oi.dst v h1a
      have hd' := hd.add hj
      have hij : (bm.getD i 0).testBit j = false := not_ready hm hd (unlisted_of_ready hj) hr
      refine ⟨oj, hoj, ?_⟩
      rcases h1 with ⟨u, hyu, hzj, hk⟩ | ⟨he, hw, hu⟩ | ⟨hxj, hzj, u, hyu, hk⟩
      · refine .inl ⟨u, hyu.of_same hex.symm hwa.symm, hzj, ih _ _ _ _ hd' hfree' (ready_mono hr (Ne.symm hji)) (keep u) ?_⟩
        rw [Array.setIfInBounds_comm _ _ hji, ← Act.put_comm a v u h2a]
        exact hk
      · have hyF : YF P ops (G i) oi v a ∧ em.testBit i = false := by
          rcases hy with ⟨hy, hz | ⟨hz, _⟩⟩ | ⟨hx, _⟩
          · exact ⟨hy, hz⟩
          · rw [hz, he] at hap; simp at hap
          · rw [hx, he] at hap; simp at hap
        have keepF : ∀ u, YF P ops (G i) oi v (a.put oj.dst u) := fun u => hyF.1.of_same (execOp_put oi (fun cs b => hsel i oi cs b hi) a oj.dst u h3a) (wanted_put oi a oj.dst u h3a)
        refine .inr (.inl ⟨he, by rw [← hwa]; exact hw, ?_⟩)
        rw [← hex]
        generalize (execOp (a.put oi.dst v).eval oj).run P w = r at hu
        cases r with
        | ok n w' =>
          cases n <;> simp only [effUpon] at hu ⊢
          case enter f args =>
            refine hu.mono fun e w'' ⟨x, he, G', hA, hF, hk⟩ => ⟨x, he, G', hA, hF, ih _ _ _ _ hd' hfree' (ready_mono hr (Ne.symm hji)) (.inl ⟨by rw [hA i hij]; exact keepF x, .inl hyF.2⟩) ?_⟩
            rw [Array.setIfInBounds_comm _ _ hji, ← Act.put_comm a v x h2a]; exact hk
          all_goals
            obtain ⟨G', hA, hF, hk⟩ := hu
            refine ⟨G', hA, hF, ih _ _ _ _ hd' hfree' (ready_mono hr (Ne.symm hji)) (.inl ⟨by rw [hA i hij]; exact keepF _, .inl hyF.2⟩) ?_⟩
            rw [Array.setIfInBounds_comm _ _ hji, ← Act.put_comm a v _ h2a]; exact hk
        | halt x w' => simp only [effUpon] at hu
      · refine .inr (.inr ⟨hxj, hzj, u, hyu.of_same hex.symm hwa.symm, ih _ _ _ _ hd' hfree' (ready_mono hr (Ne.symm hji)) (keep u) ?_⟩)
        rw [Array.setIfInBounds_comm _ _ hji, ← Act.put_comm a v u h2a]
        exact hk

theorem first_eff {Q : Act → World → Prop} {i : Nat} {oi : Oper} (hm : maskOk md ops bm = true) (hi : ops[i]? = some oi) (heff : effB oi.op = true) (hsel : ∀ (j : Nat) (o : Oper) cs b, ops[j]? = some o → o.op ≠ .select cs b) :
    ∀ (fuel : Nat) (G : Nat → World → Prop) (listed : Array Bool) (a : Act) (w : World), DC md ops listed → Inv bm em G listed w →
      (∀ j oj, ops[j]? = some oj → j ≠ i → listed.getD j true = false → (bm.getD j 0).testBit i = false → apartX ops xm i j oi oj = true) →
      i ∈ Region.ready md ops listed →
      effW P ops oi a w (fun a' w' => ∃ G', Agree bm i G G' ∧ FX bm em G' i w' ∧ wpAnyF P md ops bm em xm Q fuel G' (listed.setIfInBounds i true) a' w') → wpAnyF P md ops bm em xm Q (fuel + 1) G listed a w := by
  intro fuel
  induction fuel with
  | zero =>
    intro G listed a w _ hF _ hr H
    refine ⟨fun h => (by rw [h] at hr; cases hr), fun j hj => ?_⟩
    by_cases hji : j = i
    · subst hji; exact ⟨oi, hi, .inr (.inl ⟨heff, H⟩)⟩
    · have h0 := ready_mono hj hji
      obtain ⟨_, _, _, _, _, hk⟩ := effUpon_some H.2
      rw [hk.1] at h0
      cases h0
  | succ fuel ih =>
    intro G listed a w hd hF hfree hr H
    refine ⟨fun h => (by rw [h] at hr; cases hr), fun j hj => ?_⟩
    by_cases hji : j = i
    · subst hji; exact ⟨oi, hi, .inr (.inl ⟨heff, H⟩)⟩
    · obtain ⟨hjun, oj, hoj, hall⟩ := mem_ready.1 hj
      have hap := hfree j oj hoj hji hjun (not_ready hm hd (unlisted_of_ready hr) hj)
      simp only [apartX, Bool.and_eq_true, Bool.not_eq_true', heff, Bool.true_and] at hap
      obtain ⟨⟨⟨hap, hne⟩, _⟩, hnx⟩ := hap
      obtain ⟨h1a, h2a, h3a⟩ := Oper.apart_spec hap
      have hfree' : ∀ k ok, ops[k]? = some ok → k ≠ i → (listed.setIfInBounds j true).getD k true = false →
          (bm.getD k 0).testBit i = false → apartX ops xm i k oi ok = true := fun k ok hk hki hun hno => by
        refine hfree k ok hk hki ?_ hno
        by_cases hjk : j = k
        · subst hjk; exact hjun
        · rw [getD_set_ne true hjk] at hun; exact hun
      have hjF := unlisted_of_ready hj
      -- what j yields, in whichever outcome
      have hij : (bm.getD j 0).testBit i = false := not_ready hm hd (unlisted_of_ready hr) hj
      have out : ∀ G' u w1, Agree bm i G G' → wpAnyF P md ops bm em xm Q (fuel + 1) G' (listed.setIfInBounds i true) (a.put oi.dst u) w1 → ∃ v, (YF P ops (G j) oj v a ∧ em.testBit j = false) ∧ wpAnyF P md ops bm em xm Q fuel G' ((listed.setIfInBounds i true).setIfInBounds j true) ((a.put oi.dst u).put oj.dst v) w1 := by
        intro G' u w1 hA hk
        obtain ⟨oj', hoj', h1⟩ := hk.2 j (ready_mono hj hji)
        obtain rfl : oj = oj' := by rw [hoj] at hoj'; exact Option.some.inj hoj'
        have hex := execOp_put oj (fun cs b => hsel j oj cs b hoj) a oi.dst u h1a
        have hwa := wanted_put oj a oi.dst u h1a
        rcases h1 with ⟨v, hyv, hz, hk⟩ | ⟨he, _⟩ | ⟨hx, _⟩
        · rw [hA j hij] at hyv
          refine ⟨v, ⟨hyv.of_same hex.symm hwa.symm, hz.resolve_right fun h => ?_⟩, hk⟩
          rw [hne] at h; cases h.1
        · rw [hne] at he; cases he
        · rw [hnx] at hx; cases hx
      obtain ⟨u0, w0, G0, hA0, _, hk0⟩ := effUpon_some H.2
      obtain ⟨v, hyv, _⟩ := out G0 u0 w0 hA0 hk0
      refine ⟨oj, hoj, .inl ⟨v, hyv.1, .inl hyv.2, ih _ _ _ _ (hd.add hj) (hF.set j hyv.2) hfree' (ready_mono hr (Ne.symm hji)) ⟨?_, ?_⟩⟩⟩
      · rw [wanted_put oi a oj.dst v h3a]; exact H.1
      · rw [execOp_put oi (fun cs b => hsel i oi cs b hi) a oj.dst v h3a]
        refine effUpon_put (fun d hd => h2a d hd) (effUpon_mono (fun u w1 ⟨G', hA, hX, hk⟩ => ⟨G', hA, hX, ?_⟩) H.2)
        obtain ⟨v', hyv', hk'⟩ := out G' u w1 hA hk
        obtain rfl := hyv.1.unique (hF j hjF (fun e _ _ h => ready_anc hm hd hj h)) hyv'.1
        rw [Array.setIfInBounds_comm _ _ hji]
        exact hk'

def wpF (P : Program) (ops : Array Oper) (bm : List Nat) (em : Nat) (xm : Nat) (Q : Act → World → Prop) : Nat → List Oper → (Nat → World → Prop) → Act → World → Prop
  | _, [], _, a, w => Q a w
  | i, o :: rest, G, a, w => (∃ v, YF P ops (G i) o v a ∧ (em.testBit i = false ∨ (effB o.op = true ∧ FX bm em G i w)) ∧ wpF P ops bm em xm Q (i + 1) rest G (a.put o.dst v) w) ∨ (effB o.op = true ∧ effW P ops o a w fun a' w' => ∃ G', Agree bm i G G' ∧ FX bm em G' i w' ∧ wpF P ops bm em xm Q (i + 1) rest G' a' w') ∨
    (xm.testBit i = true ∧ em.testBit i = false ∧ ∃ v, YX P ops o v a w ∧ wpF P ops bm em xm Q (i + 1) rest G (a.put o.dst v) w)

def freeX (ops : Array Oper) (bm : List Nat) (xm : Nat) (listed : Array Bool) (i : Nat) : Bool :=
  match ops[i]? with
  | none => false
  | some oi => (List.range ops.size).all fun j => j == i || listed.getD j true || match ops[j]? with
      | some oj => (bm.getD j 0).testBit i || apartX ops xm i j oi oj
      | none => true
theorem freeX_spec {i : Nat} {oi : Oper} {listed : Array Bool} (hi : ops[i]? = some oi) (h : freeX ops bm xm listed i = true) (j : Nat) (oj : Oper)
    (hj : ops[j]? = some oj) (hne : j ≠ i) (hun : listed.getD j true = false) (hno : (bm.getD j 0).testBit i = false) :
    apartX ops xm i j oi oj = true := by
  simp only [freeX, hi, List.all_eq_true, List.mem_range] at h
  have h1 := h j (Array.getElem?_eq_some_iff.1 hj).1
  simp only [hj, Bool.or_eq_true, beq_iff_eq, hne, false_or, hun, Bool.false_eq_true, hno] at h1
  exact h1
def lexFromX (md : Region.Mode) (ops : Array Oper) (bm : List Nat) (xm : Nat) : Nat → Nat → Array Bool → Bool
  | 0, _, listed => (Region.ready md ops listed).isEmpty
  | fuel + 1, k, listed => (Region.ready md ops listed).contains k && freeX ops bm xm listed k && lexFromX md ops bm xm fuel (k + 1) (listed.setIfInBounds k true)
def lexX (ops : Array Oper) (bm : List Nat) (xm : Nat) : Bool := (bm.length == ops.size && Region.noSelect ops) && maskOk .any ops bm && lexFromX .any ops bm xm ops.size 0 (Array.replicate ops.size false)

theorem wpAnyF_lex {Q : Act → World → Prop} (hs : Region.noSelect ops = true) (hm : maskOk md ops bm = true) (hbl : bm.length = ops.size) : ∀ (l : List Oper) (k : Nat) (G : Nat → World → Prop) (listed : Array Bool) (a : Act) (w : World), DC md ops listed → Inv bm em G listed w → (∀ j, l[j]? = ops[k + j]?) →
    lexFromX md ops bm xm l.length k listed = true → wpF P ops bm em xm Q k l G a w → wpAnyF P md ops bm em xm Q l.length G listed a w
  | [], _, _, _, _, _, _, _, _, hB, h => ⟨by simpa [lexFromX] using hB, h⟩
  | o :: l, k, G, listed, a, w, hd, hF, hl, hB, h => by
    have h0 : ops[k]? = some o := by simpa using (hl 0).symm
    simp only [List.length_cons, lexFromX, Bool.and_eq_true] at hB
    obtain ⟨⟨hr, hf⟩, hB'⟩ := hB
    have hr' : k ∈ Region.ready md ops listed := by simpa using hr
    have hl' : ∀ j, l[j]? = ops[k + 1 + j]? := fun j => by have := hl (j + 1); simpa [Nat.add_assoc, Nat.add_comm 1 j] using this
    rcases h with ⟨v, hy, hz, hK⟩ | ⟨he, hw, hu⟩ | ⟨hx, hz, v, hy, hK⟩
    · exact first_pure hm h0 (Region.noSelect_spec hs) l.length _ listed a w hd (freeX_spec h0 hf) hr' (.inl ⟨hy, hz⟩) (wpAnyF_lex hs hm hbl l (k + 1) _ _ _ _ (hd.add hr') (hz.elim (hF.set k) fun h => Inv.of_FX hm hbl hd hr' h.2) hl' hB' hK)
    · exact first_eff hm h0 he (Region.noSelect_spec hs) l.length _ listed a w hd hF (freeX_spec h0 hf) hr'
        ⟨hw, effUpon_mono (fun v w1 ⟨G', hA, hX, hk⟩ => ⟨G', hA, hX, wpAnyF_lex hs hm hbl l (k + 1) _ _ _ _ (hd.add hr') (Inv.of_FX hm hbl hd hr' hX) hl' hB' hk⟩) hu⟩
    · exact first_pure hm h0 (Region.noSelect_spec hs) l.length _ listed a w hd (freeX_spec h0 hf) hr' (.inr ⟨hx, hz, hy⟩) (wpAnyF_lex hs hm hbl l (k + 1) _ _ _ _ (hd.add hr') (hF.set k hz) hl' hB' hK)

theorem wp_region_F (bm : List Nat) (em : Nat) (xm : Nat) {id : Nat} {Q : Exit → Act → World → Prop} {a : Act} {w : World} {l : List Oper} (hm : P.follows .mixedOrders = true) (hB : lexX l.toArray bm xm = true) (hF : ∀ j, free bm em j = true → G j w.drew)
    (h : wpF P l.toArray bm em xm (fun a' w' => Q .normal a' w') 0 l G a w.drew) : (Code.region id l.toArray true).wp P Q a w := by
  simp only [lexX, Bool.and_eq_true, beq_iff_eq] at hB
  have hd : DC .any l.toArray (Array.replicate l.toArray.size false) := by
    intro j o ho hl
    have : (Array.replicate l.toArray.size false).getD j false = false := by
      rw [Array.getD_eq_getD_getElem?, Array.getElem?_replicate]
      split <;> rfl
    rw [this] at hl
    cases hl
  have hI : Inv bm em G (Array.replicate l.toArray.size false) w.drew := fun j _ he => hF j (by
    refine List.all_eq_true.2 fun e h1 => ?_
    cases hb : (em.testBit e && (bm.getD j 0).testBit e)
    · rfl
    · simp only [Bool.and_eq_true] at hb
      have h3 := he e (List.mem_range.1 h1) hb.1 hb.2
      rw [Array.getD_eq_getD_getElem?, Array.getElem?_replicate] at h3
      split at h3 <;> cases h3)
  refine wp_region_any hm (wpAny_of_F (em := em) (xm := xm) (Q := fun a' w' => Q .normal a' w') hB.1.2 hB.1.1.1 (fun _ _ h => h) _ G _ _ _ hd hI ?_)
  have := wpAnyF_lex (md := .any) hB.1.1.2 hB.1.2 hB.1.1.1 l 0 G (Array.replicate l.toArray.size false) a w.drew hd hI (by simp) (by simpa using hB.2) h
  simpa using this
end
end Go.Hp
end
section
namespace Go.Hp
open Go.RowKit

def Blk (w : World) (b : Nat) (cs : List Value) (T : TypeId) : Prop := w.heap[b]? = some (.cells cs.toArray T (0, 0))

theorem Blk.lt {w : World} {b : Nat} {cs : List Value} {T : TypeId} (h : Blk w b cs T) : b < w.heap.size := lt_of_block h
theorem Blk.cell {w : World} {b : Nat} {cs : List Value} {T : TypeId} (h : Blk w b cs T) {i : Nat} {v : Value} (hi : cs[i]? = some v) : w.cell? ⟨b, i, none⟩ = some v := by
  unfold Blk at h
  simp [World.cell?, h, hi]
theorem Blk.free {w : World} {b : Nat} {cs : List Value} {T : TypeId} (h : Blk w b cs T) (i : Nat) : w.frozen? ⟨b, i, none⟩ = false := by
  unfold Blk at h
  simp [World.frozen?, h]
theorem Blk.set {w : World} {b : Nat} {cs : List Value} {T : TypeId} (h : Blk w b cs T) (i : Nat) (v : Value) : Blk (w.setCell ⟨b, i, none⟩ v) b (cs.set i v) T := by
  have hlt := h.lt
  unfold Blk at *
  have h' : w.heap[b] = .cells cs.toArray T (0, 0) := by simpa [Array.getElem?_eq_getElem hlt] using h
  show (w.heap.modify b _)[b]? = _
  rw [Array.getElem?_eq_getElem (by simpa using hlt), Array.getElem_modify_self, h']
  simp
theorem Blk.alloc {w : World} {b : Nat} {cs : List Value} {T : TypeId} (h : Blk w b cs T) (o : Obj) : Blk (w.alloc o) b cs T := by
  have := h.lt
  unfold Blk at *
  rw [Below.heap_alloc _ _ _ this, h]
theorem Blk.drew {w : World} {b : Nat} {cs : List Value} {T : TypeId} (h : Blk w b cs T) : Blk w.drew b cs T := h
theorem Blk.new (w : World) (cs : Array Value) (T : TypeId) : Blk (w.alloc (.cells cs T)) w.heap.size cs.toList T := heap_alloc_new w _

structure Only (S : List Nat) (w w' : World) : Prop where
  os : w'.os = w.os
  tape : w'.tape = w.tape
  output : w'.output = w.output
  size : w.heap.size ≤ w'.heap.size
  block : ∀ k, k < w.heap.size → k ∉ S → w'.heap[k]? = w.heap[k]?

theorem Only.refl (S : List Nat) (w : World) : Only S w w := ⟨rfl, rfl, rfl, Nat.le_refl _, fun _ _ _ => rfl⟩
theorem Only.trans {S S' : List Nat} {a b c : World} (h : Only S a b) (k : Only S' b c) (hs : ∀ x, x ∈ S' → x ∈ S ∨ a.heap.size ≤ x) : Only S a c :=
  ⟨k.os.trans h.os, k.tape.trans h.tape, k.output.trans h.output, Nat.le_trans h.size k.size, fun i hi hn => (k.block i (Nat.lt_of_lt_of_le hi h.size) (fun hm => by rcases hs i hm with h1 | h1; exact hn h1; omega)).trans (h.block i hi hn)⟩
theorem Only.mono {S S' : List Nat} {a b : World} (h : Only S a b) (hs : ∀ x, x ∈ S → x ∈ S' ∨ a.heap.size ≤ x) : Only S' a b :=
  ⟨h.os, h.tape, h.output, h.size, fun i hi hn => h.block i hi (fun hm => by rcases hs i hm with h1 | h1; exact hn h1; omega)⟩
theorem Only.drew {S : List Nat} {a w : World} (h : Only S a w) : Only S a w.drew := ⟨h.os, h.tape, h.output, h.size, h.block⟩
theorem Only.alloc {S : List Nat} {a w : World} (h : Only S a w) (o : Obj) : Only S a (w.alloc o) :=
  h.trans (S' := []) ⟨rfl, rfl, rfl, by simp, fun k hk _ => Below.heap_alloc _ _ _ hk⟩ (by simp)
theorem Only.setCell {S : List Nat} {a w : World} (h : Only S a w) {p : Addr} (hp : p.block ∈ S ∨ a.heap.size ≤ p.block) (v : Value) : Only S a (w.setCell p v) :=
  h.trans (S' := [p.block]) ⟨rfl, rfl, rfl, by simp [World.setCell], fun k hk hn => Below.heap_setCell _ _ _ _ (by simpa using hn)⟩ (by simpa using hp)
theorem Only.below {w w' : World} (h : Only [] w w') : Below w.heap.size w w' := ⟨h.os, h.tape, h.output, h.size, fun k hk => h.block k hk (by simp)⟩
theorem Blk.kept {S : List Nat} {w w' : World} {b : Nat} {cs : List Value} {T : TypeId} (h : Blk w b cs T) (ho : Only S w w') (hb : b ∉ S) : Blk w' b cs T := by
  have := h.lt
  unfold Blk at *
  rw [ho.block b this hb, h]

def flat {α : Type} (f : α → List Value) (os : List α) : List Value := os.flatMap f
theorem flat_length {α : Type} (f : α → List Value) (m : Nat) (hf : ∀ o, (f o).length = m) (os : List α) : (flat f os).length = os.length * m := by
  unfold flat
  induction os with
  | nil => simp
  | cons o os ih => rw [List.flatMap_cons, List.length_append, ih, hf, List.length_cons, Nat.succ_mul, Nat.add_comm]
theorem flat_get {α : Type} (f : α → List Value) (m : Nat) (hf : ∀ o, (f o).length = m) (os : List α) : ∀ (i j : Nat), j < m → (flat f os)[i * m + j]? = (os[i]?).bind fun o => (f o)[j]? := by
  unfold flat
  induction os with
  | nil => intro i j _; simp
  | cons o os ih =>
    intro i j hj
    rw [List.flatMap_cons]
    cases i with
    | zero => rw [List.getElem?_append_left (by rw [hf]; omega)]; simp
    | succ i =>
      rw [List.getElem?_append_right (by rw [hf, Nat.succ_mul]; omega), hf, show (i + 1) * m + j - m = i * m + j by rw [Nat.succ_mul]; omega, ih i j hj]
      simp
end Go.Hp
end
section
set_option linter.unusedVariables false
namespace Go.Hp
open Go Go.RowKit

abbrev Fm := List (Nat × Value)
def look : Fm → (Nat → Value) → Nat → Value
  | [], b, i => b i
  | (k, v) :: l, b, i => match Nat.beq i k with | true => v | false => look l b i
def act (n : Nat) (l : Fm) (b : Nat → Value) : Act := { tmps := Array.ofFn (n := n) fun i => look l b i, defers := [] }
def ev (n : Nat) (l : Fm) (b : Nat → Value) : Operand → Value
  | .tmp i => match Nat.blt i n with | true => look l b i | false => undef
  | .const v => v
  | .global g => .pointer (some ⟨g, 0, none⟩)
  | .func f => .func (.func f) #[] #[]
def putF : Option Nat → Value → Fm → Fm
  | some d, v, l => (d, v) :: l
  | none, _, l => l
def nthD : List Oper → Nat → Option Nat
  | [], _ => none
  | o :: _, 0 => o.dst
  | _ :: l, j + 1 => nthD l j
theorem nthD_eq : ∀ (l : List Oper) (j : Nat), nthD l j = (l.toArray[j]?).bind (·.dst)
  | [], j => by simp [nthD]
  | o :: l, 0 => by simp [nthD]
  | o :: l, j + 1 => by rw [nthD, nthD_eq l j]; simp
def want (n : Nat) (ops : List Oper) (l : Fm) (b : Nat → Value) (o : Oper) : Bool :=
  match o.guard with
  | none => true
  | some (j, x) => match nthD ops j with
    | some d => (match ev n l b (.tmp d) with | .bool y => (match x, y with | true, true => true | false, false => true | _, _ => false) | _ => false)
    | none => false

theorem blt_f {i n : Nat} (h : ¬ i < n) : Nat.blt i n = false := by rw [← Bool.not_eq_true, Nat.blt_eq]; exact h
theorem beq_f {i n : Nat} (h : ¬ i = n) : Nat.beq i n = false := by rw [← Bool.not_eq_true, Nat.beq_eq]; exact h
theorem act_eval (n : Nat) (l : Fm) (b : Nat → Value) : (act n l b).eval = ev n l b := by
  funext x
  cases x with
  | tmp i =>
    simp only [Act.eval, act, ev]
    by_cases h : i < n
    · rw [show Nat.blt i n = true by simpa using h]; simp [h]
    · rw [blt_f h]; simp [h]
  | _ => rfl
theorem look_put (d : Nat) (v : Value) (l : Fm) (b : Nat → Value) (i : Nat) : look ((d, v) :: l) b i = if i = d then v else look l b i := by
  simp only [look]
  by_cases h : i = d
  · subst h; rw [show Nat.beq i i = true by simp]; simp
  · rw [beq_f h]; simp [h]
theorem act_put (n : Nat) (l : Fm) (b : Nat → Value) (d : Option Nat) (v : Value) : (act n l b).put d v = act n (putF d v l) b := by
  cases d with
  | none => rfl
  | some d =>
    simp only [Act.put, act, putF, Act.mk.injEq, and_true]
    apply Array.ext
    · simp
    · intro i h1 h2
      simp only [Array.size_setIfInBounds, Array.size_ofFn] at h1
      rw [Array.getElem_setIfInBounds (by simpa using h1)]
      simp only [Array.getElem_ofFn, look_put]
      by_cases h : d = i
      · subst h; simp
      · rw [if_neg h, if_neg (fun e => h e.symm)]
theorem want_act (n : Nat) (ops : List Oper) (l : Fm) (b : Nat → Value) (o : Oper) : Region.wanted o (yielded ops.toArray (act n l b).tmps) = want n ops l b o := by
  unfold Region.wanted want
  cases o.guard with
  | none => rfl
  | some p =>
    obtain ⟨j, x⟩ := p
    simp only [yielded, nthD_eq]
    cases (ops.toArray[j]?).bind (·.dst) with
    | none => simp
    | some d =>
      simp only [Option.bind_some]
      by_cases h : d < n
      · have : (act n l b).tmps[d]? = some (look l b d) := by simp [act, h]
        rw [this]
        simp only [ev]
        rw [show Nat.blt d n = true by simpa using h]
        cases look l b d <;> simp
        rename_i y
        cases x <;> cases y <;> rfl
      · have : (act n l b).tmps[d]? = none := Array.getElem?_eq_none (by simp only [act, Array.size_ofFn]; exact Nat.le_of_not_lt h)
        rw [this]
        simp only [ev]
        rw [blt_f h]
        simp [undef]
theorem act_congr (n : Nat) {l l' : Fm} {b b' : Nat → Value} (h : ∀ i, look l b i = look l' b' i) : act n l b = act n l' b' := by
  simp only [act, h]

abbrev Qt := Exit → Fm → (Nat → Value) → World → Prop
def lift (n : Nat) (Q : Qt) : Exit → Act → World → Prop := fun e a w => ∃ l b, a = act n l b ∧ Q e l b w
structure Wp (P : Program) (n : Nat) (c : Code) (Q : Qt) (l : Fm) (b : Nat → Value) (w : World) : Prop where
  h : c.wp P (lift n Q) (act n l b) w
def thenQ (J : Fm → (Nat → Value) → World → Prop) (Q : Qt) : Qt
  | .normal, l, b, w => J l b w
  | e, l, b, w => Q e l b w
def blkQ (id : Nat) (Q : Qt) : Qt
  | .exit id', l, b, w => if id' = id then Q .normal l b w else Q (.exit id') l b w
  | e, l, b, w => Q e l b w

section
variable {P : Program} {n : Nat} {Q : Qt} {l : Fm} {b : Nat → Value} {w : World}
theorem Wseq {x y : Code} (h : Wp P n x (thenQ (Wp P n y Q) Q) l b w) : Wp P n (.seq x y) Q l b w :=
  ⟨wp_seq (wp_mono h.h fun e a w ⟨l, b, ha, hq⟩ => by cases e <;> first | (subst ha; exact hq.h) | exact ⟨l, b, ha, hq⟩)⟩
theorem Wct {c : Operand} {x y : Code} (hc : ev n l b c = .bool true) (h : Wp P n x Q l b w) : Wp P n (.cond c x y) Q l b w := ⟨wp_cond_true (by rw [act_eval]; exact hc) h.h⟩
theorem Wcf {c : Operand} {x y : Code} (hc : ev n l b c = .bool false) (h : Wp P n y Q l b w) : Wp P n (.cond c x y) Q l b w := ⟨wp_cond_false (by rw [act_eval]; exact hc) h.h⟩
theorem Wblk {id : Nat} {c : Code} (h : Wp P n c (blkQ id Q) l b w) : Wp P n (.block id c) Q l b w :=
  ⟨wp_block (wp_mono h.h fun e a w ⟨l, b, ha, hq⟩ => by
    cases e <;> first | exact ⟨l, b, ha, hq⟩ | skip
    rename_i id'
    simp only [Exit.inBlock, blkQ] at hq ⊢
    split at hq
    · rename_i h; rw [if_pos h]; exact ⟨l, b, ha, hq⟩
    · rename_i h; rw [if_neg h]; exact ⟨l, b, ha, hq⟩)⟩
theorem Wskip (h : Q .normal l b w) : Wp P n .skip Q l b w := ⟨wp_skip ⟨l, b, rfl, h⟩⟩
theorem Wexit {id : Nat} (h : Q (.exit id) l b w) : Wp P n (.exit id) Q l b w := ⟨wp_exit ⟨l, b, rfl, h⟩⟩
theorem Wret (h : Q .ret l b w) : Wp P n .ret Q l b w := ⟨wp_ret ⟨l, b, rfl, h⟩⟩
theorem qn {J : Fm → (Nat → Value) → World → Prop} (h : J l b w) : thenQ J Q .normal l b w := h
theorem qx {J : Fm → (Nat → Value) → World → Prop} {i : Nat} (h : Q (.exit i) l b w) : thenQ J Q (.exit i) l b w := h
theorem qr {J : Fm → (Nat → Value) → World → Prop} (h : Q .ret l b w) : thenQ J Q .ret l b w := h
theorem bn {id : Nat} (h : Q .normal l b w) : blkQ id Q .normal l b w := h
theorem be {id : Nat} (h : Q .normal l b w) : blkQ id Q (.exit id) l b w := by simpa [blkQ] using h
theorem br {id : Nat} (h : Q .ret l b w) : blkQ id Q .ret l b w := h
def mix (mods : List Nat) (u t : Nat → Value) (i : Nat) : Value := match mods.contains i with | true => u i | false => t i
theorem rounds_mono {c : Code} {Q : Exit → Act → World → Prop} : ∀ (N : Nat) (a : Act) (w : World), Code.rounds P c Q N a w → Code.rounds P c Q (N + 1) a w
  | 0, _, _, h => h.elim
  | N + 1, a, w, h => by
    rw [rounds_succ] at h ⊢
    exact wp_mono h fun e a w hq => by cases e <;> first | exact rounds_mono N a w hq | exact hq
theorem rounds_le {c : Code} {Q : Exit → Act → World → Prop} {N M : Nat} (hNM : N ≤ M) {a : Act} {w : World} (h : Code.rounds P c Q N a w) : Code.rounds P c Q M a w := by
  induction M with
  | zero => obtain rfl : N = 0 := by omega
            exact h
  | succ M ih =>
    rcases Nat.lt_or_ge N (M + 1) with h1 | h1
    · exact rounds_mono _ _ _ (ih (by omega))
    · obtain rfl : N = M + 1 := by omega
      exact h
theorem look_zip (slots : List Nat) (t : Nat → Value) (c : Nat → Value) (hc : ∀ i, i ∉ slots → c i = t i) (i : Nat) : look (slots.zip (slots.map t)) c i = t i := by
  induction slots generalizing i with
  | nil => exact hc i (by simp)
  | cons s ss ih =>
    rw [List.map_cons, List.zip_cons_cons, look_put]
    split
    · rename_i h; rw [h]
    · rename_i h
      clear ih
      -- by the rest, over a base that agrees outside
      have : ∀ (ss : List Nat), (∀ i, i ∉ s :: ss → c i = t i) → i ≠ s → look (ss.zip (ss.map t)) c i = t i := by
        intro ss
        induction ss with
        | nil => intro hc hi; exact hc i (by simp [hi])
        | cons x xs ih2 =>
          intro hc hi
          rw [List.map_cons, List.zip_cons_cons, look_put]
          split
          · rename_i h; rw [h]
          · rename_i hx
            clear ih2
            have aux : ∀ (xs : List Nat) , (∀ i', i' = i → i' ∉ xs → c i' = t i') → look (xs.zip (xs.map t)) c i = t i := by
              intro xs
              induction xs with
              | nil => intro h; exact h i rfl (by simp)
              | cons y ys ih3 =>
                intro h
                rw [List.map_cons, List.zip_cons_cons, look_put]
                split
                · rename_i h; rw [h]
                · rename_i hy
                  exact ih3 fun i' e hn => h i' e (by subst e; simp [hy, hn])
            exact aux xs fun i' e hn => hc i' (by subst e; simp [hi, hx, hn])
      exact this ss hc h
def LoopEnd (mods slots : List Nat) (t : Nat → Value) (J : Nat → List Value → World → Prop) (m : Nat) (l : Fm) (b : Nat → Value) (w : World) : Prop :=
  ∃ m', m' < m ∧ J m' (slots.map (look l b)) w ∧ ∀ i, mods.contains i = false → look l b i = t i
theorem Wloop (mods slots : List Nat) (J : Nat → List Value → World → Prop) (m0 : Nat) {c : Code} (h0 : J m0 (slots.map (look l b)) w)
    (hr : ∀ (m : Nat) (vs : List Value) (u : Nat → Value) (w' : World), J m vs w' → Wp P n c (thenQ (LoopEnd mods slots (look l b) J m) Q) (slots.zip vs) (mix mods u (look l b)) w') : Wp P n (.loop c) Q l b w := by
  have key : ∀ (m : Nat) (t' : Nat → Value) (w' : World), (∀ i, mods.contains i = false → t' i = look l b i) → J m (slots.map t') w' → Code.rounds P c (lift n Q) (m + 1) (act n [] t') w' := by
    intro m
    induction m using Nat.strongRecOn with
    | _ m ih =>
      intro t' w' hk hJ
      have h := hr m _ t' w' hJ
      rw [rounds_succ]
      have ha : act n (slots.zip (slots.map t')) (mix mods t' (look l b)) = act n [] t' := act_congr n fun i => by
        rw [look_zip slots t' (mix mods t' (look l b)) (fun i hi => by
          unfold mix
          cases hc : mods.contains i
          · exact (hk i hc).symm
          · rfl) i]
        rfl
      replace h := h.h
      rw [ha] at h
      refine wp_mono h fun e a w ⟨l', b', hab, hq⟩ => ?_
      cases e with
      | normal =>
        obtain ⟨m', hlt, hJ', hk'⟩ := hq
        have := ih m' hlt (look l' b') w hk' hJ'
        subst hab
        exact rounds_le (by omega) this
      | _ => exact ⟨l', b', hab, hq⟩
  exact ⟨wp_loop_rounds (m0 + 1) (key m0 (look l b) w (fun _ _ => rfl) h0)⟩
theorem Wseqm (mods slots : List Nat) (J : List Value → World → Prop) {x y : Code} (h : Wp P n x (thenQ (fun l' b' w' => J (slots.map (look l' b')) w' ∧ ∀ i, mods.contains i = false → look l' b' i = look l b i) Q) [] (look l b) w)
    (k : ∀ (vs : List Value) (u : Nat → Value) (w' : World), J vs w' → Wp P n y Q (slots.zip vs) (mix mods u (look l b)) w') : Wp P n (.seq x y) Q l b w := by
  refine Wseq ⟨?_⟩
  have h0 : act n [] (look l b) = act n l b := act_congr n fun i => rfl
  have h1 := h.h
  rw [h0] at h1
  refine wp_mono h1 fun e a w' ⟨l', b', ha, hq⟩ => ?_
  cases e with
  | normal =>
    obtain ⟨hJ, hk⟩ := hq
    refine ⟨slots.zip (slots.map (look l' b')), mix mods (look l' b') (look l b), ?_, k _ _ _ hJ⟩
    rw [ha]
    refine act_congr n fun i => ?_
    rw [look_zip slots (look l' b') (mix mods (look l' b') (look l b)) (fun i hi => by
      unfold mix
      cases hc : mods.contains i
      · exact (hk i hc).symm
      · rfl) i]
  | _ => exact ⟨l', b', ha, hq⟩
theorem kb {mods : List Nat} {t : Nat → Value} : ∀ i, mods.contains i = false → look [] t i = t i := fun _ _ => rfl
theorem k0 {mods : List Nat} {u t : Nat → Value} : ∀ i, mods.contains i = false → look [] (mix mods u t) i = t i := by
  intro i hi
  simp only [look, mix, hi]
theorem kl {mods : List Nat} {t : Nat → Value} {l : Fm} {b : Nat → Value} (h : l.all (fun p => mods.contains p.1) = true) (hb : ∀ i, mods.contains i = false → look [] b i = t i) :
    ∀ i, mods.contains i = false → look l b i = t i := by
  induction l with
  | nil => exact hb
  | cons p l ih =>
    intro i hi
    obtain ⟨k, v⟩ := p
    simp only [List.all_cons, Bool.and_eq_true] at h
    rw [look_put, if_neg (fun e => by subst e; rw [h.1] at hi; cases hi)]
    exact ih h.2 i hi
theorem km {mods mods2 : List Nat} {u t : Nat → Value} {l : Fm} {b : Nat → Value} (h : mods2.all (mods.contains ·) = true) (hb : ∀ i, mods.contains i = false → look l b i = t i) :
    ∀ i, mods.contains i = false → look [] (mix mods2 u (look l b)) i = t i := by
  intro i hi
  show mix mods2 u (look l b) i = t i
  unfold mix
  cases hc : mods2.contains i
  · exact hb i hi
  · exfalso
    have := List.all_eq_true.1 h i (by simpa using hc)
    rw [hi] at this; cases this

structure Rg (P : Program) (n : Nat) (ops : List Oper) (Q : Qt) (rest : List Oper) (l : Fm) (b : Nat → Value) (w : World) : Prop where
  h : wpList P ops.toArray (lift n Q) rest (act n l b) w
theorem Wreg {id : Nat} {ops : List Oper} (h : Rg P n ops Q ops l b w) : Wp P n (.region id ops.toArray false) Q l b w := ⟨wp_region_lit h.h⟩
section
variable {ops : List Oper} {rest : List Oper} {o : Oper}
theorem rn (h : Q .normal l b w) : Rg P n ops Q [] l b w := ⟨⟨l, b, rfl, h⟩⟩
variable {op : Op} {ty : TypeId} {pos : String} {after : Array Edge} {g : Option (Nat × Bool)} {d : Nat}
theorem rs {v : Value} {w' : World} (h : (execOp (ev n l b) ⟨some d, op, ty, pos, after, g⟩).run P w = .ok (.value v) w') (hw : want n ops l b ⟨some d, op, ty, pos, after, g⟩ = true) (k : Rg P n ops Q rest ((d, v) :: l) b w') : Rg P n ops Q (⟨some d, op, ty, pos, after, g⟩ :: rest) l b w := by
  refine ⟨?_⟩
  unfold wpList
  rw [want_act, hw, if_pos rfl]
  refine .inl ?_
  unfold Oper.wp
  rw [act_eval, h, Oper.upon_value, act_put]
  exact k.h
theorem ru {w' : World} (h : (execOp (ev n l b) ⟨none, op, ty, pos, after, g⟩).run P w = .ok .skip w') (hw : want n ops l b ⟨none, op, ty, pos, after, g⟩ = true) (k : Rg P n ops Q rest l b w') : Rg P n ops Q (⟨none, op, ty, pos, after, g⟩ :: rest) l b w := by
  refine ⟨?_⟩
  unfold wpList
  rw [want_act, hw, if_pos rfl]
  refine .inl ?_
  unfold Oper.wp
  rw [act_eval, h, Oper.upon_skip, act_put]
  exact k.h
theorem r0 (hw : want n ops l b ⟨some d, op, ty, pos, after, g⟩ = false) (k : Rg P n ops Q rest ((d, undef) :: l) b w) : Rg P n ops Q (⟨some d, op, ty, pos, after, g⟩ :: rest) l b w := by
  refine ⟨?_⟩
  unfold wpList
  rw [want_act, hw, if_neg (by simp), act_put]
  exact k.h
def Ret (K : Value → World → Prop) : Ending → World → Prop := fun e w => ∃ v, e = .returned v ∧ K v w
theorem rc {f : FuncId} {args : Array Value} {w' : World} (h : (execOp (ev n l b) ⟨some d, op, ty, pos, after, g⟩).run P w = .ok (.enter f args) w') (hw : want n ops l b ⟨some d, op, ty, pos, after, g⟩ = true)
    (k : Calls P f args w' (Ret fun v w'' => Rg P n ops Q rest ((d, v) :: l) b w'')) : Rg P n ops Q (⟨some d, op, ty, pos, after, g⟩ :: rest) l b w := by
  refine ⟨?_⟩
  unfold wpList
  rw [want_act, hw, if_pos rfl]
  refine .inl ?_
  unfold Oper.wp
  rw [act_eval, h, Oper.upon_enter]
  refine k.mono fun e w ⟨v, he, hk⟩ => ?_
  subst he
  simp only [act_put]
  exact hk.h
structure Rd (P : Program) (n : Nat) (ops : List Oper) (bm : List Nat) (em : Nat) (G : Nat → World → Prop) (xm : Nat) (Q : Qt) (i : Nat) (rest : List Oper) (l : Fm) (b : Nat → Value) (w : World) : Prop where
  h : wpF P ops.toArray bm em xm (fun a w => lift n Q .normal a w) i rest G (act n l b) w
theorem Wdrw (G : Nat → World → Prop) (bm : List Nat) (em : Nat) (xm : Nat) {id : Nat} {ops : List Oper} (hm : P.follows .mixedOrders = true) (hB : lexX ops.toArray bm xm = true) (hF : ∀ j, free bm em j = true → G j w.drew) (h : Rd P n ops bm em G xm Q 0 ops l b w.drew) : Wp P n (.region id ops.toArray true) Q l b w :=
  ⟨wp_region_F bm em xm hm hB hF h.h⟩
variable {G : Nat → World → Prop} {bm : List Nat} {em xm i : Nat}
theorem dn (h : Q .normal l b w) : Rd P n ops bm em G xm Q i [] l b w := ⟨⟨l, b, rfl, h⟩⟩
theorem ds {v : Value} (hz : em.testBit i = false) (h : ∀ w', G i w' → (execOp (ev n l b) ⟨some d, op, ty, pos, after, g⟩).run P w' = .ok (.value v) w') (hw : want n ops l b ⟨some d, op, ty, pos, after, g⟩ = true) (k : Rd P n ops bm em G xm Q (i + 1) rest ((d, v) :: l) b w) : Rd P n ops bm em G xm Q i (⟨some d, op, ty, pos, after, g⟩ :: rest) l b w :=
  ⟨.inl ⟨v, .inl ⟨by rw [want_act]; exact hw, fun w hF => by rw [act_eval]; exact h w hF⟩, .inl hz, by rw [act_put]; exact k.h⟩⟩
theorem dx {v : Value} (hz : em.testBit i = false) (h : (execOp (ev n l b) ⟨some d, op, ty, pos, after, g⟩).run P w = .ok (.value v) w) (hw : want n ops l b ⟨some d, op, ty, pos, after, g⟩ = true) (hx : xm.testBit i = true) (k : Rd P n ops bm em G xm Q (i + 1) rest ((d, v) :: l) b w) : Rd P n ops bm em G xm Q i (⟨some d, op, ty, pos, after, g⟩ :: rest) l b w :=
  ⟨.inr (.inr ⟨hx, hz, v, .inl ⟨by rw [want_act]; exact hw, by rw [act_eval]; exact h⟩, by rw [act_put]; exact k.h⟩)⟩
theorem d0 (hz : em.testBit i = false) (hw : want n ops l b ⟨some d, op, ty, pos, after, g⟩ = false) (k : Rd P n ops bm em G xm Q (i + 1) rest ((d, undef) :: l) b w) : Rd P n ops bm em G xm Q i (⟨some d, op, ty, pos, after, g⟩ :: rest) l b w :=
  ⟨.inl ⟨undef, .inr ⟨by rw [want_act]; exact hw, rfl⟩, .inl hz, by rw [act_put]; exact k.h⟩⟩
theorem d0e (hz : effB op = true) (hF : FX bm em G i w) (hw : want n ops l b ⟨some d, op, ty, pos, after, g⟩ = false) (k : Rd P n ops bm em G xm Q (i + 1) rest ((d, undef) :: l) b w) : Rd P n ops bm em G xm Q i (⟨some d, op, ty, pos, after, g⟩ :: rest) l b w :=
  ⟨.inl ⟨undef, .inr ⟨by rw [want_act]; exact hw, rfl⟩, .inr ⟨hz, hF⟩, by rw [act_put]; exact k.h⟩⟩
theorem de {v : Value} {w' : World} (h : (execOp (ev n l b) ⟨some d, op, ty, pos, after, g⟩).run P w = .ok (.value v) w') (hw : want n ops l b ⟨some d, op, ty, pos, after, g⟩ = true) (he : effB op = true) (hF : FX bm em G i w') (k : Rd P n ops bm em G xm Q (i + 1) rest ((d, v) :: l) b w') : Rd P n ops bm em G xm Q i (⟨some d, op, ty, pos, after, g⟩ :: rest) l b w :=
  ⟨.inr (.inl ⟨he, by rw [want_act]; exact hw, by rw [act_eval, h]; exact ⟨G, Agree.rfl', hF, by rw [act_put]; exact k.h⟩⟩)⟩
theorem du {w' : World} (h : (execOp (ev n l b) ⟨none, op, ty, pos, after, g⟩).run P w = .ok .skip w') (hw : want n ops l b ⟨none, op, ty, pos, after, g⟩ = true) (he : effB op = true) (hF : FX bm em G i w') (k : Rd P n ops bm em G xm Q (i + 1) rest l b w') : Rd P n ops bm em G xm Q i (⟨none, op, ty, pos, after, g⟩ :: rest) l b w :=
  ⟨.inr (.inl ⟨he, by rw [want_act]; exact hw, by rw [act_eval, h]; exact ⟨G, Agree.rfl', hF, by rw [act_put]; exact k.h⟩⟩)⟩
theorem dc {f : FuncId} {args : Array Value} {w' : World} (h : (execOp (ev n l b) ⟨some d, op, ty, pos, after, g⟩).run P w = .ok (.enter f args) w') (hw : want n ops l b ⟨some d, op, ty, pos, after, g⟩ = true) (he : effB op = true)
    (k : Calls P f args w' (Ret fun v w'' => FX bm em G i w'' ∧ Rd P n ops bm em G xm Q (i + 1) rest ((d, v) :: l) b w'')) : Rd P n ops bm em G xm Q i (⟨some d, op, ty, pos, after, g⟩ :: rest) l b w :=
  ⟨.inr (.inl ⟨he, by rw [want_act]; exact hw, by rw [act_eval, h]; exact k.mono fun e w ⟨v, hv, hF, hk⟩ => ⟨v, hv, G, Agree.rfl', hF, by rw [act_put]; exact hk.h⟩⟩)⟩
def upd (G : Nat → World → Prop) (J : Nat) (p : World → Prop) : Nat → World → Prop := fun j w => if j = J then p w else G j w
end

def postQ (P : Program) (fn : Func) (R : Ending → World → Prop) : Qt
  | .normal, l, b, w | .ret, l, b, w => ∃ v, (results fn (act fn.ntmps l b).tmps).run P w = .ok v w ∧ R (.returned v) w
  | _, _, _, _ => False
def argsF : Nat → List Value → Fm
  | _, [] => []
  | i, v :: vs => (i, v) :: argsF (i + 1) vs
theorem look_argsF (b : Nat → Value) : ∀ (vs : List Value) (i j : Nat), look (argsF i vs) b j = if i ≤ j then (match vs[j - i]? with | some v => v | none => b j) else b j
  | [], i, j => by simp [argsF, look]
  | v :: vs, i, j => by
    rw [argsF, look_put, look_argsF b vs (i + 1) j]
    by_cases h : j = i
    · subst h; simp
    · rw [if_neg h]
      by_cases h1 : i ≤ j
      · rw [if_pos (by omega), if_pos h1, show j - i = (j - (i + 1)) + 1 by omega, List.getElem?_cons_succ]
      · rw [if_neg (by omega), if_neg h1]
theorem Center {f : FuncId} {fn : Func} {c : Code} {n : Nat} {args : List Value} {R : Ending → World → Prop} (hf : P.funcs[f]? = some fn) (hn : fn.ntmps = n) (hb : fn.body = some c) (hl : Nat.ble args.length n = true) {l : Fm} (hA : argsF 0 args = l)
    (h : Wp P n c (postQ P fn R) l (fun _ => undef) w) : Calls P f args.toArray w R := by
  subst hn hA
  replace hl := Nat.le_of_ble_eq_true hl
  refine calls_of_wp hf hb ?_
  have ha : act fn.ntmps (argsF 0 args) (fun _ => undef) = { tmps := args.toArray ++ Array.replicate (fn.ntmps - args.toArray.size) undef, defers := [] } := by
    simp only [act, Act.mk.injEq, and_true]
    apply Array.ext
    · simp; omega
    · intro i h1 h2
      simp only [Array.size_ofFn] at h1
      simp only [Array.getElem_ofFn, look_argsF]
      by_cases hi : i < args.length
      · rw [Array.getElem_append_left (by simpa using hi)]; simp [hi]
      · rw [Array.getElem_append_right (by simpa using hi)]; simp [hi]
  rw [← ha]
  exact wp_mono h.h fun e a w ⟨l, b, hab, hq⟩ => by
    subst hab
    cases e <;> first | exact ⟨rfl, hq⟩ | exact hq.elim
theorem f1 {fn : Func} {R : Ending → World → Prop} {r : Nat} {v : Value} (hr : fn.results = #[.tmp r]) (hn : fn.ntmps = n) (hv : ev n l b (.tmp r) = v) (h : R (.returned v) w) : postQ P fn R .ret l b w := by
  subst hn
  refine ⟨v, ?_, h⟩
  rw [results_tmp hr]
  congr 1
  have := congrFun (act_eval fn.ntmps l b) (.tmp r)
  rw [← hv, ← this]
  rfl
section
variable {fn : Func} {R : Ending → World → Prop} {r s : Nat} (hr : fn.results = #[.tmp r]) (hn : fn.ntmps = n)
include hr hn
end
theorem f2 {fn : Func} {R : Ending → World → Prop} {r s : Nat} {v u : Value} (hr : fn.results = #[.tmp r, .tmp s]) (hn : fn.ntmps = n) (hv : ev n l b (.tmp r) = v) (hu : ev n l b (.tmp s) = u) (h : R (.returned (.tuple #[v, u])) w) : postQ P fn R .ret l b w := by
  subst hn
  refine ⟨_, ?_, h⟩
  rw [results_tmp2 hr]
  have h1 := congrFun (act_eval fn.ntmps l b) (.tmp r)
  have h2 := congrFun (act_eval fn.ntmps l b) (.tmp s)
  rw [← hv, ← hu, ← h1, ← h2]
  rfl
theorem f0n {fn : Func} {R : Ending → World → Prop} (hr : fn.results = #[]) (h : R (.returned (.tuple #[])) w) : postQ P fn R .normal l b w := ⟨_, results_none hr _ _ _, h⟩
end
end Go.Hp
end
section
namespace Go.Hp
open Go Go.RowKit
section
variable {P : Program} {ρ : Operand → Value} {w : World} {dst : Option Nat} {ty : TypeId} {pos : String} {after : Array Edge} {g : Option (Nat × Bool)} {x y c : Operand}
theorem mv {v : Value} (h : ρ x = v) : (execOp ρ ⟨dst, .move x, ty, pos, after, g⟩).run P w = .ok (.value v) w := by subst h; rfl
theorem av {v : Value} (h : ρ x = v) : (execOp ρ ⟨dst, .assign x, ty, pos, after, g⟩).run P w = .ok (.value v) w := by subst h; rfl
theorem ap {a : Option Addr} (h : ρ x = .pointer a) : (execOp ρ ⟨dst, .assign x, ty, pos, after, g⟩).run P w = .ok (.value (.pointer a)) w := av h
theorem pkt {v : Value} (hc : ρ c = .bool true) (h : ρ x = v) : (execOp ρ ⟨dst, .pick c x y, ty, pos, after, g⟩).run P w = .ok (.value v) w := by subst h; simp [execOp, hc, asBool]
theorem pkf {v : Value} (hc : ρ c = .bool false) (h : ρ y = v) : (execOp ρ ⟨dst, .pick c x y, ty, pos, after, g⟩).run P w = .ok (.value v) w := by subst h; simp [execOp, hc, asBool]
theorem nl {a : Addr} (h : ρ x = .pointer (some a)) : (execOp ρ ⟨dst, .nilCheck x, ty, pos, after, g⟩).run P w = .ok (.value (.pointer (some a))) w := by simp [execOp, h]
theorem nt {a : Bool} {T : TypeId} (h : ρ x = .bool a) : (execOp ρ ⟨dst, .unOp .not T x, ty, pos, after, g⟩).run P w = .ok (.value (.bool (!a))) w := by simp [execOp, h, Op.unary]
theorem ntt {T : TypeId} (h : ρ x = .bool true) : (execOp ρ ⟨dst, .unOp .not T x, ty, pos, after, g⟩).run P w = .ok (.value (.bool false)) w := nt h
theorem ntf {T : TypeId} (h : ρ x = .bool false) : (execOp ρ ⟨dst, .unOp .not T x, ty, pos, after, g⟩).run P w = .ok (.value (.bool true)) w := nt h
section
variable {k : IntKind} {T U : TypeId} {a b : Int}
theorem eqGuard_ints (op : BinOp) (T : TypeId) (x y : Operand) (a b : Int) : (eqGuard op T x y (.int k a) (.int k b)).run P w = .ok () w := by
  unfold eqGuard; cases op <;> rfl
theorem bin_ints {op : BinOp} {v : Value} (hx : ρ x = .int k a) (hy : ρ y = .int k b) (h : (binOp op T (.int k a) (.int k b)).run P w = .ok v w) :
    (execOp ρ ⟨dst, .binOp op T x y U, ty, pos, after, g⟩).run P w = .ok (.value v) w := by
  simp [execOp, hx, hy, eqGuard_ints, h]
theorem adw (hx : ρ x = .int k a) (hy : ρ y = .int k b) : (execOp ρ ⟨dst, .binOp .add T x y U, ty, pos, after, g⟩).run P w = .ok (.value (.int k (k.wrap (a + b)))) w := bin_ints hx hy (by simp [binOp, Op.intArith])
theorem sbw (hx : ρ x = .int k a) (hy : ρ y = .int k b) : (execOp ρ ⟨dst, .binOp .sub T x y U, ty, pos, after, g⟩).run P w = .ok (.value (.int k (k.wrap (a - b)))) w := bin_ints hx hy (by simp [binOp, Op.intArith])
theorem mlw (hx : ρ x = .int k a) (hy : ρ y = .int k b) : (execOp ρ ⟨dst, .binOp .mul T x y U, ty, pos, after, g⟩).run P w = .ok (.value (.int k (k.wrap (a * b)))) w := bin_ints hx hy (by simp [binOp, Op.intArith])
theorem rm (hx : ρ x = .int k a) (hy : ρ y = .int k b) (hb : b ≠ 0) : (execOp ρ ⟨dst, .binOp .rem T x y U, ty, pos, after, g⟩).run P w = .ok (.value (.int k (a.tmod b))) w := bin_ints hx hy (by simp [binOp, Op.intDiv, hb])
theorem cmp (op : BinOp) {t : Bool} (hx : ρ x = .int k a) (hy : ρ y = .int k b) (h : (Op.intCmp op a b).run P w = .ok (.bool t) w) (hop : (binOp op T (.int k a) (.int k b)) = Op.intCmp op a b) :
    (execOp ρ ⟨dst, .binOp op T x y U, ty, pos, after, g⟩).run P w = .ok (.value (.bool t)) w := bin_ints hx hy (by rw [hop]; exact h)
theorem lt' (hx : ρ x = .int k a) (hy : ρ y = .int k b) : (execOp ρ ⟨dst, .binOp .lss T x y U, ty, pos, after, g⟩).run P w = .ok (.value (.bool (decide (a < b)))) w := cmp .lss hx hy rfl (by simp [binOp])
theorem le' (hx : ρ x = .int k a) (hy : ρ y = .int k b) : (execOp ρ ⟨dst, .binOp .leq T x y U, ty, pos, after, g⟩).run P w = .ok (.value (.bool (decide (a ≤ b)))) w := cmp .leq hx hy rfl (by simp [binOp])
theorem gt' (hx : ρ x = .int k a) (hy : ρ y = .int k b) : (execOp ρ ⟨dst, .binOp .gtr T x y U, ty, pos, after, g⟩).run P w = .ok (.value (.bool (decide (a > b)))) w := cmp .gtr hx hy rfl (by simp [binOp])
theorem ge' (hx : ρ x = .int k a) (hy : ρ y = .int k b) : (execOp ρ ⟨dst, .binOp .geq T x y U, ty, pos, after, g⟩).run P w = .ok (.value (.bool (decide (a ≥ b)))) w := cmp .geq hx hy rfl (by simp [binOp])
theorem eq' (hx : ρ x = .int k a) (hy : ρ y = .int k b) : (execOp ρ ⟨dst, .binOp .eql T x y U, ty, pos, after, g⟩).run P w = .ok (.value (.bool (a == b))) w := cmp .eql hx hy rfl (by simp [binOp])
theorem ne' (hx : ρ x = .int k a) (hy : ρ y = .int k b) : (execOp ρ ⟨dst, .binOp .neq T x y U, ty, pos, after, g⟩).run P w = .ok (.value (.bool (a != b))) w := cmp .neq hx hy rfl (by simp [binOp])
theorem eqd (hx : ρ x = .int k a) (hy : ρ y = .int k b) : (execOp ρ ⟨dst, .binOp .eql T x y U, ty, pos, after, g⟩).run P w = .ok (.value (.bool (decide (a = b)))) w := eq' hx hy
theorem ned (hx : ρ x = .int k a) (hy : ρ y = .int k b) : (execOp ρ ⟨dst, .binOp .neq T x y U, ty, pos, after, g⟩).run P w = .ok (.value (.bool (decide (¬ a = b)))) w := by
  have := ne' (P := P) (w := w) (dst := dst) (ty := ty) (pos := pos) (after := after) (g := g) (T := T) (U := U) hx hy
  rwa [show (a != b) = decide (¬ a = b) by by_cases h : a = b <;> simp [h, bne]] at this
end
theorem bin_gen {op : BinOp} {T U : TypeId} {a b v : Value} (hx : ρ x = a) (hy : ρ y = b) (hg : (eqGuard op T x y a b).run P w = .ok () w) (h : (binOp op T a b).run P w = .ok v w) :
    (execOp ρ ⟨dst, .binOp op T x y U, ty, pos, after, g⟩).run P w = .ok (.value v) w := by
  simp only [execOp, hx, hy]
  simp [hg, h]
theorem guard_bools (op : BinOp) (T : TypeId) (x y : Operand) (a b : Bool) : (eqGuard op T x y (.bool a) (.bool b)).run P w = .ok () w := by unfold eqGuard; cases op <;> rfl
theorem guard_ptrs (op : BinOp) (T : TypeId) (x y : Operand) (a b : Option Addr) : (eqGuard op T x y (.pointer a) (.pointer b)).run P w = .ok () w := by unfold eqGuard; cases op <;> rfl
theorem run_neq (T : TypeId) (a b : Value) (h : binOp .neq T a b = (do pure (.bool (!(← Op.equal T a b))))) {t : Bool} (he : (Op.equal T a b).run P w = .ok t w) : (binOp .neq T a b).run P w = .ok (.bool (!t)) w := by
  rw [h]; simp [he]
theorem neb {T U : TypeId} {a b : Bool} (hT : P.underlying T = some .bool) (hx : ρ x = .bool a) (hy : ρ y = .bool b) : (execOp ρ ⟨dst, .binOp .neq T x y U, ty, pos, after, g⟩).run P w = .ok (.value (.bool (!(a == b)))) w :=
  bin_gen hx hy (guard_bools _ _ _ _ _ _) (run_neq T _ _ rfl (run_equal_bool w T a b hT))
theorem equal_ptr_nil {T e : TypeId} {a : Option Addr} (hT : P.underlying T = some (.pointer e)) : (Op.equal T (.pointer a) (.pointer none)).run P w = .ok a.isNone w := by
  have key : ∀ d, (Op.equalIn (d + 1) T (.pointer a) (.pointer none)).run P w = .ok a.isNone w := by
    intro d
    cases a <;> simp [Op.equalIn, run_underlying hT]
  exact key 9999
theorem epn {T U e : TypeId} {a : Option Addr} (hT : P.underlying T = some (.pointer e)) (hx : ρ x = .pointer a) (hy : ρ y = .pointer none) : (execOp ρ ⟨dst, .binOp .eql T x y U, ty, pos, after, g⟩).run P w = .ok (.value (.bool a.isNone)) w :=
  bin_gen hx hy (guard_ptrs _ _ _ _ _ _) (by have := equal_ptr_nil (w := w) (a := a) hT; simp only [binOp]; simp [this])
theorem epf {T U e : TypeId} {a : Addr} (hT : P.underlying T = some (.pointer e)) (hx : ρ x = .pointer (some a)) (hy : ρ y = .pointer none) : (execOp ρ ⟨dst, .binOp .eql T x y U, ty, pos, after, g⟩).run P w = .ok (.value (.bool false)) w := epn hT hx hy
theorem ept {T U e : TypeId} (hT : P.underlying T = some (.pointer e)) (hx : ρ x = .pointer none) (hy : ρ y = .pointer none) : (execOp ρ ⟨dst, .binOp .eql T x y U, ty, pos, after, g⟩).run P w = .ok (.value (.bool true)) w := epn hT hx hy
theorem ld {T : TypeId} {a : Addr} {v : Value} (hx : ρ x = .pointer (some a)) (hT : ∀ w, (isAgg T).run P w = .ok false w) (hc : w.cell? a = some v) : (execOp ρ ⟨dst, .load T x, ty, pos, after, g⟩).run P w = .ok (.value v) w := by
  simp [execOp, hx, Instr.loadAt, Instr.sureAddr, loadVar, hT, load, Sem.run, hc]
theorem ldg {T : TypeId} {a : Addr} {m : Nat} {cs : List Value} (hx : ρ x = .pointer (some a)) (hT : ∀ w, (isAgg T).run P w = .ok true w) (hs : ∀ w, (sizeOf T).run P w = .ok m w) (hm : cs.length = m) (hc : ∀ j v, cs[j]? = some v → w.cell? (a.add j) = some v) :
    (execOp ρ ⟨dst, .load T x, ty, pos, after, g⟩).run P w = .ok (.value (.agg cs.toArray)) w := by
  subst hm
  have := run_loadCells_list (P := P) (w := w) a cs hc
  simp [execOp, hx, Instr.loadAt, Instr.sureAddr, loadVar, hT, hs, this]
theorem st {T : TypeId} {a : Addr} {v u : Value} (hx : ρ x = .pointer (some a)) (hy : ρ y = v) (hv : v.oneCell' = true) (hs : ∀ w, (sizeOf T).run P w = .ok 1 w) (hc : w.cell? a = some u) (hf : w.frozen? a = false) :
    (execOp ρ ⟨dst, .store T x y, ty, pos, after, g⟩).run P w = .ok .skip (w.setCell a v) := by
  have h1 : v.cells = #[v] := by cases v <;> first | rfl | simp [Value.oneCell'] at hv
  have h := run_store P w a v .plain hv
  rw [hc] at h
  simp only [hf, Bool.false_eq_true, if_false] at h
  have ha : a.add 0 = a := by simp [Addr.add]
  simp [execOp, hx, hy, Instr.storeAt, Instr.sureAddr, storeVar, h1, hs, storeCells, ha, h]
def laid (cs vs : List Value) (o : Nat) : List Value := cs.take o ++ vs ++ cs.drop (o + vs.length)
theorem Blk.setRow {w : World} {b : Nat} {cs : List Value} {T : TypeId} (h : Blk w b cs T) (vs : List Value) : Blk (w.setRow b vs.toArray) b vs T := setRow_heap w b _ _ T _ h
theorem Only.setRow {S : List Nat} {a w : World} (h : Only S a w) {b : Nat} (hp : b ∈ S ∨ a.heap.size ≤ b) (vs : Array Value) : Only S a (w.setRow b vs) :=
  h.trans (S' := [b]) ⟨rfl, rfl, rfl, by simp [World.setRow], fun k hk hn => by
    simp only [World.setRow, Array.getElem?_modify]
    rw [if_neg (fun e => hn (by simp [e]))]⟩ (by simpa using hp)
theorem stg {T E : TypeId} {bb o : Nat} {cs vs : List Value} (hx : ρ x = .pointer (some ⟨bb, o, none⟩)) (hy : ρ y = .agg vs.toArray) (hs : ∀ w, (sizeOf T).run P w = .ok vs.length w) (hB : Blk w bb cs E) (hfit : o + vs.length ≤ cs.length) (h1 : ∀ v ∈ vs, v.oneCell' = true) :
    (execOp ρ ⟨dst, .store T x y, ty, pos, after, g⟩).run P w = .ok .skip (w.setRow bb (laid cs vs o).toArray) := by
  have h := run_storeCells_at P bb o E vs 0 cs.toArray w hB (by simpa using hfit) h1
  simp only [Nat.add_zero, List.append_assoc] at h
  have h' : (storeCells ⟨bb, o, none⟩ vs).run P w = .ok () (w.setRow bb (laid cs vs o).toArray) := by rw [laid, List.append_assoc]; exact h
  simp [execOp, hx, hy, Instr.storeAt, Instr.sureAddr, storeVar, Value.cells, hs, h']
theorem fa {T : TypeId} {fs : Array Field} {f : Nat} {fd : Field} {bb o m : Nat} (off : Nat) (hx : ρ x = .pointer (some ⟨bb, o, none⟩)) (hu : P.underlying T = some (.struct fs)) (hf : fs[f]? = some fd) (hs : ∀ w, (sizeOf fd.type).run P w = .ok m w) (hm : Nat.beq m 0 = false) (ho : fd.offset = off) :
    (execOp ρ ⟨dst, .fieldAddr T x f, ty, pos, after, g⟩).run P w = .ok (.value (.pointer (some ⟨bb, o + off, none⟩))) w := by
  subst ho
  have hm' : ¬ m = 0 := by rw [← Nat.beq_eq, hm]; simp
  simp [execOp, hx, Instr.fieldAt, run_underlying hu, hf, Instr.sureAddr, fieldPlace, hs, hm', Addr.add_lit]
section
variable {T E : TypeId} {bb o len cap m j : Nat} {k : IntKind}
theorem ix {i : Int} (hx : ρ x = .slice (some ⟨bb, o, none⟩) len cap) (hy : ρ y = .int k i) (hu : P.underlying T = some (.slice E)) (hs : ∀ w, (sizeOf E).run P w = .ok m w) (h0 : 0 ≤ i) (h1 : i < len) {o' : Nat} (ho : o + i.toNat * m = o') :
    (execOp ρ ⟨dst, .indexAddr T x y, ty, pos, after, g⟩).run P w = .ok (.value (.pointer (some ⟨bb, o', none⟩))) w := by
  subst ho
  simp [execOp, hx, hy, Instr.indexAt, asIntOf, run_underlying hu, h0, h1, hs, Addr.add_lit]
end
theorem ln {T E : TypeId} {a : Option Addr} {m k : Nat} (hx : ρ x = .slice a m k) (hu : P.underlying T = some (.slice E)) :
    (execOp ρ ⟨dst, .call ⟨.builtin .len, #[x], #[T]⟩, ty, pos, after, g⟩).run P w = .ok (.value (.int .i64 (m : Int))) w := by
  simp [execOp, resolve, invoke, builtin, Builtin.len_, hx, run_underlying hu, goInt]
theorem cl {f : FuncId} {args : Array Operand} {ats : Array TypeId} {vs : List Value} (hc : ∀ (a : Array Value) (w : World), (callFunc f a).run P w = .ok (.enter f a) w) (ha : args.toList.map ρ = vs) (hf : ρ x = .func (.func f) #[] #[]) :
    (execOp ρ ⟨dst, .call ⟨.value x, args, ats⟩, ty, pos, after, g⟩).run P w = .ok (.enter f vs.toArray) w := by
  subst ha
  have : args.map ρ = (args.toList.map ρ).toArray := by apply Array.ext' ; simp
  simp [execOp, resolve, hf, Deferred.ofValue, invoke, hc, this]
theorem cv {f : FuncId} {args : Array Operand} {ats : Array TypeId} {vs fi ca : List Value} (hc : ∀ (a : Array Value) (w : World), (callFunc f a).run P w = .ok (.enter f a) w) (hf : ρ x = .func (.func f) fi.toArray ca.toArray) (ha : fi ++ args.toList.map ρ ++ ca = vs) :
    (execOp ρ ⟨dst, .call ⟨.value x, args, ats⟩, ty, pos, after, g⟩).run P w = .ok (.enter f vs.toArray) w := by
  subst ha
  have : args.map ρ = (args.toList.map ρ).toArray := by apply Array.ext' ; simp
  simp [execOp, resolve, hf, Deferred.ofValue, invoke, hc, this]
theorem bo {T : TypeId} {v : Value} (hx : ρ x = v) : (execOp ρ ⟨dst, .box T x, ty, pos, after, g⟩).run P w = .ok (.value (.pointer (some ⟨w.heap.size, 0, none⟩))) (w.alloc (.cells v.cells T)) := by
  subst hx
  simp [execOp, Instr.box, newVar, newRow, newObj, Sem.run]
theorem al {T : TypeId} {v : Value} (hz : ∀ w, (zeroValue T).run P w = .ok v w) : (execOp ρ ⟨dst, .alloc T, ty, pos, after, g⟩).run P w = .ok (.value (.pointer (some ⟨w.heap.size, 0, none⟩))) (w.alloc (.cells v.cells T)) := by
  simp [execOp, Instr.alloc, hz, newVar, newRow, newObj, Sem.run]
theorem mkf {fn : Fn} {fi ca : Array Operand} {fv cv : List Value} (h1 : fi.toList.map ρ = fv) (h2 : ca.toList.map ρ = cv) : (execOp ρ ⟨dst, .makeFunc fn fi ca, ty, pos, after, g⟩).run P w = .ok (.value (.func fn fv.toArray cv.toArray)) w := by
  subst h1 h2
  have e1 : fi.map ρ = (fi.toList.map ρ).toArray := by apply Array.ext' ; simp
  have e2 : ca.map ρ = (ca.toList.map ρ).toArray := by apply Array.ext' ; simp
  simp [execOp, Instr.makeFunc, e1, e2]
theorem ext {i : Nat} {vs : List Value} {v : Value} (hx : ρ x = .tuple vs.toArray) (h : vs[i]? = some v) : (execOp ρ ⟨dst, .extract x i, ty, pos, after, g⟩).run P w = .ok (.value v) w := by
  simp [execOp, Instr.extract, hx, h]
end
end Go.Hp
end
section
namespace Go.Hp
open Go Go.RowKit
set_option linter.unusedVariables false
set_option linter.unusedSimpArgs false
section
variable {P : Program} {ρ : Operand → Value} {w : World} {dst : Option Nat} {ty : TypeId} {pos : String} {after : Array Edge} {g : Option (Nat × Bool)} {x y c : Operand}
theorem madeCells_flat (z : Array Value) (m : Nat) (hm : z.size = m) (h0 : 0 < m) (n : Nat) : (madeCells z (n * m)).toList = flat (fun _ : Unit => z.toList) (List.replicate n ()) := by
  have hf : ∀ o : Unit, ((fun _ : Unit => z.toList) o).length = m := fun _ => by simpa using hm
  apply List.ext_getElem?
  intro j
  have hj : j = (j / m) * m + j % m := by rw [Nat.mul_comm]; exact (Nat.div_add_mod j m).symm
  have hlt : j % m < m := Nat.mod_lt _ h0
  by_cases hjn : j < n * m
  · have hd : j / m < n := (Nat.div_lt_iff_lt_mul h0).2 hjn
    rw [hj, flat_get _ m hf _ _ _ hlt, ← hj]
    simp [madeCells, hjn, hd, hm, hlt]
  · rw [List.getElem?_eq_none (by simp [madeCells]; omega), List.getElem?_eq_none (by rw [flat_length _ m hf]; simp; omega)]
end

section
variable {P : Program} {n : Nat} {Q : Qt} {l : Fm} {b : Nat → Value} {w : World} {ops : List Oper} {rest : List Oper} {ty : TypeId} {pos : String} {after : Array Edge} {g : Option (Nat × Bool)} {d : Nat} {x y : Operand}
theorem run_app (base : Nat) {t ty e : TypeId} {i : TypeInfo} {z : Value} {size bytes : Nat} (ht : P.underlying t = some (.slice e)) (hi : P.info? e = some i) (hz : i.zero = some z)
    (hsize : i.size = size) (hby : i.bytes = bytes) (hzs : z.cells.size = size) (hsz : 0 < size) {v : Value} {k : Nat} {xs : List Value} (hown : w.ownsRow base e size v k xs)
    {a : Addr} {m c : Nat} (news : List Value) (hl : news.length = m * size) (hnews : ∀ j u, news[j]? = some u → w.cell? (a.add j) = some u) (h1 : ∀ u ∈ news, u.oneCell' = true)
    (h63 : k + m ≤ 9223372036854775807) (hbytes : (k + m) * bytes ≤ 140737488355328) (hbase : base ≤ w.heap.size) :
    ∃ v' w', (Builtin.append_ #[t, t] ty #[v, .slice (some a) m c]).run P w = .ok v' w' ∧ w'.ownsRow base e size v' (k + m) (xs ++ news) ∧ w.grownBy w' v.ownBlock ∧
      (v'.ownBlock = v.ownBlock ∨ v'.ownBlock = some w.heap.size) := by
  obtain ⟨v', w', hr, hown', hg, hn⟩ := run_append_own (P := P) w base t ty e i z size bytes ht hi hz hsize hby hzs hsz v k xs hown a m c news hl hnews h1 (by unfold maxLen; omega) hbytes hbase
  refine ⟨v', w', hr, hown', hg, ?_⟩
  subst hsize hby
  rcases hown.2 with ⟨rfl, rfl⟩ | ⟨gg, cap, cur, rfl, _, hgg, hnc, _, hcs, _⟩
  · by_cases hm : m = 0
    · rw [hn.2 ⟨rfl, hm⟩]; exact .inl rfl
    · have h2 := run_append_nil (P := P) w t ty e i z ht hi hz a m c news hl hnews (by omega) (by omega) (by simp only [Nat.zero_add] at hbytes; omega)
      rw [h2] at hr
      injection hr with e1 _
      subst e1
      exact .inr rfl
  · by_cases hroom : k + m ≤ cap
    · have h2 := run_append_room (P := P) w t ty e i ht hi gg k cap cur hgg a m c news hl hnews h1 hroom (by rw [hl, hcs, ← Nat.add_mul]; exact Nat.mul_le_mul_right _ hroom)
      rw [h2] at hr
      injection hr with e1 _
      subst e1
      exact .inl rfl
    · have h2 := run_append_grow (P := P) w t ty e i z ht hi hz ⟨gg, 0, none⟩ k cap xs hown.1 (hown.cells (g := gg) rfl) a m c news hl hnews (by omega) (by omega) (growslice_fits (by omega) hbytes)
      rw [h2] at hr
      injection hr with e1 _
      subst e1
      exact .inr rfl
theorem zeroCells_flat (z : Array Value) (m : Nat) (hm : z.size = m) (h0 : 0 < m) (n : Nat) : (Builtin.zeroCells z n).toList = flat (fun _ : Unit => z.toList) (List.replicate n ()) := by
  rw [← madeCells_flat z m hm h0 n, ← hm]
  rfl
end
end Go.Hp
end
section
namespace Go.Hp
open Go Go.RowKit
set_option linter.unusedVariables false

structure Kp (A : Nat → Prop) (w w' : World) : Prop where
  os : w'.os = w.os
  tape : w'.tape = w.tape
  output : w'.output = w.output
  size : w.heap.size ≤ w'.heap.size
  block : ∀ b, A b → w'.heap[b]? = w.heap[b]?
theorem Kp.refl (A : Nat → Prop) (w : World) : Kp A w w := ⟨rfl, rfl, rfl, Nat.le_refl _, fun _ _ => rfl⟩
theorem Kp.mono {A B : Nat → Prop} {w w' : World} (h : Kp A w w') (k : ∀ b, B b → A b) : Kp B w w' := ⟨h.os, h.tape, h.output, h.size, fun b hb => h.block b (k b hb)⟩
theorem Kp.cell {A : Nat → Prop} {w w' : World} (h : Kp A w w') {a : Addr} (ha : A a.block) : w'.cell? a = w.cell? a := World.cell?_of_block (h.block _ ha)

structure HP where
  p : World → (Nat → Prop) → List Nat → Prop
  st : ∀ {w w' : World} {R R' : Nat → Prop} {S : List Nat}, p w R S → Kp (fun b => b ∈ S ∨ R b) w w' → (∀ b, R b → R' b) → p w' R' S
structure PR (α : Type) (m : Nat) where
  r : World → (Nat → Prop) → List Value → α → Prop
  st : ∀ {w w' : World} {R R' : Nat → Prop} {cs : List Value} {x : α}, r w R cs x → Kp R w w' → (∀ b, R b → R' b) → r w' R' cs x
  len : ∀ {w : World} {R : Nat → Prop} {cs : List Value} {x : α}, r w R cs x → cs.length = m
  one : ∀ {w : World} {R : Nat → Prop} {cs : List Value} {x : α}, r w R cs x → ∀ v ∈ cs, v.oneCell' = true

def All (w : World) (R : Nat → Prop) : List HP → List (List Nat) → Prop
  | [], [] => True
  | P :: Ps, S :: Ss => P.p w R S ∧ All w R Ps Ss
  | _, _ => False
structure CtxAt (w : World) (R : Nat → Prop) (Ps : List HP) (Ss : List (List Nat)) : Prop where
  all : All w R Ps Ss
  nodup : Ss.flatten.Nodup
  own : ∀ b ∈ Ss.flatten, b < w.heap.size ∧ ¬ R b
  fz : ∀ b, R b → b < w.heap.size
def Ctx (w : World) (Ps : List HP) : Prop := ∃ R Ss, CtxAt w R Ps Ss

theorem All.kept {w w' : World} {R R' : Nat → Prop} : ∀ {Ps : List HP} {Ss : List (List Nat)}, All w R Ps Ss → Kp (fun b => b ∈ Ss.flatten ∨ R b) w w' → (∀ b, R b → R' b) → All w' R' Ps Ss
  | [], [], _, _, _ => trivial
  | P :: Ps, S :: Ss, h, hk, hR => ⟨P.st h.1 (hk.mono (by intro b hb; rcases hb with h | h; exact .inl (by simp [h]); exact .inr h)) hR,
      All.kept h.2 (hk.mono (by intro b hb; rcases hb with h | h; exact .inl (by simp only [List.flatten_cons, List.mem_append]; exact .inr h); exact .inr h)) hR⟩
  | [], _ :: _, h, _, _ => h.elim
  | _ :: _, [], h, _, _ => h.elim
theorem All.split {w : World} {R : Nat → Prop} : ∀ {Ps Qs : List HP} {Ss : List (List Nat)}, All w R (Ps ++ Qs) Ss → ∃ S1 S2, Ss = S1 ++ S2 ∧ All w R Ps S1 ∧ All w R Qs S2
  | [], Qs, Ss, h => ⟨[], Ss, rfl, trivial, h⟩
  | P :: Ps, Qs, [], h => h.elim
  | P :: Ps, Qs, S :: Ss, h => by
    obtain ⟨S1, S2, rfl, h1, h2⟩ := All.split (Ps := Ps) h.2
    exact ⟨S :: S1, S2, rfl, ⟨h.1, h1⟩, h2⟩
theorem All.join {w : World} {R : Nat → Prop} {Qs : List HP} {S2 : List (List Nat)} : ∀ {Ps : List HP} {S1 : List (List Nat)}, All w R Ps S1 → All w R Qs S2 → All w R (Ps ++ Qs) (S1 ++ S2)
  | [], [], _, h2 => h2
  | P :: Ps, S :: S1, h, h2 => ⟨h.1, All.join h.2 h2⟩
  | [], _ :: _, h, _ => h.elim
  | _ :: _, [], h, _ => h.elim
theorem CtxAt.perm {w : World} {R : Nat → Prop} {l l' : List HP} {Ss : List (List Nat)} (hp : l.Perm l') (hc : CtxAt w R l Ss) : ∃ Ss', CtxAt w R l' Ss' := by
  have key : ∀ {Ss : List (List Nat)}, All w R l Ss → ∃ Ss', All w R l' Ss' ∧ Ss.Perm Ss' := by
    clear hc
    induction hp with
    | nil => intro Ss h; exact ⟨Ss, h, .refl _⟩
    | cons x _ ih =>
      intro Ss h
      cases Ss with
      | nil => exact h.elim
      | cons S Ss => obtain ⟨Ss', h1, h2⟩ := ih h.2; exact ⟨S :: Ss', ⟨h.1, h1⟩, h2.cons _⟩
    | swap x y l =>
      intro Ss h
      match Ss, h with
      | S :: T :: Ss, h => exact ⟨T :: S :: Ss, ⟨h.2.1, h.1, h.2.2⟩, .swap _ _ _⟩
    | trans _ _ ih1 ih2 =>
      intro Ss h
      obtain ⟨S1, h1, p1⟩ := ih1 h
      obtain ⟨S2, h2, p2⟩ := ih2 h1
      exact ⟨S2, h2, p1.trans p2⟩
  obtain ⟨Ss', h1, h2⟩ := key hc.all
  have hf : Ss.flatten.Perm Ss'.flatten := h2.flatten
  exact ⟨Ss', h1, hf.nodup_iff.1 hc.nodup, fun b hb => hc.own b (hf.mem_iff.2 hb), hc.fz⟩
theorem Ctx.perm {w : World} {l l' : List HP} (hp : l.Perm l') (h : Ctx w l) : Ctx w l' := by
  obtain ⟨R, Ss, hc⟩ := h
  exact ⟨R, hc.perm hp⟩
def nthP : List HP → Nat → HP
  | [], _ => ⟨fun _ _ S => S = [], fun h _ _ => h⟩
  | P :: _, 0 => P
  | _ :: l, k + 1 => nthP l k
def setP : List HP → Nat → HP → List HP
  | [], _, _ => []
  | _ :: l, 0, Q => Q :: l
  | P :: l, k + 1, Q => P :: setP l k Q
def remP : List HP → Nat → List HP
  | [], _ => []
  | _ :: l, 0 => l
  | P :: l, k + 1 => P :: remP l k
def ltP : List HP → Nat → Bool
  | [], _ => false
  | _ :: _, 0 => true
  | _ :: l, k + 1 => ltP l k
theorem perm_nth : ∀ {l : List HP} {k : Nat}, ltP l k = true → l.Perm (nthP l k :: remP l k)
  | [], _, h => by cases h
  | P :: l, 0, _ => .refl _
  | P :: l, k + 1, h => ((perm_nth (l := l) h).cons P).trans (.swap _ _ _)
theorem perm_set : ∀ {l : List HP} {k : Nat} {Q : HP}, ltP l k = true → (Q :: remP l k).Perm (setP l k Q)
  | [], _, _, h => by cases h
  | P :: l, 0, _, _ => .refl _
  | P :: l, k + 1, Q, h => (List.Perm.swap _ _ _).trans ((perm_set (l := l) (Q := Q) h).cons P)
theorem Ctx.pull {w : World} {l : List HP} (k : Nat) (h : Ctx w l) (hk : ltP l k = true) {l' : List HP} (e : nthP l k :: remP l k = l') : Ctx w l' := e ▸ h.perm (perm_nth hk)
theorem Ctx.drop {w : World} {P : HP} {l : List HP} (h : Ctx w (P :: l)) : Ctx w l := by
  obtain ⟨R, Ss, hc⟩ := h
  match Ss, hc with
  | S :: Ss, hc => exact ⟨R, Ss, hc.all.2, (List.nodup_append.1 (by simpa using hc.nodup)).2.1, fun b hb => hc.own b (by simp only [List.flatten_cons, List.mem_append]; exact .inr hb), hc.fz⟩
theorem Ctx.rem {w : World} {l : List HP} (k : Nat) (h : Ctx w l) (hk : ltP l k = true) {l' : List HP} (e : remP l k = l') : Ctx w l' := e ▸ (h.perm (perm_nth hk)).drop
theorem Ctx.get {w : World} {P : HP} {l : List HP} (h : Ctx w (P :: l)) : ∃ R S, P.p w R S ∧ (∀ b ∈ S, b < w.heap.size ∧ ¬ R b) ∧ (∀ b, R b → b < w.heap.size) := by
  obtain ⟨R, Ss, hc⟩ := h
  match Ss, hc with
  | S :: Ss, hc => exact ⟨R, S, hc.all.1, fun b hb => hc.own b (by simp [hb]), hc.fz⟩
theorem Ctx.at {w : World} {l : List HP} (h : Ctx w l) {k : Nat} (hk : ltP l k = true) {P : HP} (e : nthP l k = P) : ∃ R S, P.p w R S ∧ (∀ b ∈ S, b < w.heap.size ∧ ¬ R b) ∧ (∀ b, R b → b < w.heap.size) := by
  have := h.perm (perm_nth hk)
  rw [e] at this
  exact this.get
theorem CtxAt.nth {w : World} {R : Nat → Prop} : ∀ {l : List HP} {Ss : List (List Nat)} {k : Nat}, All w R l Ss → ltP l k = true → ∃ S, (nthP l k).p w R S
  | [], _, _, _, h => by cases h
  | P :: l, S :: Ss, 0, h, _ => ⟨S, h.1⟩
  | P :: l, S :: Ss, k + 1, h, hk => CtxAt.nth (l := l) h.2 hk
  | _ :: _, [], _, h, _ => h.elim
theorem CtxAt.upd {w w' : World} {R : Nat → Prop} {Ps Qs Fr : List HP} {Ss0 : List (List Nat)} (hc : CtxAt w R (Ps ++ Fr) Ss0)
    (k : ∀ Ss, CtxAt w R Ps Ss → ∃ R' Ts, All w' R' Qs Ts ∧ Ts.flatten.Nodup ∧ (∀ b ∈ Ts.flatten, (b ∈ Ss.flatten ∨ w.heap.size ≤ b) ∧ b < w'.heap.size ∧ ¬ R' b) ∧ (∀ b, R b → R' b) ∧
      (∀ b, R' b → (R b ∨ b ∈ Ss.flatten ∨ w.heap.size ≤ b) ∧ b < w'.heap.size) ∧ Kp (fun b => b < w.heap.size ∧ b ∉ Ss.flatten) w w') : Ctx w' (Qs ++ Fr) := by
  obtain ⟨S1, S2, rfl, h1, h2⟩ := All.split hc.all
  have hn := hc.nodup
  rw [List.flatten_append, List.nodup_append] at hn
  obtain ⟨n1, n2, n12⟩ := hn
  obtain ⟨R', Ts, ha, hnt, hto, hR, hR', hk⟩ := k S1 ⟨h1, n1, fun b hb => hc.own b (by rw [List.flatten_append]; exact List.mem_append_left _ hb), hc.fz⟩
  have hs2 : ∀ b ∈ S2.flatten, b < w.heap.size ∧ b ∉ S1.flatten ∧ ¬ R b := fun b hb => by
    have := hc.own b (by rw [List.flatten_append]; exact List.mem_append_right _ hb)
    exact ⟨this.1, fun hx => n12 b hx b hb rfl, this.2⟩
  refine ⟨R', Ts ++ S2, ha.join (h2.kept (hk.mono ?_) hR), ?_, ?_, fun b hb => (hR' b hb).2⟩
  · intro b hb
    rcases hb with hb | hb
    · exact ⟨(hs2 b hb).1, (hs2 b hb).2.1⟩
    · refine ⟨hc.fz b hb, fun hx => (hc.own b (by rw [List.flatten_append]; exact List.mem_append_left _ hx)).2 hb⟩
  · rw [List.flatten_append, List.nodup_append]
    refine ⟨hnt, n2, fun a ha' b hb e => ?_⟩
    subst e
    rcases (hto a ha').1 with hx | hx
    · exact (hs2 a hb).2.1 hx
    · have := (hs2 a hb).1; omega
  · intro b hb
    rw [List.flatten_append, List.mem_append] at hb
    rcases hb with hb | hb
    · exact ⟨(hto b hb).2.1, (hto b hb).2.2⟩
    · refine ⟨Nat.lt_of_lt_of_le (hs2 b hb).1 hk.size, fun hx => ?_⟩
      rcases (hR' b hx).1 with h' | h' | h'
      · exact (hs2 b hb).2.2 h'
      · exact (hs2 b hb).2.1 h'
      · have := (hs2 b hb).1; omega
theorem Ctx.upd {w w' : World} {Ps Qs Fr : List HP} (h : Ctx w (Ps ++ Fr))
    (k : ∀ R Ss, CtxAt w R Ps Ss → ∃ R' Ts, All w' R' Qs Ts ∧ Ts.flatten.Nodup ∧ (∀ b ∈ Ts.flatten, (b ∈ Ss.flatten ∨ w.heap.size ≤ b) ∧ b < w'.heap.size ∧ ¬ R' b) ∧ (∀ b, R b → R' b) ∧
      (∀ b, R' b → (R b ∨ b ∈ Ss.flatten ∨ w.heap.size ≤ b) ∧ b < w'.heap.size) ∧ Kp (fun b => b < w.heap.size ∧ b ∉ Ss.flatten) w w') : Ctx w' (Qs ++ Fr) := by
  obtain ⟨R, Ss, hc⟩ := h
  exact hc.upd (k R)
theorem Ctx.updK {w w' : World} {l : List HP} (h : Ctx w l) {k : Nat} (hk : ltP l k = true) (Q : HP)
    (hu : ∀ R Ss S, CtxAt w R l Ss → (nthP l k).p w R S → (∀ b ∈ S, b < w.heap.size ∧ ¬ R b) → S.Nodup → ∃ S', Q.p w' R S' ∧ S'.Nodup ∧ (∀ b ∈ S', (b ∈ S ∨ w.heap.size ≤ b) ∧ b < w'.heap.size) ∧ Kp (fun b => b < w.heap.size ∧ b ∉ S) w w') {l' : List HP} (e : setP l k Q = l') : Ctx w' l' := by
  subst e
  refine Ctx.perm (perm_set hk) ?_
  obtain ⟨R, Ss, hc⟩ := h
  obtain ⟨Ss', hc'⟩ := hc.perm (perm_nth hk)
  refine CtxAt.upd (Ps := [nthP l k]) (Qs := [Q]) hc' fun T hT => ?_
  match T, hT with
  | [S], hT =>
    obtain ⟨S', hq, hn, hs, hkp⟩ := hu R Ss S hc hT.all.1 (fun b hb => hT.own b (by simp [hb])) (by simpa using hT.nodup)
    refine ⟨R, [S'], ⟨hq, trivial⟩, by simpa using hn, fun b hb => ?_, fun b hb => hb, fun b hb => ⟨.inl hb, Nat.lt_of_lt_of_le (hT.fz b hb) hkp.size⟩, by simpa using hkp⟩
    have hb' : b ∈ S' := by simpa using hb
    refine ⟨by simpa using (hs b hb').1, (hs b hb').2, fun hr => ?_⟩
    rcases (hs b hb').1 with hx | hx
    · exact (hT.own b (by simpa using hx)).2 hr
    · have := hT.fz b hr; omega
  | [], hT => exact hT.all.elim
  | _ :: _ :: _, hT => exact hT.all.2.elim
theorem Ctx.upd1 {w w' : World} {l : List HP} (h : Ctx w l) {k : Nat} (hk : ltP l k = true) (Q : HP)
    (hu : ∀ R S, (nthP l k).p w R S → (∀ b ∈ S, b < w.heap.size ∧ ¬ R b) → Q.p w' R S ∧ Kp (fun b => b < w.heap.size ∧ b ∉ S) w w') {l' : List HP} (e : setP l k Q = l') : Ctx w' l' := by
  subst e
  refine Ctx.perm (perm_set hk) ?_
  have h1 := h.perm (perm_nth hk)
  refine Ctx.upd (Ps := [nthP l k]) (Qs := [Q]) h1 fun R Ss hc => ?_
  match Ss, hc with
  | [S], hc =>
    have hS := hc.all.1
    obtain ⟨hq, hkp⟩ := hu R S hS (fun b hb => hc.own b (by simp [hb]))
    refine ⟨R, [S], ⟨hq, trivial⟩, hc.nodup, fun b hb => ?_, fun b hb => hb, fun b hb => ⟨.inl hb, Nat.lt_of_lt_of_le (hc.fz b hb) hkp.size⟩, by simpa using hkp⟩
    have := hc.own b hb
    exact ⟨.inl hb, Nat.lt_of_lt_of_le this.1 hkp.size, this.2⟩
  | [], hc => exact hc.all.elim
  | _ :: _ :: _, hc => exact hc.all.2.elim
theorem Ctx.conv {w : World} {l : List HP} (h : Ctx w l) {k : Nat} (hk : ltP l k = true) (Q : HP) (hu : ∀ R S, (nthP l k).p w R S → Q.p w R S) {l' : List HP} (e : setP l k Q = l') : Ctx w l' :=
  h.upd1 hk Q (fun R S hp _ => ⟨hu R S hp, Kp.refl _ _⟩) e
theorem Ctx.drew {w : World} {l : List HP} (h : Ctx w l) : Ctx w.drew l := by
  obtain ⟨R, Ss, hc⟩ := h
  exact ⟨R, Ss, hc.all.kept ⟨rfl, rfl, rfl, Nat.le_refl _, fun _ _ => rfl⟩ (fun _ h => h), hc.nodup, hc.own, hc.fz⟩
theorem Ctx.new {w : World} {l : List HP} (h : Ctx w l) (o : Obj) (Q : HP) (hq : ∀ R, Q.p (w.alloc o) R [w.heap.size]) : Ctx (w.alloc o) (Q :: l) := by
  refine Ctx.upd (Ps := []) (Qs := [Q]) (Fr := l) h fun R Ss hc => ?_
  match Ss, hc with
  | [], hc =>
    refine ⟨R, [[w.heap.size]], ⟨hq R, trivial⟩, by simp, fun b hb => ?_, fun b hb => hb, fun b hb => ⟨.inl hb, by have := hc.fz b hb; simp; omega⟩, ⟨rfl, rfl, rfl, by simp, fun b hb => Below.heap_alloc _ _ _ hb.1⟩⟩
    simp at hb
    subst hb
    refine ⟨.inr (Nat.le_refl _), by simp, fun hr => ?_⟩
    have := hc.fz _ hr
    omega
  | _ :: _, hc => exact hc.all.elim
theorem Ctx.add {w : World} {l : List HP} (h : Ctx w l) (Q : HP) (hq : ∀ R Ss, CtxAt w R l Ss → Q.p w R []) : Ctx w (Q :: l) := by
  obtain ⟨R, Ss, hc⟩ := h
  exact ⟨R, [] :: Ss, ⟨hq R Ss hc, hc.all⟩, by simpa using hc.nodup, by simpa using hc.own, hc.fz⟩

def Sep (P Q : HP) : HP := ⟨fun w R S => ∃ S1 S2, S = S1 ++ S2 ∧ P.p w R S1 ∧ Q.p w R S2, fun ⟨S1, S2, e, h1, h2⟩ hk hR => by
  subst e
  exact ⟨S1, S2, rfl, P.st h1 (hk.mono (by intro b hb; rcases hb with h | h; exact .inl (List.mem_append_left _ h); exact .inr h)) hR, Q.st h2 (hk.mono (by intro b hb; rcases hb with h | h; exact .inl (List.mem_append_right _ h); exact .inr h)) hR⟩⟩
def Ex {β : Type} (f : β → HP) : HP := ⟨fun w R S => ∃ b, (f b).p w R S, fun ⟨b, h⟩ hk hR => ⟨b, (f b).st h hk hR⟩⟩
def Pu (φ : Prop) : HP := ⟨fun _ _ S => S = [] ∧ φ, fun h _ _ => h⟩
def Hold {α : Type} {m : Nat} (E : PR α m) (cs : List Value) (x : α) : HP := ⟨fun w R S => S = [] ∧ E.r w R cs x, fun h hk hR => ⟨h.1, E.st h.2 (hk.mono fun b hb => .inr hb) hR⟩⟩
def B (b : Nat) (cs : List Value) (T : TypeId) : HP := ⟨fun w _ S => S = [b] ∧ Blk w b cs T, fun h hk _ => ⟨h.1, by have := hk.block b (.inl (by simp [h.1])); unfold Blk at *; rw [this]; exact h.2⟩⟩
def Old (w0 : World) : HP := ⟨fun w R S => S = [] ∧ w.os = w0.os ∧ w.tape = w0.tape ∧ w.output = w0.output ∧ w0.heap.size ≤ w.heap.size ∧ ∀ b, b < w0.heap.size → R b ∧ w.heap[b]? = w0.heap[b]?,
  fun h hk hR => ⟨h.1, hk.os.trans h.2.1, hk.tape.trans h.2.2.1, hk.output.trans h.2.2.2.1, Nat.le_trans h.2.2.2.2.1 hk.size, fun b hb => ⟨hR b (h.2.2.2.2.2 b hb).1, (hk.block b (.inr (h.2.2.2.2.2 b hb).1)).trans (h.2.2.2.2.2 b hb).2⟩⟩⟩
theorem Ctx.only {w0 w : World} {l : List HP} (h : Ctx w l) {k : Nat} (hk : ltP l k = true) (e : nthP l k = Old w0) : Only [] w0 w := by
  obtain ⟨R, S, ⟨_, h1, h2, h3, h4, h5⟩, _⟩ := h.at hk e
  exact ⟨h1, h2, h3, h4, fun b hb _ => (h5 b hb).2⟩
theorem Ctx.start (w : World) : Ctx w [Old w] := ⟨fun b => b < w.heap.size, [[]], ⟨⟨rfl, rfl, rfl, rfl, Nat.le_refl _, fun b hb => ⟨hb, rfl⟩⟩, trivial⟩, by simp, by simp, fun _ h => h⟩
theorem Ctx.sepF {w : World} {P Q : HP} {l : List HP} (h : Ctx w (Sep P Q :: l)) : Ctx w (P :: Q :: l) := by
  obtain ⟨R, Ss, hc⟩ := h
  match Ss, hc with
  | S :: Ss, hc =>
    obtain ⟨⟨S1, S2, rfl, h1, h2⟩, h3⟩ := hc.all
    exact ⟨R, S1 :: S2 :: Ss, ⟨h1, h2, h3⟩, by simpa using hc.nodup, by simpa using hc.own, hc.fz⟩
theorem Ctx.sepB {w : World} {P Q : HP} {l : List HP} (h : Ctx w (P :: Q :: l)) : Ctx w (Sep P Q :: l) := by
  obtain ⟨R, Ss, hc⟩ := h
  match Ss, hc with
  | S1 :: S2 :: Ss, hc =>
    obtain ⟨h1, h2, h3⟩ := hc.all
    exact ⟨R, (S1 ++ S2) :: Ss, ⟨⟨S1, S2, rfl, h1, h2⟩, h3⟩, by simpa using hc.nodup, by simpa using hc.own, hc.fz⟩
  | [], hc => exact hc.all.elim
  | [_], hc => exact hc.all.2.elim
theorem Ctx.exF {w : World} {β : Type} {f : β → HP} {l : List HP} (h : Ctx w (Ex f :: l)) : ∃ b, Ctx w (f b :: l) := by
  obtain ⟨R, Ss, hc⟩ := h
  match Ss, hc with
  | S :: Ss, hc =>
    obtain ⟨⟨b, h1⟩, h3⟩ := hc.all
    exact ⟨b, R, S :: Ss, ⟨h1, h3⟩, hc.nodup, hc.own, hc.fz⟩
theorem Ctx.exB {w : World} {β : Type} (f : β → HP) (b : β) {l : List HP} (h : Ctx w (f b :: l)) : Ctx w (Ex f :: l) := by
  obtain ⟨R, Ss, hc⟩ := h
  match Ss, hc with
  | S :: Ss, hc => exact ⟨R, S :: Ss, ⟨⟨b, hc.all.1⟩, hc.all.2⟩, hc.nodup, hc.own, hc.fz⟩
theorem Ctx.puF {w : World} {φ : Prop} {l : List HP} (h : Ctx w (Pu φ :: l)) : φ ∧ Ctx w l := by
  refine ⟨?_, h.drop⟩
  obtain ⟨R, S, hp, _⟩ := h.get
  exact hp.2
theorem Ctx.puB {w : World} {φ : Prop} {l : List HP} (hφ : φ) (h : Ctx w l) : Ctx w (Pu φ :: l) := h.add _ fun _ _ _ => ⟨rfl, hφ⟩
theorem Ctx.dup {w : World} {α : Type} {m : Nat} {E : PR α m} {cs : List Value} {x : α} {l : List HP} (h : Ctx w l) {k : Nat} (hk : ltP l k = true) (e : nthP l k = Hold E cs x) : Ctx w (Hold E cs x :: l) := by
  have h1 := h.perm (perm_nth hk)
  rw [e] at h1
  obtain ⟨R, Ss, hc⟩ := h1
  match Ss, hc with
  | S :: Ss, hc =>
    obtain ⟨rfl, hr⟩ := hc.all.1
    have : Ctx w (Hold E cs x :: Hold E cs x :: remP l k) := ⟨R, [] :: [] :: Ss, ⟨⟨rfl, hr⟩, ⟨rfl, hr⟩, hc.all.2⟩, by simpa using hc.nodup, by simpa using hc.own, hc.fz⟩
    rw [← e] at this
    have h2 := this.perm ((perm_nth hk).symm.cons _)
    rwa [e] at h2
theorem Ctx.cell {w : World} {l : List HP} (h : Ctx w l) {k b : Nat} {cs : List Value} {T : TypeId} (hk : ltP l k = true) (e : nthP l k = B b cs T) {i : Nat} {v : Value} (hi : cs[i]? = some v) : w.cell? ⟨b, i, none⟩ = some v := by
  obtain ⟨R, S, hp, _⟩ := h.at hk e
  exact hp.2.cell hi
theorem Ctx.blk {w : World} {l : List HP} (h : Ctx w l) {k b : Nat} {cs : List Value} {T : TypeId} (hk : ltP l k = true) (e : nthP l k = B b cs T) : Blk w b cs T := by
  obtain ⟨R, S, hp, _⟩ := h.at hk e
  exact hp.2
theorem Ctx.put {w : World} {l : List HP} (h : Ctx w l) {k b : Nat} {cs : List Value} {T : TypeId} (hk : ltP l k = true) (e : nthP l k = B b cs T) (i : Nat) (v : Value) {cs' : List Value} (hcs : cs.set i v = cs') {l' : List HP} (el : setP l k (B b cs' T) = l') : Ctx (w.setCell ⟨b, i, none⟩ v) l' := by
  subst hcs
  refine h.upd1 hk _ (fun R S hp _ => ?_) el
  rw [e] at hp
  obtain ⟨rfl, hb⟩ := hp
  exact ⟨⟨rfl, hb.set i v⟩, ⟨rfl, rfl, rfl, by simp [World.setCell], fun b' hb' => Below.heap_setCell _ _ _ _ (by simpa using hb'.2)⟩⟩
theorem Ctx.putRow {w : World} {l : List HP} (h : Ctx w l) {k b : Nat} {cs : List Value} {T : TypeId} (hk : ltP l k = true) (e : nthP l k = B b cs T) (vs : List Value) {l' : List HP} (el : setP l k (B b vs T) = l') : Ctx (w.setRow b vs.toArray) l' := by
  refine h.upd1 hk _ (fun R S hp _ => ?_) el
  rw [e] at hp
  obtain ⟨rfl, hb⟩ := hp
  refine ⟨⟨rfl, hb.setRow vs⟩, ⟨rfl, rfl, rfl, by simp [World.setRow], fun b' hb' => ?_⟩⟩
  have : b' ≠ b := by simpa using hb'.2
  simp only [World.setRow, Array.getElem?_modify]
  rw [if_neg (fun e => this e.symm)]
theorem Ctx.box {w : World} {l : List HP} (h : Ctx w l) (cs : List Value) (T : TypeId) : Ctx (w.alloc (.cells cs.toArray T)) (B w.heap.size cs T :: l) := h.new _ _ fun R => ⟨rfl, Blk.new w cs.toArray T⟩
end Go.Hp
end
section
namespace Go.Hp
open Go Go.RowKit
set_option linter.unusedVariables false
set_option linter.unusedSimpArgs false

def pC {α : Type} {m : Nat} (f : α → List Value) (hl : ∀ x, (f x).length = m) (ho : ∀ x, (f x).all (·.oneCell') = true) : PR α m :=
  ⟨fun _ _ cs x => cs = f x, fun h _ _ => h, fun h => by rw [h]; exact hl _, fun h v hv => by rw [h] at hv; exact List.all_eq_true.1 (ho _) v hv⟩
def pInt (k : IntKind) : PR Int 1 := pC (fun x => [.int k x]) (fun _ => rfl) (fun _ => rfl)
def pBool : PR Bool 1 := pC (fun x => [.bool x]) (fun _ => rfl) (fun _ => rfl)
def pSeq {α β : Type} {m n : Nat} (A : PR α m) (C : PR β n) : PR (α × β) (m + n) :=
  ⟨fun w R cs x => ∃ c1 c2, cs = c1 ++ c2 ∧ A.r w R c1 x.1 ∧ C.r w R c2 x.2,
   fun ⟨c1, c2, e, h1, h2⟩ hk hR => ⟨c1, c2, e, A.st h1 hk hR, C.st h2 hk hR⟩,
   fun ⟨c1, c2, e, h1, h2⟩ => by rw [e, List.length_append, A.len h1, C.len h2],
   fun ⟨c1, c2, e, h1, h2⟩ v hv => by rw [e, List.mem_append] at hv; rcases hv with h | h; exact A.one h1 v h; exact C.one h2 v h⟩
def pMap {α β : Type} {m : Nat} (f : β → α) (E : PR α m) : PR β m := ⟨fun w R cs y => E.r w R cs (f y), E.st, E.len, E.one⟩
def idx {α : Type} (xs : List α) (i : Int) : Option α := if 0 ≤ i then xs[i.toNat]? else none
theorem idx_some {α : Type} {xs : List α} {i : Int} {x : α} (h : idx xs i = some x) : 0 ≤ i ∧ i < xs.length ∧ xs[i.toNat]? = some x := by
  unfold idx at h
  split at h
  · rename_i h0
    have := (List.getElem?_eq_some_iff.1 h).1
    exact ⟨h0, by omega, h⟩
  · cases h
def RowAt {α : Type} {m : Nat} (E : PR α m) (w : World) (R A : Nat → Prop) (a : Option Addr) (xs : List α) : Prop :=
  ∀ i x, xs[i]? = some x → ∃ bb oo cs, a = some ⟨bb, oo, none⟩ ∧ A bb ∧ E.r w R cs x ∧ ∀ (j : Nat) u, cs[j]? = some u → w.cell? ⟨bb, oo + i * m + j, none⟩ = some u
def roSl {α : Type} {m : Nat} (E : PR α m) (w : World) (R A : Nat → Prop) (v : Value) (xs : List α) : Prop := ∃ a c, v = .slice a xs.length c ∧ xs.length ≤ c ∧ RowAt E w R A a xs
theorem roSl.imp {α : Type} {m : Nat} {E : PR α m} {w : World} {R A A' : Nat → Prop} {v : Value} {xs : List α} (h : roSl E w R A v xs) (k : ∀ b, A b → A' b) : roSl E w R A' v xs := by
  obtain ⟨a, c, hv, hc, hr⟩ := h
  exact ⟨a, c, hv, hc, fun i x hx => by obtain ⟨bb, oo, cs, h1, h2, h3⟩ := hr i x hx; exact ⟨bb, oo, cs, h1, k _ h2, h3⟩⟩
def pRo {α : Type} {m : Nat} (E : PR α m) : PR (List α) 1 :=
  ⟨fun w R cs xs => ∃ v, cs = [v] ∧ roSl E w R R v xs,
   fun ⟨v, e, a, c, hv, hc, hr⟩ hk hR => ⟨v, e, a, c, hv, hc, fun i x hx => by
     obtain ⟨bb, oo, cs, h1, h2, h3, h4⟩ := hr i x hx
     exact ⟨bb, oo, cs, h1, hR _ h2, E.st h3 hk hR, fun j u hu => (hk.cell (a := ⟨bb, oo + i * m + j, none⟩) h2).trans (h4 j u hu)⟩⟩,
   fun ⟨v, e, _⟩ => by rw [e]; rfl,
   fun ⟨v, e, a, c, hv, _⟩ u hu => by rw [e, List.mem_singleton] at hu; subst hu; rw [hv]; rfl⟩
def Reads {α : Type} {m : Nat} (P : HP) (E : PR α m) (v : Value) (xs : List α) : Prop := ∀ w R S, P.p w R S → roSl E w R (fun b => b ∈ S ∨ R b) v xs
theorem Reads.w {α : Type} {m : Nat} {P : HP} {E : PR α m} {v : Value} {xs : List α} (h : Reads P E v xs) : ∀ w R S, P.p w R S → roSl E w R (fun _ => True) v xs := fun w R S hp => (h w R S hp).imp fun _ _ => trivial
theorem reads_ro {α : Type} {m : Nat} {E : PR α m} {v : Value} {xs : List α} : Reads (Hold (pRo E) [v] xs) E v xs := by
  rintro w R S ⟨_, v', e, h⟩
  injection e with e
  subst e
  exact h.imp fun _ hb => .inr hb
def Rows {α : Type} {m : Nat} (E : PR α m) (w : World) (R : Nat → Prop) : List (List Value) → List α → Prop
  | [], [] => True
  | c :: cs, x :: xs => E.r w R c x ∧ Rows E w R cs xs
  | _, _ => False
section
variable {α : Type} {m : Nat} {E : PR α m} {w w' : World} {R R' : Nat → Prop}
theorem Rows.st : ∀ {css : List (List Value)} {xs : List α}, Rows E w R css xs → Kp R w w' → (∀ b, R b → R' b) → Rows E w' R' css xs
  | [], [], _, _, _ => trivial
  | _ :: _, _ :: _, h, hk, hR => ⟨E.st h.1 hk hR, Rows.st h.2 hk hR⟩
  | [], _ :: _, h, _, _ => h.elim
  | _ :: _, [], h, _, _ => h.elim
theorem Rows.len : ∀ {css : List (List Value)} {xs : List α}, Rows E w R css xs → css.length = xs.length
  | [], [], _ => rfl
  | _ :: _, _ :: _, h => by simp [Rows.len h.2]
  | [], _ :: _, h => h.elim
  | _ :: _, [], h => h.elim
theorem Rows.flen : ∀ {css : List (List Value)} {xs : List α}, Rows E w R css xs → css.flatten.length = xs.length * m
  | [], [], _ => by simp
  | c :: _, _ :: _, h => by rw [List.flatten_cons, List.length_append, E.len h.1, Rows.flen h.2, List.length_cons, Nat.succ_mul, Nat.add_comm]
  | [], _ :: _, h => h.elim
  | _ :: _, [], h => h.elim
theorem Rows.one : ∀ {css : List (List Value)} {xs : List α}, Rows E w R css xs → ∀ v ∈ css.flatten, v.oneCell' = true
  | [], [], _, v, hv => by simp at hv
  | c :: _, _ :: _, h, v, hv => by
    rw [List.flatten_cons, List.mem_append] at hv
    rcases hv with hv | hv
    · exact E.one h.1 v hv
    · exact Rows.one h.2 v hv
  | [], _ :: _, h, _, _ => h.elim
  | _ :: _, [], h, _, _ => h.elim
theorem Rows.get : ∀ {css : List (List Value)} {xs : List α}, Rows E w R css xs → ∀ {i : Nat} {x : α}, xs[i]? = some x → ∃ c, css[i]? = some c ∧ E.r w R c x ∧ ∀ (j : Nat) u, c[j]? = some u → css.flatten[i * m + j]? = some u
  | [], [], _, i, x, hx => by simp at hx
  | c :: cs, y :: ys, h, 0, x, hx => by
    simp at hx; subst hx
    refine ⟨c, rfl, h.1, fun j u hu => ?_⟩
    rw [Nat.zero_mul, Nat.zero_add, List.flatten_cons, List.getElem?_append_left (List.getElem?_eq_some_iff.1 hu).1]; exact hu
  | c :: cs, y :: ys, h, i + 1, x, hx => by
    obtain ⟨d, h1, h2, h3⟩ := Rows.get h.2 (i := i) (x := x) (by simpa using hx)
    refine ⟨d, by simpa using h1, h2, fun j u hu => ?_⟩
    have hl := E.len h.1
    rw [List.flatten_cons, List.getElem?_append_right (by rw [hl, Nat.succ_mul]; omega), hl, show (i + 1) * m + j - m = i * m + j by rw [Nat.succ_mul]; omega]
    exact h3 j u hu
  | [], _ :: _, h, _, _, _ => h.elim
  | _ :: _, [], h, _, _, _ => h.elim
theorem Rows.app {ds : List (List Value)} {ys : List α} : ∀ {css : List (List Value)} {xs : List α}, Rows E w R css xs → Rows E w R ds ys → Rows E w R (css ++ ds) (xs ++ ys)
  | [], [], _, h2 => h2
  | _ :: _, _ :: _, h, h2 => ⟨h.1, Rows.app h.2 h2⟩
  | [], _ :: _, h, _ => h.elim
  | _ :: _, [], h, _ => h.elim
theorem Rows.set : ∀ {css : List (List Value)} {xs : List α}, Rows E w R css xs → ∀ {i : Nat} {x x' : α} {c' : List Value} , xs[i]? = some x → E.r w R c' x' → Rows E w R (css.set i c') (xs.set i x')
  | [], [], _, i, x, _, _, hx, _ => by simp at hx
  | c :: cs, y :: ys, h, 0, x, x', c', hx, h' => ⟨h', h.2⟩
  | c :: cs, y :: ys, h, i + 1, x, x', c', hx, h' => ⟨h.1, Rows.set h.2 (by simpa using hx) h'⟩
  | [], _ :: _, h, _, _, _, _, _, _ => h.elim
  | _ :: _, [], h, _, _, _, _, _, _ => h.elim
theorem Rows.fset : ∀ {css : List (List Value)} {xs : List α}, Rows E w R css xs → ∀ {i : Nat} {c : List Value}, css[i]? = some c → ∀ (j : Nat) (u : Value), j < m → css.flatten.set (i * m + j) u = (css.set i (c.set j u)).flatten
  | [], [], _, i, c, hc, _, _, _ => by simp at hc
  | d :: cs, y :: ys, h, 0, c, hc, j, u, hj => by
    simp at hc; subst hc
    rw [Nat.zero_mul, Nat.zero_add, List.flatten_cons, List.set_append_left _ _ (by rw [E.len h.1]; exact hj)]; rfl
  | d :: cs, y :: ys, h, i + 1, c, hc, j, u, hj => by
    have hl := E.len h.1
    rw [List.flatten_cons, List.set_append_right _ _ (by rw [hl, Nat.succ_mul]; omega), hl, show (i + 1) * m + j - m = i * m + j by rw [Nat.succ_mul]; omega, Rows.fset h.2 (by simpa using hc) j u hj]; rfl
  | [], _ :: _, h, _, _, _, _, _, _ => h.elim
  | _ :: _, [], h, _, _, _, _, _, _ => h.elim
theorem rows_of {a : Option Addr} {A : Nat → Prop} : ∀ (xs : List α) (o : Nat), (∀ i x, xs[i]? = some x → ∃ bb oo cs, a = some ⟨bb, oo, none⟩ ∧ A bb ∧ E.r w R cs x ∧ ∀ (j : Nat) u, cs[j]? = some u → w.cell? ⟨bb, oo + (o + i) * m + j, none⟩ = some u) →
    ∃ css, Rows E w R css xs ∧ ∀ b oo, a = some ⟨b, oo, none⟩ → ∀ (j : Nat) u, css.flatten[j]? = some u → w.cell? ⟨b, oo + o * m + j, none⟩ = some u
  | [], o, _ => ⟨[], trivial, fun b oo _ j u hu => by simp at hu⟩
  | x :: xs, o, h => by
    obtain ⟨css, h1, h2⟩ := rows_of xs (o + 1) (fun i y hy => by
      have := h (i + 1) y (by simpa using hy)
      rwa [show o + (i + 1) = o + 1 + i by omega] at this)
    obtain ⟨bb, oo, cs, ha, hA, hE, hc⟩ := h 0 x rfl
    refine ⟨cs :: css, ⟨hE, h1⟩, fun b oo' ha' j u hu => ?_⟩
    rw [ha] at ha'
    injection ha' with ha'
    injection ha' with e1 e2
    subst e1 e2
    have hl := E.len hE
    rw [List.flatten_cons] at hu
    by_cases hj : j < m
    · rw [List.getElem?_append_left (by omega)] at hu
      exact hc j u hu
    · rw [List.getElem?_append_right (by omega)] at hu
      have := h2 bb oo ha (j - cs.length) u hu
      rw [hl] at this
      rwa [show oo + (o + 1) * m + (j - m) = oo + o * m + j by rw [Nat.succ_mul]; omega] at this
end
def Own {α : Type} {m : Nat} (E : PR α m) (T : TypeId) (v : Value) (xs : List α) : HP :=
  ⟨fun w R S => ∃ css, Rows E w R css xs ∧ w.ownsRow 0 T m v xs.length css.flatten ∧ S = v.ownBlock.toList,
   fun {w w' R R' S} h hk hR => by
     obtain ⟨css, h1, h2, e⟩ := h
     refine ⟨css, h1.st (hk.mono fun b hb => .inr hb) hR, ⟨h2.1, ?_⟩, e⟩
     rcases h2.2 with hn | ⟨g, cap, cur, rfl, hb, hgg, rest⟩
     · exact .inl hn
     · refine .inr ⟨g, cap, cur, rfl, hb, ?_, rest⟩
       rw [hk.block g (.inl (by rw [e]; simp [Value.ownBlock]))]; exact hgg⟩
theorem reads_own {α : Type} {m : Nat} {E : PR α m} {T : TypeId} {v : Value} {xs : List α} : Reads (Own E T v xs) E v xs := by
  rintro w R S ⟨css, h1, h2, eS⟩
  rcases h2.2 with ⟨rfl, hn⟩ | ⟨g, cap, cur, rfl, _, hgg, hc, _, hs, ht⟩
  · have : xs = [] := List.eq_nil_of_length_eq_zero hn
    subst this
    exact ⟨none, 0, rfl, Nat.le_refl _, fun i x hx => by simp at hx⟩
  · refine ⟨_, cap, rfl, hc, fun i x hx => ?_⟩
    obtain ⟨c, _, h3, h4⟩ := h1.get hx
    refine ⟨g, 0, c, rfl, .inl (by rw [eS]; simp [Value.ownBlock]), h3, fun j u hu => ?_⟩
    have := h2.cells (g := g) rfl _ _ (h4 j u hu)
    rw [Addr.add_lit, ← Nat.add_assoc] at this
    exact this
section
variable {α : Type} {m : Nat} {E : PR α m} {w : World} {l : List HP} {k : Nat} {T : TypeId} {v : Value} {xs : List α}
theorem Ctx.rd (h : Ctx w l) (hk : ltP l k = true) {P : HP} (e : nthP l k = P) (hP : Reads P E v xs) : ∃ a c, v = .slice a xs.length c := by
  obtain ⟨R, S, hp, _⟩ := h.at hk e
  obtain ⟨a, c, h1, _⟩ := hP.w w R S hp
  exact ⟨a, c, h1⟩
theorem Ctx.rdAt (h : Ctx w l) (hk : ltP l k = true) {P : HP} (e : nthP l k = P) {a : Option Addr} {n c : Nat} (hP : Reads P E (.slice a n c) xs) {i : Int} {x : α} (hx : idx xs i = some x) :
    ∃ bb oo, a = some ⟨bb, oo, none⟩ ∧ 0 ≤ i ∧ i < n := by
  obtain ⟨h0, h1, h2⟩ := idx_some hx
  obtain ⟨R, S, hp, _⟩ := h.at hk e
  obtain ⟨a', c', hv, _, hr⟩ := hP.w w R S hp
  obtain ⟨bb, oo, cs, ha, _⟩ := hr _ _ h2
  injection hv with e1 e2 e3
  exact ⟨bb, oo, by rw [e1, ha], h0, by rw [e2]; exact h1⟩
theorem Ctx.rdLen (h : Ctx w l) (hk : ltP l k = true) {P : HP} (e : nthP l k = P) {a : Option Addr} {n c : Nat} (hP : Reads P E (.slice a n c) xs) : n = xs.length ∧ n ≤ c := by
  obtain ⟨R, S, hp, _⟩ := h.at hk e
  obtain ⟨a', c', hv, hc, hr⟩ := hP.w w R S hp
  injection hv with e1 e2 e3
  exact ⟨e2, by omega⟩
theorem Ctx.rdCell (h : Ctx w l) (hk : ltP l k = true) {P : HP} (e : nthP l k = P) {bb oo n c : Nat} (hP : Reads P E (.slice (some ⟨bb, oo, none⟩) n c) xs) {i : Int} {x : α} (hx : idx xs i = some x) :
    ∃ cs, Ctx w (Hold E cs x :: l) ∧ ∀ (j : Nat) u, cs[j]? = some u → w.cell? ⟨bb, oo + i.toNat * m + j, none⟩ = some u := by
  obtain ⟨h0, h1, h2⟩ := idx_some hx
  have h' := h.perm (perm_nth hk)
  rw [e] at h'
  obtain ⟨R, Ss, hc⟩ := h'
  match Ss, hc with
  | S :: Ss, hc =>
    obtain ⟨a, c', hv', _, hr⟩ := hP.w w R S hc.all.1
    obtain ⟨bb', oo', cs, ha, _, hE, hcs⟩ := hr _ _ h2
    subst ha
    injection hv' with e1 _ _
    injection e1 with e1
    injection e1 with e1 e2
    subst e1 e2
    refine ⟨cs, ?_, hcs⟩
    have : Ctx w (Hold E cs x :: P :: remP l k) := ⟨R, [] :: S :: Ss, ⟨⟨rfl, hE⟩, hc.all⟩, by simpa using hc.nodup, by simpa using hc.own, hc.fz⟩
    rw [← e] at this
    exact this.perm ((perm_nth hk).symm.cons _)
theorem Ctx.holdC {f : α → List Value} {hl : ∀ x, (f x).length = m} {ho : ∀ x, (f x).all (·.oneCell') = true} {cs : List Value} {x : α} (h : Ctx w (Hold (pC f hl ho) cs x :: l)) : cs = f x ∧ Ctx w l := by
  refine ⟨?_, h.drop⟩
  obtain ⟨R, S, hp, _⟩ := h.get
  exact hp.2
theorem Ctx.holdLen {cs : List Value} {x : α} (h : Ctx w (Hold E cs x :: l)) : cs.length = m := by
  obtain ⟨R, S, hp, _⟩ := h.get
  exact E.len hp.2
theorem Ctx.freeze (h : Ctx w l) (hk : ltP l k = true) (e : nthP l k = Own E T v xs) {l' : List HP} (el : setP l k (Hold (pRo E) [v] xs) = l') : Ctx w l' := by
  subst el
  refine Ctx.perm (perm_set hk) ?_
  have h1 := h.perm (perm_nth hk)
  rw [e] at h1
  refine Ctx.upd (Ps := [Own E T v xs]) (Qs := [Hold (pRo E) [v] xs]) h1 fun R Ss hc => ?_
  match Ss, hc with
  | [S], hc =>
    obtain ⟨css, r1, r2, e⟩ := hc.all.1
    subst e
    have hlt := r2.lt
    refine ⟨fun b => R b ∨ some b = v.ownBlock, [[]], ⟨⟨rfl, v, rfl, ?_⟩, trivial⟩, by simp, by simp, fun b hb => .inl hb, fun b hb => ?_, Kp.refl _ _⟩
    · have r1' := r1.st (w' := w) (R' := fun b => R b ∨ some b = v.ownBlock) (Kp.refl _ _) fun _ h => .inl h
      rcases r2.2 with ⟨rfl, hn⟩ | ⟨g, cap, cur, rfl, _, hgg, hcap, _, hs, ht⟩
      · have : xs = [] := List.eq_nil_of_length_eq_zero hn
        subst this
        exact ⟨none, 0, rfl, Nat.le_refl _, fun i x hx => by simp at hx⟩
      · refine ⟨_, cap, rfl, hcap, fun i x hx => ?_⟩
        obtain ⟨c, _, h3, h4⟩ := r1'.get hx
        refine ⟨g, 0, c, rfl, .inr rfl, h3, fun j u hu => ?_⟩
        have := r2.cells (g := g) rfl _ _ (h4 j u hu)
        rw [Addr.add_lit, ← Nat.add_assoc] at this
        exact this
    · rcases hb with hb | hb
      · exact ⟨.inl hb, hc.fz b hb⟩
      · exact ⟨.inr (.inl (by simp [← hb])), (hlt b hb.symm).2⟩
  | [], hc => exact hc.all.elim
  | _ :: _ :: _, hc => exact hc.all.2.elim
theorem Ctx.nilOwn (E : PR α m) (T : TypeId) (h : Ctx w l) : Ctx w (Own E T (.slice none 0 0) [] :: l) := h.add _ fun _ _ _ => ⟨[], trivial, World.ownsRow_nil _ _ _ _, rfl⟩
theorem Ctx.nilRo (E : PR α m) (h : Ctx w l) : Ctx w (Hold (pRo E) [.slice none 0 0] [] :: l) := h.add _ fun _ _ _ => ⟨rfl, _, rfl, none, 0, rfl, Nat.le_refl _, fun i x hx => by simp at hx⟩
theorem Ctx.ownPut (h : Ctx w l) (hk : ltP l k = true) {bb oo n c : Nat} (e : nthP l k = Own E T (.slice (some ⟨bb, oo, none⟩) n c) xs) {i : Int} {x x' : α} (hx : idx xs i = some x) (j : Nat) (hj : Nat.blt j m = true) (u : Value)
    (hE : ∀ (w : World) R cs, E.r w R cs x → E.r w R (cs.set j u) x') {l' : List HP} (el : setP l k (Own E T (.slice (some ⟨bb, oo, none⟩) n c) (xs.set i.toNat x')) = l') : Ctx (w.setCell ⟨bb, oo + i.toNat * m + j, none⟩ u) l' := by
  obtain ⟨_, _, h2⟩ := idx_some hx
  replace hj : j < m := by simpa using hj
  refine h.upd1 hk _ (fun R S hp hS => ?_) el
  rw [e] at hp
  obtain ⟨css, r1, r2, rfl⟩ := hp
  obtain ⟨d, hd, hE1, _⟩ := r1.get h2
  rcases r2.2 with ⟨hv, hn⟩ | ⟨g, cap, cur, hv, hb, hgg, hcap, hm, hs, ht⟩
  · cases hv
  · injection hv with e1 e2 e3
    injection e1 with e1
    injection e1 with e1 e4
    subst e1 e3 e4
    have hlt := (Array.getElem?_eq_some_iff.1 hgg).1
    have hkp : Kp (fun b => b < w.heap.size ∧ b ∉ (Value.slice (some ⟨bb, 0, none⟩) n c).ownBlock.toList) w (w.setCell ⟨bb, 0 + i.toNat * m + j, none⟩ u) :=
      ⟨rfl, rfl, rfl, by simp [World.setCell], fun b' hb' => Below.heap_setCell _ _ _ _ (by simpa [Value.ownBlock] using hb'.2)⟩
    have r1' : Rows E (w.setCell ⟨bb, 0 + i.toNat * m + j, none⟩ u) R css xs := by
      -- the frozen blocks are others
      exact r1.st ⟨rfl, rfl, rfl, by simp [World.setCell], fun b hb => Below.heap_setCell _ _ _ _ (fun e => (hS bb (by simp [Value.ownBlock])).2 ((show b = bb from e) ▸ hb))⟩ fun _ h => h
    have hxl := (List.getElem?_eq_some_iff.1 h2).1
    refine ⟨⟨css.set i.toNat (d.set j u), r1'.set h2 (hE _ _ _ (E.st hE1 ⟨rfl, rfl, rfl, by simp [World.setCell], fun b hb => Below.heap_setCell _ _ _ _ (fun e => (hS bb (by simp [Value.ownBlock])).2 ((show b = bb from e) ▸ hb))⟩ fun _ h => h)), ⟨?_, .inr ⟨bb, c, cur.setIfInBounds (0 + i.toNat * m + j) u, by simp [e2], hb, ?_, by simpa using hcap, hm, by simpa using hs, ?_⟩⟩, rfl⟩, hkp⟩
    · rw [← r1.fset hd j u hj]; simpa using r2.1
    · show (w.heap.modify bb _)[bb]? = _
      have h' : w.heap[bb] = .cells cur T (0, 0) := by simpa [Array.getElem?_eq_getElem hlt] using hgg
      rw [Array.getElem?_eq_getElem (by simpa using hlt), Array.getElem_modify_self, h']
      simp
    · rw [← r1.fset hd j u hj, Nat.zero_add, List.length_set, ← ht]
      simp only [Array.toList_setIfInBounds]
      rw [List.take_set]
end
end Go.Hp
end
section
namespace Go.Hp
open Go Go.RowKit
set_option linter.unusedVariables false
set_option linter.unusedSimpArgs false
theorem bind_some {α β : Type} {x : Option α} {f : α → Option β} {r : β} (h : x.bind f = some r) : ∃ a, x = some a ∧ f a = some r := Option.bind_eq_some_iff.1 h
def app {α : Type} (xs ys : List α) : Option (List α) := if xs.length + ys.length ≤ 4294967296 then some (xs ++ ys) else none
theorem app_some {α : Type} {xs ys r : List α} (h : app xs ys = some r) : xs.length + ys.length ≤ 4294967296 ∧ r = xs ++ ys := by
  unfold app at h
  split at h
  · injection h with h; exact ⟨‹_›, h.symm⟩
  · cases h
section
variable {P : Program} {ρ : Operand → Value} {w : World} {dst : Option Nat} {ty : TypeId} {pos : String} {after : Array Edge} {g : Option (Nat × Bool)} {x y c : Operand}
theorem foldl_cells (m : Nat) : ∀ (vc : List Value) (j0 off : Nat) (cs : List Value), off + j0 + vc.length ≤ cs.length →
    ((vc.zipIdx j0).foldl (fun (a : Array Value) (p : Value × Nat) => a.setIfInBounds (off + p.2) p.1) cs.toArray) = (cs.take (off + j0) ++ vc ++ cs.drop (off + j0 + vc.length)).toArray
  | [], j0, off, cs, h => by simp
  | v :: vc, j0, off, cs, h => by
    simp only [List.length_cons] at h
    rw [List.zipIdx_cons, List.foldl_cons]
    have hs : cs.toArray.setIfInBounds (off + j0) v = (cs.set (off + j0) v).toArray := by simp
    simp only [hs]
    rw [foldl_cells m vc (j0 + 1) off (cs.set (off + j0) v) (by simp; omega)]
    congr 1
    have hlt : off + j0 < cs.length := by omega
    rw [show off + (j0 + 1) = off + j0 + 1 by omega, List.take_set, List.drop_set_of_lt (by omega)]
    rw [List.take_succ_eq_append_getElem hlt, List.set_append_right _ _ (by simp; omega)]
    simp [Nat.min_eq_left (Nat.le_of_lt hlt)]
    omega
def enum {α : Type} : Nat → List α → List (Nat × α)
  | _, [] => []
  | i, x :: xs => (i, x) :: enum (i + 1) xs
theorem fill_rows (m : Nat) : ∀ (vs : List Value) (k : Nat) (pre rest : List Value), (∀ v ∈ vs, v.cells.size = m) → pre.length = k * m → rest.length = vs.length * m →
    Instr.fill (fun i => some (i * m, m)) (pre ++ rest).toArray (enum k vs) = some (pre ++ (vs.map (·.cells.toList)).flatten).toArray
  | [], k, pre, rest, _, _, hr => by
    have : rest = [] := List.eq_nil_of_length_eq_zero (by simpa using hr)
    subst this
    simp [enum, Instr.fill]
  | v :: vs, k, pre, rest, hv, hp, hr => by
    have hvs := hv v (by simp)
    have hrl : rest.length = m + vs.length * m := by rw [hr, List.length_cons, Nat.succ_mul]; omega
    simp only [enum, Instr.fill]
    rw [if_neg (by simp [hvs, hp, hrl])]
    have hf := foldl_cells m v.cells.toList 0 (k * m) (pre ++ rest) (by simp [hvs, hp, hrl])
    have hz : v.cells.zipIdx.foldl (fun (cs : Array Value) (x : Value × Nat) => match x with | (c, j) => cs.setIfInBounds (k * m + j) c) (pre ++ rest).toArray =
        ((v.cells.toList.zipIdx 0).foldl (fun (a : Array Value) (p : Value × Nat) => a.setIfInBounds (k * m + p.2) p.1) (pre ++ rest).toArray) := by
      rw [← Array.foldl_toList]; simp
    rw [hz, hf]
    have e1 : (pre ++ rest).take (k * m + 0) = pre := by rw [Nat.add_zero, ← hp, List.take_left]
    have e2 : (pre ++ rest).drop (k * m + 0 + v.cells.toList.length) = rest.drop m := by
      rw [Nat.add_zero, List.drop_append, hp]
      simp [hvs, hp]
    rw [e1, e2]
    rw [fill_rows m vs (k + 1) (pre ++ v.cells.toList) (rest.drop m) (fun u hu => hv u (by simp [hu])) (by rw [List.length_append, hp, Nat.succ_mul]; simp [hvs]) (by rw [List.length_drop, hrl]; omega)]
    simp
theorem bsl {T E : TypeId} {m n : Nat} {z : Value} {ps : Array (Nat × Operand)} (css : List (List Value)) (hu : P.underlying T = some (.slice E)) (hs : ∀ w, (sizeOf E).run P w = .ok m w) (hz : ∀ w, (zeroValue E).run P w = .ok z w)
    (hps : ps.toList.map (·.1) = List.range n) (hcs : (ps.toList.map fun p => (ρ p.2).cells.toList) = css) (hm : css.all (fun c => Nat.beq c.length m) = true) (hzs : Nat.beq z.cells.size m = true) (hn : Nat.ble (n * m) 16777216 = true) :
    (execOp ρ ⟨dst, .buildSlice T n ps, ty, pos, after, g⟩).run P w = .ok (.value (.slice (some ⟨w.heap.size, 0, none⟩) n n)) (w.alloc (.cells css.flatten.toArray E)) := by
  subst hcs
  have hlen : ps.toList.length = n := by have := congrArg List.length hps; simpa using this
  have hzs' : z.cells.size = m := by simpa using hzs
  have hn' : n * m ≤ 16777216 := Nat.le_of_ble_eq_true hn
  have hmap : (ps.map fun (p : Nat × Operand) => (p.1, ρ p.2)).toList = enum 0 (ps.toList.map fun p => ρ p.2) := by
    have key : ∀ (l : List (Nat × Operand)) (k : Nat), l.map (·.1) = List.range' k l.length → l.map (fun p => (p.1, ρ p.2)) = enum k (l.map fun p => ρ p.2) := by
      intro l
      induction l with
      | nil => intro k _; rfl
      | cons p l ih =>
        intro k h
        simp only [List.map_cons, List.length_cons, List.range'_succ, List.cons.injEq] at h
        simp only [List.map_cons, enum, ih (k + 1) h.2, h.1]
    rw [Array.toList_map]
    exact key _ 0 (by rw [hps, hlen, List.range_eq_range'])
  have hr0 : ∀ zz : Array Value, zz.size = m ∨ n * m = 0 → ((Array.range (n * m)).map (zz[· % zz.size]!)).toList.length = n * m := by intro zz _; simp
  have hfill : ∀ zz : Array Value, Instr.fill (fun i => some (i * m, m)) ((Array.range (n * m)).map (zz[· % zz.size]!)) (ps.map fun (p : Nat × Operand) => (p.1, ρ p.2)).toList = some ((ps.toList.map fun p => (ρ p.2).cells.toList).flatten).toArray := by
    intro zz
    have := fill_rows m (ps.toList.map fun p => ρ p.2) 0 [] ((Array.range (n * m)).map (zz[· % zz.size]!)).toList (by
      intro v hv
      obtain ⟨p, hp, rfl⟩ := List.mem_map.1 hv
      have := List.all_eq_true.1 hm _ (List.mem_map.2 ⟨p, hp, rfl⟩)
      simpa using this) (by simp) (by simp [hlen])
    rw [hmap]
    rw [List.nil_append, Array.toArray_toList, List.nil_append, List.map_map] at this
    exact this
  have hgt : ¬ n * m > 2 ^ 24 := by simp; omega
  have key : (Instr.buildSlice T n (ps.map fun (p : Nat × Operand) => (p.1, ρ p.2))).run P w = .ok (.slice (some ⟨w.heap.size, 0, none⟩) n n) (w.alloc (.cells ((ps.toList.map fun p => (ρ p.2).cells.toList).flatten).toArray E)) := by
    unfold Instr.buildSlice
    simp only [Sem.run_bind, run_underlying hu, hs]
    simp [hgt, run_underlying hu, hs]
    by_cases h0 : n * m = 0
    · simp [h0, hs, run_underlying hu]
      have := hfill #[]
      rw [h0] at this
      simp at this
      simp [this, newRow, newObj, Sem.run]
    · simp [h0, hs, run_underlying hu, hz, hn']
      have := hfill z.cells
      simp at this
      simp [this, newRow, newObj, Sem.run]
  simp only [execOp]
  simp [key]
end

section
variable {P : Program} {n : Nat} {Q : Qt} {l : Fm} {b : Nat → Value} {w : World} {ops : List Oper} {rest : List Oper} {op : Op} {ty : TypeId} {pos : String} {after : Array Edge} {g : Option (Nat × Bool)} {d : Nat} {A : Value → World → Prop}
theorem rsE (h : ∃ v w', (execOp (ev n l b) ⟨some d, op, ty, pos, after, g⟩).run P w = .ok (.value v) w' ∧ A v w') (hw : want n ops l b ⟨some d, op, ty, pos, after, g⟩ = true) (k : ∀ v w', A v w' → Rg P n ops Q rest ((d, v) :: l) b w') : Rg P n ops Q (⟨some d, op, ty, pos, after, g⟩ :: rest) l b w := by
  obtain ⟨v, w', h1, h2⟩ := h
  exact rs h1 hw (k v w' h2)
theorem ruE {A : World → Prop} (h : ∃ w', (execOp (ev n l b) ⟨none, op, ty, pos, after, g⟩).run P w = .ok .skip w' ∧ A w') (hw : want n ops l b ⟨none, op, ty, pos, after, g⟩ = true) (k : ∀ w', A w' → Rg P n ops Q rest l b w') : Rg P n ops Q (⟨none, op, ty, pos, after, g⟩ :: rest) l b w := by
  obtain ⟨w', h1, h2⟩ := h
  exact ru h1 hw (k w' h2)
theorem rvE {A : World → Prop} (h : ∃ v w', (execOp (ev n l b) ⟨none, op, ty, pos, after, g⟩).run P w = .ok (.value v) w' ∧ A w') (hw : want n ops l b ⟨none, op, ty, pos, after, g⟩ = true) (k : ∀ w', A w' → Rg P n ops Q rest l b w') : Rg P n ops Q (⟨none, op, ty, pos, after, g⟩ :: rest) l b w := by
  obtain ⟨v, w', h1, h2⟩ := h
  refine ⟨?_⟩
  unfold wpList
  rw [want_act, hw, if_pos rfl]
  refine .inl ?_
  unfold Oper.wp
  rw [act_eval, h1, Oper.upon_value, act_put]
  exact (k w' h2).h
variable {bm : List Nat} {G : Nat → World → Prop} {em xm i : Nat}
theorem deE (h : ∃ v w', (execOp (ev n l b) ⟨some d, op, ty, pos, after, g⟩).run P w = .ok (.value v) w' ∧ A v w') (hw : want n ops l b ⟨some d, op, ty, pos, after, g⟩ = true) (he : effB op = true) (k : ∀ v w', A v w' → FX bm em G i w' ∧ Rd P n ops bm em G xm Q (i + 1) rest ((d, v) :: l) b w') : Rd P n ops bm em G xm Q i (⟨some d, op, ty, pos, after, g⟩ :: rest) l b w := by
  obtain ⟨v, w', h1, h2⟩ := h
  exact de h1 hw he (k v w' h2).1 (k v w' h2).2
theorem duE {A : World → Prop} (h : ∃ w', (execOp (ev n l b) ⟨none, op, ty, pos, after, g⟩).run P w = .ok .skip w' ∧ A w') (hw : want n ops l b ⟨none, op, ty, pos, after, g⟩ = true) (he : effB op = true) (k : ∀ w', A w' → FX bm em G i w' ∧ Rd P n ops bm em G xm Q (i + 1) rest l b w') : Rd P n ops bm em G xm Q i (⟨none, op, ty, pos, after, g⟩ :: rest) l b w := by
  obtain ⟨w', h1, h2⟩ := h
  exact du h1 hw he (k w' h2).1 (k w' h2).2
end

section
variable {P : Program} {ρ : Operand → Value} {w : World} {dst : Option Nat} {ty : TypeId} {pos : String} {after : Array Edge} {g : Option (Nat × Bool)} {x y z : Operand}
variable {α : Type} {m : Nat} {E : PR α m} {l : List HP} {k k2 : Nat} {T t : TypeId} {v u : Value} {xs ys : List α}
theorem run_app_none {s : Option Addr} {n c q : Nat} (ht : P.underlying t = some (.slice T)) {i : TypeInfo} (hi : P.info? T = some i) (hn : n ≤ c) (hcell : s = none ∨ ∃ a, s = some a) :
    (Builtin.append_ #[t, t] ty #[.slice s n c, .slice none 0 q]).run P w = .ok (.slice s n c) w := by
  have hsz : ∀ w, (sizeOf T).run P w = .ok i.size w := fun w => by simp [sizeOf, typeInfo, Sem.run, hi]
  have hu : ∀ w, (underlying t).run P w = .ok (.slice T) w := fun w => run_underlying ht w
  unfold Builtin.append_
  cases s <;> simp [hu, hsz, Builtin.lenOf, Builtin.firstCells, hn, storeCells]
theorem Ctx.append (h : Ctx w l) (hk : ltP l k = true) (e : nthP l k = Own E T v xs) (hk2 : ltP l k2 = true) {Q : HP} (e2 : nthP l k2 = Q) (hQ : Reads Q E u ys)
    {i : TypeInfo} {zv : Value} (ht : P.underlying t = some (.slice T)) (hi : P.info? T = some i) (hz : i.zero = some zv) (hsize : i.size = m) (hby : Nat.ble i.bytes 32768 = true) (hzs : zv.cells.size = m) (hsz : Nat.blt 0 m = true)
    (hx : ρ x = v) (hy : ρ y = u) (hg : xs.length + ys.length ≤ 4294967296) :
    ∃ v' w', (execOp ρ ⟨dst, .call ⟨.builtin .append, #[x, y], #[t, t]⟩, ty, pos, after, g⟩).run P w = .ok (.value v') w' ∧ ∃ a c, v' = .slice a (xs ++ ys).length c ∧ Ctx w' (setP l k (Own E T v' (xs ++ ys))) := by
  have hrun : ∃ v' w', (Builtin.append_ #[t, t] ty #[v, u]).run P w = .ok v' w' ∧ Ctx w' (setP l k (Own E T v' (xs ++ ys))) := by
    obtain ⟨R, Ss, hc⟩ := h
    obtain ⟨S1, h1⟩ := CtxAt.nth hc.all hk
    obtain ⟨S2, h2⟩ := CtxAt.nth hc.all hk2
    rw [e] at h1
    rw [e2] at h2
    obtain ⟨css, r1, r2, _⟩ := h1
    obtain ⟨a, c, hu, _, hr⟩ := hQ.w w R S2 h2
    subst hu
    have hbytes : (xs.length + ys.length) * i.bytes ≤ 140737488355328 := by
      have h3 : i.bytes ≤ 32768 := Nat.le_of_ble_eq_true hby
      calc (xs.length + ys.length) * i.bytes ≤ 4294967296 * 32768 := Nat.mul_le_mul hg h3
        _ = _ := rfl
    have h0m : 0 < m := by simpa using hsz
    obtain ⟨ds, q1, q2⟩ := rows_of (E := E) (w := w) (R := R) (m := m) (a := a) (A := fun _ => True) ys 0 (fun i x hx => by obtain ⟨bb, oo, cs, h1, h2, h3, h4⟩ := hr i x hx; exact ⟨bb, oo, cs, h1, h2, h3, fun j u hu => by rw [Nat.zero_add]; exact h4 j u hu⟩)
    cases a with
    | none =>
      have : ys = [] := by
        cases ys with
        | nil => rfl
        | cons y ys => obtain ⟨bb, oo, cs, h1, _⟩ := hr 0 y rfl; cases h1
      subst this
      rcases r2.2 with ⟨rfl, hn⟩ | ⟨gg, cap, cur, rfl, _, hgg, hcap, _, hs, ht'⟩
      · refine ⟨_, w, run_app_none ht hi (Nat.le_refl _) (.inl rfl), ?_⟩
        rw [List.append_nil]
        exact Ctx.conv ⟨R, Ss, hc⟩ hk _ (fun R S hp => by rw [e] at hp; exact hp) rfl
      · refine ⟨_, w, run_app_none ht hi hcap (.inr ⟨_, rfl⟩), ?_⟩
        rw [List.append_nil]
        exact Ctx.conv ⟨R, Ss, hc⟩ hk _ (fun R S hp => by rw [e] at hp; exact hp) rfl
    | some a =>
      have hnews : ∀ j u, ds.flatten[j]? = some u → w.cell? (a.add j) = some u := by
        intro j u hu
        cases ys with
        | nil =>
          have : ds = [] := List.eq_nil_of_length_eq_zero (by simpa using Rows.len q1)
          subst this; simp at hu
        | cons y ys =>
          obtain ⟨bb, oo, cs, h1, _⟩ := hr 0 y rfl
          injection h1 with h1
          subst h1
          have := q2 bb oo rfl j u hu
          rw [Addr.add_lit]
          simpa using this
      obtain ⟨v', w', hr', hown, hgr, hbl⟩ := run_app (P := P) (w := w) (ty := ty) 0 ht hi hz hsize rfl hzs h0m r2 (c := c) ds.flatten (by rw [Rows.flen q1]) hnews (fun u hu => Rows.one q1 u hu) (by omega) hbytes (Nat.zero_le _)
      refine ⟨v', w', hr', ?_⟩
      refine Ctx.updK ⟨R, Ss, hc⟩ hk _ (fun R' Ss' S hc' hS hSo hSn => ?_) rfl
      rw [e] at hS
      -- the same look in any reading
      obtain ⟨css', r1', r2', rfl⟩ := hS
      obtain ⟨S2', h2'⟩ := CtxAt.nth hc'.all hk2
      rw [e2] at h2'
      obtain ⟨a', c', hu', _, hr2⟩ := hQ.w w R' S2' h2'
      injection hu' with ea _ ec
      subst ea
      obtain ⟨ds', q1', q2'⟩ := rows_of (E := E) (w := w) (R := R') (m := m) (a := some a) (A := fun _ => True) ys 0 (fun i x hx => by obtain ⟨bb, oo, cs, h1, h2, h3, h4⟩ := hr2 i x hx; exact ⟨bb, oo, cs, h1, h2, h3, fun j u hu => by rw [Nat.zero_add]; exact h4 j u hu⟩)
      have hcss : css'.flatten = css.flatten := by
        rcases r2.2 with ⟨hv, hn⟩ | ⟨g1, cap, cur, hv, _, hgg, _, _, _, ht1⟩
        · have e1 : css.flatten = [] := List.eq_nil_of_length_eq_zero (by rw [r2.1, hn, Nat.zero_mul])
          have e2 : css'.flatten = [] := List.eq_nil_of_length_eq_zero (by rw [r2'.1, hn, Nat.zero_mul])
          rw [e1, e2]
        · rcases r2'.2 with ⟨hv', _⟩ | ⟨g2, cap2, cur2, hv', _, hgg', _, _, _, ht2⟩
          · rw [hv] at hv'; cases hv'
          · rw [hv] at hv'
            injection hv' with e1 e3 e4
            injection e1 with e1
            injection e1 with e1
            subst e1
            rw [hgg] at hgg'
            injection hgg' with e5
            injection e5 with e5
            subst e5
            rw [← ht1, ← ht2]
      have hdss : ds'.flatten = ds.flatten := by
        apply List.ext_getElem?
        intro j
        by_cases hj : j < ys.length * m
        · have l1 := Rows.flen q1
          have l2 := Rows.flen q1'
          rw [List.getElem?_eq_getElem (by rw [l2]; exact hj), List.getElem?_eq_getElem (by rw [l1]; exact hj)]
          cases ys with
          | nil => simp at hj
          | cons y ys =>
            obtain ⟨bb, oo, cs, h1, _⟩ := hr2 0 y rfl
            have x1 := q2 bb oo h1 j _ (List.getElem?_eq_getElem (by rw [l1]; exact hj))
            have x2 := q2' bb oo h1 j _ (List.getElem?_eq_getElem (by rw [l2]; exact hj))
            rw [x1] at x2
            exact x2.symm
        · rw [List.getElem?_eq_none (by rw [Rows.flen q1']; omega), List.getElem?_eq_none (by rw [Rows.flen q1]; omega)]
      have hkp : Kp (fun b => b < w.heap.size ∧ b ∉ v.ownBlock.toList) w w' := ⟨hgr.os, hgr.tape, hgr.output, hgr.size, fun b hb => hgr.block b hb.1 (fun e => hb.2 (by simp [← e]))⟩
      have hkr : Kp R' w w' := hkp.mono fun b hb => ⟨hc'.fz b hb, fun hm => (hSo b hm).2 hb⟩
      refine ⟨v'.ownBlock.toList, ⟨css' ++ ds', (r1'.app q1').st hkr (fun _ h => h), ?_, rfl⟩, by cases v'.ownBlock <;> simp, fun b hb => ?_, hkp⟩
      · rw [List.length_append, List.flatten_append, hcss, hdss]; exact hown
      · have hb' : v'.ownBlock = some b := by simpa using hb
        refine ⟨?_, (hown.lt b hb').2⟩
        rcases hbl with h3 | h3
        · left; rw [← h3]; exact hb
        · right; rw [h3] at hb'; injection hb' with hb'; omega
  obtain ⟨v', w', h1, h2⟩ := hrun
  refine ⟨v', w', by simp [execOp, resolve, invoke, builtin, hx, hy, h1], ?_⟩
  have hk' : ltP (setP l k (Own E T v' (xs ++ ys))) k = true ∧ nthP (setP l k (Own E T v' (xs ++ ys))) k = Own E T v' (xs ++ ys) := by
    clear h2 h1 h e e2 hk2
    induction l generalizing k with
    | nil => cases hk
    | cons p l ih => cases k with
      | zero => exact ⟨rfl, rfl⟩
      | succ k => exact ih hk
  obtain ⟨a, c, hv⟩ := h2.rd hk'.1 hk'.2 reads_own
  exact ⟨a, c, hv, h2⟩
end
end Go.Hp
end
section
namespace Go.Hp
open Go Go.RowKit
set_option linter.unusedVariables false
set_option linter.unusedSimpArgs false
theorem flat_rep (z : List Value) (n : Nat) : flat (fun _ : Unit => z) (List.replicate n ()) = (List.replicate n z).flatten := by
  unfold flat
  induction n with
  | zero => rfl
  | succ n ih => rw [List.replicate_succ, List.replicate_succ, List.flatMap_cons, List.flatten_cons, ih]
def holds {α : Type} {m : Nat} (E : PR α m) : List (List Value) → List α → List HP → List HP
  | c :: cs, x :: xs, l => Hold E c x :: holds E cs xs l
  | _, _, l => l
section
variable {P : Program} {ρ : Operand → Value} {w : World} {dst : Option Nat} {ty : TypeId} {pos : String} {after : Array Edge} {g : Option (Nat × Bool)} {x y z : Operand}
variable {α : Type} {m : Nat} {E : PR α m} {l : List HP} {k k2 : Nat} {T t : TypeId} {v u : Value} {xs ys : List α}
theorem Ctx.unholds : ∀ {css : List (List Value)} {xs : List α} {l : List HP}, css.length = xs.length → Ctx w (holds E css xs l) → ∃ R Ss, CtxAt w R l Ss ∧ Rows E w R css xs
  | [], [], l, _, ⟨R, Ss, h⟩ => ⟨R, Ss, h, trivial⟩
  | c :: cs, x :: xs, l, hl, ⟨R, Ss, h⟩ => by
    match Ss, h with
    | S :: Ss, h =>
      have hE := h.all.1
      have h2 : Ctx w (holds E cs xs l) := Ctx.drop ⟨R, S :: Ss, h⟩
      -- at the same R
      have key : ∀ {css : List (List Value)} {xs : List α} {l : List HP} {R : Nat → Prop} {Ss : List (List Nat)}, css.length = xs.length → CtxAt w R (holds E css xs l) Ss → ∃ Ss', CtxAt w R l Ss' ∧ Rows E w R css xs := by
        intro css
        induction css with
        | nil => intro xs l R Ss hl h; cases xs with
          | nil => exact ⟨Ss, h, trivial⟩
          | cons x xs => simp at hl
        | cons c cs ih =>
          intro xs l R Ss hl h
          cases xs with
          | nil => simp at hl
          | cons x xs =>
            match Ss, h with
            | S :: Ss, h =>
              have h3 : CtxAt w R (holds E cs xs l) Ss := ⟨h.all.2, (List.nodup_append.1 (by simpa using h.nodup)).2.1, fun b hb => h.own b (by simp only [List.flatten_cons, List.mem_append]; exact .inr hb), h.fz⟩
              obtain ⟨Ss', h4, h5⟩ := ih (by simpa using hl) h3
              exact ⟨Ss', h4, h.all.1.2, h5⟩
      obtain ⟨Ss', h4, h5⟩ := key (css := c :: cs) (xs := x :: xs) hl h
      exact ⟨R, Ss', h4, h5⟩
  | [], _ :: _, l, hl, _ => by simp at hl
  | _ :: _, [], l, hl, _ => by simp at hl
theorem Ctx.newRow {R : Nat → Prop} {Ss : List (List Nat)} (hc : CtxAt w R l Ss) {css : List (List Value)} (hr : Rows E w R css xs) (hn : xs.length ≤ maxLen) :
    Ctx (w.alloc (.cells css.flatten.toArray T)) (Own E T (.slice (some ⟨w.heap.size, 0, none⟩) xs.length xs.length) xs :: l) := by
  refine CtxAt.upd (Ps := []) (Qs := [_]) (Fr := l) (R := R) (Ss0 := Ss) hc fun Ts hT => ?_
  match Ts, hT with
  | [], hT =>
    have hkp : Kp (fun b => b < w.heap.size) w (w.alloc (.cells css.flatten.toArray T)) := ⟨rfl, rfl, rfl, by simp, fun b hb => Below.heap_alloc _ _ _ hb⟩
    refine ⟨R, [[w.heap.size]], ⟨⟨css, hr.st (hkp.mono hT.fz) (fun _ h => h), ⟨Rows.flen hr, .inr ⟨w.heap.size, xs.length, css.flatten.toArray, rfl, Nat.zero_le _, heap_alloc_new w _, Nat.le_refl _, hn, by simpa using Rows.flen hr, ?_⟩⟩, rfl⟩, trivial⟩, by simp, fun b hb => ?_, fun b hb => hb, fun b hb => ⟨.inl hb, by have := hT.fz b hb; simp; omega⟩, hkp.mono fun b hb => hb.1⟩
    · show List.take _ css.flatten = _
      rw [List.take_of_length_le (by rw [Rows.flen hr]; exact Nat.le_refl _)]
    · simp at hb; subst hb
      exact ⟨.inr (Nat.le_refl _), by simp, fun hr => by have := hT.fz _ hr; omega⟩
  | _ :: _, hT => exact hT.all.elim
theorem Ctx.built {css : List (List Value)} {xs : List α} {n : Nat} (h : Ctx w (holds E css xs l)) (hl : Nat.beq css.length xs.length = true) (hn : xs.length = n) (hn2 : Nat.ble n 16777216 = true) :
    Ctx (w.alloc (.cells css.flatten.toArray T)) (Own E T (.slice (some ⟨w.heap.size, 0, none⟩) n n) xs :: l) := by
  subst hn
  obtain ⟨R, Ss, hc, hr⟩ := h.unholds (by simpa using hl)
  exact Ctx.newRow hc hr (by have : xs.length ≤ 16777216 := Nat.le_of_ble_eq_true hn2; unfold maxLen; omega)
theorem Own.block {R : Nat → Prop} {S : List Nat} {bb oo n c : Nat} (h : (Own E T (.slice (some ⟨bb, oo, none⟩) n c) xs).p w R S) :
    oo = 0 ∧ n = xs.length ∧ n ≤ c ∧ c ≤ maxLen ∧ S = [bb] ∧ ∃ css cur, Rows E w R css xs ∧ w.heap[bb]? = some (.cells cur T (0, 0)) ∧ cur.size = c * m ∧ cur.toList.take (n * m) = css.flatten := by
  obtain ⟨css, r1, r2, rfl⟩ := h
  rcases r2.2 with ⟨hv, hn⟩ | ⟨g, cap, cur, hv, hb, hgg, hcap, hm, hs, ht⟩
  · cases hv
  · injection hv with e1 e2 e3
    injection e1 with e1
    injection e1 with e1 e4
    subst e1 e3 e4
    exact ⟨rfl, e2, by omega, hm, rfl, css, cur, r1, hgg, hs, by rw [e2]; exact ht⟩
theorem Own.mk' {R : Nat → Prop} {bb n c : Nat} {css : List (List Value)} {cur : Array Value} (hn : n = xs.length) (hc : n ≤ c) (hm : c ≤ maxLen) (h1 : Rows E w R css xs) (h2 : w.heap[bb]? = some (.cells cur T (0, 0))) (h3 : cur.size = c * m) (h4 : cur.toList.take (n * m) = css.flatten) :
    (Own E T (.slice (some ⟨bb, 0, none⟩) n c) xs).p w R [bb] := by
  subst hn
  exact ⟨css, h1, ⟨Rows.flen h1, .inr ⟨bb, c, cur, rfl, Nat.zero_le _, h2, hc, hm, h3, h4⟩⟩, rfl⟩
theorem setRow_kp {bb : Nat} {cs : Array Value} {A : Nat → Prop} (hA : ∀ b, A b → b ≠ bb) : Kp A w (w.setRow bb cs) :=
  ⟨rfl, rfl, rfl, by simp [World.setRow], fun b hb => by
    simp only [World.setRow, Array.getElem?_modify]
    rw [if_neg (fun e => hA b hb e.symm)]⟩
theorem Ctx.ownStore {x' : α} {vs : List Value} (h : Ctx w (Hold E vs x' :: l)) (hk : ltP l k = true) {bb oo n c : Nat} (e : nthP l k = Own E T (.slice (some ⟨bb, oo, none⟩) n c) xs) {i : Int} {x0 : α} (hx0 : idx xs i = some x0) {T2 : TypeId}
    (hx : ρ x = .pointer (some ⟨bb, oo + i.toNat * m, none⟩)) (hy : ρ y = .agg vs.toArray) (hs : ∀ w, (sizeOf T2).run P w = .ok m w) :
    ∃ w', (execOp ρ ⟨dst, .store T2 x y, ty, pos, after, g⟩).run P w = .ok .skip w' ∧ Ctx w' (setP l k (Own E T (.slice (some ⟨bb, oo, none⟩) n c) (xs.set i.toNat x'))) := by
  obtain ⟨h0, hlt, hget⟩ := idx_some hx0
  have hl := h.drop
  obtain ⟨R, Ss, hc⟩ := h
  match Ss, hc with
  | S0 :: Ss, hc =>
    obtain ⟨⟨_, hE⟩, hall⟩ := hc.all
    obtain ⟨S, hS⟩ := CtxAt.nth hall hk
    rw [e] at hS
    obtain ⟨rfl, hn, hnc, hcm, rfl, css, cur, r1, hgg, hsz, htk⟩ := Own.block hS
    have hvl := E.len hE
    have hfit : 0 + i.toNat * m + vs.length ≤ cur.toList.length := by
      rw [hvl, Nat.zero_add, ← Nat.succ_mul, Array.length_toList, hsz]
      exact Nat.mul_le_mul_right _ (by omega)
    have hB : Blk w bb cur.toList T := by unfold Blk; simpa using hgg
    refine ⟨_, stg (dst := dst) (ty := ty) (pos := pos) (after := after) (g := g) hx hy (by rw [hvl]; exact hs) hB hfit (E.one hE), ?_⟩
    have hcc : Ctx w (Hold E vs x' :: l) := ⟨R, S0 :: Ss, hc⟩
    refine Ctx.drop (P := Hold E vs x') ?_
    have : Hold E vs x' :: setP l k (Own E T (.slice (some ⟨bb, 0, none⟩) n c) (xs.set i.toNat x')) = setP (Hold E vs x' :: l) (k + 1) (Own E T (.slice (some ⟨bb, 0, none⟩) n c) (xs.set i.toNat x')) := rfl
    rw [this]
    refine Ctx.updK hcc (k := k + 1) hk _ (fun R' Ss' S' hc' hS' hSo hSn => ?_) rfl
    have hS'' : (nthP l k).p w R' S' := hS'
    rw [e] at hS''
    obtain ⟨_, _, _, _, rfl, css', cur', r1', hgg', hsz', htk'⟩ := Own.block hS''
    rw [hgg] at hgg'
    injection hgg' with e5
    injection e5 with e5
    subst e5
    match Ss', hc' with
    | S0' :: Ss', hc' =>
      have hE' := hc'.all.1.2
      have hkp : ∀ A : Nat → Prop, (∀ b, A b → b ≠ bb) → Kp A w (w.setRow bb (laid cur.toList vs (0 + i.toNat * m)).toArray) := fun A hA => setRow_kp hA
      have hRk := hkp R' (fun b hb e => (hSo bb (by simp)).2 (e ▸ hb))
      refine ⟨[bb], Own.mk' (css := css'.set i.toNat vs) (cur := (laid cur.toList vs (0 + i.toNat * m)).toArray) (by rw [List.length_set]; exact hn) hnc hcm ((r1'.st hRk fun _ h => h).set hget (E.st hE' hRk fun _ h => h)) (setRow_heap w bb _ _ T _ hgg) ?_ ?_, hSn, fun b hb => ⟨.inl hb, ?_⟩, hkp _ fun b hb e => hb.2 (by simp [e])⟩
      · simp only [laid, List.size_toArray, List.length_append, List.length_take, List.length_drop]
        have : cur.toList.length = c * m := by simpa using hsz
        omega
      · -- what is looked at
        obtain ⟨d, hd, _, _⟩ := r1'.get hget
        have hdl : ∀ (css : List (List Value)) (xs : List α), Rows E w R' css xs → ∀ (i : Nat) (d : List Value), css[i]? = some d → (css.set i vs).flatten = laid css.flatten vs (i * m) := by
          intro css
          induction css with
          | nil => intro xs _ i d hd; simp at hd
          | cons c0 css ih =>
            intro xs hr i d hd
            cases xs with
            | nil => exact hr.elim
            | cons y ys =>
              have hc0 := E.len hr.1
              cases i with
              | zero =>
                simp only [List.set_cons_zero, List.flatten_cons, laid, Nat.zero_mul, List.take_zero, List.nil_append, Nat.zero_add, hvl]
                rw [List.drop_append, ← hc0]; simp
              | succ i =>
                simp only [List.set_cons_succ, List.flatten_cons]
                rw [ih ys hr.2 i d (by simpa using hd)]
                unfold laid
                rw [show (i + 1) * m = c0.length + i * m by rw [hc0, Nat.succ_mul]; omega, List.take_append, List.take_of_length_le (by omega : c0.length ≤ c0.length + i * m), show c0.length + i * m - c0.length = i * m by omega,
                  List.drop_append, List.drop_of_length_le (by omega : c0.length ≤ c0.length + i * m + vs.length), show c0.length + i * m + vs.length - c0.length = i * m + vs.length by omega]
                simp
        rw [hdl css' xs r1' i.toNat d hd, Nat.zero_add, ← htk', hn]
        have hxs : (i.toNat + 1) * m ≤ xs.length * m := Nat.mul_le_mul_right _ (by omega)
        rw [Nat.succ_mul] at hxs
        show List.take _ (laid cur.toList vs (i.toNat * m)) = laid (List.take (xs.length * m) cur.toList) vs (i.toNat * m)
        unfold laid
        have hcl : xs.length * m ≤ cur.toList.length := by
          have h9 : cur.toList.length = c * m := by simpa using hsz
          rw [h9]; exact Nat.mul_le_mul_right _ (by omega)
        rw [List.take_take, Nat.min_eq_left (by omega)]
        rw [List.take_append, List.take_append, List.length_append, List.length_take, Nat.min_eq_left (by omega), List.take_of_length_le (l := List.take (i.toNat * m) cur.toList) (by rw [List.length_take]; omega), List.take_of_length_le (l := vs) (by omega)]
        congr 1
        rw [List.drop_take]
      · have := (hSo b hb).1; simpa [World.setRow] using this

theorem Ctx.clear {x0 : α} {zv : Value} (h : Ctx w l) (hk : ltP l k = true) {a : Option Addr} {n c : Nat} (e : nthP l k = Own E T (.slice a n c) xs) (ht : P.underlying t = some (.slice T)) (hz : ∀ w, (zeroValue T).run P w = .ok zv w) (hzs : zv.cells.size = m) (hm : Nat.blt 0 m = true)
    (hE : ∀ (w : World) R, E.r w R zv.cells.toList x0) (hx : ρ x = .slice a n c) :
    ∃ v w', (execOp ρ ⟨dst, .call ⟨.builtin .clear, #[x], #[t]⟩, ty, pos, after, g⟩).run P w = .ok (.value v) w' ∧ Ctx w' (setP l k (Own E T (.slice a n c) (List.replicate n x0))) := by
  obtain ⟨R, Ss, hc⟩ := h
  obtain ⟨S, hS⟩ := CtxAt.nth hc.all hk
  rw [e] at hS
  have hrow : ∀ (w : World) R n, Rows E w R (List.replicate n zv.cells.toList) (List.replicate n x0) := by
    intro w R n
    induction n with
    | zero => exact trivial
    | succ n ih => exact ⟨hE w R, ih⟩
  cases a with
  | none =>
    obtain ⟨css, r1, r2, _⟩ := hS
    rcases r2.2 with ⟨hv, hn⟩ | ⟨g, cap, cur, hv, _⟩
    · injection hv with _ e2 e3
      subst e2 e3
      have : xs = [] := List.eq_nil_of_length_eq_zero hn
      subst this
      refine ⟨.tuple #[], w, by simp [execOp, resolve, invoke, builtin, hx, Builtin.clear_, run_underlying ht], ?_⟩
      exact Ctx.conv ⟨R, Ss, hc⟩ hk _ (fun R S hp => by rw [e] at hp; exact hp) rfl
    · cases hv
  | some a =>
    obtain ⟨bb, oo, sp⟩ := a
    have hsp : sp = none ∧ oo = 0 := by
      obtain ⟨css, r1, r2, _⟩ := hS
      rcases r2.2 with ⟨hv, hn⟩ | ⟨g, cap, cur, hv, _⟩
      · cases hv
      · injection hv with e1 _ _
        injection e1 with e1
        injection e1 with e1 e2 e3
        exact ⟨e3, e2⟩
    obtain ⟨rfl, rfl⟩ := hsp
    obtain ⟨_, hn, hnc, hcm, rfl, css, cur, r1, hgg, hsz, htk⟩ := Own.block hS
    have hzl : (Builtin.zeroCells zv.cells n).toList = (List.replicate n zv.cells.toList).flatten := by
      rw [zeroCells_flat _ m hzs (by simpa using hm), flat_rep]
    have hzlen : (Builtin.zeroCells zv.cells n).toList.length = n * m := by simp [Builtin.zeroCells, hzs]
    have hone : ∀ u ∈ (Builtin.zeroCells zv.cells n).toList, u.oneCell' = true := by
      rw [hzl]; exact Rows.one (hrow w R n)
    have hle : n * m ≤ cur.size := by rw [hsz]; exact Nat.mul_le_mul_right _ hnc
    have hst := run_storeCells_at P bb 0 T (Builtin.zeroCells zv.cells n).toList 0 cur w hgg (by rw [hzlen]; omega) hone
    simp only [Nat.add_zero, Nat.zero_add] at hst
    have hrun : ∃ v w', (Builtin.clear_ #[t] ty #[.slice (some ⟨bb, 0, none⟩) n c]).run P w = .ok v w' ∧ w' = (if n = 0 then w else w.setRow bb (cur.toList.take 0 ++ (Builtin.zeroCells zv.cells n).toList ++ cur.toList.drop (Builtin.zeroCells zv.cells n).toList.length).toArray) := by
      cases n with
      | zero => exact ⟨.tuple #[], w, by simp [Builtin.clear_, run_underlying ht], by simp⟩
      | succ n => exact ⟨.tuple #[], _, by simp only [Builtin.clear_]; simp [run_underlying ht, hz, hst]; rfl, by simp⟩
    obtain ⟨v, w', h1, hw'⟩ := hrun
    refine ⟨v, w', by simp [execOp, resolve, invoke, builtin, hx, h1], ?_⟩
    subst hw'
    split
    · rename_i h0
      subst h0
      have : xs = [] := List.eq_nil_of_length_eq_zero hn.symm
      subst this
      exact Ctx.conv ⟨R, Ss, hc⟩ hk _ (fun R S hp => by rw [e] at hp; exact hp) rfl
    · refine Ctx.updK ⟨R, Ss, hc⟩ hk _ (fun R' Ss' S' hc' hS' hSo hSn => ?_) rfl
      rw [e] at hS'
      obtain ⟨_, _, _, _, rfl, css', cur', r1', hgg', hsz', htk'⟩ := Own.block hS'
      refine ⟨[bb], Own.mk' (css := List.replicate n zv.cells.toList) (by simp) hnc hcm (hrow _ _ n) (setRow_heap w bb _ _ T _ hgg) ?_ ?_, hSn, fun b hb => ⟨.inl hb, by have := (hSo b hb).1; simpa [World.setRow] using this⟩, setRow_kp fun b hb e => hb.2 (by simp [e])⟩
      · simp only [List.take_zero, List.nil_append, List.size_toArray, List.length_append, List.length_drop, hzlen]
        have : cur.toList.length = c * m := by simpa using hsz
        omega
      · simp only [List.take_zero, List.nil_append]
        rw [List.take_append, hzlen, Nat.sub_self, List.take_zero, List.append_nil, List.take_of_length_le (by omega), hzl]
theorem reads_sub {Q : HP} {a : Option Addr} {n c lo hi : Nat} (hQ : Reads Q E (.slice a n c) xs) (h1 : lo ≤ hi) (h2 : hi ≤ xs.length) :
    Reads Q E (.slice (if c = lo then a else a.map (·.add (lo * m))) (hi - lo) (c - lo)) ((xs.take hi).drop lo) := by
  intro w R S hp
  obtain ⟨a', c', hv, hc, hr⟩ := hQ w R S hp
  injection hv with e1 e2 e3
  subst e1 e3
  refine ⟨_, _, by rw [show hi - lo = ((xs.take hi).drop lo).length by simp; omega], by simp; omega, fun i x hx => ?_⟩
  have hx' : xs[lo + i]? = some x := by
    rw [List.getElem?_drop, List.getElem?_take] at hx
    split at hx
    · exact hx
    · cases hx
  have hlt : lo + i < hi := by
    rw [List.getElem?_drop, List.getElem?_take] at hx
    split at hx
    · assumption
    · cases hx
  obtain ⟨bb, oo, cs, ha, hA, hE, hcs⟩ := hr (lo + i) x hx'
  subst ha
  refine ⟨bb, oo + lo * m, cs, ?_, hA, hE, fun j u hu => ?_⟩
  · rw [if_neg (by omega)]
    simp [Addr.add_lit]
  · have := hcs j u hu
    rwa [Nat.add_mul, ← Nat.add_assoc] at this
end
section
variable {P : Program} {ρ : Operand → Value} {w : World} {dst : Option Nat} {ty : TypeId} {pos : String} {after : Array Edge} {g : Option (Nat × Bool)} {x : Operand} {T t : TypeId} {m : Nat}
def lohi (len : Nat) : Option Int → Option Int → Int × Int
  | none, none => (0, len)
  | some l, none => (l, len)
  | none, some h => (0, h)
  | some l, some h => (l, h)
def optI (ρ : Operand → Value) : Option Operand → Option Int → Prop
  | none, none => True
  | some o, some i => ∃ k, ρ o = .int k i
  | _, _ => False
theorem run_sub {lo hi : Option Operand} {li hi' : Option Int} {a : Option Addr} {n c : Nat} (hx : ρ x = .slice a n c) (hl : optI ρ lo li) (hh : optI ρ hi hi') (ht : P.underlying t = some (.slice T)) (hs : ∀ w, (sizeOf T).run P w = .ok m w)
    (h1 : 0 ≤ (lohi n li hi').1 ∧ (lohi n li hi').1 ≤ (lohi n li hi').2 ∧ (lohi n li hi').2 ≤ n) (hc : n ≤ c) :
    (execOp ρ ⟨dst, .slice t x lo hi none, ty, pos, after, g⟩).run P w = .ok (.value (.slice (if c = (lohi n li hi').1.toNat then a else a.map (·.add ((lohi n li hi').1.toNat * m))) ((lohi n li hi').2.toNat - (lohi n li hi').1.toNat) (c - (lohi n li hi').1.toNat))) w := by
  have hu : ∀ w, (underlying t).run P w = .ok (.slice T) w := fun w => run_underlying ht w
  have key : ∀ (L H : Option Value) (l h : Int), (Instr.sliceBounds true n c L H none).run P w = .ok (l.toNat, h.toNat, c) w → (Instr.sliceAt t (.slice a n c) L H none).run P w = .ok (.slice (if c = l.toNat then a else a.map (·.add (l.toNat * m))) (h.toNat - l.toNat) (c - l.toNat)) w := by
    intro L H l h hb
    simp [Instr.sliceAt, Instr.slice, hu, hb, hs]
  have hb : ∀ (k : IntKind) (i : Int) (y : Nat) (code : BoundsCode), 0 ≤ i → i ≤ y → (Instr.sliceBound (.int k i) y code).run P w = .ok i.toNat w := fun k i y code h0 h1 => by simp [Instr.sliceBound, asIntOf, h0, h1]
  cases lo <;> cases hi <;> cases li <;> cases hi' <;> simp only [optI] at hl hh <;> simp only [lohi] at h1 ⊢
  · simp only [execOp, Option.map_none, hx]
    have := key none none 0 n (by simp [Instr.sliceBounds])
    simp at this
    simp [this]
  · obtain ⟨k, hk⟩ := hh
    simp only [execOp, Option.map_none, Option.map_some, hx, hk]
    rename_i h
    have := key none (some (.int k h)) 0 h (by simp [Instr.sliceBounds, hb k h c _ (by omega) (by omega)])
    simp at this
    simp [this]
  · obtain ⟨k, hk⟩ := hl
    simp only [execOp, Option.map_none, Option.map_some, hx, hk]
    rename_i h
    have := key (some (.int k h)) none h n (by simp [Instr.sliceBounds, hb k h n _ (by omega) (by omega)])
    simp at this
    simp [this]
    split <;> rename_i hq <;> simp [hq]
  · obtain ⟨k, hk⟩ := hl
    obtain ⟨k', hk'⟩ := hh
    simp only [execOp, Option.map_none, Option.map_some, hx, hk, hk']
    rename_i h h'
    have := key (some (.int k h)) (some (.int k' h')) h h' (by simp [Instr.sliceBounds, hb k' h' c _ (by omega) (by omega), hb k h h'.toNat _ (by omega) (by omega)])
    simp [this]
    split <;> rename_i hq <;> simp [hq]
end
end Go.Hp
end
section
namespace Go.Hp
open Go Go.RowKit
set_option linter.unusedVariables false
set_option linter.unusedSimpArgs false
theorem gpos {c : Prop} [Decidable c] {α : Type} {a b : Option α} {r : α} (h : (if c then a else b) = some r) (hc : c) : a = some r := by rwa [if_pos hc] at h
theorem gneg {c : Prop} [Decidable c] {α : Type} {a b : Option α} {r : α} (h : (if c then a else b) = some r) (hc : ¬ c) : b = some r := by rwa [if_neg hc] at h
def chk {α : Type} (p : Prop) [Decidable p] (x : Option α) : Option α := if p then x else none
theorem chk_some {p : Prop} [Decidable p] {α : Type} {x : Option α} {r : α} (h : chk p x = some r) : p ∧ x = some r := by
  unfold chk at h
  split at h
  · exact ⟨‹_›, h⟩
  · cases h
def PtO {α : Type} (f : Nat → α → HP) (v : Value) (o : Option α) : HP := match o with
  | none => Pu (v = .pointer none)
  | some x => Ex fun b => Sep (Pu (v = .pointer (some ⟨b, 0, none⟩))) (f b x)
section
variable {P : Program} {ρ : Operand → Value} {w : World} {dst : Option Nat} {ty : TypeId} {pos : String} {after : Array Edge} {g : Option (Nat × Bool)} {x y c : Operand}
variable {α : Type} {m : Nat} {E : PR α m} {l : List HP} {k k2 : Nat} {T t : TypeId} {v u : Value} {xs ys : List α}
theorem Ctx.ptoN {f : Nat → α → HP} (h : Ctx w (PtO f v none :: l)) : v = .pointer none ∧ Ctx w l := Ctx.puF h
theorem Ctx.ptoS {f : Nat → α → HP} {z : α} (h : Ctx w (PtO f v (some z) :: l)) : ∃ b, v = .pointer (some ⟨b, 0, none⟩) ∧ Ctx w (f b z :: l) := by
  obtain ⟨b, h⟩ := Ctx.exF h
  obtain ⟨e, h⟩ := Ctx.puF (Ctx.sepF h)
  exact ⟨b, e, h⟩
theorem Ctx.ptoNB (f : Nat → α → HP) (h : Ctx w l) : Ctx w (PtO f (.pointer none) none :: l) := Ctx.puB rfl h
theorem Ctx.ptoSB (f : Nat → α → HP) {b : Nat} {z : α} (h : Ctx w (f b z :: l)) : Ctx w (PtO f (.pointer (some ⟨b, 0, none⟩)) (some z) :: l) :=
  Ctx.exB (fun b' => Sep (Pu (Value.pointer (some ⟨b, 0, none⟩) = .pointer (some ⟨b', 0, none⟩))) (f b' z)) b (Ctx.sepB (Ctx.puB rfl h))
theorem Ctx.cells (h : Ctx w l) {b : Nat} {cs : List Value} (hk : ltP l k = true) (e : nthP l k = B b cs T) (o : Nat) {vs : List Value} (hv : (cs.drop o).take vs.length = vs) : ∀ j v, vs[j]? = some v → w.cell? ((⟨b, o, none⟩ : Addr).add j) = some v := by
  intro j v hj
  rw [Addr.add_lit]
  refine h.cell hk e ?_
  rw [← hv, List.getElem?_take] at hj
  split at hj
  · rwa [List.getElem?_drop] at hj
  · cases hj
theorem elCells {bb o : Nat} {cs : List Value} (h : ∀ (j : Nat) u, cs[j]? = some u → w.cell? ⟨bb, o + j, none⟩ = some u) (q : Nat) {vs : List Value} (hv : (cs.drop q).take vs.length = vs) : ∀ j v, vs[j]? = some v → w.cell? ((⟨bb, o + q, none⟩ : Addr).add j) = some v := by
  intro j v hj
  rw [Addr.add_lit, Nat.add_assoc]
  refine h (q + j) v ?_
  rw [← hv, List.getElem?_take] at hj
  split at hj
  · rwa [List.getElem?_drop] at hj
  · cases hj
theorem fax {fs : Array Field} {f : Nat} {fd : Field} {bb o o' : Nat} (off : Nat) (hx : ρ x = .pointer (some ⟨bb, o, none⟩)) (hu : P.underlying T = some (.struct fs)) (hf : fs[f]? = some fd) (hs : ∀ w, (sizeOf fd.type).run P w = .ok m w) (hm : Nat.beq m 0 = false) (ho : fd.offset = off) (ho' : o + off = o') :
    (execOp ρ ⟨dst, .fieldAddr T x f, ty, pos, after, g⟩).run P w = .ok (.value (.pointer (some ⟨bb, o', none⟩))) w := by
  subst ho'
  exact fa off hx hu hf hs hm ho
theorem Ctx.putOp (h : Ctx w l) {b : Nat} {cs : List Value} (hk : ltP l k = true) (e : nthP l k = B b cs T) {i : Nat} {T2 : TypeId} {u0 : Value} (hx : ρ x = .pointer (some ⟨b, i, none⟩)) (hy : ρ y = v) (hv : v.oneCell' = true) (hs : ∀ w, (sizeOf T2).run P w = .ok 1 w) (hi : cs[i]? = some u0)
    {cs' : List Value} (hcs : cs.set i v = cs') {l' : List HP} (el : setP l k (B b cs' T) = l') : ∃ w', (execOp ρ ⟨dst, .store T2 x y, ty, pos, after, g⟩).run P w = .ok .skip w' ∧ Ctx w' l' :=
  ⟨_, st hx hy hv hs (h.cell hk e hi) ((h.blk hk e).free i), h.put hk e i v hcs el⟩
theorem Ctx.putAgg (h : Ctx w l) {b : Nat} {cs : List Value} (hk : ltP l k = true) (e : nthP l k = B b cs T) {i : Nat} {T2 : TypeId} {vs : List Value} (hx : ρ x = .pointer (some ⟨b, i, none⟩)) (hy : ρ y = .agg vs.toArray) (hv : vs.all (·.oneCell') = true) (hs : ∀ w, (sizeOf T2).run P w = .ok vs.length w) (hi : Nat.ble (i + vs.length) cs.length = true)
    {cs' : List Value} (hcs : laid cs vs i = cs') {l' : List HP} (el : setP l k (B b cs' T) = l') : ∃ w', (execOp ρ ⟨dst, .store T2 x y, ty, pos, after, g⟩).run P w = .ok .skip w' ∧ Ctx w' l' := by
  subst hcs
  exact ⟨_, stg hx hy hs (h.blk hk e) (Nat.le_of_ble_eq_true hi) (fun u hu => List.all_eq_true.1 hv u hu), h.putRow hk e _ el⟩
theorem Ctx.ownPutOp (h : Ctx w l) (hk : ltP l k = true) {bb oo n q : Nat} (e : nthP l k = Own E T (.slice (some ⟨bb, oo, none⟩) n q) xs) {i : Int} {z z' : α} (hz : idx xs i = some z) (j : Nat) (hj : Nat.blt j m = true) {u : Value} {T2 : TypeId}
    (hx : ρ x = .pointer (some ⟨bb, oo + i.toNat * m + j, none⟩)) (hy : ρ y = u) (hu : u.oneCell' = true) (hs : ∀ w, (sizeOf T2).run P w = .ok 1 w)
    (hE : ∀ (w : World) R cs, E.r w R cs z → E.r w R (cs.set j u) z') {l' : List HP} (el : setP l k (Own E T (.slice (some ⟨bb, oo, none⟩) n q) (xs.set i.toNat z')) = l') :
    ∃ w', (execOp ρ ⟨dst, .store T2 x y, ty, pos, after, g⟩).run P w = .ok .skip w' ∧ Ctx w' l' := by
  obtain ⟨cs, h2, hc⟩ := Ctx.rdCell h hk e reads_own hz
  have hlen := h2.holdLen
  have hj' : j < cs.length := by rw [hlen]; simpa using hj
  have hcell := hc j _ (List.getElem?_eq_getElem hj')
  have hfz : w.frozen? ⟨bb, oo + i.toNat * m + j, none⟩ = false := by
    obtain ⟨R, S, hp, _⟩ := h.at hk e
    obtain ⟨_, _, _, _, _, css, cur, _, hgg, _⟩ := Own.block hp
    simp [World.frozen?, hgg]
  exact ⟨_, st hx hy hu hs hcell hfz, Ctx.ownPut h hk e hz j hj u hE el⟩
theorem Ctx.boxOp {cs : List Value} (h : Ctx w l) (hx : ρ x = v) (hv : v.cells = cs.toArray) : ∃ v' w', (execOp ρ ⟨dst, .box T x, ty, pos, after, g⟩).run P w = .ok (.value v') w' ∧ ∃ b, v' = .pointer (some ⟨b, 0, none⟩) ∧ Ctx w' (B b cs T :: l) :=
  ⟨_, _, bo hx, _, rfl, by rw [hv]; exact h.box cs T⟩
theorem Ctx.allocOp {cs : List Value} {z : Value} (h : Ctx w l) (hz : ∀ w, (zeroValue T).run P w = .ok z w) (hv : z.cells = cs.toArray) : ∃ v' w', (execOp ρ ⟨dst, .alloc T, ty, pos, after, g⟩).run P w = .ok (.value v') w' ∧ ∃ b, v' = .pointer (some ⟨b, 0, none⟩) ∧ Ctx w' (B b cs T :: l) :=
  ⟨_, _, al hz, _, rfl, by rw [hv]; exact h.box cs T⟩
theorem Ctx.builtOp {n : Nat} {zv : Value} {ps : Array (Nat × Operand)} {css : List (List Value)} (h : Ctx w (holds E css xs l)) (hu : P.underlying t = some (.slice T)) (hs : ∀ w, (sizeOf T).run P w = .ok m w) (hz : ∀ w, (zeroValue T).run P w = .ok zv w)
    (hps : ps.toList.map (·.1) = List.range n) (hcs : (ps.toList.map fun p => (ρ p.2).cells.toList) = css) (hm : css.all (fun c => Nat.beq c.length m) = true) (hzs : Nat.beq zv.cells.size m = true) (hn : Nat.ble (n * m) 16777216 = true)
    (hl : Nat.beq css.length xs.length = true) (hn1 : xs.length = n) (hn2 : Nat.ble n 16777216 = true) :
    ∃ v' w', (execOp ρ ⟨dst, .buildSlice t n ps, ty, pos, after, g⟩).run P w = .ok (.value v') w' ∧ ∃ a, v' = .slice a n n ∧ Ctx w' (Own E T (.slice a n n) xs :: l) :=
  ⟨_, _, bsl css hu hs hz hps hcs hm hzs hn, _, rfl, Ctx.built h hl hn1 hn2⟩
theorem Ctx.subOp {lo hi : Option Operand} {li hi' : Option Int} {a : Option Addr} {n q : Nat} {Q : HP} (h : Ctx w l) (hk : ltP l k = true) (e : nthP l k = Q) (hQ : Reads Q E (.slice a n q) xs) (hx : ρ x = .slice a n q) (hl : optI ρ lo li) (hh : optI ρ hi hi') (ht : P.underlying t = some (.slice T)) (hs : ∀ w, (sizeOf T).run P w = .ok m w)
    (h1 : 0 ≤ (lohi n li hi').1 ∧ (lohi n li hi').1 ≤ (lohi n li hi').2 ∧ (lohi n li hi').2 ≤ n) :
    ∃ v' w', (execOp ρ ⟨dst, .slice t x lo hi none, ty, pos, after, g⟩).run P w = .ok (.value v') w' ∧ w' = w ∧ ∃ a' q', v' = .slice a' ((lohi n li hi').2.toNat - (lohi n li hi').1.toNat) q' ∧ Reads Q E v' ((xs.take (lohi n li hi').2.toNat).drop (lohi n li hi').1.toNat) ∧
      a' = (if q = (lohi n li hi').1.toNat then a else a.map (·.add ((lohi n li hi').1.toNat * m))) ∧ q' = q - (lohi n li hi').1.toNat := by
  obtain ⟨hn, hq⟩ := Ctx.rdLen h hk e hQ
  refine ⟨_, w, run_sub hx hl hh ht hs h1 hq, rfl, _, _, rfl, ?_, rfl, rfl⟩
  exact reads_sub hQ (by omega) (by omega)
theorem Ctx.subOp0 {hi : Operand} {hv : Int} {a : Option Addr} {n q : Nat} {Q : HP} (h : Ctx w l) (hk : ltP l k = true) (e : nthP l k = Q) (hQ : Reads Q E (.slice a n q) xs) (hx : ρ x = .slice a n q) (hh : ∃ kk, ρ hi = .int kk hv) (ht : P.underlying t = some (.slice T)) (hs : ∀ w, (sizeOf T).run P w = .ok m w)
    (h1 : 0 ≤ hv ∧ hv ≤ n) :
    ∃ v' w', (execOp ρ ⟨dst, .slice t x none (some hi) none, ty, pos, after, g⟩).run P w = .ok (.value v') w' ∧ w' = w ∧ v' = .slice a hv.toNat q ∧ Reads Q E (.slice a hv.toNat q) (xs.take hv.toNat) := by
  obtain ⟨hn, hq⟩ := Ctx.rdLen h hk e hQ
  have hr := run_sub (P := P) (w := w) (dst := dst) (ty := ty) (pos := pos) (after := after) (g := g) (lo := none) (hi := some hi) (li := none) (hi' := some hv) hx trivial hh ht hs (by simp only [lohi]; omega) hq
  have hs := reads_sub (lo := 0) (hi := hv.toNat) hQ (by omega) (by omega)
  have ha : (if q = (lohi n none (some hv)).1.toNat then a else a.map (·.add ((lohi n none (some hv)).1.toNat * m))) = a := by
    split
    · rfl
    · cases a <;> simp [lohi, Addr.add]
  rw [ha] at hr
  have ha2 : (if q = 0 then a else a.map (·.add (0 * m))) = a := by
    split
    · rfl
    · cases a <;> simp [Addr.add]
  rw [ha2] at hs
  simp only [lohi, Int.toNat_zero, Nat.sub_zero] at hr
  simp only [List.drop_zero, Nat.sub_zero] at hs
  exact ⟨_, w, hr, rfl, rfl, hs⟩
theorem ixx {i : Int} {kk : IntKind} {bb o o' len cap : Nat} (hx : ρ x = .slice (some ⟨bb, o, none⟩) len cap) (hy : ρ y = .int kk i) (hu : P.underlying t = some (.slice T)) (hs : ∀ w, (sizeOf T).run P w = .ok m w) (h0 : 0 ≤ i) (h1 : i < len) (ho : o + i.toNat * m = o') :
    (execOp ρ ⟨dst, .indexAddr t x y, ty, pos, after, g⟩).run P w = .ok (.value (.pointer (some ⟨bb, o', none⟩))) w := ix hx hy hu hs h0 h1 ho
end
section
variable {P : Program} {n : Nat} {l : Fm} {b : Nat → Value} {w : World}
end
end Go.Hp
namespace Go.Hp
open Go Go.RowKit
def optc {α β : Type} (o : Option α) (a : Option β) (f : α → Option β) : Option β := match o with
  | none => a
  | some x => f x
theorem optN {α β : Type} {o : Option α} {a : Option β} {f : α → Option β} {r : β} (h : optc o a f = some r) (e : o = none) : a = some r := by subst e; exact h
theorem optS {α β : Type} {o : Option α} {a : Option β} {f : α → Option β} {r : β} {x : α} (h : optc o a f = some r) (e : o = some x) : f x = some r := by subst e; exact h
end Go.Hp
namespace Go.Hp
open Go Go.RowKit
set_option linter.unusedVariables false
set_option linter.unusedSimpArgs false
theorem Ctx.front {w : World} {Qs As Fr : List HP} (h : Ctx w (Qs ++ (As ++ Fr))) : Ctx w (As ++ (Qs ++ Fr)) := by
  refine h.perm ?_
  rw [← List.append_assoc, ← List.append_assoc]
  exact List.perm_append_comm.append_right _
section
variable {α : Type} {m : Nat} {E : PR α m} {w : World} {l : List HP} {k : Nat} {T : TypeId} {xs : List α}
theorem Rows.take {R : Nat → Prop} : ∀ (j : Nat) (css : List (List Value)) (xs : List α), Rows E w R css xs → Rows E w R (css.take j) (xs.take j) ∧ (css.take j).flatten = css.flatten.take (j * m)
  | 0, css, xs, _ => by simp; exact trivial
  | j + 1, [], [], _ => ⟨trivial, by simp⟩
  | j + 1, [], _ :: _, h => h.elim
  | j + 1, _ :: _, [], h => h.elim
  | j + 1, c :: css, x :: xs, h => by
    have hcl := E.len h.1
    obtain ⟨i1, i2⟩ := Rows.take j css xs h.2
    refine ⟨⟨h.1, i1⟩, ?_⟩
    rw [List.take_succ_cons, List.flatten_cons, List.flatten_cons, i2, List.take_append, hcl, List.take_of_length_le (l := c) (by rw [hcl, Nat.succ_mul]; omega), show (j + 1) * m - m = j * m by rw [Nat.succ_mul]; omega]
theorem Ctx.ownTake {a : Option Addr} {n c : Nat} (h : Ctx w l) (hk : ltP l k = true) (e : nthP l k = Own E T (.slice a n c) xs) (j : Nat) (hj : j ≤ n) {l' : List HP} (el : setP l k (Own E T (.slice a j c) (xs.take j)) = l') : Ctx w l' := by
  refine h.conv hk _ (fun R S hp => ?_) el
  rw [e] at hp
  obtain ⟨css, r1, r2, rfl⟩ := hp
  obtain ⟨t1, hft⟩ := Rows.take j css xs r1
  refine ⟨css.take j, t1, ?_, by cases a <;> rfl⟩
  have hfl := Rows.flen t1
  refine ⟨hfl, ?_⟩
  rcases r2.2 with ⟨hv, hn⟩ | ⟨g, cap, cur, hv, hb, hgg, hcap, hm, hs, ht⟩
  · injection hv with e1 e2 e3
    subst e1 e2 e3
    have : j = 0 := by omega
    subst this
    exact .inl ⟨rfl, by simp⟩
  · injection hv with e1 e2 e3
    subst e1 e2 e3
    have hl : (xs.take j).length = j := by rw [List.length_take]; omega
    rw [hl]
    refine .inr ⟨g, c, cur, rfl, hb, hgg, by omega, hm, hs, ?_⟩
    rw [hft, ← ht, List.take_take, Nat.min_eq_left (Nat.mul_le_mul_right _ (by omega))]
theorem Ctx.clearFrom {P : Program} {ρ : Operand → Value} {dst : Option Nat} {ty t : TypeId} {pos : String} {after : Array Edge} {g : Option (Nat × Bool)} {x : Operand} {x0 : α} {zv : Value} (h : Ctx w l) (hk : ltP l k = true) {a : Option Addr} {n c : Nat} (e : nthP l k = Own E T (.slice a n c) xs) (ht : P.underlying t = some (.slice T)) (hz : ∀ w, (zeroValue T).run P w = .ok zv w) (hzs : zv.cells.size = m) (hm : Nat.blt 0 m = true)
    (hE : ∀ (w : World) R, E.r w R zv.cells.toList x0) (i : Nat) (hi : i ≤ n) (hx : ρ x = .slice (if c = i then a else a.map (·.add (i * m))) (n - i) (c - i)) :
    ∃ v w', (execOp ρ ⟨dst, .call ⟨.builtin .clear, #[x], #[t]⟩, ty, pos, after, g⟩).run P w = .ok (.value v) w' ∧ Ctx w' (setP l k (Own E T (.slice a n c) (xs.take i ++ List.replicate (n - i) x0))) := by
  have hn : n = xs.length := (Ctx.rdLen h hk e reads_own).1
  by_cases h0 : n - i = 0
  · have hin : i = n := by omega
    refine ⟨.tuple #[], w, ?_, ?_⟩
    · rw [h0] at hx
      have : (Builtin.clear_ #[t] ty #[.slice (if c = i then a else a.map (·.add (i * m))) 0 (c - i)]).run P w = .ok (.tuple #[]) w := by
        generalize (if c = i then a else a.map (·.add (i * m))) = s
        cases s <;> simp [Builtin.clear_, run_underlying ht]
      simp [execOp, resolve, invoke, builtin, hx, this]
    · rw [h0, hin, hn, List.take_length]
      simp only [List.replicate_zero, List.append_nil]
      exact h.conv hk _ (fun R S hp => by rw [e] at hp; rw [hn] at hp; exact hp) rfl
  · -- a row of a block
    obtain ⟨R, Ss, hc⟩ := h
    obtain ⟨S, hS⟩ := CtxAt.nth hc.all hk
    rw [e] at hS
    have hrow : ∀ (w : World) R n, Rows E w R (List.replicate n zv.cells.toList) (List.replicate n x0) := by
      intro w R n
      induction n with
      | zero => exact trivial
      | succ n ih => exact ⟨hE w R, ih⟩
    have hform : ∃ bb, a = some ⟨bb, 0, none⟩ := by
      obtain ⟨css, r1, r2, _⟩ := hS
      rcases r2.2 with ⟨hv, hn'⟩ | ⟨g, cap, cur, hv, _⟩
      · omega
      · injection hv with e1 _ _
        exact ⟨g, e1⟩
    obtain ⟨bb, rfl⟩ := hform
    obtain ⟨_, _, hnc, hcm, rfl, css, cur, r1, hgg, hsz, htk⟩ := Own.block hS
    have hci : ¬ c = i := by omega
    rw [if_neg hci] at hx
    simp only [Option.map_some, Addr.add_lit, Nat.zero_add] at hx
    obtain ⟨q, hq⟩ : ∃ q, n - i = q + 1 := ⟨n - i - 1, by omega⟩
    have hzl : (Builtin.zeroCells zv.cells (n - i)).toList = (List.replicate (n - i) zv.cells.toList).flatten := by
      rw [zeroCells_flat _ m hzs (by simpa using hm), flat_rep]
    have hzlen : (Builtin.zeroCells zv.cells (n - i)).toList.length = (n - i) * m := by simp [Builtin.zeroCells, hzs]
    have hone : ∀ u ∈ (Builtin.zeroCells zv.cells (n - i)).toList, u.oneCell' = true := by
      rw [hzl]; exact Rows.one (hrow w R (n - i))
    have hle : i * m + (n - i) * m ≤ cur.size := by rw [hsz, ← Nat.add_mul]; exact Nat.mul_le_mul_right _ (by omega)
    have hst := run_storeCells_at P bb (i * m) T (Builtin.zeroCells zv.cells (n - i)).toList 0 cur w hgg (by rw [hzlen]; omega) hone
    simp only [Nat.add_zero] at hst
    refine ⟨.tuple #[], w.setRow bb (cur.toList.take (i * m) ++ (Builtin.zeroCells zv.cells (n - i)).toList ++ cur.toList.drop (i * m + (Builtin.zeroCells zv.cells (n - i)).toList.length)).toArray, ?_, ?_⟩
    · have h1 : (Builtin.clear_ #[t] ty #[.slice (some ⟨bb, i * m, none⟩) (n - i) (c - i)]).run P w = .ok (.tuple #[]) (w.setRow bb (cur.toList.take (i * m) ++ (Builtin.zeroCells zv.cells (n - i)).toList ++ cur.toList.drop (i * m + (Builtin.zeroCells zv.cells (n - i)).toList.length)).toArray) := by
        rw [hq] at hst ⊢
        simp only [Builtin.clear_]
        simp [run_underlying ht, hz]
        simp at hst
        simp [hst]
      simp [execOp, resolve, invoke, builtin, hx, h1]
    · refine Ctx.updK ⟨R, Ss, hc⟩ hk _ (fun R' Ss' S' hc' hS' hSo hSn => ?_) rfl
      rw [e] at hS'
      obtain ⟨_, _, _, _, rfl, css', cur', r1', hgg', hsz', htk'⟩ := Own.block hS'
      rw [hgg] at hgg'
      injection hgg' with e5
      injection e5 with e5
      subst e5
      have hkp : ∀ A : Nat → Prop, (∀ b, A b → b ≠ bb) → Kp A w (w.setRow bb (cur.toList.take (i * m) ++ (Builtin.zeroCells zv.cells (n - i)).toList ++ cur.toList.drop (i * m + (Builtin.zeroCells zv.cells (n - i)).toList.length)).toArray) := fun A hA => setRow_kp hA
      have hRk := hkp R' (fun b hb e => (hSo bb (by simp)).2 (e ▸ hb))
      obtain ⟨t1, t2⟩ := Rows.take i css' xs r1'
      refine ⟨[bb], Own.mk' (css := css'.take i ++ List.replicate (n - i) zv.cells.toList) (by simp; omega) hnc hcm (Rows.app (t1.st hRk fun _ h => h) (hrow _ _ _)) (setRow_heap w bb _ _ T _ hgg) ?_ ?_, hSn, fun b hb => ⟨.inl hb, by have := (hSo b hb).1; simpa [World.setRow] using this⟩, hkp _ fun b hb e => hb.2 (by simp [e])⟩
      · have hcl : cur.toList.length = c * m := by simpa using hsz
        have h2 : i * m ≤ c * m := Nat.mul_le_mul_right _ (by omega)
        simp only [List.size_toArray, List.length_append, List.length_take, List.length_drop, hzlen]
        rw [hcl] 
        have h3 : cur.size = c * m := hsz
        omega
      · have hcl : cur.toList.length = c * m := by simpa using hsz
        have h2 : i * m ≤ c * m := Nat.mul_le_mul_right _ (by omega)
        have h4 : i * m + (n - i) * m = n * m := by rw [← Nat.add_mul]; congr 1; omega
        rw [List.flatten_append, t2, ← htk', List.take_take, Nat.min_eq_left (Nat.mul_le_mul_right _ hi), ← hzl]
        show List.take (n * m) (_ ++ _ ++ _) = _
        rw [List.take_append, List.length_append, List.length_take, hzlen, Nat.min_eq_left (by rw [hcl]; exact h2), h4, Nat.sub_self, List.take_zero, List.append_nil, List.take_of_length_le (by rw [List.length_append, List.length_take, hzlen, Nat.min_eq_left (by rw [hcl]; exact h2), h4]; exact Nat.le_refl _)]
end
section
variable {P : Program} {ρ : Operand → Value} {w : World} {dst : Option Nat} {ty : TypeId} {pos : String} {after : Array Edge} {g : Option (Nat × Bool)} {x y : Operand} {T U : TypeId}
theorem equal_slice_nil {e : TypeId} {a : Option Addr} {n q : Nat} (hT : P.underlying T = some (.slice e)) : (Op.equal T (.slice a n q) (.slice none 0 0)).run P w = .ok a.isNone w := by
  have key : ∀ d, (Op.equalIn (d + 1) T (.slice a n q) (.slice none 0 0)).run P w = .ok a.isNone w := by
    intro d
    cases a <;> simp [Op.equalIn, run_underlying hT]
  exact key 9999
theorem esn {e : TypeId} {a : Option Addr} {n q : Nat} (hT : P.underlying T = some (.slice e)) (hx : ρ x = .slice a n q) (hy : ρ y = .slice none 0 0) : (execOp ρ ⟨dst, .binOp .eql T x y U, ty, pos, after, g⟩).run P w = .ok (.value (.bool a.isNone)) w :=
  bin_gen hx hy (by unfold eqGuard; rfl) (by have := equal_slice_nil (w := w) (a := a) (n := n) (q := q) hT; simp only [binOp]; simp [this])
theorem Ctx.nilRows {α : Type} {m : Nat} {E : PR α m} {l : List HP} {k n q : Nat} {xs : List α} (h : Ctx w l) (hk : ltP l k = true) {Q : HP} (e : nthP l k = Q) (hQ : Reads Q E (.slice none n q) xs) : xs = [] := by
  obtain ⟨R, S, hp, _⟩ := h.at hk e
  obtain ⟨a', c', hv, _, hr⟩ := hQ.w w R S hp
  cases xs with
  | nil => rfl
  | cons y ys =>
    obtain ⟨bb, oo, cs, ha, _⟩ := hr 0 y rfl
    injection hv with e1
    rw [ha] at e1
    cases e1
end
end Go.Hp
end
section
namespace Go.Hp
open Go Go.RowKit Go.ChangeShapes Go.WideShapes Go.ChangeAt
set_option linter.unusedVariables false
def In (w : World) : Nat → Prop := fun b => b < w.heap.size
section
variable {H : Type} {enc : TypeId × Value → H} {P : Program} {w : World} {base : Nat} {spare : Nat → Bool} {held : Bool} {t e : TypeId} {α : Type} {m : Nat}
def Opens (enc : TypeId × Value → H) (P : Program) (w : World) (base : Nat) (spare : Nat → Bool) (held : Bool) (E : PR α m) (t : TypeId) : Prop := ∀ n cs y, DataW.trod enc P w base spare held n t cs = some y → ∃ x, E.r w (In w) cs x
theorem opens_int {k : IntKind} (ht : P.underlying t = some (.int k)) : Opens enc P w base spare held (pInt k) t := fun n cs y h => by
  obtain ⟨a, hcs, _⟩ := DataW.trod_int ht h
  exact ⟨a, hcs⟩
theorem opens_ro {E : PR α m} (ht : P.underlying t = some (.slice e)) (hm : P.cellsOf e = m) (h0 : Nat.blt 0 m = true) (hE : Opens enc P w base spare held E e) : Opens enc P w base spare held (pRo E) t := fun n cs y h => by
  have hm0 : 0 < m := by simpa using h0
  rcases Go.Deep.open_slice ht h with ⟨hcs, _⟩ | ⟨a, l, c, q, n, D, Pl, hcs, _, hl, hcm, hq, _, hx⟩
  · subst hcs
    exact ⟨[], _, rfl, none, 0, rfl, Nat.le_refl _, fun i x hx => by simp at hx⟩
  · subst hcs
    have hlq : l ≤ q := by rw [hq]; split <;> omega
    have ex : ∀ i, i < l → ∃ (x : α) (cs' : List Value), E.r w (In w) cs' x ∧ w.cells? base (a.add (i * m)) m = some cs' := by
      intro i hi
      obtain ⟨cs', h1, h2⟩ := hx i (by omega)
      rw [hm] at h1
      obtain ⟨x, hx⟩ := hE _ _ _ h2
      exact ⟨x, cs', hx, h1⟩
    let g : Fin l → α := fun i => Classical.choose (ex i.1 i.2)
    have hg : ∀ i : Fin l, ∃ cs', E.r w (In w) cs' (g i) ∧ w.cells? base (a.add (i.1 * m)) m = some cs' := fun i => Classical.choose_spec (ex i.1 i.2)
    refine ⟨List.ofFn g, _, rfl, some a, c, by simp, by simpa using hl, fun i x hx' => ?_⟩
    have hi : i < l := by have := (List.getElem?_eq_some_iff.1 hx').1; simpa using this
    have hxg : g ⟨i, hi⟩ = x := by
      rw [List.getElem?_ofFn, dif_pos hi] at hx'
      injection hx'
    obtain ⟨cs', hE', hc'⟩ := hg ⟨i, hi⟩
    obtain ⟨cs0, hE0, hc0⟩ := hg ⟨0, by omega⟩
    have c0 := (World.cells?_some hc0).2.2 0 hm0
    simp only [Nat.zero_mul] at c0
    have hadd : (a.add 0).add 0 = a := by simp [Addr.add]
    rw [hadd] at c0
    obtain ⟨v0, hv0⟩ : ∃ v, w.cell? a = some v := ⟨cs0[0]'(by rw [E.len hE0]; exact hm0), by rw [c0, List.getElem?_eq_getElem]⟩
    have hb := World.block_lt_of_cell? w a hv0
    have hsp : a.spot = none := by
      unfold World.cell? at hv0
      split at hv0
      · split at hv0
        · cases hv0
        · rename_i hs; cases h : a.spot <;> simp_all
      · cases hv0
    obtain ⟨ba, oa, sp⟩ := a
    simp only at hsp
    subst hsp
    refine ⟨ba, oa, cs', rfl, hb, by rw [← hxg]; exact hE', fun j u hj => ?_⟩
    have hjm : j < m := by have := (List.getElem?_eq_some_iff.1 hj).1; rwa [E.len hE'] at this
    have hc := (World.cells?_some hc').2.2 j hjm
    rw [Addr.add_lit, Addr.add_lit] at hc
    rw [hc]; exact hj
theorem opens_field {fs : Array Field} {n : Nat} {cs : List Value} {y : DataW H × List MemPlace} (ht : P.underlying t = some (.struct fs)) (h : DataW.trod enc P w base spare held n t cs = some y) {i : Nat} {f : Field} (hf : fs[i]? = some f) {E : PR α m} (hE : Opens enc P w base spare held E f.type) {o q : Nat} (ho : f.offset = o) (hq : P.cellsOf f.type = q) :
    ∃ x, E.r w (In w) ((cs.drop o).take q) x := by
  subst ho hq
  obtain ⟨xs, m, _, _, _, hx, hs⟩ := DataW.trod_struct ht h
  have hi := (Array.getElem?_eq_some_iff.1 hf).1
  have := hs i f hf
  rw [List.getElem?_eq_getElem (by omega)] at this
  exact hE _ _ _ this
theorem opens_len {fs : Array Field} {n : Nat} {cs : List Value} {y : DataW H × List MemPlace} (ht : P.underlying t = some (.struct fs)) (h : DataW.trod enc P w base spare held n t cs = some y) : cs.length = P.cellsOf t := by
  obtain ⟨xs, m, _, _, hl, _, _⟩ := DataW.trod_struct ht h
  exact hl
theorem opens_arg {E : PR α m} {v : Value} {d : DataW H} {ps : List MemPlace} (hE : Opens enc P w base spare held E t) (h : DataW.Trod enc P w base spare held t v d ps) : ∃ x, E.r w (In w) v.cells.toList x := by
  obtain ⟨n, hn⟩ := h
  exact hE _ _ _ hn
theorem takedrop (cs : List Value) (o q : Nat) : cs.drop o = (cs.drop o).take q ++ cs.drop (o + q) := by
  rw [← List.drop_drop, List.take_append_drop]
end
theorem CtxAt.start (w : World) : CtxAt w (In w) [Old w] [[]] := ⟨⟨⟨rfl, rfl, rfl, rfl, Nat.le_refl _, fun b hb => ⟨hb, rfl⟩⟩, trivial⟩, by simp, by simp, fun _ h => h⟩
theorem CtxAt.hold {w : World} {R : Nat → Prop} {l : List HP} {Ss : List (List Nat)} {α : Type} {m : Nat} {E : PR α m} {cs : List Value} {x : α} (h : CtxAt w R l Ss) (hE : E.r w R cs x) : CtxAt w R (Hold E cs x :: l) ([] :: Ss) := ⟨⟨⟨rfl, hE⟩, h.all⟩, by simpa using h.nodup, by simpa using h.own, h.fz⟩
theorem CtxAt.ctx {w : World} {R : Nat → Prop} {l : List HP} {Ss : List (List Nat)} (h : CtxAt w R l Ss) : Ctx w l := ⟨R, Ss, h⟩
end Go.Hp
end
section
namespace Go.Hp
open Go Go.RowKit Go.ChangeShapes Go.WideShapes Go.ChangeAt
set_option linter.unusedVariables false
section
variable {H : Type} {enc : TypeId × Value → H} {P : Program} {w : World} {base : Nat} {spare : Nat → Bool} {held : Bool} {t e : TypeId} {α : Type} {m : Nat}
end
end Go.Hp
end
section
namespace Go.Hp
open Go Go.RowKit
set_option linter.unusedVariables false
set_option linter.unusedSimpArgs false
set_option linter.unusedSectionVars false
def mget {κ β : Type} [DecidableEq κ] : List (κ × β) → κ → Option β
  | [], _ => none
  | (k', x) :: l, k => if k' = k then some x else mget l k
def mset {κ β : Type} [DecidableEq κ] : List (κ × β) → κ → β → List (κ × β)
  | [], k, x => [(k, x)]
  | (k', x') :: l, k, x => if k' = k then (k, x) :: l else (k', x') :: mset l k x
def mdel {κ β : Type} [DecidableEq κ] : List (κ × β) → κ → List (κ × β)
  | [], _ => []
  | (k', x') :: l, k => if k' = k then l else (k', x') :: mdel l k
def findK {κ : Type} [DecidableEq κ] (k : κ) : List κ → List MapEntry → Nat → Option (Nat × Value)
  | k' :: ks, e :: es, i => if k' = k then some (i, e.val) else findK k ks es (i + 1)
  | _, _, _ => none
structure KeyL (P : Program) (kt : TypeId) (κ : Type) [DecidableEq κ] (ek : κ → Value) : Prop where
  chk : ∀ b k w, (Instr.checkKey b 10000 kt (ek k)).run P w = .ok () w
  find : ∀ (k : κ) (es : List MapEntry) (ks : List κ) w, es.map (·.key) = ks.map ek → (Instr.findKey kt (ek k) es).run P w = .ok (findK k ks es 0) w
  same : ∀ k, Instr.sameBits 10000 (ek k) (ek k) = true
def ekI (k : IntKind) (x : Int) : Value := .int k x
theorem keyL_int {P : Program} {kt : TypeId} {kd : IntKind} (ht : P.underlying kt = some (.int kd)) : KeyL P kt Int (ekI kd) where
  chk := fun b k w => by
    have h : ∀ n, (Instr.checkKey b (n + 1) kt (.int kd k)).run P w = .ok () w := by intro n; simp [Instr.checkKey, run_underlying ht]
    exact h 9999
  same := fun k => by
    have h : ∀ n, Instr.sameBits n (.int kd k) (.int kd k) = true := by intro n; cases n <;> simp [Instr.sameBits]
    exact h 10000
  find := fun k es ks w h => by
    have key : ∀ (es : List MapEntry) (ks : List Int) (i : Nat), es.map (·.key) = ks.map (ekI kd) → Instr.findNow (.int kd) (ekI kd k) es i = some (findK k ks es i) := by
      intro es
      induction es with
      | nil => intro ks i h; cases ks <;> simp [Instr.findNow, findK] at h ⊢
      | cons e es ih =>
        intro ks i h
        cases ks with
        | nil => simp at h
        | cons k' ks =>
          simp only [List.map_cons, List.cons.injEq] at h
          simp only [Instr.findNow, h.1, ekI, Instr.sameNow, if_true, findK]
          by_cases e1 : k' = k
          · subst e1; simp
          · have e2 : (k == k') = false := by simpa using fun h => e1 h.symm
            rw [e2, if_neg e1]
            exact ih ks (i + 1) h.2
    simp [Instr.findKey, run_underlying ht, key es ks 0 h]
section
variable {κ β : Type} [DecidableEq κ] {ek : κ → Value} {V : Value → β → HP} {P : Program} {w w' : World} {R R' : Nat → Prop}
def EnR (ek : κ → Value) (V : Value → β → HP) (w : World) (R : Nat → Prop) : List MapEntry → List (κ × β) → List (List Nat) → Prop
  | [], [], [] => True
  | e :: es, (k, x) :: l, S :: Ss => e.key = ek k ∧ (V e.val x).p w R S ∧ EnR ek V w R es l Ss
  | _, _, _ => False
theorem EnR.st : ∀ {es : List MapEntry} {l : List (κ × β)} {Ss : List (List Nat)}, EnR ek V w R es l Ss → Kp (fun b => b ∈ Ss.flatten ∨ R b) w w' → (∀ b, R b → R' b) → EnR ek V w' R' es l Ss
  | [], [], [], _, _, _ => trivial
  | e :: es, (k, x) :: l, S :: Ss, h, hk, hR => ⟨h.1, (V e.val x).st h.2.1 (hk.mono (by intro b hb; rcases hb with h | h; exact .inl (by simp [h]); exact .inr h)) hR,
      EnR.st h.2.2 (hk.mono (by intro b hb; rcases hb with h | h; exact .inl (by simp only [List.flatten_cons, List.mem_append]; exact .inr h); exact .inr h)) hR⟩
  | [], _ :: _, _, h, _, _ => h.elim
  | _ :: _, [], _, h, _, _ => h.elim
  | [], [], _ :: _, h, _, _ => h.elim
  | _ :: _, _ :: _, [], h, _, _ => h.elim
theorem EnR.keys : ∀ {es : List MapEntry} {l : List (κ × β)} {Ss : List (List Nat)}, EnR ek V w R es l Ss → es.map (·.key) = (l.map (·.1)).map ek
  | [], [], [], _ => rfl
  | e :: es, (k, x) :: l, S :: Ss, h => by simp only [List.map_cons, h.1, EnR.keys h.2.2]
  | [], _ :: _, _, h => h.elim
  | _ :: _, [], _, h => h.elim
  | [], [], _ :: _, h => h.elim
  | _ :: _, _ :: _, [], h => h.elim
theorem EnR.len : ∀ {es : List MapEntry} {l : List (κ × β)} {Ss : List (List Nat)}, EnR ek V w R es l Ss → es.length = l.length
  | [], [], [], _ => rfl
  | e :: es, (k, x) :: l, S :: Ss, h => by simp [EnR.len h.2.2]
  | [], _ :: _, _, h => h.elim
  | _ :: _, [], _, h => h.elim
  | [], [], _ :: _, h => h.elim
  | _ :: _, _ :: _, [], h => h.elim
theorem EnR.find (k : κ) : ∀ {es : List MapEntry} {l : List (κ × β)} {Ss : List (List Nat)} (i : Nat), EnR ek V w R es l Ss →
    (findK k (l.map (·.1)) es i = none ∧ mget l k = none ∧ mdel l k = l ∧ (∀ x, mset l k x = l ++ [(k, x)])) ∨
    ∃ (j : Nat) (e : MapEntry) (x : β) (S : List Nat), findK k (l.map (·.1)) es i = some (i + j, e.val) ∧ es[j]? = some e ∧ e.key = ek k ∧ mget l k = some x ∧ Ss[j]? = some S ∧ (V e.val x).p w R S ∧
      EnR ek V w R (es.eraseIdx j) (mdel l k) (Ss.eraseIdx j) ∧ ∀ (v : Value) (y : β) (T : List Nat), (V v y).p w R T → EnR ek V w R (es.set j { e with val := v }) (mset l k y) (Ss.set j T)
  | [], [], [], _, _ => .inl ⟨rfl, rfl, rfl, fun _ => rfl⟩
  | e :: es, (k', x) :: l, S :: Ss, i, h => by
    by_cases hk : k' = k
    · subst hk
      right
      exact ⟨0, e, x, S, by simp [findK], rfl, h.1, by simp [mget], rfl, h.2.1, by simpa [mdel] using h.2.2, fun v y T hT => by simp only [mset, if_true, List.set_cons_zero]; exact ⟨h.1, hT, h.2.2⟩⟩
    · rcases EnR.find k (i + 1) h.2.2 with ⟨h1, h2, h3, h4⟩ | ⟨j, e', x', S', h1, h2, h3, h4, h5, h6, h7, h8⟩
      · left
        exact ⟨by simp [findK, hk, h1], by simp [mget, hk, h2], by simp [mdel, hk, h3], fun x => by simp [mset, hk, h4]⟩
      · right
        exact ⟨j + 1, e', x', S', by simp [findK, hk, h1]; omega, by simpa using h2, h3, by simp [mget, hk, h4], by simpa using h5, h6, by simp only [mdel, hk, if_false, List.eraseIdx_cons_succ]; exact ⟨h.1, h.2.1, h7⟩, fun v y T hT => by simp only [mset, hk, if_false, List.set_cons_succ]; exact ⟨h.1, h.2.1, h8 v y T hT⟩⟩
  | [], _ :: _, _, _, h => h.elim
  | _ :: _, [], _, _, h => h.elim
  | [], [], _ :: _, _, h => h.elim
  | _ :: _, _ :: _, [], _, h => h.elim
theorem EnR.push {e : MapEntry} {k : κ} {x : β} {S : List Nat} (he : e.key = ek k) (hx : (V e.val x).p w R S) : ∀ {es : List MapEntry} {l : List (κ × β)} {Ss : List (List Nat)}, EnR ek V w R es l Ss → EnR ek V w R (es ++ [e]) (l ++ [(k, x)]) (Ss ++ [S])
  | [], [], [], _ => ⟨he, hx, trivial⟩
  | _ :: es, _ :: l, S :: Ss, h => ⟨h.1, h.2.1, EnR.push he hx h.2.2⟩
  | [], _ :: _, _, h => h.elim
  | _ :: _, [], _, h => h.elim
  | [], [], _ :: _, h => h.elim
  | _ :: _, _ :: _, [], h => h.elim
def Mp (ek : κ → Value) (V : Value → β → HP) (b : Nat) (l : List (κ × β)) : HP :=
  ⟨fun w R S => ∃ (es : Array MapEntry) (clock : Nat) (Ss : List (List Nat)), w.heap[b]? = some (.map es clock) ∧ EnR ek V w R es.toList l Ss ∧ S = b :: Ss.flatten ∧ (es.toList.map MapEntry.born).Nodup ∧ (∀ e ∈ es.toList, e.born < clock),
   fun {w w' R R' S} ⟨es, clock, Ss, h1, h2, h3, h4⟩ hk hR => ⟨es, clock, Ss, by rw [hk.block b (.inl (by simp [h3]))]; exact h1, h2.st (hk.mono (by intro x hx; rcases hx with h | h; exact .inl (by rw [h3]; simp [h]); exact .inr h)) hR, h3, h4⟩⟩
def HV {m : Nat} (vf : List Value → Value) (E : PR β m) (v : Value) (x : β) : HP := ⟨fun w R S => S = [] ∧ ∃ cs, v = vf cs ∧ E.r w R cs x, fun ⟨h, cs, e, hE⟩ hk hR => ⟨h, cs, e, E.st hE (hk.mono fun b hb => .inr hb) hR⟩⟩
def vf1 (cs : List Value) : Value := cs.headD undef
section
variable {ρ : Operand → Value} {dst : Option Nat} {ty : TypeId} {pos : String} {after : Array Edge} {g : Option (Nat × Bool)} {x y z : Operand} {hs : List HP} {i b : Nat} {t kt et : TypeId} {l : List (κ × β)} {k : κ} {m : Nat} {vf : List Value → Value} {E : PR β m}
theorem Ctx.mpGet (K : KeyL P kt κ ek) (h : Ctx w hs) (hi : ltP hs i = true) (e : nthP hs i = Mp ek (HV vf E) b l) (ht : P.underlying t = some (.map kt et)) (hx : ρ x = .map (some b)) (hy : ρ y = ek k) {zv : Value} {zcs : List Value} {x0 : β} (hz : ∀ w, (zeroValue et).run P w = .ok zv w) (hzv : zv = vf zcs) (hz0 : ∀ (w : World) R, E.r w R zcs x0) (ok : Bool) :
    ∃ v w', (execOp ρ ⟨dst, .lookup t x y ok, ty, pos, after, g⟩).run P w = .ok (.value v) w' ∧ w' = w ∧ ∃ cs, v = (if ok then .tuple #[vf cs, .bool (mget l k).isSome] else vf cs) ∧ Ctx w (Hold E cs ((mget l k).getD x0) :: hs) := by
  obtain ⟨R, Ss0, hc⟩ := h
  obtain ⟨S, hS⟩ := CtxAt.nth hc.all hi
  rw [e] at hS
  obtain ⟨es, clock, Ss, hb, hE, _, _, _⟩ := hS
  have hf := K.find k es.toList (l.map (·.1)) w hE.keys
  have hg : (getObj b).run P w = .ok (.map es clock) w := by simp [getObj, Sem.run, hb]
  rcases hE.find k 0 with ⟨h1, h2, _, _⟩ | ⟨j, en, xx, S', h1, _, _, h4, _, h6, _, _⟩
  · rw [h1] at hf
    refine ⟨_, w, ?_, rfl, zcs, rfl, ?_⟩
    · simp [execOp, Instr.lookup, run_underlying ht, hx, hy, hg, K.chk, hf, hz, hzv, h2]
    · rw [h2]; exact ⟨R, [] :: Ss0, hc.hold (hz0 w R)⟩
  · rw [h1] at hf
    obtain ⟨_, cs, hv, hr⟩ := h6
    refine ⟨_, w, ?_, rfl, cs, rfl, ?_⟩
    · simp [execOp, Instr.lookup, run_underlying ht, hx, hy, hg, K.chk, hf, hv, h4]
    · rw [h4]; exact ⟨R, [] :: Ss0, hc.hold hr⟩
theorem setObj_kp {A : Nat → Prop} {o : Obj} (hA : ∀ x, A x → x ≠ b) : Kp A w { w with heap := w.heap.setIfInBounds b o } :=
  ⟨rfl, rfl, rfl, by simp, fun x hx => by
    show (w.heap.setIfInBounds b o)[x]? = _
    rw [Array.getElem?_setIfInBounds_ne (fun e => hA x hx e.symm)]⟩
theorem run_setMap {es : Array MapEntry} {clock : Nat} (hb : w.heap[b]? = some (.map es clock)) (o : Obj) : (setObj b o).run P w = .ok () { w with heap := w.heap.setIfInBounds b o } := by simp [setObj, Sem.run, hb]
theorem heap_setMap {es : Array MapEntry} {clock : Nat} (hb : w.heap[b]? = some (.map es clock)) (o : Obj) : ({ w with heap := w.heap.setIfInBounds b o } : World).heap[b]? = some o := by
  have := (Array.getElem?_eq_some_iff.1 hb).1
  simp [this]
theorem Ctx.mpUpd (h : Ctx w hs) (hi : ltP hs i = true) (e : nthP hs i = Mp ek (HV vf E) b l) {es : Array MapEntry} {clock : Nat} (hb : w.heap[b]? = some (.map es clock)) (es' : Array MapEntry) (clock' : Nat) (l' : List (κ × β))
    (hu : ∀ R Ss S, CtxAt w R hs S → EnR ek (HV vf E) w R es.toList l Ss → ∃ Ss', EnR ek (HV vf E) w R es'.toList l' Ss') (hn : (es.toList.map MapEntry.born).Nodup → (∀ e ∈ es.toList, e.born < clock) → (es'.toList.map MapEntry.born).Nodup ∧ ∀ e ∈ es'.toList, e.born < clock') :
    Ctx { w with heap := w.heap.setIfInBounds b (.map es' clock') } (setP hs i (Mp ek (HV vf E) b l')) := by
  refine Ctx.updK h hi _ (fun R Ss0 S hc hS hSo hSn => ?_) rfl
  rw [e] at hS
  obtain ⟨es2, clock2, Ss, hb2, hE, rfl, h4, h5⟩ := hS
  rw [hb] at hb2
  injection hb2 with e1
  injection e1 with e1 e2
  subst e1 e2
  have hnil : ∀ {es : List MapEntry} {l : List (κ × β)} {Ss : List (List Nat)}, EnR ek (HV vf E) w R es l Ss → Ss.flatten = [] := by
    intro es
    induction es with
    | nil => intro l Ss h; cases l <;> cases Ss <;> simp [EnR] at h ⊢
    | cons e es ih =>
      intro l Ss h
      cases l with
      | nil => exact h.elim
      | cons p l => cases Ss with
        | nil => exact h.elim
        | cons S Ss => rw [List.flatten_cons, h.2.1.1, ih h.2.2]; rfl
  obtain ⟨Ss', hE'⟩ := hu R Ss Ss0 hc hE
  have hbR : ¬ R b := (hSo b (by simp)).2
  have hkp : ∀ A : Nat → Prop, (∀ x, A x → x ≠ b) → Kp A w { w with heap := w.heap.setIfInBounds b (.map es' clock') } := fun A hA => setObj_kp hA
  refine ⟨[b], ⟨es', clock', Ss', heap_setMap hb _, hE'.st (hkp _ (fun x hx e => by
      rw [hnil hE'] at hx
      rcases hx with hx | hx
      · simp at hx
      · exact hbR (e ▸ hx))) (fun _ h => h), by rw [hnil hE'], (hn h4 h5).1, (hn h4 h5).2⟩, by simp, fun x hx => ⟨.inl (by simp at hx; simp [hx]), by have := (hSo b (by simp)).1; simp at hx; subst hx; simpa using this⟩, hkp _ (fun x hx e => hx.2 (by simp [e]))⟩
theorem Ctx.mpSet (K : KeyL P kt κ ek) {cs : List Value} {xv : β} (h : Ctx w (Hold E cs xv :: hs)) (hi : ltP hs i = true) (e : nthP hs i = Mp ek (HV vf E) b l) (ht : P.underlying t = some (.map kt et)) (hx : ρ x = .map (some b)) (hy : ρ y = ek k) (hz : ρ z = vf cs) :
    ∃ w', (execOp ρ ⟨dst, .mapUpdate t x y z, ty, pos, after, g⟩).run P w = .ok .skip w' ∧ Ctx w' (setP hs i (Mp ek (HV vf E) b (mset l k xv))) := by
  obtain ⟨R, S, hS, _⟩ := h.drop.at hi e
  obtain ⟨es, clock, Ss, hb, hE, _, _, _⟩ := hS
  have hf := K.find k es.toList (l.map (·.1)) w hE.keys
  have hg : (getObj b).run P w = .ok (.map es clock) w := by simp [getObj, Sem.run, hb]
  have hholds : ∀ R S, CtxAt w R (Hold E cs xv :: hs) S → (HV vf E (vf cs) xv).p w R [] := by
    intro R S hc
    match S, hc with
    | S0 :: Ss, hc => exact ⟨rfl, cs, rfl, hc.all.1.2⟩
  rcases hE.find k 0 with ⟨h1, h2, _, h3⟩ | ⟨j, en, xx, S', h1, hj, hke, h4, _, h6, _, _⟩
  · rw [h1] at hf
    have hrun : (Instr.mapUpdate t (.map (some b)) (ek k) (vf cs)).run P w = .ok () { w with heap := w.heap.setIfInBounds b (.map (es.push ⟨ek k, vf cs, clock⟩) (clock + 1)) } := by
      simp [Instr.mapUpdate, run_underlying ht, hg, K.chk, hf, run_setMap hb]
    refine ⟨_, by simp [execOp, hx, hy, hz, hrun]; rfl, ?_⟩
    have := Ctx.mpUpd h (i := i + 1) hi e hb (es.push ⟨ek k, vf cs, clock⟩) (clock + 1) (mset l k xv) (fun R Ss S hc hE => ⟨Ss ++ [[]], by
      rw [h3, Array.toList_push]
      exact EnR.push (ek := ek) (V := HV vf E) (k := k) rfl (hholds R S hc) hE⟩) (fun a b => ⟨by
        rw [Array.toList_push, List.map_append, List.nodup_append]
        refine ⟨a, by simp, fun p hp q hq e => ?_⟩
        simp at hq
        obtain ⟨x, hx, hxe⟩ := List.mem_map.1 hp
        have := b x hx
        omega, fun x hx => by
        rw [Array.toList_push, List.mem_append] at hx
        rcases hx with hx | hx
        · have := b x hx; omega
        · simp at hx; subst hx; simp⟩)
    exact this.drop
  · rw [h1, Nat.zero_add] at hf
    have hjl : j < es.size := by have := (List.getElem?_eq_some_iff.1 hj).1; simpa using this
    have hen : es[j]? = some en := by simpa using hj
    have hstay : (Instr.keyThatStays (ek k) (ek k)).run P w = .ok (ek k) w := by simp [Instr.keyThatStays, K.same]
    have hrun : (Instr.mapUpdate t (.map (some b)) (ek k) (vf cs)).run P w = .ok () { w with heap := w.heap.setIfInBounds b (.map (es.modify j fun e => { e with key := ek k, val := vf cs }) clock) } := by
      simp [Instr.mapUpdate, run_underlying ht, hg, K.chk, hf, hen, hke, hstay, run_setMap hb]
    have hml : (es.modify j fun e => { e with key := ek k, val := vf cs }).toList = es.toList.set j { en with val := vf cs } := by
      apply List.ext_getElem?
      intro q
      rw [Array.getElem?_toList, Array.getElem?_modify, List.getElem?_set]
      by_cases e : j = q
      · subst e
        have h9 := (Array.getElem?_eq_some_iff.1 hen).2
        simp [hjl, h9, ← hke]
      · simp [e]
    refine ⟨_, by simp [execOp, hx, hy, hz, hrun]; rfl, ?_⟩
    have := Ctx.mpUpd h (i := i + 1) hi e hb (es.modify j fun e => { e with key := ek k, val := vf cs }) clock (mset l k xv) (fun R Ss S hc hE => by
      rcases hE.find k 0 with ⟨h1', _⟩ | ⟨j', en', xx', S'', h1', hj', _, _, _, _, _, h8'⟩
      · rw [h1] at h1'; cases h1'
      · rw [h1] at h1'
        injection h1' with h1'
        injection h1' with h1' _
        have : j' = j := by omega
        subst this
        rw [hj] at hj'
        injection hj' with hj'
        subst hj'
        exact ⟨_, by rw [hml]; exact h8' _ _ [] (hholds R S hc)⟩) (fun a b => by
      have hbm : (es.toList.set j { en with val := vf cs }).map MapEntry.born = es.toList.map MapEntry.born := by
        rw [List.map_set]
        apply List.ext_getElem?
        intro q
        rw [List.getElem?_set]
        by_cases e : j = q
        · subst e
          rw [if_pos rfl, if_pos (by simpa using hjl), List.getElem?_map, hj]; rfl
        · rw [if_neg e]
      rw [hml, hbm]
      refine ⟨a, fun x hx => ?_⟩
      rcases List.mem_or_eq_of_mem_set hx with hx | hx
      · exact b x hx
      · subst hx; exact b en (List.mem_iff_getElem?.2 ⟨j, hj⟩))
    exact this.drop
theorem Ctx.mpMake (ek : κ → Value) (V : Value → β → HP) (h : Ctx w hs) : ∃ v w', (execOp ρ ⟨dst, .makeMap t none, ty, pos, after, g⟩).run P w = .ok (.value v) w' ∧ ∃ b, v = .map (some b) ∧ Ctx w' (Mp ek V b [] :: hs) := by
  refine ⟨.map (some w.heap.size), w.alloc (.map #[] 0), by simp [execOp, Instr.makeMap, newObj, Sem.run], _, rfl, ?_⟩
  exact h.new (.map #[] 0) _ fun R => ⟨#[], 0, [], heap_alloc_new w _, trivial, rfl, by simp, by simp⟩
end
end
end Go.Hp
namespace Go.Hp
open Go Go.RowKit
set_option linter.unusedVariables false
set_option linter.unusedSimpArgs false
set_option linter.unusedSectionVars false
section
variable {κ β : Type} [DecidableEq κ] {ek : κ → Value} {P : Program} {w : World} {ρ : Operand → Value} {dst : Option Nat} {ty : TypeId} {pos : String} {after : Array Edge} {g : Option (Nat × Bool)} {x y z : Operand} {hs : List HP} {i b : Nat} {t kt et : TypeId} {l : List (κ × β)} {k : κ} {m : Nat} {vf : List Value → Value} {E : PR β m}
theorem Ctx.mpGetC {f : β → List Value} (hf : ∀ (w : World) R cs x, E.r w R cs x → cs = f x) (K : KeyL P kt κ ek) (h : Ctx w hs) (hi : ltP hs i = true) (e : nthP hs i = Mp ek (HV vf E) b l) (ht : P.underlying t = some (.map kt et)) (hx : ρ x = .map (some b)) (hy : ρ y = ek k) {zv : Value} {x0 : β} (hz : ∀ w, (zeroValue et).run P w = .ok zv w) (hzv : zv = vf (f x0)) (hz0 : ∀ (w : World) R, E.r w R (f x0) x0)
    {u : Value} (hu : vf (f ((mget l k).getD x0)) = u) : (execOp ρ ⟨dst, .lookup t x y false, ty, pos, after, g⟩).run P w = .ok (.value u) w := by
  subst hu
  obtain ⟨v, w', h1, rfl, cs, rfl, h2⟩ := Ctx.mpGet (dst := dst) (ty := ty) (pos := pos) (after := after) (g := g) K h hi e ht hx hy hz hzv hz0 false
  obtain ⟨R, S, hp, _⟩ := h2.get
  rw [hf _ _ _ _ hp.2] at h1
  exact h1
end
end Go.Hp
namespace Go.Hp
open Go Go.RowKit
section
variable {P : Program} {ρ : Operand → Value} {w : World} {dst : Option Nat} {ty : TypeId} {pos : String} {after : Array Edge} {g : Option (Nat × Bool)} {x y : Operand} {T U e : TypeId} {n q : Nat} {a : Addr}
theorem esnT (hT : P.underlying T = some (.slice e)) (hx : ρ x = .slice none n q) (hy : ρ y = .slice none 0 0) : (execOp ρ ⟨dst, .binOp .eql T x y U, ty, pos, after, g⟩).run P w = .ok (.value (.bool true)) w := esn hT hx hy
theorem esnF (hT : P.underlying T = some (.slice e)) (hx : ρ x = .slice (some a) n q) (hy : ρ y = .slice none 0 0) : (execOp ρ ⟨dst, .binOp .eql T x y U, ty, pos, after, g⟩).run P w = .ok (.value (.bool false)) w := esn hT hx hy
end

section
variable {P : Program} {ρ : Operand → Value} {w : World} {dst : Option Nat} {ty : TypeId} {pos : String} {after : Array Edge} {g : Option (Nat × Bool)} {x y : Operand}
end
end Go.Hp
end
section
namespace Go.Hp
open Go Go.RowKit
set_option linter.unusedVariables false
set_option linter.unusedSimpArgs false
section
variable {α : Type} {m : Nat} {E : PR α m} {w w' : World} {l : List HP} {k : Nat} {T : TypeId} {xs : List α}
theorem Rows.drop {R : Nat → Prop} : ∀ (j : Nat) (css : List (List Value)) (xs : List α), Rows E w R css xs → Rows E w R (css.drop j) (xs.drop j) ∧ (css.drop j).flatten = css.flatten.drop (j * m)
  | 0, css, xs, h => ⟨h, by simp⟩
  | j + 1, [], [], _ => ⟨trivial, by simp⟩
  | j + 1, [], _ :: _, h => h.elim
  | j + 1, _ :: _, [], h => h.elim
  | j + 1, c :: css, x :: xs, h => by
    obtain ⟨h1, h2⟩ := Rows.drop j css xs h.2
    refine ⟨h1, ?_⟩
    have hl := E.len h.1
    have e1 : c.drop ((j + 1) * m) = [] := List.drop_of_length_le (by rw [hl, Nat.succ_mul]; omega)
    have e2 : (j + 1) * m - m = j * m := by rw [Nat.succ_mul, Nat.add_sub_cancel]
    rw [List.drop_succ_cons, h2, List.flatten_cons, List.drop_append, e1, hl, e2, List.nil_append]
theorem Ctx.appendIn {P : Program} {ρ : Operand → Value} {dst : Option Nat} {ty t : TypeId} {pos : String} {after : Array Edge} {g : Option (Nat × Bool)} {x y : Operand} {inf : TypeInfo} (h : Ctx w l) (hk : ltP l k = true) {a : Option Addr} {n c : Nat} (e : nthP l k = Own E T (.slice a n c) xs)
    (ht : P.underlying t = some (.slice T)) (hi : P.info? T = some inf) (hsize : inf.size = m) (i j : Nat) (hij : i < j) (hj : j ≤ n) (hx : ρ x = .slice a i c) (hy : ρ y = .slice (if c = j then a else a.map (·.add (j * m))) (n - j) (c - j)) :
    ∃ v w', (execOp ρ ⟨dst, .call ⟨.builtin .append, #[x, y], #[t, t]⟩, ty, pos, after, g⟩).run P w = .ok (.value v) w' ∧ v = .slice a (i + (n - j)) c ∧ Ctx w' (setP l k (Own E T (.slice a n c) (xs.take i ++ xs.drop j ++ xs.drop (i + (n - j))))) := by
  have hn : n = xs.length := (Ctx.rdLen h hk e reads_own).1
  obtain ⟨R, Ss, hc⟩ := h
  obtain ⟨S, hS⟩ := CtxAt.nth hc.all hk
  rw [e] at hS
  have hform : ∃ bb, a = some ⟨bb, 0, none⟩ := by
    obtain ⟨css, r1, r2, _⟩ := hS
    rcases r2.2 with ⟨hv, hn'⟩ | ⟨g, cap, cur, hv, _⟩
    · omega
    · injection hv with e1 _ _
      exact ⟨g, e1⟩
  obtain ⟨bb, rfl⟩ := hform
  obtain ⟨_, _, hnc, hcm, rfl, css, cur, r1, hgg, hsz, htk⟩ := Own.block hS
  obtain ⟨A, hA, hsrc⟩ : ∃ A : Addr, (if c = j then (some ⟨bb, 0, none⟩ : Option Addr) else (some ⟨bb, 0, none⟩ : Option Addr).map (·.add (j * m))) = some A ∧ (c ≠ j → A = ⟨bb, j * m, none⟩) := by
    by_cases h : c = j
    · exact ⟨_, by rw [if_pos h], fun h' => absurd h h'⟩
    · exact ⟨_, by rw [if_neg h]; rfl, fun _ => by simp [Addr.add_lit]⟩
  rw [hA] at hy
  obtain ⟨d1, d2⟩ := Rows.drop j css xs r1
  have hfl := Rows.flen r1
  have hnl : (css.drop j).flatten.length = (n - j) * m := by rw [Rows.flen d1, List.length_drop, hn]
  have hjm : j * m ≤ n * m := Nat.mul_le_mul_right _ hj
  have hsub : (n - j) * m = n * m - j * m := Nat.sub_mul _ _ _
  have him : i * m ≤ j * m := Nat.mul_le_mul_right _ (by omega)
  have hcm' : n * m ≤ c * m := Nat.mul_le_mul_right _ hnc
  have hnews : ∀ p u, (css.drop j).flatten[p]? = some u → w.cell? (A.add p) = some u := by
    intro p u hu
    have hp : p < (n - j) * m := by rw [← hnl]; exact (List.getElem?_eq_some_iff.1 hu).1
    have hcj : c ≠ j := fun e => by
      have : n - j = 0 := by omega
      rw [this] at hp; omega
    rw [hsrc hcj, Addr.add_lit]
    rw [d2, ← htk, List.getElem?_drop, List.getElem?_take] at hu
    split at hu
    · simp [World.cell?, hgg]
      simpa using hu
    · cases hu
  have hrun := run_append_room (P := P) w t ty T inf ht hi bb i c cur hgg A (n - j) (c - j) (css.drop j).flatten (by rw [hnl, hsize]) hnews (fun u hu => Rows.one d1 u hu) (by omega) (by rw [hnl, hsize, hsz, hsub]; omega)
  rw [hsize] at hrun
  refine ⟨.slice (some ⟨bb, 0, none⟩) (i + (n - j)) c, w.setRow bb (cur.toList.take (i * m) ++ (css.drop j).flatten ++ cur.toList.drop (i * m + (css.drop j).flatten.length)).toArray, ?_, rfl, ?_⟩
  · simp only [execOp, resolve, invoke, builtin, hx, hy]
    simp [hx, hy, hrun]
  refine Ctx.updK ⟨R, Ss, hc⟩ hk _ (fun R' Ss' S' hc' hS' hSo hSn => ?_) rfl
  rw [e] at hS'
  obtain ⟨_, _, _, _, rfl, css', cur', r1', hgg', hsz', htk'⟩ := Own.block hS'
  rw [hgg] at hgg'
  injection hgg' with e5
  injection e5 with e5
  subst e5
  have hcss : css'.flatten = css.flatten := by rw [← htk, ← htk']
  have hkp : ∀ A : Nat → Prop, (∀ b, A b → b ≠ bb) → Kp A w (w.setRow bb (cur.toList.take (i * m) ++ (css.drop j).flatten ++ cur.toList.drop (i * m + (css.drop j).flatten.length)).toArray) := fun A hA => setRow_kp hA
  have hRk := hkp R' (fun b hb e => (hSo bb (by simp)).2 (e ▸ hb))
  obtain ⟨t1, t2⟩ := Rows.take i css' xs r1'
  obtain ⟨u1, u2⟩ := Rows.drop j css' xs r1'
  obtain ⟨v1, v2⟩ := Rows.drop (i + (n - j)) css' xs r1'
  have hcl : cur.toList.length = c * m := by simpa using hsz
  have hcz : cur.size = c * m := hsz
  refine ⟨[bb], Own.mk' (css := css'.take i ++ css'.drop j ++ css'.drop (i + (n - j))) (by simp; omega) hnc hcm (Rows.app (Rows.app (t1.st hRk fun _ h => h) (u1.st hRk fun _ h => h)) (v1.st hRk fun _ h => h)) (setRow_heap w bb _ _ T _ hgg) ?_ ?_, hSn, fun b hb => ⟨.inl hb, by have := (hSo b hb).1; simpa [World.setRow] using this⟩, hkp _ fun b hb e => hb.2 (by simp [e])⟩
  · simp only [List.size_toArray, List.length_append, List.length_take, List.length_drop, hnl, hcl]
    omega
  · rw [List.flatten_append, List.flatten_append, t2, u2, v2, hcss, ← d2, ← htk, List.take_take, Nat.min_eq_left (by omega)]
    show List.take (n * m) (_ ++ _ ++ _) = _
    have hl2 : (cur.toList.take (i * m) ++ (css.drop j).flatten).length = i * m + (n - j) * m := by rw [List.length_append, List.length_take, hnl, hcl]; omega
    rw [List.take_append, hl2, List.take_of_length_le (by rw [hl2, hsub]; omega), hnl, Nat.add_mul, List.drop_take]
end
end Go.Hp
namespace Go.Hp
open Go Go.RowKit
set_option linter.unusedVariables false
set_option linter.unusedSimpArgs false
section
variable {α : Type} {m : Nat} {E : PR α m} {w : World} {T : TypeId} {xs : List α} {P : Program} {ρ : Operand → Value} {dst : Option Nat} {ty t : TypeId} {pos : String} {after : Array Edge} {g : Option (Nat × Bool)} {x lo hi mx : Operand} {a : Option Addr} {n q c : Nat}
theorem sub_pre (a : Option Addr) (q : Nat) : (if q = 0 then a else a.map (·.add (0 * m))) = a := by
  split
  · rfl
  · cases a <;> simp [Addr.add]
theorem reads_pre {Q : HP} {hv : Int} (hQ : Reads Q E (.slice a n q) xs) (h : hv.toNat ≤ n) (hq : n ≤ q) (hn : n = xs.length) : Reads Q E (.slice a hv.toNat q) (xs.take hv.toNat) := by
  have hs := reads_sub (lo := 0) (hi := hv.toNat) hQ (by omega) (by omega)
  rw [sub_pre] at hs
  simpa using hs
theorem run_sub0 {hv : Int} (hx : ρ x = .slice a n q) (hh : ∃ kk, ρ hi = .int kk hv) (ht : P.underlying t = some (.slice T)) (hs : ∀ w, (sizeOf T).run P w = .ok m w) (h1 : 0 ≤ hv ∧ hv ≤ n) (hq : n ≤ q) :
    (execOp ρ ⟨dst, .slice t x none (some hi) none, ty, pos, after, g⟩).run P w = .ok (.value (.slice a hv.toNat q)) w := by
  have hr := run_sub (P := P) (w := w) (dst := dst) (ty := ty) (pos := pos) (after := after) (g := g) (lo := none) (hi := some hi) (li := none) (hi' := some hv) hx trivial hh ht hs (by simp only [lohi]; omega) hq
  have ha : (if q = (lohi n none (some hv)).1.toNat then a else a.map (·.add ((lohi n none (some hv)).1.toNat * m))) = a := sub_pre a q
  rw [ha] at hr
  simp only [lohi, Int.toNat_zero, Nat.sub_zero] at hr
  exact hr
theorem run_subc {l h : Int} (hx : ρ x = .slice a n q) (hl : ∃ kk, ρ lo = .int kk l) (hh : ∃ kk, ρ hi = .int kk h) (ht : P.underlying t = some (.slice T)) (hs : ∀ w, (sizeOf T).run P w = .ok m w) (h1 : 0 ≤ l ∧ l ≤ h) (hq : h ≤ q) :
    (execOp ρ ⟨dst, .slice t x (some lo) (some hi) none, ty, pos, after, g⟩).run P w = .ok (.value (.slice (if q = l.toNat then a else a.map (·.add (l.toNat * m))) (h.toNat - l.toNat) (q - l.toNat))) w := by
  obtain ⟨k1, e1⟩ := hl
  obtain ⟨k2, e2⟩ := hh
  have hu : ∀ w, (underlying t).run P w = .ok (.slice T) w := fun w => run_underlying ht w
  have hb : ∀ (k : IntKind) (i : Int) (y : Nat) (code : BoundsCode), 0 ≤ i → i ≤ y → (Instr.sliceBound (.int k i) y code).run P w = .ok i.toNat w := fun k i y code h0 h1 => by simp [Instr.sliceBound, asIntOf, h0, h1]
  simp only [execOp, Option.map_none, Option.map_some, hx, e1, e2]
  have hbb : (Instr.sliceBounds true n q (some (.int k1 l)) (some (.int k2 h)) none).run P w = .ok (l.toNat, h.toNat, q) w := by
    simp [Instr.sliceBounds, hb k2 h q _ (by omega) (by omega), hb k1 l h.toNat _ (by omega) (by omega)]
  simp [Instr.sliceAt, Instr.slice, hu, hbb, hs]
theorem run_sub3 {l h k : Int} (hx : ρ x = .slice a n q) (hl : ∃ kk, ρ lo = .int kk l) (hh : ∃ kk, ρ hi = .int kk h) (hm : ∃ kk, ρ mx = .int kk k) (ht : P.underlying t = some (.slice T)) (hs : ∀ w, (sizeOf T).run P w = .ok m w) (h1 : 0 ≤ l ∧ l ≤ h ∧ h ≤ k) (hq : k ≤ q) :
    ∃ v w', (execOp ρ ⟨dst, .slice t x (some lo) (some hi) (some mx), ty, pos, after, g⟩).run P w = .ok (.value v) w' ∧ w' = w := by
  obtain ⟨k1, e1⟩ := hl
  obtain ⟨k2, e2⟩ := hh
  obtain ⟨k3, e3⟩ := hm
  have hu : ∀ w, (underlying t).run P w = .ok (.slice T) w := fun w => run_underlying ht w
  have hb : ∀ (k : IntKind) (i : Int) (y : Nat) (code : BoundsCode), 0 ≤ i → i ≤ y → (Instr.sliceBound (.int k i) y code).run P w = .ok i.toNat w := fun k i y code h0 h1 => by simp [Instr.sliceBound, asIntOf, h0, h1]
  simp only [execOp, Option.map_none, Option.map_some, hx, e1, e2, e3]
  have hbb : (Instr.sliceBounds true n q (some (.int k1 l)) (some (.int k2 h)) (some (.int k3 k))).run P w = .ok (l.toNat, h.toNat, k.toNat) w := by
    simp [Instr.sliceBounds, hb k3 k q _ (by omega) (by omega), hb k2 h k.toNat _ (by omega) (by omega), hb k1 l h.toNat _ (by omega) (by omega)]
  simp [Instr.sliceAt, Instr.slice, hu, hbb, hs]
end
end Go.Hp
namespace Go.Hp
open Go Go.RowKit
section
variable {P : Program} {n : Nat} {l : Fm} {b : Nat → Value} {w : World} {fn : Func} {R : Ending → World → Prop} {r s T m : Nat} {a : Addr} {cs : List Value} {u : Value}
theorem f1c (hr : fn.results = #[.cell r T]) (hn : fn.ntmps = n) (hv : ev n l b (.tmp r) = .pointer (some a)) (hT : ∀ w, (isAgg T).run P w = .ok true w) (hs : ∀ w, (sizeOf T).run P w = .ok m w) (hm : cs.length = m) (hc : ∀ j v, cs[j]? = some v → w.cell? (a.add j) = some v)
    (h : R (.returned (.agg cs.toArray)) w) : postQ P fn R .ret l b w := by
  subst hn hm
  refine ⟨_, ?_, h⟩
  have e : (act fn.ntmps l b).tmps.getD r undef = .pointer (some a) := (congrFun (act_eval fn.ntmps l b) (.tmp r)).trans hv
  have hl := run_loadCells_list (P := P) (w := w) a cs hc
  simp only [Array.getD_eq_getD_getElem?] at e
  simp [results, hr, e, asAddr, loadVar, hT, hs, hl]
theorem f2c (hr : fn.results = #[.cell r T, .tmp s]) (hn : fn.ntmps = n) (hv : ev n l b (.tmp r) = .pointer (some a)) (hT : ∀ w, (isAgg T).run P w = .ok true w) (hs : ∀ w, (sizeOf T).run P w = .ok m w) (hm : cs.length = m) (hc : ∀ j v, cs[j]? = some v → w.cell? (a.add j) = some v)
    (hu : ev n l b (.tmp s) = u) (h : R (.returned (.tuple #[.agg cs.toArray, u])) w) : postQ P fn R .ret l b w := by
  subst hn hm hu
  refine ⟨_, ?_, h⟩
  have e : (act fn.ntmps l b).tmps.getD r undef = .pointer (some a) := (congrFun (act_eval fn.ntmps l b) (.tmp r)).trans hv
  have e2 : (act fn.ntmps l b).tmps.getD s undef = ev fn.ntmps l b (.tmp s) := congrFun (act_eval fn.ntmps l b) (.tmp s)
  have hl := run_loadCells_list (P := P) (w := w) a cs hc
  simp only [Array.getD_eq_getD_getElem?] at e e2
  simp [results, hr, e, e2, asAddr, loadVar, hT, hs, hl]
end
end Go.Hp
namespace Go.Hp
open Go Go.RowKit
section
variable {α : Type} {m : Nat} {E : PR α m} {w : World} {l : List HP} {k : Nat} {xs : List α}
def PinRow (E : PR α m) (a : Option Addr) (xs : List α) (w : World) : Prop := ∀ (i : Int) x bb oo, idx xs i = some x → a = some ⟨bb, oo, none⟩ → ∀ (w2 : World) (R : Nat → Prop) cs, E.r w2 R cs x → ∀ (j : Nat) u, cs[j]? = some u → w.cell? ⟨bb, oo + i.toNat * m + j, none⟩ = some u
theorem PinRow.of (h : Ctx w l) (hk : ltP l k = true) {Q : HP} (e : nthP l k = Q) {a : Option Addr} {n q : Nat} (hQ : Reads Q E (.slice a n q) xs) (hd : ∀ (w w2 : World) (R R2 : Nat → Prop) cs cs2 x, E.r w R cs x → E.r w2 R2 cs2 x → cs = cs2) : PinRow E a xs w := by
  intro i x bb oo hx ha w2 R2 cs hE j u hu
  obtain ⟨h0, h1, h2⟩ := idx_some hx
  obtain ⟨R, S, hp, _⟩ := h.at hk e
  obtain ⟨a', c', hv, _, hr⟩ := hQ.w w R S hp
  injection hv with e1 _ _
  subst e1
  obtain ⟨bb', oo', cs', ha', _, hE', hcs⟩ := hr _ _ h2
  rw [ha] at ha'
  injection ha' with ha'
  injection ha' with e2 e3
  subst e2 e3
  rw [hd _ _ _ _ _ _ _ hE hE'] at hu
  exact hcs j u hu
end
end Go.Hp
namespace Go.Hp
open Go Go.RowKit
section
variable {H : Type} {enc : TypeId × Value → H} {P : Program} {w : World} {base : Nat} {spare : Nat → Bool} {held : Bool} {t : TypeId}
end
end Go.Hp
end
section
namespace Go.Hp
open Go Go.RowKit
set_option linter.unusedVariables false
set_option linter.unusedSimpArgs false
set_option linter.unusedSectionVars false
structure VP (α : Type) (m : Nat) where
  r : List Value → α → HP
  len : ∀ {w : World} {R : Nat → Prop} {S : List Nat} {cs : List Value} {x : α}, (r cs x).p w R S → cs.length = m
  one : ∀ {w : World} {R : Nat → Prop} {S : List Nat} {cs : List Value} {x : α}, (r cs x).p w R S → ∀ v ∈ cs, v.oneCell' = true
def pAny (m : Nat) : PR (List Value) m := ⟨fun _ _ cs x => cs = x ∧ x.length = m ∧ ∀ v ∈ x, v.oneCell' = true, fun h _ _ => h, fun h => by rw [h.1]; exact h.2.1, fun h => by rw [h.1]; exact h.2.2⟩
section
variable {w : World} {l : List HP} {σ τ : Type} {V : σ → τ → HP}
theorem Ctx.swap {A B : HP} (h : Ctx w (A :: B :: l)) : Ctx w (B :: A :: l) := h.perm (.swap _ _ _)
section
variable {α : Type} {m : Nat} {U : VP α m} {T : TypeId} {v : Value} {xs : List α}
end
section
variable {κ β : Type} [DecidableEq κ] {m : Nat} {U : VP β m}
variable {ek : κ → Value} {vf : List Value → Value} {b : Nat} {lx : List (κ × β)}
end
section
variable {κ β : Type} [DecidableEq κ] {ek : κ → Value} {P : Program} {ρ : Operand → Value} {dst : Option Nat} {ty : TypeId} {pos : String} {after : Array Edge} {g : Option (Nat × Bool)} {x y z : Operand} {hs : List HP} {i b : Nat} {t kt et : TypeId} {k : κ} {m : Nat} {vf : List Value → Value} {E : PR β m}
end
end
end Go.Hp
end
section
namespace Go.Hp
open Go Go.RowKit
set_option linter.unusedVariables false
set_option linter.unusedSimpArgs false
set_option linter.unusedSectionVars false
section
variable {κ β : Type} [DecidableEq κ] {ek : κ → Value} {V : Value → β → HP} {P : Program} {w w' : World} {R R' : Nat → Prop}
theorem EnR.at : ∀ {es : List MapEntry} {l : List (κ × β)} {Ss : List (List Nat)} {j : Nat} {e : MapEntry}, EnR ek V w R es l Ss → es[j]? = some e → ∃ k x S, l[j]? = some (k, x) ∧ Ss[j]? = some S ∧ e.key = ek k ∧ (V e.val x).p w R S
  | e :: es, (k, x) :: l, S :: Ss, 0, e', h, he => by simp at he; subst he; exact ⟨k, x, S, rfl, rfl, h.1, h.2.1⟩
  | e :: es, (k, x) :: l, S :: Ss, j + 1, e', h, he => by
    obtain ⟨k', x', S', h1, h2, h3, h4⟩ := EnR.at (j := j) h.2.2 (by simpa using he)
    exact ⟨k', x', S', by simpa using h1, by simpa using h2, h3, h4⟩
  | [], _, _, _, _, _, he => by simp at he
  | _ :: _, [], _, _, _, h, _ => h.elim
  | _ :: _, _ :: _, [], _, _, h, _ => h.elim
variable {ρ : Operand → Value} {dst : Option Nat} {ty : TypeId} {pos : String} {after : Array Edge} {g : Option (Nat × Bool)} {x y z : Operand} {hs : List HP} {i b r : Nat} {t kt et : TypeId} {l : List (κ × β)} {k : κ} {m : Nat} {vf : List Value → Value} {E : PR β m} {seen : List κ} {cur : Option (κ × Value)}
end
end Go.Hp
end
section
namespace Go.Hp
open Go Go.RowKit
set_option linter.unusedVariables false
set_option linter.unusedSimpArgs false
set_option linter.unusedSectionVars false
section
variable {w : World} {l : List HP}
theorem Ctx.anyB {m : Nat} (cs : List Value) (hl : Nat.beq cs.length m = true) (h1 : cs.all (·.oneCell') = true) (h : Ctx w l) : Ctx w (Hold (pAny m) cs cs :: l) := h.add _ fun _ _ _ => ⟨rfl, rfl, by simpa using hl, fun v hv => List.all_eq_true.1 h1 v hv⟩
theorem Ctx.anyF {m : Nat} {cs x : List Value} (h : Ctx w (Hold (pAny m) cs x :: l)) : cs = x ∧ Ctx w l := by
  refine ⟨?_, h.drop⟩
  obtain ⟨R, S, hp, _⟩ := h.get
  exact hp.2.1
theorem Ctx.rdAny {m : Nat} {k : Nat} {T : TypeId} {hs : List (List Value)} {bb oo n c : Nat} (h : Ctx w l) (hk : ltP l k = true) (e : nthP l k = Own (pAny m) T (.slice (some ⟨bb, oo, none⟩) n c) hs) {i : Int} {x : List Value} (hx : idx hs i = some x) :
    ∀ (j : Nat) u, x[j]? = some u → w.cell? ⟨bb, oo + i.toNat * m + j, none⟩ = some u := by
  obtain ⟨cs, h1, h2⟩ := Ctx.rdCell h hk e reads_own hx
  obtain ⟨rfl, _⟩ := Ctx.anyF h1
  exact h2
section
variable {α : Type} {m : Nat} {U : VP α m} {T : TypeId} {v u : Value} {xs ys : List α}
variable {P : Program} {ρ : Operand → Value} {dst : Option Nat} {ty : TypeId} {pos : String} {after : Array Edge} {g : Option (Nat × Bool)} {x y z : Operand} {t : TypeId}
end
section
variable {κ β : Type} [DecidableEq κ] {ek : κ → Value} {P : Program} {ρ : Operand → Value} {dst : Option Nat} {ty : TypeId} {pos : String} {after : Array Edge} {g : Option (Nat × Bool)} {x y z : Operand} {i b : Nat} {t kt et : TypeId} {k : κ} {m : Nat} {vf : List Value → Value} {U : VP β m} {lx : List (κ × β)}
end
end
end Go.Hp
namespace Go.Hp
open Go Go.RowKit
end Go.Hp
namespace Go.Hp
open Go Go.RowKit
end Go.Hp
end
section
namespace Go.Hp
open Go
set_option linter.unusedVariables false
set_option linter.unusedSimpArgs false
set_option linter.unusedSectionVars false
section
variable {P : Program} {n : Nat} {Q : Exit → Act → World → Prop} {ops : List Oper}
def RX (ops : List Oper) (X : List (Nat × Nat)) (listed : Array Bool) (k : Nat) : Prop := k ∈ Region.ready .any ops.toArray listed ∧ ∀ p ∈ X, p.2 = k → listed.getD p.1 false = true
def StepsF (ops : List Oper) (X : List (Nat × Nat)) : Nat → Array Bool → List Nat → Prop
  | 0, _, L => L = []
  | f + 1, listed, L => (L = [] ∧ ∀ k, ¬ RX ops X listed k) ∨ ∃ k L', L = k :: L' ∧ RX ops X listed k ∧ StepsF ops X f (listed.setIfInBounds k true) L'
theorem steps_linearise : ∀ (f t : Nat) (listed : Array Bool), StepsF ops [] f listed (Region.linearise.go .any ops.toArray f t listed [])
  | 0, t, listed => by simp [Region.linearise.go, StepsF]
  | f + 1, t, listed => by
    simp only [Region.linearise.go]
    change StepsF ops [] (f + 1) listed (match (Region.ready .any ops.toArray listed)[t % (Region.ready .any ops.toArray listed).length]? with
      | some i => Region.linearise.go .any ops.toArray f (t / (Region.ready .any ops.toArray listed).length) (listed.setIfInBounds i true) [i]
      | none => [].reverse)
    cases hi : (Region.ready .any ops.toArray listed)[t % (Region.ready .any ops.toArray listed).length]? with
    | none =>
      left
      refine ⟨rfl, fun k hk => ?_⟩
      have hnil : Region.ready .any ops.toArray listed = [] := by
        cases hr : Region.ready .any ops.toArray listed with
        | nil => rfl
        | cons x xs =>
          rw [hr] at hi
          have hlt : t % (x :: xs).length < (x :: xs).length := Nat.mod_lt _ (by simp)
          simp at hi
          simp at hlt
          omega
      have := hk.1
      rw [hnil] at this
      cases this
    | some i =>
      right
      simp only []
      rw [linearise_go_acc]
      exact ⟨i, Region.linearise.go .any ops.toArray f (t / (Region.ready .any ops.toArray listed).length) (listed.setIfInBounds i true) [], by simp, ⟨List.mem_of_getElem? hi, fun p hp => by cases hp⟩, steps_linearise f _ _⟩
theorem listed_ready {listed : Array Bool} {k : Nat} (h : k ∈ Region.ready .any ops.toArray listed) : k < listed.size := by
  have h0 := (mem_ready.1 h).1
  rcases Nat.lt_or_ge k listed.size with h' | h'
  · exact h'
  · simp [Array.getElem?_eq_none h'] at h0
theorem steps_settled {X : List (Nat × Nat)} {i j : Nat} : ∀ (f : Nat) (listed : Array Bool) (L : List Nat), listed.getD i false = true → StepsF ops X f listed L → StepsF ops ((i, j) :: X) f listed L
  | 0, _, _, _, h => h
  | f + 1, listed, L, hi, h => by
    rcases h with ⟨h1, h2⟩ | ⟨k, L', h1, h2, h3⟩
    · exact .inl ⟨h1, fun k hk => h2 k ⟨hk.1, fun p hp => hk.2 p (by simp [hp])⟩⟩
    · refine .inr ⟨k, L', h1, ⟨h2.1, fun p hp hpk => ?_⟩, steps_settled f _ _ (by rw [getD_set_true]; exact hi) h3⟩
      rcases List.mem_cons.1 hp with rfl | hp
      · exact hi
      · exact h2.2 p hp hpk
theorem steps_split {X : List (Nat × Nat)} {i j : Nat} (hij : i ≠ j) : ∀ (f : Nat) (listed : Array Bool) (L : List Nat), StepsF ops X f listed L → StepsF ops ((i, j) :: X) f listed L ∨ StepsF ops ((j, i) :: X) f listed L
  | 0, _, _, h => .inl h
  | f + 1, listed, L, h => by
    rcases h with ⟨h1, h2⟩ | ⟨k, L', h1, h2, h3⟩
    · exact .inl (.inl ⟨h1, fun k hk => h2 k ⟨hk.1, fun p hp => hk.2 p (by simp [hp])⟩⟩)
    · have hk := listed_ready h2.1
      by_cases hki : k = i
      · subst hki
        refine .inl (.inr ⟨k, L', h1, ⟨h2.1, fun p hp hpk => ?_⟩, steps_settled f _ _ (by simp [hk]) h3⟩)
        rcases List.mem_cons.1 hp with rfl | hp
        · exact (hij hpk.symm).elim
        · exact h2.2 p hp hpk
      · by_cases hkj : k = j
        · subst hkj
          refine .inr (.inr ⟨k, L', h1, ⟨h2.1, fun p hp hpk => ?_⟩, steps_settled f _ _ (by simp [hk]) h3⟩)
          rcases List.mem_cons.1 hp with rfl | hp
          · exact (hki hpk.symm).elim
          · exact h2.2 p hp hpk
        · rcases steps_split hij f _ _ h3 with h4 | h4
          · refine .inl (.inr ⟨k, L', h1, ⟨h2.1, fun p hp hpk => ?_⟩, h4⟩)
            rcases List.mem_cons.1 hp with rfl | hp
            · exact (hkj hpk.symm).elim
            · exact h2.2 p hp hpk
          · refine .inr (.inr ⟨k, L', h1, ⟨h2.1, fun p hp hpk => ?_⟩, h4⟩)
            rcases List.mem_cons.1 hp with rfl | hp
            · exact (hki hpk.symm).elim
            · exact h2.2 p hp hpk
def renumO (ord : List Nat) (X : List (Nat × Nat)) (k : Nat) (o : Oper) : Oper :=
  ⟨o.dst, o.op, o.type, o.pos, ((o.after.toList.map fun e => (⟨ord.idxOf e.on, e.ground⟩ : Edge)) ++ ((X.filter fun p => Nat.beq p.2 k).map fun p => (⟨ord.idxOf p.1, .data⟩ : Edge))).toArray, o.guard.map fun g => (ord.idxOf g.1, g.2)⟩
def renumA (ops : List Oper) (ord0 : List Nat) (X : List (Nat × Nat)) : List Nat → List Oper
  | [] => []
  | k :: ord => (match ops[k]? with | some o => renumO ord0 X k o | none => ⟨none, .move (.const undef), 0, "", #[], none⟩) :: renumA ops ord0 X ord
def renum (ord : List Nat) (X : List (Nat × Nat)) (ops : List Oper) : List Oper := renumA ops ord X ord
def okOrd (ord : List Nat) (n : Nat) : Bool := Nat.beq ord.length n && (List.range n).all (fun k => ord[ord.idxOf k]? == some k) && (List.range n).all fun p => match ord[p]? with | some k => Nat.beq (ord.idxOf k) p && Nat.blt k n | none => false
theorem renumA_get (ops : List Oper) (ord0 : List Nat) (X : List (Nat × Nat)) : ∀ (ord : List Nat) (p : Nat), (renumA ops ord0 X ord)[p]? = (ord[p]?).map fun k => match ops[k]? with | some o => renumO ord0 X k o | none => ⟨none, .move (.const undef), 0, "", #[], none⟩
  | [], p => by simp [renumA]
  | k :: ord, 0 => by simp [renumA]
  | k :: ord, p + 1 => by simp only [renumA, List.getElem?_cons_succ]; exact renumA_get ops ord0 X ord p
section
variable {ord : List Nat} {X : List (Nat × Nat)} (hO : okOrd ord ops.length = true)
include hO
theorem ord_len : ord.length = ops.length := by
  simp only [okOrd, Bool.and_eq_true, Nat.beq_eq] at hO
  exact hO.1.1
theorem ord_at {k : Nat} (hk : k < ops.length) : ord[ord.idxOf k]? = some k := by
  simp only [okOrd, Bool.and_eq_true, List.all_eq_true, List.mem_range, beq_iff_eq] at hO
  exact hO.1.2 k hk
theorem ord_inv {p : Nat} (hp : p < ops.length) : ∃ k, ord[p]? = some k ∧ ord.idxOf k = p ∧ k < ops.length := by
  simp only [okOrd, Bool.and_eq_true, List.all_eq_true, List.mem_range] at hO
  have := hO.2 p hp
  cases h : ord[p]? with
  | none => rw [h] at this; cases this
  | some k =>
    rw [h] at this
    simp only [Bool.and_eq_true, Nat.beq_eq] at this
    exact ⟨k, rfl, this.1, by simpa using this.2⟩
theorem oidx_lt {k : Nat} (hk : k < ops.length) : ord.idxOf k < ops.length := by
  have := (List.getElem?_eq_some_iff.1 (ord_at hO hk)).1
  rwa [ord_len hO] at this
theorem oidx_out {k : Nat} (hk : ¬ k < ops.length) : ord.idxOf k = ops.length := by
  have hnm : k ∉ ord := fun hm => by
    obtain ⟨p, hp⟩ := List.getElem?_of_mem hm
    have hpl : p < ops.length := by have := (List.getElem?_eq_some_iff.1 hp).1; rwa [ord_len hO] at this
    obtain ⟨k', h1, _, h3⟩ := ord_inv hO hpl
    rw [hp] at h1
    injection h1 with h1
    subst h1; exact hk h3
  rw [List.idxOf_eq_length hnm, ord_len hO]
theorem oidx_inj {j k : Nat} (hj : j < ops.length) (hk : k < ops.length) (h : ord.idxOf j = ord.idxOf k) : j = k := by
  have h1 := ord_at hO hj
  rw [h, ord_at hO hk] at h1
  injection h1 with h1; exact h1.symm
theorem renum_len : (renum ord X ops).length = ops.length := by
  have : ∀ (l ord0 : List Nat), (renumA ops ord0 X l).length = l.length := by
    intro l ord0
    induction l with
    | nil => rfl
    | cons k l ih => simp [renumA, ih]
  rw [renum, this, ord_len hO]
theorem renum_get {k : Nat} {o : Oper} (ho : ops[k]? = some o) : (renum ord X ops)[ord.idxOf k]? = some (renumO ord X k o) := by
  have hk := (List.getElem?_eq_some_iff.1 ho).1
  rw [renum, renumA_get, ord_at hO hk, Option.map_some, ho]
theorem renum_none {k : Nat} (hk : ¬ k < ops.length) : (renum ord X ops)[ord.idxOf k]? = none := by
  rw [oidx_out hO hk]
  exact List.getElem?_eq_none (by rw [renum_len hO]; exact Nat.le_refl _)
theorem yielded_renum (t : Array Value) (j : Nat) : yielded (renum ord X ops).toArray t (ord.idxOf j) = yielded ops.toArray t j := by
  unfold yielded
  cases h : ops[j]? with
  | none =>
    have hk : ¬ j < ops.length := fun hk => by rw [List.getElem?_eq_getElem hk] at h; cases h
    have h2 := renum_none hO hk (X := X)
    simp [h, h2]
  | some o =>
    have h2 := renum_get hO h (X := X)
    simp [h, h2, renumO]
theorem wanted_renum (t : Array Value) (k : Nat) (o : Oper) : Region.wanted (renumO ord X k o) (yielded (renum ord X ops).toArray t) = Region.wanted o (yielded ops.toArray t) := by
  unfold Region.wanted
  cases hg : o.guard with
  | none => simp [renumO, hg]
  | some g => simp only [renumO, hg, Option.map_some, yielded_renum hO]
theorem wpOp_renum {k : Nat} (hk : k < ops.length) {K : Act → World → Prop} {a : Act} {w : World} (h : wpOp P (renum ord X ops).toArray Q (ord.idxOf k) K a w) : wpOp P ops.toArray Q k K a w := by
  unfold wpOp at *
  have ho := List.getElem?_eq_getElem hk
  have h2 := renum_get hO ho (X := X)
  simp only [List.getElem?_toArray, ho] at h ⊢
  simp only [h2] at h
  rw [wanted_renum hO] at h
  exact h
theorem ready_renum {listed listed' : Array Bool} (hl : ∀ k, listed'.getD (ord.idxOf k) false = listed.getD k false) (hs : listed.size = ops.length) (hs' : listed'.size = ops.length) {k : Nat} (h : RX ops X listed k) : ord.idxOf k ∈ Region.ready .any (renum ord X ops).toArray listed' := by
  obtain ⟨hu, o, ho, hall⟩ := mem_ready.1 h.1
  have ho' : ops[k]? = some o := by simpa using ho
  have hk := (List.getElem?_eq_some_iff.1 ho').1
  refine mem_ready.2 ⟨?_, _, by simpa using renum_get hO ho' (X := X), fun e he hb => ?_⟩
  · have h1 := hl k
    have hkl : k < listed.size := by omega
    have hik : ord.idxOf k < listed'.size := by have := oidx_lt hO hk; omega
    simp only [Array.getD_eq_getD_getElem?, Array.getElem?_eq_getElem hkl, Array.getElem?_eq_getElem hik, Option.getD_some] at h1 hu ⊢
    rw [h1, hu]
  · simp only [renumO, List.mem_toArray, List.mem_append, List.mem_map, List.mem_filter] at he
    rcases he with ⟨e0, he0, rfl⟩ | ⟨p, ⟨hp, hpk⟩, rfl⟩
    · have hb0 : Region.binds .any e0 = true := by simpa [Region.binds] using hb
      show listed'.getD (ord.idxOf e0.on) false = true
      rw [hl]; exact hall e0 (by simpa using he0) hb0
    · show listed'.getD (ord.idxOf p.1) false = true
      rw [hl]; exact h.2 p hp (Nat.eq_of_beq_eq_true hpk)
theorem ready_back {listed listed' : Array Bool} (hl : ∀ k, listed'.getD (ord.idxOf k) false = listed.getD k false) (hs : listed.size = ops.length) (hs' : listed'.size = ops.length) {p : Nat} (h : p ∈ Region.ready .any (renum ord X ops).toArray listed') : ∃ k, ord.idxOf k = p ∧ RX ops X listed k := by
  have hpl := listed_ready (ops := renum ord X ops) h
  obtain ⟨k, h1, h2, h3⟩ := ord_inv hO (p := p) (by omega)
  subst h2
  obtain ⟨hu, o, ho, hall⟩ := mem_ready.1 h
  have ho0 := List.getElem?_eq_getElem h3
  have ho2 := renum_get hO ho0 (X := X)
  have ho' : (renum ord X ops)[ord.idxOf k]? = some o := by simpa using ho
  rw [ho2] at ho'
  injection ho' with ho'
  subst ho'
  refine ⟨k, rfl, mem_ready.2 ⟨?_, _, by rw [List.getElem?_toArray]; exact ho0, fun e he hb => ?_⟩, fun p hp hpk => ?_⟩
  · have h1 := hl k
    have hkl : k < listed.size := by omega
    have hik : ord.idxOf k < listed'.size := hpl
    simp only [Array.getD_eq_getD_getElem?, Array.getElem?_eq_getElem hkl, Array.getElem?_eq_getElem hik, Option.getD_some] at h1 hu ⊢
    rw [← h1, hu]
  · rw [← hl]
    exact hall ⟨ord.idxOf e.on, e.ground⟩ (by simp only [renumO, List.mem_toArray, List.mem_append, List.mem_map]; exact .inl ⟨e, by simpa using he, rfl⟩) (by simpa [Region.binds] using hb)
  · rw [← hl]
    exact hall ⟨ord.idxOf p.1, .data⟩ (by simp only [renumO, List.mem_toArray, List.mem_append, List.mem_map, List.mem_filter]; exact .inr ⟨p, ⟨hp, by rw [hpk]; simp⟩, rfl⟩) (by simp [Region.binds])
theorem ops_of_renum : ∀ (f : Nat) (listed listed' : Array Bool) (L : List Nat) (a : Act) (w : World), (∀ k, listed'.getD (ord.idxOf k) false = listed.getD k false) → listed.size = ops.length → listed'.size = ops.length →
    wpAny P .any (renum ord X ops).toArray Q f listed' a w → StepsF ops X f listed L → wpOps P ops.toArray Q L a w
  | 0, listed, listed', L, a, w, hl, hs, hs', h, hL => by
    rw [show L = [] from hL]; exact h.2
  | f + 1, listed, listed', L, a, w, hl, hs, hs', h, hL => by
    rcases hL with ⟨rfl, h2⟩ | ⟨k, L', rfl, h2, h3⟩
    · refine h.1 ?_
      apply List.eq_nil_iff_forall_not_mem.2
      intro p hp
      obtain ⟨k, _, hk⟩ := ready_back hO hl hs hs' hp
      exact h2 k hk
    · have hkl : k < ops.length := by have := listed_ready h2.1; omega
      have h4 := wpOp_renum hO hkl (h.2 _ (ready_renum hO hl hs hs' h2))
      rw [wpOps_cons]
      refine wpOp_mono (fun a' w' h5 => ops_of_renum f _ _ L' a' w' (fun q => ?_) (by simpa using hs) (by simpa using hs') h5 h3) h4
      by_cases hq : q < ops.length
      · by_cases hqk : q = k
        · subst hqk
          have h6 : ord.idxOf q < listed'.size := by have := oidx_lt hO hq; omega
          have h7 : q < listed.size := by omega
          simp [h6, h7]
        · have h6 : ¬ ord.idxOf k = ord.idxOf q := fun e => hqk (oidx_inj hO hq hkl e.symm)
          rw [getD_set_ne false h6, getD_set_ne false (fun e => hqk e.symm)]
          exact hl q
      · rw [oidx_out hO hq]
        have h6 : ¬ ops.length < (listed'.setIfInBounds (ord.idxOf k) true).size := by simp [hs']
        have h7 : ¬ q < (listed.setIfInBounds k true).size := by simp [hs]; omega
        simp only [Array.getD_eq_getD_getElem?]
        rw [Array.getElem?_eq_none (by omega), Array.getElem?_eq_none (by omega)]
end
end
section
open Go.RowKit
variable {P : Program} {n : Nat} {Q : Qt} {l : Fm} {b : Nat → Value} {w : World} {ops : List Oper}
structure RGw (P : Program) (n : Nat) (ops : List Oper) (X : List (Nat × Nat)) (Q : Qt) (l : Fm) (b : Nat → Value) (w : World) : Prop where
  h : ∀ L, StepsF ops X ops.length (Array.replicate ops.length false) L → wpOps P ops.toArray (lift n Q) L (act n l b) w.drew
theorem Wrg {id : Nat} (hm : P.follows .mixedOrders = true) (h : RGw P n ops [] Q l b w) : Wp P n (.region id ops.toArray true) Q l b w := ⟨wp_region_draw fun t => by
  simp only [Region.schedule, hm, Bool.true_or, if_true]
  exact h.h _ (by have := steps_linearise (ops := ops) ops.length t (Array.replicate ops.length false); simpa [Region.linearise] using this)⟩
theorem RGsplit {X : List (Nat × Nat)} (i j : Nat) (hij : Nat.beq i j = false) (h1 : RGw P n ops ((i, j) :: X) Q l b w) (h2 : RGw P n ops ((j, i) :: X) Q l b w) : RGw P n ops X Q l b w := ⟨fun L hL => by
  have hne : i ≠ j := fun e => by rw [e, Nat.beq_refl] at hij; cases hij
  rcases steps_split hne _ _ _ hL with h | h
  · exact h1.h L h
  · exact h2.h L h⟩
theorem RGleaf {X : List (Nat × Nat)} (ord : List Nat) (G : Nat → World → Prop) (bm : List Nat) (em xm : Nat) (hO : okOrd ord ops.length = true) (hB : lexX (renum ord X ops).toArray bm xm = true) (hF : ∀ j, free bm em j = true → G j w.drew)
    (h : Rd P n (renum ord X ops) bm em G xm Q 0 (renum ord X ops) l b w.drew) : RGw P n ops X Q l b w := ⟨fun L hL => by
  have hlen := renum_len (X := X) hO
  simp only [lexX, Bool.and_eq_true, beq_iff_eq] at hB
  have hd : DC .any (renum ord X ops).toArray (Array.replicate (renum ord X ops).toArray.size false) := by
    intro j o ho hl
    have : (Array.replicate (renum ord X ops).toArray.size false).getD j false = false := by
      rw [Array.getD_eq_getD_getElem?, Array.getElem?_replicate]
      split <;> rfl
    rw [this] at hl
    cases hl
  have hI : Inv bm em G (Array.replicate (renum ord X ops).toArray.size false) w.drew := fun j _ he => hF j (by
    refine List.all_eq_true.2 fun e h1 => ?_
    cases hb : (em.testBit e && (bm.getD j 0).testBit e)
    · rfl
    · simp only [Bool.and_eq_true] at hb
      have h3 := he e (List.mem_range.1 h1) hb.1 hb.2
      rw [Array.getD_eq_getD_getElem?, Array.getElem?_replicate] at h3
      split at h3 <;> cases h3)
  have hw := wpAny_of_F (md := .any) (em := em) (xm := xm) (Q := fun a' w' => lift n Q .normal a' w') (Q' := lift n Q) hB.1.2 hB.1.1.1 (fun _ _ h => h) _ G _ _ _ hd hI
    (by have := wpAnyF_lex (md := .any) (Q := fun a' w' => lift n Q .normal a' w') hB.1.1.2 hB.1.2 hB.1.1.1 (renum ord X ops) 0 G (Array.replicate (renum ord X ops).toArray.size false) (act n l b) w.drew hd hI (by simp) (by simpa using hB.2) h.h
        simpa using this)
  refine ops_of_renum hO ops.length _ (Array.replicate (renum ord X ops).length false) L _ _ (fun k => ?_) (by simp) (by simp [hlen]) (by simpa [hlen] using hw) hL
  simp only [Array.getD_eq_getD_getElem?, Array.getElem?_replicate]
  split <;> split <;> rfl⟩
end
end Go.Hp
end
section
namespace Go.Hp
open Go Go.RowKit
set_option linter.unusedVariables false
set_option linter.unusedSimpArgs false
set_option linter.unusedSectionVars false
section
variable {P : Program} {ρ : Operand → Value} {w : World} {dst : Option Nat} {ty : TypeId} {pos : String} {after : Array Edge} {g : Option (Nat × Bool)} {x y c : Operand} {T U : TypeId}
section
variable {k k2 : IntKind} {a b : Int}
end
end
end Go.Hp
namespace Go.Hp
open Go Go.RowKit
set_option linter.unusedVariables false
section
variable {κ β : Type} [DecidableEq κ] {ek : κ → Value} {P : Program} {w : World} {hs : List HP} {i b : Nat} {t kt et : TypeId} {l : List (κ × β)} {m : Nat} {vf : List Value → Value} {E : PR β m}
end
end Go.Hp
namespace Go.Hp
open Go Go.RowKit
set_option linter.unusedVariables false
section
variable {κ β : Type} [DecidableEq κ] {ek : κ → Value} {V : Value → β → HP} {P : Program} {w : World} {hs : List HP} {i b : Nat} {t kt et : TypeId} {l : List (κ × β)} {m : Nat} {vf : List Value → Value} {E : PR β m} {o : Obj}
end
end Go.Hp
end
section
namespace Go.Hp
open Go Go.RowKit
set_option linter.unusedVariables false
section
variable {H : Type} {enc : TypeId × Value → H} {P : Program} {w : World} {base : Nat} {spare : Nat → Bool} {held : Bool} {t e : TypeId}
def pIntR (k : IntKind) : PR Int 1 :=
  ⟨fun w R cs x => cs = [.int k x] ∧ (Lit.int k x).wf = true, fun h _ _ => h, fun h => by rw [h.1]; rfl, fun h u hu => by rw [h.1, List.mem_singleton] at hu; subst hu; rfl⟩
theorem opens_intR {k : IntKind} (ht : P.underlying t = some (.int k)) : Opens enc P w base spare held (pIntR k) t := fun n cs y h => by
  obtain ⟨a, hcs, _, hw⟩ := DataW.trod_int ht h
  exact ⟨a, hcs, hw⟩
end
end Go.Hp
end
section
namespace Go.Hp
open Go Go.RowKit
set_option linter.unusedVariables false
section
variable {H : Type} {enc : TypeId × Value → H} {P : Program} {w : World} {base : Nat} {spare : Nat → Bool} {held : Bool} {t e : TypeId} {α : Type} {m : Nat}
def pAnd (E : PR α m) (Q : α → Prop) : PR α m := ⟨fun w R cs x => E.r w R cs x ∧ Q x, fun h a b => ⟨E.st h.1 a b, h.2⟩, fun h => E.len h.1, fun h => E.one h.1⟩
theorem opens_and {E : PR α m} {Q : α → Prop} (hE : Opens enc P w base spare held E t) (hQ : ∀ n cs y x, DataW.trod enc P w base spare held n t cs = some y → E.r w (In w) cs x → Q x) : Opens enc P w base spare held (pAnd E Q) t := fun n cs y h => by
  obtain ⟨x, hx⟩ := hE n cs y h
  exact ⟨x, hx, hQ n cs y x h hx⟩
theorem roQ {E : PR α m} {Q : α → Prop} {R : Nat → Prop} {cs : List Value} {x : List α} (h : (pRo (pAnd E Q)).r w R cs x) : (pRo E).r w R cs x ∧ ∀ v ∈ x, Q v := by
  obtain ⟨v, e, a, c, hv, hc, hr⟩ := h
  refine ⟨⟨v, e, a, c, hv, hc, fun i x hx => ?_⟩, fun u hu => ?_⟩
  · obtain ⟨bb, oo, cs, h1, h2, h3, h4⟩ := hr i x hx
    exact ⟨bb, oo, cs, h1, h2, h3.1, h4⟩
  · obtain ⟨i, hi, rfl⟩ := List.getElem_of_mem hu
    obtain ⟨_, _, _, _, _, h3, _⟩ := hr i _ (List.getElem?_eq_getElem hi)
    exact h3.2
theorem field_wf {fs : Array Field} {n : Nat} {cs : List Value} {y : DataW H × List MemPlace} (ht : P.underlying t = some (.struct fs)) (h : DataW.trod enc P w base spare held n t cs = some y) {i : Nat} {f : Field} (hf : fs[i]? = some f) {k : IntKind} (hT : P.underlying f.type = some (.int k)) {o : Nat} (ho : f.offset = o) (hq : P.cellsOf f.type = 1) {a : Int} (hv : cs[o]? = some (.int k a)) : (Lit.int k a).wf = true := by
  obtain ⟨x, hx, hw⟩ := opens_field ht h hf (opens_intR hT) ho hq
  have h2 : (cs.drop o).take 1 = [.int k a] := by
    have hl : o < cs.length := (List.getElem?_eq_some_iff.1 hv).1
    rw [List.drop_eq_getElem_cons hl]
    rw [List.getElem?_eq_getElem hl] at hv
    injection hv with hv
    rw [hv]; rfl
  rw [h2] at hx
  injection hx with hx _
  injection hx with _ hx
  rw [hx]; exact hw
end
end Go.Hp
end
section
namespace Go.Hp
open Go Go.RowKit
set_option linter.unusedVariables false
section
variable {P : Program} {w : World} {l : List HP} {ρ : Operand → Value} {dst : Option Nat} {ty : TypeId} {pos : String} {after : Array Edge} {g : Option (Nat × Bool)} {x : Operand} {S D e : TypeId} {xs : List Int} {a : Option Addr} {n q : Nat}
end
section
variable {P : Program} {n : Nat} {Q : Qt} {l : Fm} {b : Nat → Value} {w : World} {ops : List Oper} {rest : List Oper} {op : Op} {ty : TypeId} {pos : String} {after : Array Edge} {g : Option (Nat × Bool)} {G : Nat → World → Prop} {bm : List Nat} {em xm i : Nat}
end
end Go.Hp
end
section
namespace Go.Hp
open Go Go.RowKit
set_option linter.unusedVariables false
section
variable {P : Program} {ρ : Operand → Value} {w : World} {dst : Option Nat} {ty : TypeId} {pos : String} {after : Array Edge} {g : Option (Nat × Bool)} {x y : Operand} {T E : TypeId} {m n bb o : Nat} {k : IntKind}
end
section
variable {α : Type} {m : Nat} {E : PR α m} {xs : List α} {w : World} {l : List HP}
end
end Go.Hp
end
section
namespace Go.Hp
open Go Go.RowKit
set_option linter.unusedVariables false
section
variable {α : Type} {m : Nat} {E : PR α m} {w : World} {l : List HP} {k : Nat} {v : Value} {xs : List α} {P : HP} {b o : Nat} {cs : List Value}
end
end Go.Hp
end
section
namespace Go.Hp
open Go Go.RowKit
set_option linter.unusedVariables false
section
variable {P : Program} {n : Nat} {Q : Qt} {l : Fm} {b : Nat → Value} {w w0 : World} {ops : List Oper} {rest : List Oper} {op : Op} {x : Operand} {ty : TypeId} {pos : String} {after : Array Edge} {g : Option (Nat × Bool)} {d : Nat} {bm : List Nat} {G : Nat → World → Prop} {em xm i : Nat}
theorem dE {v : Value} (h : (execOp (ev n l b) ⟨some d, op, ty, pos, after, g⟩).run P w0 = .ok (.value v) w0) (hz : em.testBit i = false) (hw : want n ops l b ⟨some d, op, ty, pos, after, g⟩ = true) (k : Rd P n ops bm em (fun _ w' => w' = w0) xm Q (i + 1) rest ((d, v) :: l) b w) : Rd P n ops bm em (fun _ w' => w' = w0) xm Q i (⟨some d, op, ty, pos, after, g⟩ :: rest) l b w :=
  ds hz (fun w' hF => by subst hF; exact h) hw k
theorem Ctx.holdsC {α : Type} {m : Nat} {E : PR α m} {f : α → List Value} {w : World} {l : List HP} (hE : ∀ (w : World) R x, E.r w R (f x) x) (h : Ctx w l) : ∀ (xs : List α), Ctx w (holds E (xs.map f) xs l)
  | [] => h
  | x :: xs => (Ctx.holdsC hE h xs).add _ fun _ _ _ => ⟨rfl, hE _ _ _⟩
end
end Go.Hp
end
section
namespace Go.Hp
open Go Go.RowKit
set_option linter.unusedVariables false
section
variable {w : World} {l : List HP}
theorem Ctx.n0 {P0 Q : HP} (h : Ctx w (setP (P0 :: l) 0 Q)) : Ctx w (Q :: l) := h
theorem Ctx.n1 {P0 P1 Q : HP} (h : Ctx w (setP (P0 :: P1 :: l) 1 Q)) : Ctx w (P0 :: Q :: l) := h
theorem Ctx.n2 {P0 P1 P2 Q : HP} (h : Ctx w (setP (P0 :: P1 :: P2 :: l) 2 Q)) : Ctx w (P0 :: P1 :: Q :: l) := h
theorem Ctx.n3 {P0 P1 P2 P3 Q : HP} (h : Ctx w (setP (P0 :: P1 :: P2 :: P3 :: l) 3 Q)) : Ctx w (P0 :: P1 :: P2 :: Q :: l) := h
theorem Ctx.n4 {P0 P1 P2 P3 P4 Q : HP} (h : Ctx w (setP (P0 :: P1 :: P2 :: P3 :: P4 :: l) 4 Q)) : Ctx w (P0 :: P1 :: P2 :: P3 :: Q :: l) := h
theorem Ctx.n5 {P0 P1 P2 P3 P4 P5 Q : HP} (h : Ctx w (setP (P0 :: P1 :: P2 :: P3 :: P4 :: P5 :: l) 5 Q)) : Ctx w (P0 :: P1 :: P2 :: P3 :: P4 :: Q :: l) := h
theorem Ctx.n6 {P0 P1 P2 P3 P4 P5 P6 Q : HP} (h : Ctx w (setP (P0 :: P1 :: P2 :: P3 :: P4 :: P5 :: P6 :: l) 6 Q)) : Ctx w (P0 :: P1 :: P2 :: P3 :: P4 :: P5 :: Q :: l) := h
theorem Ctx.n9 {P0 P1 P2 P3 P4 P5 P6 P7 P8 P9 Q : HP} (h : Ctx w (setP (P0 :: P1 :: P2 :: P3 :: P4 :: P5 :: P6 :: P7 :: P8 :: P9 :: l) 9 Q)) : Ctx w (P0 :: P1 :: P2 :: P3 :: P4 :: P5 :: P6 :: P7 :: P8 :: Q :: l) := h
end
end Go.Hp
end
section
namespace Go.Hp
open Go Go.RowKit
set_option linter.unusedVariables false
section
variable {α : Type} {m : Nat} {E : PR α m} {T : TypeId} {w : World} {l : List HP} {k : Nat} {x : α} {cs : List Value}
end
end Go.Hp
namespace Go.Hp
open Go Go.RowKit
section
variable {P : Program} {n : Nat} {l : Fm} {b : Nat → Value} {w : World} {fn : Func} {R : Ending → World → Prop} {r s T m : Nat} {a : Addr} {cs : List Value} {u : Value}
end
end Go.Hp
end
section
namespace Go.Hp
open Go Go.RowKit
set_option linter.unusedVariables false
set_option linter.unusedSectionVars false
section
variable {α : Type} {m : Nat} {E : PR α m} {xs : List α} {w : World} {l : List HP} {k : Nat}
end
abbrev QtD := List Deferred → Qt
section
variable {F : Fence} {P : Program} {n : Nat} {Q : QtD} {ds : List Deferred} {l : Fm} {b : Nat → Value} {w : World}
end
section
variable {F : Fence} {P : Program} {n : Nat} {Q : QtD} {ds : List Deferred} {l : Fm} {b : Nat → Value} {w : World} {ops rest : List Oper} {op : Op} {ty : TypeId} {pos : String} {after : Array Edge} {g : Option (Nat × Bool)} {d : Nat}
end
section
variable {P : Program} {n : Nat} {w : World}
end
section
variable {P : Program} {ρ : Operand → Value} {w : World} {dst : Option Nat} {ty : TypeId} {pos : String} {after : Array Edge} {g : Option (Nat × Bool)} {x lo hi mx : Operand} {T t : TypeId} {m : Nat} {a : Option Addr} {n q : Nat}
end
end Go.Hp
namespace Go.Hp
open Go Go.RowKit
section
variable {P : Program} {ρ : Operand → Value} {w : World} {dst : Option Nat} {ty : TypeId} {pos : String} {after : Array Edge} {g : Option (Nat × Bool)} {x : Operand}
end
end Go.Hp
namespace Go.Hp
open Go Go.RowKit
set_option linter.unusedSectionVars false
section
variable {κ β : Type} [DecidableEq κ] {m : Nat} {ek : κ → Value} {vf : List Value → Value} {E : PR β m} {w : World} {R : Nat → Prop}
end
end Go.Hp
namespace Go.Hp
open Go Go.RowKit
section
variable {α : Type} {m : Nat} {E : PR α m} {xs : List α} {w : World} {l : List HP}
end
end Go.Hp
end
section
namespace Go.Hp
open Go Go.RowKit
set_option linter.unusedVariables false
section
variable {P : Program} {n : Nat} {l : Fm} {b : Nat → Value} {w : World} {fn : Func} {R : Ending → World → Prop} {r s T U m k : Nat} {a e : Addr} {cs ds : List Value}
end
end Go.Hp
namespace Go.Hp
open Go Go.RowKit
set_option linter.unusedVariables false
set_option linter.unusedSimpArgs false
section
variable {P : Program} {w : World}
end
section
variable {P : Program} {ρ : Operand → Value} {w : World} {dst : Option Nat} {ty : TypeId} {pos : String} {after : Array Edge} {g : Option (Nat × Bool)} {x y : Operand}
variable {α : Type} {m : Nat} {E : PR α m} {l : List HP} {k : Nat} {T t ti : TypeId} {v : Value} {xs : List α}
end
end Go.Hp
namespace Go.Hp
open Go Go.RowKit
section
variable {w : World} {l : List HP} {α : Type} {m : Nat} {U : VP α m} {T : TypeId} {v : Value}
end
end Go.Hp
namespace Go.Hp
open Go Go.RowKit
abbrev hR (k : IntKind) (a : Option Addr) (q : Nat) (xs : List Int) : HP := Hold (pRo (pInt k)) [.slice a xs.length q] xs
abbrev oR (k : IntKind) (T : TypeId) (a : Option Addr) (q : Nat) (xs : List Int) : HP := Own (pInt k) T (.slice a xs.length q) xs
abbrev hS {α : Type} {m : Nat} (E : PR α m) (a : Option Addr) (q : Nat) (xs : List α) : HP := Hold (pRo E) [.slice a xs.length q] xs
abbrev pt (b o : Nat) : Value := .pointer (some ⟨b, o, none⟩)
section
variable {P : Program} {n : Nat} {w : World} {f : FuncId} {fn : Func} {c : Code} {R : Ending → World → Prop}
theorem Center1 {a : Value} (hf : P.funcs[f]? = some fn) (hn : fn.ntmps = n) (hb : fn.body = some c) (hl : Nat.ble 1 n = true) (h : Wp P n c (postQ P fn R) [(0, a)] (fun _ => undef) w) : Calls P f #[a] w R := Center (args := [a]) hf hn hb hl rfl h
theorem Center2 {a b : Value} (hf : P.funcs[f]? = some fn) (hn : fn.ntmps = n) (hb : fn.body = some c) (hl : Nat.ble 2 n = true) (h : Wp P n c (postQ P fn R) [(0, a), (1, b)] (fun _ => undef) w) : Calls P f #[a, b] w R := Center (args := [a, b]) hf hn hb hl rfl h
theorem Center3 {a b d : Value} (hf : P.funcs[f]? = some fn) (hn : fn.ntmps = n) (hb : fn.body = some c) (hl : Nat.ble 3 n = true) (h : Wp P n c (postQ P fn R) [(0, a), (1, b), (2, d)] (fun _ => undef) w) : Calls P f #[a, b, d] w R := Center (args := [a, b, d]) hf hn hb hl rfl h
end
section
variable {P : Program} {n : Nat} {Q : Qt} {l : Fm} {b : Nat → Value} {w : World} {ops : List Oper} {rest : List Oper} {ty ty2 : TypeId} {pos pos2 : String} {after after2 : Array Edge} {g g2 : Option (Nat × Bool)} {d d2 T U m : Nat} {x : Operand}
theorem fl {fs : Array Field} {f : Nat} {fd : Field} {bb o o' : Nat} {u : Value} (off : Nat) (hu : P.underlying T = some (.struct fs)) (hs : ∀ w, (sizeOf fd.type).run P w = .ok m w) (hA : ∀ w, (isAgg U).run P w = .ok false w) (hc : w.cell? ⟨bb, o', none⟩ = some u)
    (hx : ev n l b x = .pointer (some ⟨bb, o, none⟩)) (hf : fs[f]? = some fd) (hm : Nat.beq m 0 = false) (ho : fd.offset = off) (ho' : o + off = o')
    (he : ev n ((d, .pointer (some ⟨bb, o', none⟩)) :: l) b (.tmp d) = .pointer (some ⟨bb, o', none⟩)) (hw : want n ops l b ⟨some d, .fieldAddr T x f, ty, pos, after, g⟩ = true) (hw2 : want n ops ((d, .pointer (some ⟨bb, o', none⟩)) :: l) b ⟨some d2, .load U (.tmp d), ty2, pos2, after2, g2⟩ = true)
    (k : Rg P n ops Q rest ((d2, u) :: (d, .pointer (some ⟨bb, o', none⟩)) :: l) b w) : Rg P n ops Q (⟨some d, .fieldAddr T x f, ty, pos, after, g⟩ :: ⟨some d2, .load U (.tmp d), ty2, pos2, after2, g2⟩ :: rest) l b w := by
  refine rs (v := .pointer (some ⟨bb, o', none⟩)) (fax off hx hu hf hs hm ho ho') hw (rs (ld he hA hc) hw2 k)
end
end Go.Hp
end
section
namespace Go.Hp
open Go Go.RowKit
set_option linter.unusedVariables false
def lo : Fm → (Nat → Value) → Nat → Option Value
  | [], b, i => some (b i)
  | (k, v) :: l, b, i => match Nat.beq i k with | true => some v | false => lo l b i
def evo (n : Nat) (l : Fm) (b : Nat → Value) : Operand → Option Value
  | .tmp i => match Nat.blt i n with | true => lo l b i | false => none
  | .const v => some v
  | .global g => some (.pointer (some ⟨g, 0, none⟩))
  | .func f => some (.func (.func f) #[] #[])
theorem lo_some {b : Nat → Value} {i : Nat} {v : Value} : ∀ {l : Fm}, lo l b i = some v → look l b i = v
  | [], h => Option.some.inj h
  | (k, u) :: l, h => by
    unfold lo at h; unfold look
    cases c : Nat.beq i k with
    | true => rw [c] at h; exact Option.some.inj h
    | false => rw [c] at h; exact lo_some h
theorem evo_some {n : Nat} {l : Fm} {b : Nat → Value} : ∀ {x : Operand} {v : Value}, evo n l b x = some v → ev n l b x = v
  | .tmp i, v, h => by
    dsimp only [evo, ev] at h ⊢
    cases c : Nat.blt i n with
    | true => rw [c] at h; exact lo_some h
    | false => rw [c] at h; cases h
  | .const _, _, h => Option.some.inj h
  | .global _, _, h => Option.some.inj h
  | .func _, _, h => Option.some.inj h
def ieq : IntKind → IntKind → Bool
  | .i8, .i8 => true | .i16, .i16 => true | .i32, .i32 => true | .i64, .i64 => true | .u8, .u8 => true | .u16, .u16 => true | .u32, .u32 => true | .u64, .u64 => true | _, _ => false
theorem ieq_eq {a b : IntKind} (h : ieq a b = true) : a = b := by cases a <;> cases b <;> first | rfl | cases h
def nthV : List Value → Nat → Option Value
  | [], _ => none
  | v :: _, 0 => some v
  | _ :: l, i + 1 => nthV l i
theorem nthV_eq : ∀ {l : List Value} {i : Nat} {v : Value}, nthV l i = some v → l[i]? = some v
  | [], _, _, h => by cases h
  | _ :: _, 0, _, h => h
  | _ :: l, i + 1, _, h => by simpa using nthV_eq (l := l) h
def pbin (k : IntKind) (a b : Int) : BinOp → Option Value
  | .add => some (.int k (k.wrap (a + b)))
  | .sub => some (.int k (k.wrap (a - b)))
  | .mul => some (.int k (k.wrap (a * b)))
  | .lss => some (.bool (decide (a < b)))
  | .leq => some (.bool (decide (a ≤ b)))
  | .gtr => some (.bool (decide (a > b)))
  | .geq => some (.bool (decide (a ≥ b)))
  | .eql => some (.bool (decide (a = b)))
  | .neq => some (.bool (decide (¬ a = b)))
  | _ => none
def pur (ρ : Operand → Option Value) : Op → Option Value
  | .move x => ρ x
  | .assign x => ρ x
  | .nilCheck x => match ρ x with | some (.pointer (some a)) => some (.pointer (some a)) | _ => none
  | .extract x i => match ρ x with | some (.tuple ⟨vs⟩) => nthV vs i | _ => none
  | .pick c x y => match ρ c with | some (.bool true) => ρ x | some (.bool false) => ρ y | _ => none
  | .unOp .not _ x => match ρ x with | some (.bool true) => some (.bool false) | some (.bool false) => some (.bool true) | _ => none
  | .binOp o _ x y _ => match ρ x with
    | some (.int k a) => (match ρ y with
      | some (.int k2 b) => (match ieq k k2 with | true => pbin k a b o | false => none)
      | _ => none)
    | _ => none
  | _ => none
section
variable {P : Program} {n : Nat} {Q : Qt} {l l' : Fm} {b : Nat → Value} {w w0 : World} {ops : List Oper} {rest rest' : List Oper} {op : Op} {x y : Operand} {ty : TypeId} {pos : String} {after : Array Edge} {g : Option (Nat × Bool)} {d : Nat} {bm : List Nat} {G : Nat → World → Prop} {em xm i : Nat} {v : Value}
theorem pur_run {dst : Option Nat} (h : pur (evo n l b) op = some v) : (execOp (ev n l b) ⟨dst, op, ty, pos, after, g⟩).run P w = .ok (.value v) w := by
  unfold pur at h
  split at h
  · exact mv (evo_some h)
  · exact av (evo_some h)
  · split at h
    · rename_i e; obtain rfl := Option.some.inj h; exact nl (evo_some e)
    · cases h
  · split at h
    · rename_i e; exact ext (evo_some e) (nthV_eq h)
    · cases h
  · split at h
    · rename_i e; exact pkt (evo_some e) (evo_some h)
    · rename_i e; exact pkf (evo_some e) (evo_some h)
    · cases h
  · split at h
    · rename_i e; obtain rfl := Option.some.inj h; exact ntt (evo_some e)
    · rename_i e; obtain rfl := Option.some.inj h; exact ntf (evo_some e)
    · cases h
  · split at h
    · rename_i e
      split at h
      · rename_i e2
        split at h
        · rename_i hk
          obtain rfl := ieq_eq hk
          have hx := evo_some e; have hy := evo_some e2
          unfold pbin at h
          split at h <;> first | (cases h; done) | (obtain rfl := Option.some.inj h; first | exact adw hx hy | exact sbw hx hy | exact mlw hx hy | exact lt' hx hy | exact le' hx hy | exact gt' hx hy | exact ge' hx hy | exact eqd hx hy | exact ned hx hy)
        · cases h
      · cases h
    · cases h
  · cases h
def auS (n : Nat) (ops : List Oper) (b : Nat → Value) : Nat → List Oper → Fm → Option (List Oper × Fm)
  | 0, rest, l => some (rest, l)
  | k + 1, ⟨some d, op, ty, pos, after, g⟩ :: rest, l => match pur (evo n l b) op with
    | some v => (match want n ops l b ⟨some d, op, ty, pos, after, g⟩ with | true => auS n ops b k rest ((d, v) :: l) | false => none)
    | none => none
  | _, _, _ => none
theorem au : ∀ (k : Nat) {rest : List Oper} {l : Fm} (_ : auS n ops b k rest l = some (rest', l')) (_ : Rg P n ops Q rest' l' b w), Rg P n ops Q rest l b w
  | 0, _, _, h, K => by obtain ⟨rfl, rfl⟩ := Prod.mk.inj (Option.some.inj h); exact K
  | k + 1, [], _, h, K => by cases h
  | k + 1, ⟨none, _, _, _, _, _⟩ :: _, _, h, K => by cases h
  | k + 1, ⟨some d, op, ty, pos, after, g⟩ :: rest, l, h, K => by
    unfold auS at h
    split at h
    · rename_i e
      split at h
      · rename_i e2; exact rs (pur_run e) e2 (au k h K)
      · cases h
    · cases h
def auD (n : Nat) (ops : List Oper) (b : Nat → Value) (em : Nat) : Nat → List Oper → Fm → Nat → Option (List Oper × Fm × Nat)
  | 0, rest, l, i => some (rest, l, i)
  | k + 1, ⟨some d, op, ty, pos, after, g⟩ :: rest, l, i => match em.testBit i with
    | true => none
    | false => (match pur (evo n l b) op with
      | some v => (match want n ops l b ⟨some d, op, ty, pos, after, g⟩ with | true => auD n ops b em k rest ((d, v) :: l) (Nat.succ i) | false => none)
      | none => none)
  | _, _, _, _ => none
theorem ad_ {i' : Nat} : ∀ (k : Nat) {rest : List Oper} {l : Fm} {i : Nat} (_ : auD n ops b em k rest l i = some (rest', l', i')) (_ : Rd P n ops bm em G xm Q i' rest' l' b w), Rd P n ops bm em G xm Q i rest l b w
  | 0, _, _, _, h, K => by obtain ⟨rfl, h2⟩ := Prod.mk.inj (Option.some.inj h); obtain ⟨rfl, rfl⟩ := Prod.mk.inj h2; exact K
  | k + 1, [], _, _, h, K => by cases h
  | k + 1, ⟨none, _, _, _, _, _⟩ :: _, _, _, h, K => by cases h
  | k + 1, ⟨some d, op, ty, pos, after, g⟩ :: rest, l, i, h, K => by
    unfold auD at h
    split at h
    · cases h
    · rename_i hz
      split at h
      · rename_i e
        split at h
        · rename_i e2; exact ds hz (fun _ _ => pur_run e) e2 (ad_ k h K)
        · cases h
      · cases h
def pulB : Nat → List HP → Option (HP × List HP)
  | 0, a :: l => some (a, l)
  | k + 1, a :: l => match pulB k l with | some (x, t) => some (x, a :: t) | none => none
  | _, [] => none
def mvB : List Nat → List HP → Option (List HP)
  | [], l => some l
  | c :: cs, l => match pulB (c / 2) l with
    | some (x, t) => (match Nat.beq (c % 2) 0 with | true => mvB cs (x :: t) | false => mvB cs t)
    | none => none
theorem pulB_ok : ∀ {k : Nat} {l : List HP} {x : HP} {t : List HP}, pulB k l = some (x, t) → ltP l k = true ∧ nthP l k = x ∧ remP l k = t
  | 0, a :: l, x, t, h => by obtain ⟨rfl, rfl⟩ := Prod.mk.inj (Option.some.inj h); exact ⟨rfl, rfl, rfl⟩
  | k + 1, a :: l, x, t, h => by
    unfold pulB at h
    split at h
    · rename_i e; obtain ⟨rfl, rfl⟩ := Prod.mk.inj (Option.some.inj h); obtain ⟨h1, h2, h3⟩ := pulB_ok e; exact ⟨h1, h2, by show a :: remP l k = _; rw [h3]⟩
    · cases h
  | 0, [], _, _, h => by cases h
  | _ + 1, [], _, _, h => by cases h
theorem Ctx.m {w : World} : ∀ (c : List Nat) {L L' : List HP} (h : Ctx w L) (e : mvB c L = some L' := by exact rfl), Ctx w L'
  | [], _, _, h, e => Option.some.inj e ▸ h
  | c :: cs, L, L', h, e => by
    unfold mvB at e
    split at e
    · rename_i e1
      obtain ⟨h1, h2, h3⟩ := pulB_ok e1
      split at e
      · exact Ctx.m cs (h.pull (c / 2) h1 (by rw [h2, h3])) e
      · exact Ctx.m cs (h.rem (c / 2) h1 h3) e
    · cases e
def setB : List HP → Nat → HP → Option (List HP)
  | _ :: l, 0, Q => some (Q :: l)
  | P :: l, k + 1, Q => match setB l k Q with | some t => some (P :: t) | none => none
  | [], _, _ => none
theorem setB_eq : ∀ {L : List HP} {k : Nat} {Q : HP} {L' : List HP}, setB L k Q = some L' → setP L k Q = L'
  | _ :: _, 0, _, _, h => Option.some.inj h
  | P :: L, k + 1, Q, L', h => by
    unfold setB at h
    split at h
    · rename_i e; obtain rfl := Option.some.inj h; show P :: setP L k Q = _; rw [setB_eq e]
    · cases h
  | [], 0, _, _, h => by cases h
  | [], _ + 1, _, _, h => by cases h
def putB : List Value → Nat → List Value → Option (List Value)
  | cs, 0, [] => some cs
  | _ :: cs, 0, v :: vs => match putB cs 0 vs with | some t => some (v :: t) | none => none
  | c :: cs, i + 1, vs => match putB cs i vs with | some t => some (c :: t) | none => none
  | [], _ + 1, _ => none
  | [], 0, _ :: _ => none
theorem putB_eq : ∀ {cs : List Value} {i : Nat} {vs cs' : List Value}, putB cs i vs = some cs' → laid cs vs i = cs'
  | [], 0, [], _, h => by obtain rfl := Option.some.inj h; simp [laid]
  | c :: cs, 0, [], _, h => by obtain rfl := Option.some.inj h; simp [laid]
  | c :: cs, 0, v :: vs, cs', h => by
    unfold putB at h
    split at h
    · rename_i e; obtain rfl := Option.some.inj h; rw [← putB_eq e]; simp [laid, Nat.add_comm]
    · cases h
  | c :: cs, i + 1, vs, cs', h => by
    unfold putB at h
    split at h
    · rename_i e; obtain rfl := Option.some.inj h; rw [← putB_eq e]; simp [laid, Nat.add_right_comm]
    · cases h
  | [], _ + 1, _, _, h => by cases h
  | [], 0, _ :: _, _, h => by cases h
theorem putB_len {cs : List Value} {i : Nat} {vs cs' : List Value} (h : putB cs i vs = some cs') : Nat.ble (i + vs.length) cs.length = true := by
  rw [Nat.ble_eq]
  induction cs generalizing i vs cs' with
  | nil =>
    cases i with
    | zero => cases vs with
      | nil => simp
      | cons => cases h
    | succ => cases h
  | cons c cs ih =>
    cases i with
    | zero => cases vs with
      | nil => simp
      | cons v vs =>
        unfold putB at h
        split at h
        · rename_i e; have := ih e; simp only [List.length_cons]; omega
        · cases h
    | succ i =>
      unfold putB at h
      split at h
      · rename_i e; have := ih e; simp only [List.length_cons]; omega
      · cases h
def takB : List Value → Nat → Nat → Option (List Value)
  | _, 0, 0 => some []
  | c :: cs, 0, m + 1 => match takB cs 0 m with | some t => some (c :: t) | none => none
  | _ :: cs, o + 1, m => takB cs o m
  | [], _ + 1, _ => none
  | [], 0, _ + 1 => none
theorem takB_eq : ∀ {cs : List Value} {o m : Nat} {vs : List Value}, takB cs o m = some vs → vs.length = m ∧ (cs.drop o).take vs.length = vs
  | [], 0, 0, _, h => by obtain rfl := Option.some.inj h; simp
  | c :: cs, 0, 0, _, h => by obtain rfl := Option.some.inj h; simp
  | c :: cs, 0, m + 1, vs, h => by
    unfold takB at h
    split at h
    · rename_i e; obtain rfl := Option.some.inj h; obtain ⟨h1, h2⟩ := takB_eq e; refine ⟨by simp [h1], ?_⟩; simpa using h2
    · cases h
  | c :: cs, o + 1, m, vs, h => by
    unfold takB at h
    obtain ⟨h1, h2⟩ := takB_eq h; exact ⟨h1, by simpa using h2⟩
  | [], _ + 1, _, _, h => by cases h
  | [], 0, _ + 1, _, h => by cases h
variable {T T2 : TypeId} {bb o m : Nat} {cs cs' vs : List Value} {L L' : List HP}
theorem pa (hc : Ctx w L) (k : Nat) (hs : ∀ w, (sizeOf T2).run P w = .ok m w) (K : ∀ w', Ctx w' L' → Rg P n ops Q rest l b w')
    (hx : evo n l b x = some (.pointer (some ⟨bb, o, none⟩)) := by exact rfl) (hy : evo n l b y = some (.agg ⟨vs⟩) := by exact rfl) (hm : Nat.beq m vs.length = true := by exact rfl) (hv : vs.all (·.oneCell') = true := by exact rfl)
    (hk : ltP L k = true := by exact rfl) (e : nthP L k = B bb cs T := by exact rfl) (hcs : putB cs o vs = some cs' := by exact rfl) (el : setB L k (B bb cs' T) = some L' := by exact rfl)
    (hw : want n ops l b ⟨none, .store T2 x y, ty, pos, after, g⟩ = true := by exact rfl) : Rg P n ops Q (⟨none, .store T2 x y, ty, pos, after, g⟩ :: rest) l b w :=
  ruE (Ctx.putAgg hc hk e (evo_some hx) (evo_some hy) hv (by rw [← Nat.eq_of_beq_eq_true hm]; exact hs) (putB_len hcs) (putB_eq hcs) (setB_eq el)) hw K
theorem po (hc : Ctx w L) (k : Nat) (hs : ∀ w, (sizeOf T2).run P w = .ok 1 w) (K : ∀ w', Ctx w' L' → Rg P n ops Q rest l b w')
    (hx : evo n l b x = some (.pointer (some ⟨bb, o, none⟩)) := by exact rfl) (hy : evo n l b y = some v := by exact rfl) (hv : v.oneCell' = true := by exact rfl)
    (hk : ltP L k = true := by exact rfl) (e : nthP L k = B bb cs T := by exact rfl) (hcs : putB cs o [v] = some cs' := by exact rfl) (el : setB L k (B bb cs' T) = some L' := by exact rfl)
    (hw : want n ops l b ⟨none, .store T2 x y, ty, pos, after, g⟩ = true := by exact rfl) : Rg P n ops Q (⟨none, .store T2 x y, ty, pos, after, g⟩ :: rest) l b w :=
  ruE (Ctx.putOp hc hk e (evo_some hx) (evo_some hy) hv hs (List.getElem?_eq_getElem (by have := putB_len hcs; rw [Nat.ble_eq] at this; simp only [List.length_singleton] at this; omega)) (by rw [← putB_eq hcs]; have := putB_len hcs; rw [Nat.ble_eq] at this; simp only [List.length_singleton] at this; simp [laid, List.set_eq_take_append_cons_drop, show o < cs.length by omega]) (setB_eq el)) hw K
theorem pad (hc : Ctx w L) (k : Nat) (hs : ∀ w, (sizeOf T2).run P w = .ok m w) (K : ∀ w', Ctx w' L' → FX bm em G i w' ∧ Rd P n ops bm em G xm Q (i + 1) rest l b w')
    (hx : evo n l b x = some (.pointer (some ⟨bb, o, none⟩)) := by exact rfl) (hy : evo n l b y = some (.agg ⟨vs⟩) := by exact rfl) (hm : Nat.beq m vs.length = true := by exact rfl) (hv : vs.all (·.oneCell') = true := by exact rfl)
    (hk : ltP L k = true := by exact rfl) (e : nthP L k = B bb cs T := by exact rfl) (hcs : putB cs o vs = some cs' := by exact rfl) (el : setB L k (B bb cs' T) = some L' := by exact rfl)
    (hw : want n ops l b ⟨none, .store T2 x y, ty, pos, after, g⟩ = true := by exact rfl) : Rd P n ops bm em G xm Q i (⟨none, .store T2 x y, ty, pos, after, g⟩ :: rest) l b w :=
  duE (Ctx.putAgg hc hk e (evo_some hx) (evo_some hy) hv (by rw [← Nat.eq_of_beq_eq_true hm]; exact hs) (putB_len hcs) (putB_eq hcs) (setB_eq el)) hw rfl K
theorem pod (hc : Ctx w L) (k : Nat) (hs : ∀ w, (sizeOf T2).run P w = .ok 1 w) (K : ∀ w', Ctx w' L' → FX bm em G i w' ∧ Rd P n ops bm em G xm Q (i + 1) rest l b w')
    (hx : evo n l b x = some (.pointer (some ⟨bb, o, none⟩)) := by exact rfl) (hy : evo n l b y = some v := by exact rfl) (hv : v.oneCell' = true := by exact rfl)
    (hk : ltP L k = true := by exact rfl) (e : nthP L k = B bb cs T := by exact rfl) (hcs : putB cs o [v] = some cs' := by exact rfl) (el : setB L k (B bb cs' T) = some L' := by exact rfl)
    (hw : want n ops l b ⟨none, .store T2 x y, ty, pos, after, g⟩ = true := by exact rfl) : Rd P n ops bm em G xm Q i (⟨none, .store T2 x y, ty, pos, after, g⟩ :: rest) l b w :=
  duE (Ctx.putOp hc hk e (evo_some hx) (evo_some hy) hv hs (List.getElem?_eq_getElem (by have := putB_len hcs; rw [Nat.ble_eq] at this; simp only [List.length_singleton] at this; omega)) (by rw [← putB_eq hcs]; have := putB_len hcs; rw [Nat.ble_eq] at this; simp only [List.length_singleton] at this; simp [laid, List.set_eq_take_append_cons_drop, show o < cs.length by omega]) (setB_eq el)) hw rfl K
theorem lg (hT : ∀ w, (isAgg T2).run P w = .ok true w) (hs : ∀ w, (sizeOf T2).run P w = .ok m w) (hc : Ctx w L) (k : Nat) (K : Rg P n ops Q rest ((d, .agg vs.toArray) :: l) b w)
    (hx : evo n l b x = some (.pointer (some ⟨bb, o, none⟩)) := by exact rfl) (hk : ltP L k = true := by exact rfl) (e : nthP L k = B bb cs T := by exact rfl) (hv : takB cs o m = some vs := by exact rfl)
    (hw : want n ops l b ⟨some d, .load T2 x, ty, pos, after, g⟩ = true := by exact rfl) : Rg P n ops Q (⟨some d, .load T2 x, ty, pos, after, g⟩ :: rest) l b w :=
  rs (ldg (evo_some hx) hT hs (takB_eq hv).1 (Ctx.cells hc hk e o (takB_eq hv).2)) hw K
theorem fz {fn : Func} {K : Value → World → Prop} {r : Nat} (hr : fn.results = #[.tmp r]) (hn : fn.ntmps = n) (h : K v w) (hv : ev n l b (.tmp r) = v := by exact rfl) : postQ P fn (Ret K) .ret l b w := f1 hr hn hv ⟨_, rfl, h⟩
theorem fz2 {fn : Func} {K : Value → World → Prop} {r s : Nat} {v u : Value} (hr : fn.results = #[.tmp r, .tmp s]) (hn : fn.ntmps = n) (h : K (.tuple #[v, u]) w) (hv : ev n l b (.tmp r) = v := by exact rfl) (hu : ev n l b (.tmp s) = u := by exact rfl) : postQ P fn (Ret K) .ret l b w := f2 hr hn hv hu ⟨_, rfl, h⟩
theorem Wif {c : Prop} [Decidable c] {α : Type} {A D : Option α} {r : α} {X Y : Code} (hp : (if c then A else D) = some r) (hf : ¬ c → D = some r → Wp P n Y Q l b w) (ht : c → A = some r → Wp P n X Q l b w) (hv : ev n l b x = .bool (decide c) := by exact rfl) : Wp P n (.cond x X Y) Q l b w := by
  by_cases h : c
  · exact Wct (hv.trans (by rw [decide_eq_true h])) (ht h (gpos hp h))
  · exact Wcf (hv.trans (by rw [decide_eq_false h])) (hf h (gneg hp h))
def upL : Nat → Nat → List Nat → List Nat
  | _, 0, t => t
  | s, c + 1, t => s :: upL (Nat.succ s) c t
def rg : List Nat → List Nat
  | s :: c :: t => upL s c (rg t)
  | _ => []
end
section
variable {P : Program} {n : Nat} {Q : Qt} {l : Fm} {b : Nat → Value} {w w0 : World} {ops : List Oper} {rest : List Oper} {op : Op} {x : Operand} {ty ty2 : TypeId} {pos pos2 : String} {after after2 : Array Edge} {g g2 : Option (Nat × Bool)} {d d2 T U m : Nat} {bm : List Nat} {G : Nat → World → Prop} {em xm i : Nat}
theorem sz {v : Value} {w' : World} (h : (execOp (ev n l b) ⟨some d, op, ty, pos, after, g⟩).run P w = .ok (.value v) w') (k : Rg P n ops Q rest ((d, v) :: l) b w') (hw : want n ops l b ⟨some d, op, ty, pos, after, g⟩ = true := by exact rfl) : Rg P n ops Q (⟨some d, op, ty, pos, after, g⟩ :: rest) l b w := rs h hw k
theorem fq {fs : Array Field} {f : Nat} {fd : Field} {bb o o' U3 : Nat} {u : Value} (off : Nat) (hu : P.underlying T = some (.struct fs)) (hs : ∀ w, (sizeOf U3).run P w = .ok m w) (hA : ∀ w, (isAgg U).run P w = .ok false w) {L : List HP} (hc : Ctx w L) (j : Nat)
    (k : Rg P n ops Q rest ((d2, u) :: (d, .pointer (some ⟨bb, o', none⟩)) :: l) b w) {cs : List Value} {TT : TypeId}
    (hx : evo n l b x = some (.pointer (some ⟨bb, o, none⟩)) := by exact rfl) (hf : fs[f]? = some fd := by exact rfl) (ht : fd.type = U3 := by exact rfl) (hm : Nat.beq m 0 = false := by exact rfl) (ho : fd.offset = off := by exact rfl) (ho' : o + off = o' := by exact rfl) (hk : ltP L j = true := by exact rfl) (e : nthP L j = B bb cs TT := by exact rfl) (hi : cs[o']? = some u := by exact rfl)
    (he : ev n ((d, .pointer (some ⟨bb, o', none⟩)) :: l) b (.tmp d) = .pointer (some ⟨bb, o', none⟩) := by exact rfl) (hw : want n ops l b ⟨some d, .fieldAddr T x f, ty, pos, after, g⟩ = true := by exact rfl) (hw2 : want n ops ((d, .pointer (some ⟨bb, o', none⟩)) :: l) b ⟨some d2, .load U (.tmp d), ty2, pos2, after2, g2⟩ = true := by exact rfl) : Rg P n ops Q (⟨some d, .fieldAddr T x f, ty, pos, after, g⟩ :: ⟨some d2, .load U (.tmp d), ty2, pos2, after2, g2⟩ :: rest) l b w :=
  fl off hu (fun w => by rw [ht]; exact hs w) hA (Ctx.cell hc hk e hi) (evo_some hx) hf hm ho ho' he hw hw2 k
theorem kz {f : FuncId} {args : Array Operand} {ats : Array TypeId} {vs : List Value} (hc : ∀ (a : Array Value) (w : World), (callFunc f a).run P w = .ok (.enter f a) w) (k : Calls P f vs.toArray w (Ret fun v w'' => Rg P n ops Q rest ((d, v) :: l) b w'')) (ha : args.toList.map (ev n l b) = vs := by exact rfl) (hf : ev n l b x = .func (.func f) #[] #[] := by exact rfl) (hw : want n ops l b ⟨some d, .call ⟨.value x, args, ats⟩, ty, pos, after, g⟩ = true := by exact rfl) : Rg P n ops Q (⟨some d, .call ⟨.value x, args, ats⟩, ty, pos, after, g⟩ :: rest) l b w := rc (cl hc ha hf) hw k
theorem sj {α : Type} {a b : α} (h : some a = some b) : a = b := Option.some.inj h
theorem Ctx.dz {α : Type} {m : Nat} {E : PR α m} {cs : List Value} {x : α} {l : List HP} (h : Ctx w l) (k : Nat) (hk : ltP l k = true := by exact rfl) (e : nthP l k = Hold E cs x := by exact rfl) : Ctx w (Hold E cs x :: l) := h.dup hk e
theorem Ctx.rz {α : Type} {m : Nat} {E : PR α m} {xs : List α} {l : List HP} (h : Ctx w l) (k : Nat) {P : HP} {a : Option Addr} {n c : Nat} (hP : Reads P E (.slice a n c) xs) (hk : ltP l k = true := by exact rfl) (e : nthP l k = P := by exact rfl) : n = xs.length := (h.rdLen hk e hP).1
end
section
variable {P : Program} {n : Nat} {l : Fm} {b : Nat → Value} {w : World} {y : Operand} {ty t T : TypeId} {pos : String} {after : Array Edge} {g : Option (Nat × Bool)} {d : Nat} {L : List HP} {α : Type} {m : Nat} {E : PR α m} {xs : List α}
theorem Ctx.ra (h : Ctx w L) (k : Nat) {H : HP} {a : Option Addr} {n c : Nat} (hP : Reads H E (.slice a n c) xs) {i : Int} {x : α} (hx : idx xs i = some x) (hk : ltP L k = true := by exact rfl) (e : nthP L k = H := by exact rfl) : ∃ bb oo, a = some ⟨bb, oo, none⟩ ∧ 0 ≤ i ∧ i < n := Ctx.rdAt h hk e hP hx
theorem Ctx.rv (h : Ctx w L) (k : Nat) {f : α → List Value} {hl : ∀ x, (f x).length = m} {ho : ∀ x, (f x).all (·.oneCell') = true} {H : HP} {bb oo n c : Nat} (hP : Reads H (pC f hl ho) (.slice (some ⟨bb, oo, none⟩) n c) xs) {i : Int} {x : α} (hx : idx xs i = some x) (hk : ltP L k = true := by exact rfl) (e : nthP L k = H := by exact rfl) :
    ∀ (j : Nat) u, (f x)[j]? = some u → w.cell? ⟨bb, oo + i.toNat * m + j, none⟩ = some u := by
  obtain ⟨cs, h2, h3⟩ := Ctx.rdCell h hk e hP hx
  obtain ⟨rfl, _⟩ := Ctx.holdC h2
  exact h3
theorem nja {a i j : Nat} {p : Prop} (hj : Nat.testBit a j = false) (e : j = i) (h : Nat.testBit a i = true := by decide) : p := by subst e; rw [h] at hj; cases hj
theorem oneI {k : IntKind} {X : Int} {zv : Value} (h : Ctx w L) (hu : P.underlying t = some (.slice T)) (hs : ∀ w, (sizeOf T).run P w = .ok 1 w) (hz : ∀ w, (zeroValue T).run P w = .ok zv w) (hx : evo n l b y = some (.int k X) := by exact rfl) (hzs : Nat.beq zv.cells.size 1 = true := by exact rfl) :
    ∃ v' w', (execOp (ev n l b) ⟨some d, .buildSlice t 1 #[(0, y)], ty, pos, after, g⟩).run P w = .ok (.value v') w' ∧ ∃ a, v' = .slice a 1 1 ∧ Ctx w' (Own (pInt k) T (.slice a 1 1) [X] :: L) := by
  have he := evo_some hx
  refine Ctx.builtOp (css := [[.int k X]]) (xs := [X]) (E := pInt k) (Ctx.holdsC (f := fun x : Int => [.int k x]) (fun _ _ _ => rfl) h [X]) hu hs hz rfl ?_ rfl (by simpa using hzs) rfl rfl rfl rfl
  show [(ev n l b y).cells.toList] = _
  rw [he]; rfl
theorem Ctx.ap (h : Ctx w L) (k k2 : Nat) {v u : Value} {ys : List α} {H : HP} (hQ : Reads H E u ys) {zv : Value} (ht : P.underlying t = some (.slice T)) (i : TypeInfo) (hg : xs.length + ys.length ≤ 4294967296) {x y : Operand} {n : Nat} {l : Fm} {b : Nat → Value}
    (hk : ltP L k = true := by exact rfl) (e : nthP L k = Own E T v xs := by exact rfl) (hk2 : ltP L k2 = true := by exact rfl) (e2 : nthP L k2 = H := by exact rfl) (hi : P.info? T = some i := by exact rfl) (hz : i.zero = some zv := by exact rfl) (hsize : i.size = m := by exact rfl) (hby : Nat.ble i.bytes 32768 = true := by exact rfl) (hzs : zv.cells.size = m := by exact rfl) (hsz : Nat.blt 0 m = true := by exact rfl)
    (hx : ev n l b x = v := by exact rfl) (hy : ev n l b y = u := by exact rfl) :
    ∃ v' w', (execOp (ev n l b) ⟨some d, .call ⟨.builtin .append, #[x, y], #[t, t]⟩, ty, pos, after, g⟩).run P w = .ok (.value v') w' ∧ ∃ a c, v' = .slice a (xs ++ ys).length c ∧ Ctx w' (setP L k (Own E T v' (xs ++ ys))) :=
  Ctx.append h hk e hk2 e2 hQ ht hi hz hsize hby hzs hsz hx hy hg
end
end Go.Hp
end
section
namespace Go.Hp
open Go Go.RowKit
set_option linter.unusedVariables false
section
variable {P : Program} {ρ : Operand → Value} {w : World} {dst : Option Nat} {ty : TypeId} {pos : String} {after : Array Edge} {g : Option (Nat × Bool)} {x y c : Operand}
variable {α β : Type} {m m2 : Nat} {E : PR α m} {F : PR β m2} {T : TypeId} {xs : List α} {l : List HP} {k : Nat}
end
theorem idx_one {α β : Type} {x y : α} {h : β} {i : Int} (e : idx [x] i = some y) : idx [h] i = some h := by
  obtain ⟨h0, h1, _⟩ := idx_some e
  have : i = 0 := by simp at h1; omega
  subst this
  rfl
end Go.Hp
end
