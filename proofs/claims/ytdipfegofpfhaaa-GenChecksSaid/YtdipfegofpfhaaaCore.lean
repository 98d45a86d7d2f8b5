/- Frames as lists, and the walk's rules over them: small laws over any program. -/
import Derived.Test.YtdipfegofpfhaaaDraw
import Derived.Test.YtdipfegofpfhaaaHp
import Derived.LoopN
set_option linter.unusedVariables false
namespace Go.Hp
open Go Go.RowKit

abbrev Fm := List (Nat × Value)
def look : Fm → (Nat → Value) → Nat → Value
  | [], b, i => b i
  | (k, v) :: l, b, i => match Nat.beq i k with | true => v | false => look l b i
def act (n : Nat) (l : Fm) (b : Nat → Value) : Act := { tmps := Array.ofFn (n := n) fun i => look l b i, defers := [] }
def ev (n : Nat) (l : Fm) (b : Nat → Value) : Operand → Value
  | .tmp i => match Nat.blt i n with | true => look l b i | false => undef
  | .const v => v
  | .global g => .pointer (some ⟨g, 0, none⟩)
  | .func f => .func (.func f) #[] #[]
def putF : Option Nat → Value → Fm → Fm
  | some d, v, l => (d, v) :: l
  | none, _, l => l
def nthD : List Oper → Nat → Option Nat
  | [], _ => none
  | o :: _, 0 => o.dst
  | _ :: l, j + 1 => nthD l j
theorem nthD_eq : ∀ (l : List Oper) (j : Nat), nthD l j = (l.toArray[j]?).bind (·.dst)
  | [], j => by simp [nthD]
  | o :: l, 0 => by simp [nthD]
  | o :: l, j + 1 => by rw [nthD, nthD_eq l j]; simp
def want (n : Nat) (ops : List Oper) (l : Fm) (b : Nat → Value) (o : Oper) : Bool :=
  match o.guard with
  | none => true
  | some (j, x) => match nthD ops j with
    | some d => (match ev n l b (.tmp d) with | .bool y => (match x, y with | true, true => true | false, false => true | _, _ => false) | _ => false)
    | none => false

theorem blt_f {i n : Nat} (h : ¬ i < n) : Nat.blt i n = false := by rw [← Bool.not_eq_true, Nat.blt_eq]; exact h
theorem beq_f {i n : Nat} (h : ¬ i = n) : Nat.beq i n = false := by rw [← Bool.not_eq_true, Nat.beq_eq]; exact h
theorem act_eval (n : Nat) (l : Fm) (b : Nat → Value) : (act n l b).eval = ev n l b := by
  funext x
  cases x with
  | tmp i =>
    simp only [Act.eval, act, ev]
    by_cases h : i < n
    · rw [show Nat.blt i n = true by simpa using h]; simp [h]
    · rw [blt_f h]; simp [h]
  | _ => rfl
theorem look_put (d : Nat) (v : Value) (l : Fm) (b : Nat → Value) (i : Nat) : look ((d, v) :: l) b i = if i = d then v else look l b i := by
  simp only [look]
  by_cases h : i = d
  · subst h; rw [show Nat.beq i i = true by simp]; simp
  · rw [beq_f h]; simp [h]
theorem act_put (n : Nat) (l : Fm) (b : Nat → Value) (d : Option Nat) (v : Value) : (act n l b).put d v = act n (putF d v l) b := by
  cases d with
  | none => rfl
  | some d =>
    simp only [Act.put, act, putF, Act.mk.injEq, and_true]
    apply Array.ext
    · simp
    · intro i h1 h2
      simp only [Array.size_setIfInBounds, Array.size_ofFn] at h1
      rw [Array.getElem_setIfInBounds (by simpa using h1)]
      simp only [Array.getElem_ofFn, look_put]
      by_cases h : d = i
      · subst h; simp
      · rw [if_neg h, if_neg (fun e => h e.symm)]
theorem want_act (n : Nat) (ops : List Oper) (l : Fm) (b : Nat → Value) (o : Oper) : Region.wanted o (yielded ops.toArray (act n l b).tmps) = want n ops l b o := by
  unfold Region.wanted want
  cases o.guard with
  | none => rfl
  | some p =>
    obtain ⟨j, x⟩ := p
    simp only [yielded, nthD_eq]
    cases (ops.toArray[j]?).bind (·.dst) with
    | none => simp
    | some d =>
      simp only [Option.bind_some]
      by_cases h : d < n
      · have : (act n l b).tmps[d]? = some (look l b d) := by simp [act, h]
        rw [this]
        simp only [ev]
        rw [show Nat.blt d n = true by simpa using h]
        cases look l b d <;> simp
        rename_i y
        cases x <;> cases y <;> rfl
      · have : (act n l b).tmps[d]? = none := Array.getElem?_eq_none (by simp only [act, Array.size_ofFn]; exact Nat.le_of_not_lt h)
        rw [this]
        simp only [ev]
        rw [blt_f h]
        simp [undef]
theorem act_congr (n : Nat) {l l' : Fm} {b b' : Nat → Value} (h : ∀ i, look l b i = look l' b' i) : act n l b = act n l' b' := by
  simp only [act, h]

abbrev Qt := Exit → Fm → (Nat → Value) → World → Prop
def lift (n : Nat) (Q : Qt) : Exit → Act → World → Prop := fun e a w => ∃ l b, a = act n l b ∧ Q e l b w
structure Wp (P : Program) (n : Nat) (c : Code) (Q : Qt) (l : Fm) (b : Nat → Value) (w : World) : Prop where
  h : c.wp P (lift n Q) (act n l b) w
def thenQ (J : Fm → (Nat → Value) → World → Prop) (Q : Qt) : Qt
  | .normal, l, b, w => J l b w
  | e, l, b, w => Q e l b w
def blkQ (id : Nat) (Q : Qt) : Qt
  | .exit id', l, b, w => if id' = id then Q .normal l b w else Q (.exit id') l b w
  | e, l, b, w => Q e l b w

section
variable {P : Program} {n : Nat} {Q : Qt} {l : Fm} {b : Nat → Value} {w : World}
theorem Wseq {x y : Code} (h : Wp P n x (thenQ (Wp P n y Q) Q) l b w) : Wp P n (.seq x y) Q l b w :=
  ⟨wp_seq (wp_mono h.h fun e a w ⟨l, b, ha, hq⟩ => by cases e <;> first | (subst ha; exact hq.h) | exact ⟨l, b, ha, hq⟩)⟩
theorem Wct {c : Operand} {x y : Code} (hc : ev n l b c = .bool true) (h : Wp P n x Q l b w) : Wp P n (.cond c x y) Q l b w := ⟨wp_cond_true (by rw [act_eval]; exact hc) h.h⟩
theorem Wcf {c : Operand} {x y : Code} (hc : ev n l b c = .bool false) (h : Wp P n y Q l b w) : Wp P n (.cond c x y) Q l b w := ⟨wp_cond_false (by rw [act_eval]; exact hc) h.h⟩
theorem Wcs {c : Operand} {x y : Code} {t : Bool} (hc : ev n l b c = .bool t) (h : t = true → Wp P n x Q l b w) (h' : t = false → Wp P n y Q l b w) : Wp P n (.cond c x y) Q l b w := by
  cases t
  · exact Wcf hc (h' rfl)
  · exact Wct hc (h rfl)
theorem Wblk {id : Nat} {c : Code} (h : Wp P n c (blkQ id Q) l b w) : Wp P n (.block id c) Q l b w :=
  ⟨wp_block (wp_mono h.h fun e a w ⟨l, b, ha, hq⟩ => by
    cases e <;> first | exact ⟨l, b, ha, hq⟩ | skip
    rename_i id'
    simp only [Exit.inBlock, blkQ] at hq ⊢
    split at hq
    · rename_i h; rw [if_pos h]; exact ⟨l, b, ha, hq⟩
    · rename_i h; rw [if_neg h]; exact ⟨l, b, ha, hq⟩)⟩
theorem Wskip (h : Q .normal l b w) : Wp P n .skip Q l b w := ⟨wp_skip ⟨l, b, rfl, h⟩⟩
theorem Wexit {id : Nat} (h : Q (.exit id) l b w) : Wp P n (.exit id) Q l b w := ⟨wp_exit ⟨l, b, rfl, h⟩⟩
theorem Wret (h : Q .ret l b w) : Wp P n .ret Q l b w := ⟨wp_ret ⟨l, b, rfl, h⟩⟩
-- how an exit goes out
theorem qn {J : Fm → (Nat → Value) → World → Prop} (h : J l b w) : thenQ J Q .normal l b w := h
theorem qx {J : Fm → (Nat → Value) → World → Prop} {i : Nat} (h : Q (.exit i) l b w) : thenQ J Q (.exit i) l b w := h
theorem qr {J : Fm → (Nat → Value) → World → Prop} (h : Q .ret l b w) : thenQ J Q .ret l b w := h
theorem bn {id : Nat} (h : Q .normal l b w) : blkQ id Q .normal l b w := h
theorem be {id : Nat} (h : Q .normal l b w) : blkQ id Q (.exit id) l b w := by simpa [blkQ] using h
theorem bx {id i : Nat} (hi : Nat.beq i id = false) (h : Q (.exit i) l b w) : blkQ id Q (.exit i) l b w := by
  have : ¬ i = id := by rw [← Nat.beq_eq, hi]; simp
  simpa [blkQ, this] using h
theorem br {id : Nat} (h : Q .ret l b w) : blkQ id Q .ret l b w := h
/-- What holds where two ways meet. -/
theorem Wcut {x : Code} {J : Fm → (Nat → Value) → World → Prop} (h : Wp P n x (thenQ J Q) l b w) (k : ∀ l b w, J l b w → Q .normal l b w) : Wp P n x Q l b w :=
  ⟨wp_mono h.h fun e a w ⟨l, b, ha, hq⟩ => by cases e <;> first | exact ⟨l, b, ha, k _ _ _ hq⟩ | exact ⟨l, b, ha, hq⟩⟩
theorem Wseq' {x y : Code} {J : Fm → (Nat → Value) → World → Prop} (h : Wp P n x (thenQ J Q) l b w) (k : ∀ l b w, J l b w → Wp P n y Q l b w) : Wp P n (.seq x y) Q l b w :=
  Wseq ⟨wp_mono h.h fun e a w ⟨l, b, ha, hq⟩ => by cases e <;> first | exact ⟨l, b, ha, k _ _ _ hq⟩ | exact ⟨l, b, ha, hq⟩⟩

-- loops
def mix (mods : List Nat) (u t : Nat → Value) (i : Nat) : Value := match mods.contains i with | true => u i | false => t i
theorem rounds_mono {c : Code} {Q : Exit → Act → World → Prop} : ∀ (N : Nat) (a : Act) (w : World), Code.rounds P c Q N a w → Code.rounds P c Q (N + 1) a w
  | 0, _, _, h => h.elim
  | N + 1, a, w, h => by
    rw [rounds_succ] at h ⊢
    exact wp_mono h fun e a w hq => by cases e <;> first | exact rounds_mono N a w hq | exact hq
theorem rounds_le {c : Code} {Q : Exit → Act → World → Prop} {N M : Nat} (hNM : N ≤ M) {a : Act} {w : World} (h : Code.rounds P c Q N a w) : Code.rounds P c Q M a w := by
  induction M with
  | zero => obtain rfl : N = 0 := by omega
            exact h
  | succ M ih =>
    rcases Nat.lt_or_ge N (M + 1) with h1 | h1
    · exact rounds_mono _ _ _ (ih (by omega))
    · obtain rfl : N = M + 1 := by omega
      exact h
theorem look_zip (slots : List Nat) (t : Nat → Value) (c : Nat → Value) (hc : ∀ i, i ∉ slots → c i = t i) (i : Nat) : look (slots.zip (slots.map t)) c i = t i := by
  induction slots generalizing i with
  | nil => exact hc i (by simp)
  | cons s ss ih =>
    rw [List.map_cons, List.zip_cons_cons, look_put]
    split
    · rename_i h; rw [h]
    · rename_i h
      clear ih
      -- by the rest, over a base that agrees outside
      have : ∀ (ss : List Nat), (∀ i, i ∉ s :: ss → c i = t i) → i ≠ s → look (ss.zip (ss.map t)) c i = t i := by
        intro ss
        induction ss with
        | nil => intro hc hi; exact hc i (by simp [hi])
        | cons x xs ih2 =>
          intro hc hi
          rw [List.map_cons, List.zip_cons_cons, look_put]
          split
          · rename_i h; rw [h]
          · rename_i hx
            clear ih2
            have aux : ∀ (xs : List Nat) , (∀ i', i' = i → i' ∉ xs → c i' = t i') → look (xs.zip (xs.map t)) c i = t i := by
              intro xs
              induction xs with
              | nil => intro h; exact h i rfl (by simp)
              | cons y ys ih3 =>
                intro h
                rw [List.map_cons, List.zip_cons_cons, look_put]
                split
                · rename_i h; rw [h]
                · rename_i hy
                  exact ih3 fun i' e hn => h i' e (by subst e; simp [hy, hn])
            exact aux xs fun i' e hn => hc i' (by subst e; simp [hi, hx, hn])
      exact this ss hc h
def LoopEnd (mods slots : List Nat) (t : Nat → Value) (J : Nat → List Value → World → Prop) (m : Nat) (l : Fm) (b : Nat → Value) (w : World) : Prop :=
  ∃ m', m' < m ∧ J m' (slots.map (look l b)) w ∧ ∀ i, mods.contains i = false → look l b i = t i
theorem Wloop (mods slots : List Nat) (J : Nat → List Value → World → Prop) (m0 : Nat) {c : Code} (h0 : J m0 (slots.map (look l b)) w)
    (hr : ∀ (m : Nat) (vs : List Value) (u : Nat → Value) (w' : World), J m vs w' → Wp P n c (thenQ (LoopEnd mods slots (look l b) J m) Q) (slots.zip vs) (mix mods u (look l b)) w') : Wp P n (.loop c) Q l b w := by
  have key : ∀ (m : Nat) (t' : Nat → Value) (w' : World), (∀ i, mods.contains i = false → t' i = look l b i) → J m (slots.map t') w' → Code.rounds P c (lift n Q) (m + 1) (act n [] t') w' := by
    intro m
    induction m using Nat.strongRecOn with
    | _ m ih =>
      intro t' w' hk hJ
      have h := hr m _ t' w' hJ
      rw [rounds_succ]
      have ha : act n (slots.zip (slots.map t')) (mix mods t' (look l b)) = act n [] t' := act_congr n fun i => by
        rw [look_zip slots t' (mix mods t' (look l b)) (fun i hi => by
          unfold mix
          cases hc : mods.contains i
          · exact (hk i hc).symm
          · rfl) i]
        rfl
      replace h := h.h
      rw [ha] at h
      refine wp_mono h fun e a w ⟨l', b', hab, hq⟩ => ?_
      cases e with
      | normal =>
        obtain ⟨m', hlt, hJ', hk'⟩ := hq
        have := ih m' hlt (look l' b') w hk' hJ'
        subst hab
        exact rounds_le (by omega) this
      | _ => exact ⟨l', b', hab, hq⟩
  exact ⟨wp_loop_rounds (m0 + 1) (key m0 (look l b) w (fun _ _ => rfl) h0)⟩
/-- What holds where the ways through x meet: the slots that x writes, those named, the rest as it was. -/
theorem Wseqm (mods slots : List Nat) (J : List Value → World → Prop) {x y : Code} (h : Wp P n x (thenQ (fun l' b' w' => J (slots.map (look l' b')) w' ∧ ∀ i, mods.contains i = false → look l' b' i = look l b i) Q) [] (look l b) w)
    (k : ∀ (vs : List Value) (u : Nat → Value) (w' : World), J vs w' → Wp P n y Q (slots.zip vs) (mix mods u (look l b)) w') : Wp P n (.seq x y) Q l b w := by
  refine Wseq ⟨?_⟩
  have h0 : act n [] (look l b) = act n l b := act_congr n fun i => rfl
  have h1 := h.h
  rw [h0] at h1
  refine wp_mono h1 fun e a w' ⟨l', b', ha, hq⟩ => ?_
  cases e with
  | normal =>
    obtain ⟨hJ, hk⟩ := hq
    refine ⟨slots.zip (slots.map (look l' b')), mix mods (look l' b') (look l b), ?_, k _ _ _ hJ⟩
    rw [ha]
    refine act_congr n fun i => ?_
    rw [look_zip slots (look l' b') (mix mods (look l' b') (look l b)) (fun i hi => by
      unfold mix
      cases hc : mods.contains i
      · exact (hk i hc).symm
      · rfl) i]
  | _ => exact ⟨l', b', ha, hq⟩
theorem kb {mods : List Nat} {t : Nat → Value} : ∀ i, mods.contains i = false → look [] t i = t i := fun _ _ => rfl
theorem k0 {mods : List Nat} {u t : Nat → Value} : ∀ i, mods.contains i = false → look [] (mix mods u t) i = t i := by
  intro i hi
  simp only [look, mix, hi]
theorem kl {mods : List Nat} {t : Nat → Value} {l : Fm} {b : Nat → Value} (h : l.all (fun p => mods.contains p.1) = true) (hb : ∀ i, mods.contains i = false → look [] b i = t i) :
    ∀ i, mods.contains i = false → look l b i = t i := by
  induction l with
  | nil => exact hb
  | cons p l ih =>
    intro i hi
    obtain ⟨k, v⟩ := p
    simp only [List.all_cons, Bool.and_eq_true] at h
    rw [look_put, if_neg (fun e => by subst e; rw [h.1] at hi; cases hi)]
    exact ih h.2 i hi
theorem km {mods mods2 : List Nat} {u t : Nat → Value} {l : Fm} {b : Nat → Value} (h : mods2.all (mods.contains ·) = true) (hb : ∀ i, mods.contains i = false → look l b i = t i) :
    ∀ i, mods.contains i = false → look [] (mix mods2 u (look l b)) i = t i := by
  intro i hi
  show mix mods2 u (look l b) i = t i
  unfold mix
  cases hc : mods2.contains i
  · exact hb i hi
  · exfalso
    have := List.all_eq_true.1 h i (by simpa using hc)
    rw [hi] at this; cases this

-- regions
structure Rg (P : Program) (n : Nat) (ops : List Oper) (Q : Qt) (rest : List Oper) (l : Fm) (b : Nat → Value) (w : World) : Prop where
  h : wpList P ops.toArray (lift n Q) rest (act n l b) w
theorem Wreg {id : Nat} {ops : List Oper} (h : Rg P n ops Q ops l b w) : Wp P n (.region id ops.toArray false) Q l b w := ⟨wp_region_lit h.h⟩
section
variable {ops : List Oper} {rest : List Oper} {o : Oper}
theorem rn (h : Q .normal l b w) : Rg P n ops Q [] l b w := ⟨⟨l, b, rfl, h⟩⟩
variable {op : Op} {ty : TypeId} {pos : String} {after : Array Edge} {g : Option (Nat × Bool)} {d : Nat}
/-- One operation that yields a value. -/
theorem rs {v : Value} {w' : World} (h : (execOp (ev n l b) ⟨some d, op, ty, pos, after, g⟩).run P w = .ok (.value v) w') (hw : want n ops l b ⟨some d, op, ty, pos, after, g⟩ = true) (k : Rg P n ops Q rest ((d, v) :: l) b w') : Rg P n ops Q (⟨some d, op, ty, pos, after, g⟩ :: rest) l b w := by
  refine ⟨?_⟩
  unfold wpList
  rw [want_act, hw, if_pos rfl]
  refine .inl ?_
  unfold Oper.wp
  rw [act_eval, h, Oper.upon_value, act_put]
  exact k.h
/-- .. a Bool: its two ways. -/
theorem rsb {t : Bool} {w' : World} (h : (execOp (ev n l b) ⟨some d, op, ty, pos, after, g⟩).run P w = .ok (.value (.bool t)) w') (hw : want n ops l b ⟨some d, op, ty, pos, after, g⟩ = true)
    (k : t = true → Rg P n ops Q rest ((d, .bool true) :: l) b w') (k' : t = false → Rg P n ops Q rest ((d, .bool false) :: l) b w') : Rg P n ops Q (⟨some d, op, ty, pos, after, g⟩ :: rest) l b w := by
  refine rs h hw ?_
  cases t
  · exact k' rfl
  · exact k rfl
theorem rsc {p : Prop} [Decidable p] {w' : World} (h : (execOp (ev n l b) ⟨some d, op, ty, pos, after, g⟩).run P w = .ok (.value (.bool (decide p))) w') (hw : want n ops l b ⟨some d, op, ty, pos, after, g⟩ = true)
    (k : p → Rg P n ops Q rest ((d, .bool true) :: l) b w') (k' : ¬ p → Rg P n ops Q rest ((d, .bool false) :: l) b w') : Rg P n ops Q (⟨some d, op, ty, pos, after, g⟩ :: rest) l b w :=
  rsb h hw (fun e => k (of_decide_eq_true e)) (fun e => k' (of_decide_eq_false e))
/-- .. that yields nothing. -/
theorem ru {w' : World} (h : (execOp (ev n l b) ⟨none, op, ty, pos, after, g⟩).run P w = .ok .skip w') (hw : want n ops l b ⟨none, op, ty, pos, after, g⟩ = true) (k : Rg P n ops Q rest l b w') : Rg P n ops Q (⟨none, op, ty, pos, after, g⟩ :: rest) l b w := by
  refine ⟨?_⟩
  unfold wpList
  rw [want_act, hw, if_pos rfl]
  refine .inl ?_
  unfold Oper.wp
  rw [act_eval, h, Oper.upon_skip, act_put]
  exact k.h
theorem r0 (hw : want n ops l b ⟨some d, op, ty, pos, after, g⟩ = false) (k : Rg P n ops Q rest ((d, undef) :: l) b w) : Rg P n ops Q (⟨some d, op, ty, pos, after, g⟩ :: rest) l b w := by
  refine ⟨?_⟩
  unfold wpList
  rw [want_act, hw, if_neg (by simp), act_put]
  exact k.h
theorem r0n (hw : want n ops l b ⟨none, op, ty, pos, after, g⟩ = false) (k : Rg P n ops Q rest l b w) : Rg P n ops Q (⟨none, op, ty, pos, after, g⟩ :: rest) l b w := by
  refine ⟨?_⟩
  unfold wpList
  rw [want_act, hw, if_neg (by simp), act_put]
  exact k.h
def Ret (K : Value → World → Prop) : Ending → World → Prop := fun e w => ∃ v, e = .returned v ∧ K v w
theorem cmono {f : FuncId} {args : Array Value} {w : World} {K K' : Value → World → Prop} (h : Calls P f args w (Ret K)) (k : ∀ v w', K v w' → K' v w') : Calls P f args w (Ret K') :=
  h.mono fun _ _ ⟨v, he, hk⟩ => ⟨v, he, k _ _ hk⟩
theorem rc {f : FuncId} {args : Array Value} {w' : World} (h : (execOp (ev n l b) ⟨some d, op, ty, pos, after, g⟩).run P w = .ok (.enter f args) w') (hw : want n ops l b ⟨some d, op, ty, pos, after, g⟩ = true)
    (k : Calls P f args w' (Ret fun v w'' => Rg P n ops Q rest ((d, v) :: l) b w'')) : Rg P n ops Q (⟨some d, op, ty, pos, after, g⟩ :: rest) l b w := by
  refine ⟨?_⟩
  unfold wpList
  rw [want_act, hw, if_pos rfl]
  refine .inl ?_
  unfold Oper.wp
  rw [act_eval, h, Oper.upon_enter]
  refine k.mono fun e w ⟨v, he, hk⟩ => ?_
  subst he
  simp only [act_put]
  exact hk.h
theorem rcn {f : FuncId} {args : Array Value} {w' : World} (h : (execOp (ev n l b) ⟨none, op, ty, pos, after, g⟩).run P w = .ok (.enter f args) w') (hw : want n ops l b ⟨none, op, ty, pos, after, g⟩ = true)
    (k : Calls P f args w' (Ret fun v w'' => Rg P n ops Q rest l b w'')) : Rg P n ops Q (⟨none, op, ty, pos, after, g⟩ :: rest) l b w := by
  refine ⟨?_⟩
  unfold wpList
  rw [want_act, hw, if_pos rfl]
  refine .inl ?_
  unfold Oper.wp
  rw [act_eval, h, Oper.upon_enter]
  refine k.mono fun e w ⟨v, he, hk⟩ => ?_
  subst he
  simp only [act_put]
  exact hk.h

-- drawing regions
structure Rd (P : Program) (n : Nat) (ops : List Oper) (bm : List Nat) (em : Nat) (G : Nat → World → Prop) (xm : Nat) (Q : Qt) (i : Nat) (rest : List Oper) (l : Fm) (b : Nat → Value) (w : World) : Prop where
  h : wpF P ops.toArray bm em xm (fun a w => lift n Q .normal a w) i rest G (act n l b) w
theorem Wdrw (G : Nat → World → Prop) (bm : List Nat) (em : Nat) (xm : Nat) {id : Nat} {ops : List Oper} (hm : P.follows .mixedOrders = true) (hB : lexX ops.toArray bm xm = true) (hF : ∀ j, free bm em j = true → G j w.drew) (h : Rd P n ops bm em G xm Q 0 ops l b w.drew) : Wp P n (.region id ops.toArray true) Q l b w :=
  ⟨wp_region_F bm em xm hm hB hF h.h⟩
variable {G : Nat → World → Prop} {bm : List Nat} {em xm i : Nat}
theorem dn (h : Q .normal l b w) : Rd P n ops bm em G xm Q i [] l b w := ⟨⟨l, b, rfl, h⟩⟩
theorem ds {v : Value} (hz : em.testBit i = false) (h : ∀ w', G i w' → (execOp (ev n l b) ⟨some d, op, ty, pos, after, g⟩).run P w' = .ok (.value v) w') (hw : want n ops l b ⟨some d, op, ty, pos, after, g⟩ = true) (k : Rd P n ops bm em G xm Q (i + 1) rest ((d, v) :: l) b w) : Rd P n ops bm em G xm Q i (⟨some d, op, ty, pos, after, g⟩ :: rest) l b w :=
  ⟨.inl ⟨v, .inl ⟨by rw [want_act]; exact hw, fun w hF => by rw [act_eval]; exact h w hF⟩, .inl hz, by rw [act_put]; exact k.h⟩⟩
/-- .. in this very world. -/
theorem dx {v : Value} (hz : em.testBit i = false) (h : (execOp (ev n l b) ⟨some d, op, ty, pos, after, g⟩).run P w = .ok (.value v) w) (hw : want n ops l b ⟨some d, op, ty, pos, after, g⟩ = true) (hx : xm.testBit i = true) (k : Rd P n ops bm em G xm Q (i + 1) rest ((d, v) :: l) b w) : Rd P n ops bm em G xm Q i (⟨some d, op, ty, pos, after, g⟩ :: rest) l b w :=
  ⟨.inr (.inr ⟨hx, hz, v, .inl ⟨by rw [want_act]; exact hw, by rw [act_eval]; exact h⟩, by rw [act_put]; exact k.h⟩)⟩
theorem dsb {t : Bool} (hz : em.testBit i = false) (h : ∀ w', G i w' → (execOp (ev n l b) ⟨some d, op, ty, pos, after, g⟩).run P w' = .ok (.value (.bool t)) w') (hw : want n ops l b ⟨some d, op, ty, pos, after, g⟩ = true)
    (k : t = true → Rd P n ops bm em G xm Q (i + 1) rest ((d, .bool true) :: l) b w) (k' : t = false → Rd P n ops bm em G xm Q (i + 1) rest ((d, .bool false) :: l) b w) : Rd P n ops bm em G xm Q i (⟨some d, op, ty, pos, after, g⟩ :: rest) l b w := by
  refine ds hz h hw ?_
  cases t
  · exact k' rfl
  · exact k rfl
theorem dsc {p : Prop} [Decidable p] (hz : em.testBit i = false) (h : ∀ w', G i w' → (execOp (ev n l b) ⟨some d, op, ty, pos, after, g⟩).run P w' = .ok (.value (.bool (decide p))) w') (hw : want n ops l b ⟨some d, op, ty, pos, after, g⟩ = true)
    (k : p → Rd P n ops bm em G xm Q (i + 1) rest ((d, .bool true) :: l) b w) (k' : ¬ p → Rd P n ops bm em G xm Q (i + 1) rest ((d, .bool false) :: l) b w) : Rd P n ops bm em G xm Q i (⟨some d, op, ty, pos, after, g⟩ :: rest) l b w :=
  dsb hz h hw (fun e => k (of_decide_eq_true e)) (fun e => k' (of_decide_eq_false e))
theorem d0 (hz : em.testBit i = false) (hw : want n ops l b ⟨some d, op, ty, pos, after, g⟩ = false) (k : Rd P n ops bm em G xm Q (i + 1) rest ((d, undef) :: l) b w) : Rd P n ops bm em G xm Q i (⟨some d, op, ty, pos, after, g⟩ :: rest) l b w :=
  ⟨.inl ⟨undef, .inr ⟨by rw [want_act]; exact hw, rfl⟩, .inl hz, by rw [act_put]; exact k.h⟩⟩
theorem d0n (hz : em.testBit i = false) (hw : want n ops l b ⟨none, op, ty, pos, after, g⟩ = false) (k : Rd P n ops bm em G xm Q (i + 1) rest l b w) : Rd P n ops bm em G xm Q i (⟨none, op, ty, pos, after, g⟩ :: rest) l b w :=
  ⟨.inl ⟨undef, .inr ⟨by rw [want_act]; exact hw, rfl⟩, .inl hz, by rw [act_put]; exact k.h⟩⟩
theorem d0e (hz : effB op = true) (hF : FX bm em G i w) (hw : want n ops l b ⟨some d, op, ty, pos, after, g⟩ = false) (k : Rd P n ops bm em G xm Q (i + 1) rest ((d, undef) :: l) b w) : Rd P n ops bm em G xm Q i (⟨some d, op, ty, pos, after, g⟩ :: rest) l b w :=
  ⟨.inl ⟨undef, .inr ⟨by rw [want_act]; exact hw, rfl⟩, .inr ⟨hz, hF⟩, by rw [act_put]; exact k.h⟩⟩
theorem d0ne (hz : effB op = true) (hF : FX bm em G i w) (hw : want n ops l b ⟨none, op, ty, pos, after, g⟩ = false) (k : Rd P n ops bm em G xm Q (i + 1) rest l b w) : Rd P n ops bm em G xm Q i (⟨none, op, ty, pos, after, g⟩ :: rest) l b w :=
  ⟨.inl ⟨undef, .inr ⟨by rw [want_act]; exact hw, rfl⟩, .inr ⟨hz, hF⟩, by rw [act_put]; exact k.h⟩⟩
theorem de {v : Value} {w' : World} (h : (execOp (ev n l b) ⟨some d, op, ty, pos, after, g⟩).run P w = .ok (.value v) w') (hw : want n ops l b ⟨some d, op, ty, pos, after, g⟩ = true) (he : effB op = true) (hF : FX bm em G i w') (k : Rd P n ops bm em G xm Q (i + 1) rest ((d, v) :: l) b w') : Rd P n ops bm em G xm Q i (⟨some d, op, ty, pos, after, g⟩ :: rest) l b w :=
  ⟨.inr (.inl ⟨he, by rw [want_act]; exact hw, by rw [act_eval, h]; exact ⟨G, Agree.rfl', hF, by rw [act_put]; exact k.h⟩⟩)⟩
theorem du {w' : World} (h : (execOp (ev n l b) ⟨none, op, ty, pos, after, g⟩).run P w = .ok .skip w') (hw : want n ops l b ⟨none, op, ty, pos, after, g⟩ = true) (he : effB op = true) (hF : FX bm em G i w') (k : Rd P n ops bm em G xm Q (i + 1) rest l b w') : Rd P n ops bm em G xm Q i (⟨none, op, ty, pos, after, g⟩ :: rest) l b w :=
  ⟨.inr (.inl ⟨he, by rw [want_act]; exact hw, by rw [act_eval, h]; exact ⟨G, Agree.rfl', hF, by rw [act_put]; exact k.h⟩⟩)⟩
theorem dc {f : FuncId} {args : Array Value} {w' : World} (h : (execOp (ev n l b) ⟨some d, op, ty, pos, after, g⟩).run P w = .ok (.enter f args) w') (hw : want n ops l b ⟨some d, op, ty, pos, after, g⟩ = true) (he : effB op = true)
    (k : Calls P f args w' (Ret fun v w'' => FX bm em G i w'' ∧ Rd P n ops bm em G xm Q (i + 1) rest ((d, v) :: l) b w'')) : Rd P n ops bm em G xm Q i (⟨some d, op, ty, pos, after, g⟩ :: rest) l b w :=
  ⟨.inr (.inl ⟨he, by rw [want_act]; exact hw, by rw [act_eval, h]; exact k.mono fun e w ⟨v, hv, hF, hk⟩ => ⟨v, hv, G, Agree.rfl', hF, by rw [act_put]; exact hk.h⟩⟩)⟩
theorem dcn {f : FuncId} {args : Array Value} {w' : World} (h : (execOp (ev n l b) ⟨none, op, ty, pos, after, g⟩).run P w = .ok (.enter f args) w') (hw : want n ops l b ⟨none, op, ty, pos, after, g⟩ = true) (he : effB op = true)
    (k : Calls P f args w' (Ret fun v w'' => FX bm em G i w'' ∧ Rd P n ops bm em G xm Q (i + 1) rest l b w'')) : Rd P n ops bm em G xm Q i (⟨none, op, ty, pos, after, g⟩ :: rest) l b w :=
  ⟨.inr (.inl ⟨he, by rw [want_act]; exact hw, by rw [act_eval, h]; exact k.mono fun e w ⟨v, hv, hF, hk⟩ => ⟨v, hv, G, Agree.rfl', hF, by rw [act_put]; exact hk.h⟩⟩)⟩
theorem dcG {f : FuncId} {args : Array Value} {w' : World} (h : (execOp (ev n l b) ⟨some d, op, ty, pos, after, g⟩).run P w = .ok (.enter f args) w') (hw : want n ops l b ⟨some d, op, ty, pos, after, g⟩ = true) (he : effB op = true)
    (k : Calls P f args w' (Ret fun v w'' => ∃ G', Agree bm i G G' ∧ FX bm em G' i w'' ∧ Rd P n ops bm em G' xm Q (i + 1) rest ((d, v) :: l) b w'')) : Rd P n ops bm em G xm Q i (⟨some d, op, ty, pos, after, g⟩ :: rest) l b w :=
  ⟨.inr (.inl ⟨he, by rw [want_act]; exact hw, by rw [act_eval, h]; exact k.mono fun e w ⟨v, hv, G', hA, hF, hk⟩ => ⟨v, hv, G', hA, hF, by rw [act_put]; exact hk.h⟩⟩)⟩
theorem dcnG {f : FuncId} {args : Array Value} {w' : World} (h : (execOp (ev n l b) ⟨none, op, ty, pos, after, g⟩).run P w = .ok (.enter f args) w') (hw : want n ops l b ⟨none, op, ty, pos, after, g⟩ = true) (he : effB op = true)
    (k : Calls P f args w' (Ret fun v w'' => ∃ G', Agree bm i G G' ∧ FX bm em G' i w'' ∧ Rd P n ops bm em G' xm Q (i + 1) rest l b w'')) : Rd P n ops bm em G xm Q i (⟨none, op, ty, pos, after, g⟩ :: rest) l b w :=
  ⟨.inr (.inl ⟨he, by rw [want_act]; exact hw, by rw [act_eval, h]; exact k.mono fun e w ⟨v, hv, G', hA, hF, hk⟩ => ⟨v, hv, G', hA, hF, by rw [act_put]; exact hk.h⟩⟩)⟩
/-- A class more, of one that stands behind. -/
def upd (G : Nat → World → Prop) (J : Nat) (p : World → Prop) : Nat → World → Prop := fun j w => if j = J then p w else G j w
theorem upd_agree {bm : List Nat} {i J : Nat} {G G' : Nat → World → Prop} {p : World → Prop} (hA : Agree bm i G G') (h : (bm.getD J 0).testBit i = true) : Agree bm i G (upd G' J p) := fun j hj => by
  have hne : j ≠ J := fun e => by subst e; rw [h] at hj; cases hj
  rw [← hA j hj]
  funext w
  exact if_neg hne
theorem upd_of {G : Nat → World → Prop} {j J : Nat} {p : World → Prop} {w : World} (h1 : j = J → p w) (h2 : G j w) : upd G J p j w := by
  unfold upd
  split
  · rename_i e; exact h1 e
  · exact h2
theorem upd_at {G : Nat → World → Prop} {J : Nat} {p : World → Prop} {w : World} (h : upd G J p J w) : p w := by
  unfold upd at h
  rwa [if_pos rfl] at h
theorem upd_other {G : Nat → World → Prop} {j J : Nat} {p : World → Prop} {w : World} (h : upd G J p j w) (hne : Nat.beq j J = false) : G j w := by
  unfold upd at h
  rwa [if_neg (fun e => by rw [e, Nat.beq_refl] at hne; cases hne)] at h
/-- A call that turns nothing, in its place. -/
theorem dq {f : FuncId} {args : Array Value} {v : Value} (h : (execOp (ev n l b) ⟨some d, op, ty, pos, after, g⟩).run P w = .ok (.enter f args) w) (hw : want n ops l b ⟨some d, op, ty, pos, after, g⟩ = true) (he : effB op = true) (hF : FX bm em G i w)
    (k : Calls P f args w (Ret fun v' w'' => v' = v ∧ w = w'')) (k' : Rd P n ops bm em G xm Q (i + 1) rest ((d, v) :: l) b w) : Rd P n ops bm em G xm Q i (⟨some d, op, ty, pos, after, g⟩ :: rest) l b w :=
  dc h hw he (cmono k fun v' w'' ⟨hv, hw⟩ => by subst hv; subst hw; exact ⟨hF, k'⟩)
end

-- a function
def postQ (P : Program) (fn : Func) (R : Ending → World → Prop) : Qt
  | .normal, l, b, w | .ret, l, b, w => ∃ v, (results fn (act fn.ntmps l b).tmps).run P w = .ok v w ∧ R (.returned v) w
  | _, _, _, _ => False
def argsF : Nat → List Value → Fm
  | _, [] => []
  | i, v :: vs => (i, v) :: argsF (i + 1) vs
theorem look_argsF (b : Nat → Value) : ∀ (vs : List Value) (i j : Nat), look (argsF i vs) b j = if i ≤ j then (match vs[j - i]? with | some v => v | none => b j) else b j
  | [], i, j => by simp [argsF, look]
  | v :: vs, i, j => by
    rw [argsF, look_put, look_argsF b vs (i + 1) j]
    by_cases h : j = i
    · subst h; simp
    · rw [if_neg h]
      by_cases h1 : i ≤ j
      · rw [if_pos (by omega), if_pos h1, show j - i = (j - (i + 1)) + 1 by omega, List.getElem?_cons_succ]
      · rw [if_neg (by omega), if_neg h1]
theorem Center {f : FuncId} {fn : Func} {c : Code} {n : Nat} {args : List Value} {R : Ending → World → Prop} (hf : P.funcs[f]? = some fn) (hn : fn.ntmps = n) (hb : fn.body = some c) (hl : Nat.ble args.length n = true) {l : Fm} (hA : argsF 0 args = l)
    (h : Wp P n c (postQ P fn R) l (fun _ => undef) w) : Calls P f args.toArray w R := by
  subst hn hA
  replace hl := Nat.le_of_ble_eq_true hl
  refine calls_of_wp hf hb ?_
  have ha : act fn.ntmps (argsF 0 args) (fun _ => undef) = { tmps := args.toArray ++ Array.replicate (fn.ntmps - args.toArray.size) undef, defers := [] } := by
    simp only [act, Act.mk.injEq, and_true]
    apply Array.ext
    · simp; omega
    · intro i h1 h2
      simp only [Array.size_ofFn] at h1
      simp only [Array.getElem_ofFn, look_argsF]
      by_cases hi : i < args.length
      · rw [Array.getElem_append_left (by simpa using hi)]; simp [hi]
      · rw [Array.getElem_append_right (by simpa using hi)]; simp [hi]
  rw [← ha]
  exact wp_mono h.h fun e a w ⟨l, b, hab, hq⟩ => by
    subst hab
    cases e <;> first | exact ⟨rfl, hq⟩ | exact hq.elim
theorem f1 {fn : Func} {R : Ending → World → Prop} {r : Nat} {v : Value} (hr : fn.results = #[.tmp r]) (hn : fn.ntmps = n) (hv : ev n l b (.tmp r) = v) (h : R (.returned v) w) : postQ P fn R .ret l b w := by
  subst hn
  refine ⟨v, ?_, h⟩
  rw [results_tmp hr]
  congr 1
  have := congrFun (act_eval fn.ntmps l b) (.tmp r)
  rw [← hv, ← this]
  rfl
section
variable {fn : Func} {R : Ending → World → Prop} {r s : Nat} (hr : fn.results = #[.tmp r]) (hn : fn.ntmps = n)
include hr hn
theorem f1i {k : IntKind} {v : Int} (hv : ev n l b (.tmp r) = .int k v) (h : R (.returned (.int k v)) w) : postQ P fn R .ret l b w := f1 hr hn hv h
theorem f1b {v : Bool} (hv : ev n l b (.tmp r) = .bool v) (h : R (.returned (.bool v)) w) : postQ P fn R .ret l b w := f1 hr hn hv h
theorem f1p {v : Option Addr} (hv : ev n l b (.tmp r) = .pointer v) (h : R (.returned (.pointer v)) w) : postQ P fn R .ret l b w := f1 hr hn hv h
theorem f1s {v : Option Addr} {k c : Nat} (hv : ev n l b (.tmp r) = .slice v k c) (h : R (.returned (.slice v k c)) w) : postQ P fn R .ret l b w := f1 hr hn hv h
theorem f1g {v : Array Value} (hv : ev n l b (.tmp r) = .agg v) (h : R (.returned (.agg v)) w) : postQ P fn R .ret l b w := f1 hr hn hv h
theorem f1m {v : Option Nat} (hv : ev n l b (.tmp r) = .map v) (h : R (.returned (.map v)) w) : postQ P fn R .ret l b w := f1 hr hn hv h
theorem f1t {v : ByteArray} (hv : ev n l b (.tmp r) = .string v) (h : R (.returned (.string v)) w) : postQ P fn R .ret l b w := f1 hr hn hv h
end
theorem f2 {fn : Func} {R : Ending → World → Prop} {r s : Nat} {v u : Value} (hr : fn.results = #[.tmp r, .tmp s]) (hn : fn.ntmps = n) (hv : ev n l b (.tmp r) = v) (hu : ev n l b (.tmp s) = u) (h : R (.returned (.tuple #[v, u])) w) : postQ P fn R .ret l b w := by
  subst hn
  refine ⟨_, ?_, h⟩
  rw [results_tmp2 hr]
  have h1 := congrFun (act_eval fn.ntmps l b) (.tmp r)
  have h2 := congrFun (act_eval fn.ntmps l b) (.tmp s)
  rw [← hv, ← hu, ← h1, ← h2]
  rfl
theorem f0 {fn : Func} {R : Ending → World → Prop} (hr : fn.results = #[]) (h : R (.returned (.tuple #[])) w) : postQ P fn R .ret l b w := ⟨_, results_none hr _ _ _, h⟩
theorem f0n {fn : Func} {R : Ending → World → Prop} (hr : fn.results = #[]) (h : R (.returned (.tuple #[])) w) : postQ P fn R .normal l b w := ⟨_, results_none hr _ _ _, h⟩
end
end Go.Hp
