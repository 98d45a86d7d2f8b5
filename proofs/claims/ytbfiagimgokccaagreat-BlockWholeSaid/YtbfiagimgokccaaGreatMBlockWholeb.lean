/- What the law needs. -/
import Derived.Test.YtbfiagimgokccaaGreatMBlockWholea
section
namespace Go.Hp
open Go Go.RowKit
set_option linter.unusedVariables false
def lo : Fm → (Nat → Value) → Nat → Option Value
  | [], b, i => some (b i)
  | (k, v) :: l, b, i => match Nat.beq i k with | true => some v | false => lo l b i
def evo (n : Nat) (l : Fm) (b : Nat → Value) : Operand → Option Value
  | .tmp i => match Nat.blt i n with | true => lo l b i | false => none
  | .const v => some v
  | .global g => some (.pointer (some ⟨g, 0, none⟩))
  | .func f => some (.func (.func f) #[] #[])
theorem lo_some {b : Nat → Value} {i : Nat} {v : Value} : ∀ {l : Fm}, lo l b i = some v → look l b i = v
  | [], h => Option.some.inj h
  | (k, u) :: l, h => by
    unfold lo at h; unfold look
    cases c : Nat.beq i k with
    | true => rw [c] at h; exact Option.some.inj h
    | false => rw [c] at h; exact lo_some h
theorem evo_some {n : Nat} {l : Fm} {b : Nat → Value} : ∀ {x : Operand} {v : Value}, evo n l b x = some v → ev n l b x = v
  | .tmp i, v, h => by
    dsimp only [evo, ev] at h ⊢
    cases c : Nat.blt i n with
    | true => rw [c] at h; exact lo_some h
    | false => rw [c] at h; cases h
  | .const _, _, h => Option.some.inj h
  | .global _, _, h => Option.some.inj h
  | .func _, _, h => Option.some.inj h
def ieq : IntKind → IntKind → Bool
  | .i8, .i8 => true | .i16, .i16 => true | .i32, .i32 => true | .i64, .i64 => true | .u8, .u8 => true | .u16, .u16 => true | .u32, .u32 => true | .u64, .u64 => true | _, _ => false
theorem ieq_eq {a b : IntKind} (h : ieq a b = true) : a = b := by cases a <;> cases b <;> first | rfl | cases h
def nthV : List Value → Nat → Option Value
  | [], _ => none
  | v :: _, 0 => some v
  | _ :: l, i + 1 => nthV l i
theorem nthV_eq : ∀ {l : List Value} {i : Nat} {v : Value}, nthV l i = some v → l[i]? = some v
  | [], _, _, h => by cases h
  | _ :: _, 0, _, h => h
  | _ :: l, i + 1, _, h => by simpa using nthV_eq (l := l) h
def pbin (k : IntKind) (a b : Int) : BinOp → Option Value
  | .add => some (.int k (k.wrap (a + b)))
  | .sub => some (.int k (k.wrap (a - b)))
  | .mul => some (.int k (k.wrap (a * b)))
  | .lss => some (.bool (decide (a < b)))
  | .leq => some (.bool (decide (a ≤ b)))
  | .gtr => some (.bool (decide (a > b)))
  | .geq => some (.bool (decide (a ≥ b)))
  | .eql => some (.bool (decide (a = b)))
  | .neq => some (.bool (decide (¬ a = b)))
  | _ => none
def pur (ρ : Operand → Option Value) : Op → Option Value
  | .move x => ρ x
  | .assign x => ρ x
  | .nilCheck x => match ρ x with | some (.pointer (some a)) => some (.pointer (some a)) | _ => none
  | .extract x i => match ρ x with | some (.tuple ⟨vs⟩) => nthV vs i | _ => none
  | .pick c x y => match ρ c with | some (.bool true) => ρ x | some (.bool false) => ρ y | _ => none
  | .unOp .not _ x => match ρ x with | some (.bool true) => some (.bool false) | some (.bool false) => some (.bool true) | _ => none
  | .binOp o _ x y _ => match ρ x with
    | some (.int k a) => (match ρ y with
      | some (.int k2 b) => (match ieq k k2 with | true => pbin k a b o | false => none)
      | _ => none)
    | _ => none
  | _ => none
section
variable {P : Program} {n : Nat} {Q : Qt} {l l' : Fm} {b : Nat → Value} {w w0 : World} {ops : List Oper} {rest rest' : List Oper} {op : Op} {x y : Operand} {ty : TypeId} {pos : String} {after : Array Edge} {g : Option (Nat × Bool)} {d : Nat} {bm : List Nat} {G : Nat → World → Prop} {em xm i : Nat} {v : Value}
theorem pur_run {dst : Option Nat} (h : pur (evo n l b) op = some v) : (execOp (ev n l b) ⟨dst, op, ty, pos, after, g⟩).run P w = .ok (.value v) w := by
  unfold pur at h
  split at h
  · exact mv (evo_some h)
  · exact av (evo_some h)
  · split at h
    · rename_i e; obtain rfl := Option.some.inj h; exact nl (evo_some e)
    · cases h
  · split at h
    · rename_i e; exact ext (evo_some e) (nthV_eq h)
    · cases h
  · split at h
    · rename_i e; exact pkt (evo_some e) (evo_some h)
    · rename_i e; exact pkf (evo_some e) (evo_some h)
    · cases h
  · split at h
    · rename_i e; obtain rfl := Option.some.inj h; exact ntt (evo_some e)
    · rename_i e; obtain rfl := Option.some.inj h; exact ntf (evo_some e)
    · cases h
  · split at h
    · rename_i e
      split at h
      · rename_i e2
        split at h
        · rename_i hk
          obtain rfl := ieq_eq hk
          have hx := evo_some e; have hy := evo_some e2
          unfold pbin at h
          split at h <;> first | (cases h; done) | (obtain rfl := Option.some.inj h; first | exact adw hx hy | exact sbw hx hy | exact mlw hx hy | exact lt' hx hy | exact le' hx hy | exact gt' hx hy | exact ge' hx hy | exact eqd hx hy | exact ned hx hy)
        · cases h
      · cases h
    · cases h
  · cases h
def auS (n : Nat) (ops : List Oper) (b : Nat → Value) : Nat → List Oper → Fm → Option (List Oper × Fm)
  | 0, rest, l => some (rest, l)
  | k + 1, ⟨some d, op, ty, pos, after, g⟩ :: rest, l => match pur (evo n l b) op with
    | some v => (match want n ops l b ⟨some d, op, ty, pos, after, g⟩ with | true => auS n ops b k rest ((d, v) :: l) | false => none)
    | none => none
  | _, _, _ => none
theorem au : ∀ (k : Nat) {rest : List Oper} {l : Fm} (_ : auS n ops b k rest l = some (rest', l')) (_ : Rg P n ops Q rest' l' b w), Rg P n ops Q rest l b w
  | 0, _, _, h, K => by obtain ⟨rfl, rfl⟩ := Prod.mk.inj (Option.some.inj h); exact K
  | k + 1, [], _, h, K => by cases h
  | k + 1, ⟨none, _, _, _, _, _⟩ :: _, _, h, K => by cases h
  | k + 1, ⟨some d, op, ty, pos, after, g⟩ :: rest, l, h, K => by
    unfold auS at h
    split at h
    · rename_i e
      split at h
      · rename_i e2; exact rs (pur_run e) e2 (au k h K)
      · cases h
    · cases h
def auD (n : Nat) (ops : List Oper) (b : Nat → Value) (em : Nat) : Nat → List Oper → Fm → Nat → Option (List Oper × Fm × Nat)
  | 0, rest, l, i => some (rest, l, i)
  | k + 1, ⟨some d, op, ty, pos, after, g⟩ :: rest, l, i => match em.testBit i with
    | true => none
    | false => (match pur (evo n l b) op with
      | some v => (match want n ops l b ⟨some d, op, ty, pos, after, g⟩ with | true => auD n ops b em k rest ((d, v) :: l) (Nat.succ i) | false => none)
      | none => none)
  | _, _, _, _ => none
theorem ad_ {i' : Nat} : ∀ (k : Nat) {rest : List Oper} {l : Fm} {i : Nat} (_ : auD n ops b em k rest l i = some (rest', l', i')) (_ : Rd P n ops bm em G xm Q i' rest' l' b w), Rd P n ops bm em G xm Q i rest l b w
  | 0, _, _, _, h, K => by obtain ⟨rfl, h2⟩ := Prod.mk.inj (Option.some.inj h); obtain ⟨rfl, rfl⟩ := Prod.mk.inj h2; exact K
  | k + 1, [], _, _, h, K => by cases h
  | k + 1, ⟨none, _, _, _, _, _⟩ :: _, _, _, h, K => by cases h
  | k + 1, ⟨some d, op, ty, pos, after, g⟩ :: rest, l, i, h, K => by
    unfold auD at h
    split at h
    · cases h
    · rename_i hz
      split at h
      · rename_i e
        split at h
        · rename_i e2; exact ds hz (fun _ _ => pur_run e) e2 (ad_ k h K)
        · cases h
      · cases h
def pulB : Nat → List HP → Option (HP × List HP)
  | 0, a :: l => some (a, l)
  | k + 1, a :: l => match pulB k l with | some (x, t) => some (x, a :: t) | none => none
  | _, [] => none
def mvB : List Nat → List HP → Option (List HP)
  | [], l => some l
  | c :: cs, l => match pulB (c / 2) l with
    | some (x, t) => (match Nat.beq (c % 2) 0 with | true => mvB cs (x :: t) | false => mvB cs t)
    | none => none
theorem pulB_ok : ∀ {k : Nat} {l : List HP} {x : HP} {t : List HP}, pulB k l = some (x, t) → ltP l k = true ∧ nthP l k = x ∧ remP l k = t
  | 0, a :: l, x, t, h => by obtain ⟨rfl, rfl⟩ := Prod.mk.inj (Option.some.inj h); exact ⟨rfl, rfl, rfl⟩
  | k + 1, a :: l, x, t, h => by
    unfold pulB at h
    split at h
    · rename_i e; obtain ⟨rfl, rfl⟩ := Prod.mk.inj (Option.some.inj h); obtain ⟨h1, h2, h3⟩ := pulB_ok e; exact ⟨h1, h2, by show a :: remP l k = _; rw [h3]⟩
    · cases h
  | 0, [], _, _, h => by cases h
  | _ + 1, [], _, _, h => by cases h
theorem Ctx.m {w : World} : ∀ (c : List Nat) {L L' : List HP} (h : Ctx w L) (e : mvB c L = some L' := by exact rfl), Ctx w L'
  | [], _, _, h, e => Option.some.inj e ▸ h
  | c :: cs, L, L', h, e => by
    unfold mvB at e
    split at e
    · rename_i e1
      obtain ⟨h1, h2, h3⟩ := pulB_ok e1
      split at e
      · exact Ctx.m cs (h.pull (c / 2) h1 (by rw [h2, h3])) e
      · exact Ctx.m cs (h.rem (c / 2) h1 h3) e
    · cases e
def setB : List HP → Nat → HP → Option (List HP)
  | _ :: l, 0, Q => some (Q :: l)
  | P :: l, k + 1, Q => match setB l k Q with | some t => some (P :: t) | none => none
  | [], _, _ => none
theorem setB_eq : ∀ {L : List HP} {k : Nat} {Q : HP} {L' : List HP}, setB L k Q = some L' → setP L k Q = L'
  | _ :: _, 0, _, _, h => Option.some.inj h
  | P :: L, k + 1, Q, L', h => by
    unfold setB at h
    split at h
    · rename_i e; obtain rfl := Option.some.inj h; show P :: setP L k Q = _; rw [setB_eq e]
    · cases h
  | [], 0, _, _, h => by cases h
  | [], _ + 1, _, _, h => by cases h
def putB : List Value → Nat → List Value → Option (List Value)
  | cs, 0, [] => some cs
  | _ :: cs, 0, v :: vs => match putB cs 0 vs with | some t => some (v :: t) | none => none
  | c :: cs, i + 1, vs => match putB cs i vs with | some t => some (c :: t) | none => none
  | [], _ + 1, _ => none
  | [], 0, _ :: _ => none
theorem putB_eq : ∀ {cs : List Value} {i : Nat} {vs cs' : List Value}, putB cs i vs = some cs' → laid cs vs i = cs'
  | [], 0, [], _, h => by obtain rfl := Option.some.inj h; simp [laid]
  | c :: cs, 0, [], _, h => by obtain rfl := Option.some.inj h; simp [laid]
  | c :: cs, 0, v :: vs, cs', h => by
    unfold putB at h
    split at h
    · rename_i e; obtain rfl := Option.some.inj h; rw [← putB_eq e]; simp [laid, Nat.add_comm]
    · cases h
  | c :: cs, i + 1, vs, cs', h => by
    unfold putB at h
    split at h
    · rename_i e; obtain rfl := Option.some.inj h; rw [← putB_eq e]; simp [laid, Nat.add_right_comm]
    · cases h
  | [], _ + 1, _, _, h => by cases h
  | [], 0, _ :: _, _, h => by cases h
theorem putB_len {cs : List Value} {i : Nat} {vs cs' : List Value} (h : putB cs i vs = some cs') : Nat.ble (i + vs.length) cs.length = true := by
  rw [Nat.ble_eq]
  induction cs generalizing i vs cs' with
  | nil =>
    cases i with
    | zero => cases vs with
      | nil => simp
      | cons => cases h
    | succ => cases h
  | cons c cs ih =>
    cases i with
    | zero => cases vs with
      | nil => simp
      | cons v vs =>
        unfold putB at h
        split at h
        · rename_i e; have := ih e; simp only [List.length_cons]; omega
        · cases h
    | succ i =>
      unfold putB at h
      split at h
      · rename_i e; have := ih e; simp only [List.length_cons]; omega
      · cases h
def takB : List Value → Nat → Nat → Option (List Value)
  | _, 0, 0 => some []
  | c :: cs, 0, m + 1 => match takB cs 0 m with | some t => some (c :: t) | none => none
  | _ :: cs, o + 1, m => takB cs o m
  | [], _ + 1, _ => none
  | [], 0, _ + 1 => none
theorem takB_eq : ∀ {cs : List Value} {o m : Nat} {vs : List Value}, takB cs o m = some vs → vs.length = m ∧ (cs.drop o).take vs.length = vs
  | [], 0, 0, _, h => by obtain rfl := Option.some.inj h; simp
  | c :: cs, 0, 0, _, h => by obtain rfl := Option.some.inj h; simp
  | c :: cs, 0, m + 1, vs, h => by
    unfold takB at h
    split at h
    · rename_i e; obtain rfl := Option.some.inj h; obtain ⟨h1, h2⟩ := takB_eq e; refine ⟨by simp [h1], ?_⟩; simpa using h2
    · cases h
  | c :: cs, o + 1, m, vs, h => by
    unfold takB at h
    obtain ⟨h1, h2⟩ := takB_eq h; exact ⟨h1, by simpa using h2⟩
  | [], _ + 1, _, _, h => by cases h
  | [], 0, _ + 1, _, h => by cases h
variable {T T2 : TypeId} {bb o m : Nat} {cs cs' vs : List Value} {L L' : List HP}
theorem pa (hc : Ctx w L) (k : Nat) (hs : ∀ w, (sizeOf T2).run P w = .ok m w) (K : ∀ w', Ctx w' L' → Rg P n ops Q rest l b w')
    (hx : evo n l b x = some (.pointer (some ⟨bb, o, none⟩)) := by exact rfl) (hy : evo n l b y = some (.agg ⟨vs⟩) := by exact rfl) (hm : Nat.beq m vs.length = true := by exact rfl) (hv : vs.all (·.oneCell') = true := by exact rfl)
    (hk : ltP L k = true := by exact rfl) (e : nthP L k = B bb cs T := by exact rfl) (hcs : putB cs o vs = some cs' := by exact rfl) (el : setB L k (B bb cs' T) = some L' := by exact rfl)
    (hw : want n ops l b ⟨none, .store T2 x y, ty, pos, after, g⟩ = true := by exact rfl) : Rg P n ops Q (⟨none, .store T2 x y, ty, pos, after, g⟩ :: rest) l b w :=
  ruE (Ctx.putAgg hc hk e (evo_some hx) (evo_some hy) hv (by rw [← Nat.eq_of_beq_eq_true hm]; exact hs) (putB_len hcs) (putB_eq hcs) (setB_eq el)) hw K
theorem po (hc : Ctx w L) (k : Nat) (hs : ∀ w, (sizeOf T2).run P w = .ok 1 w) (K : ∀ w', Ctx w' L' → Rg P n ops Q rest l b w')
    (hx : evo n l b x = some (.pointer (some ⟨bb, o, none⟩)) := by exact rfl) (hy : evo n l b y = some v := by exact rfl) (hv : v.oneCell' = true := by exact rfl)
    (hk : ltP L k = true := by exact rfl) (e : nthP L k = B bb cs T := by exact rfl) (hcs : putB cs o [v] = some cs' := by exact rfl) (el : setB L k (B bb cs' T) = some L' := by exact rfl)
    (hw : want n ops l b ⟨none, .store T2 x y, ty, pos, after, g⟩ = true := by exact rfl) : Rg P n ops Q (⟨none, .store T2 x y, ty, pos, after, g⟩ :: rest) l b w :=
  ruE (Ctx.putOp hc hk e (evo_some hx) (evo_some hy) hv hs (List.getElem?_eq_getElem (by have := putB_len hcs; rw [Nat.ble_eq] at this; simp only [List.length_singleton] at this; omega)) (by rw [← putB_eq hcs]; have := putB_len hcs; rw [Nat.ble_eq] at this; simp only [List.length_singleton] at this; simp [laid, List.set_eq_take_append_cons_drop, show o < cs.length by omega]) (setB_eq el)) hw K
theorem pad (hc : Ctx w L) (k : Nat) (hs : ∀ w, (sizeOf T2).run P w = .ok m w) (K : ∀ w', Ctx w' L' → FX bm em G i w' ∧ Rd P n ops bm em G xm Q (i + 1) rest l b w')
    (hx : evo n l b x = some (.pointer (some ⟨bb, o, none⟩)) := by exact rfl) (hy : evo n l b y = some (.agg ⟨vs⟩) := by exact rfl) (hm : Nat.beq m vs.length = true := by exact rfl) (hv : vs.all (·.oneCell') = true := by exact rfl)
    (hk : ltP L k = true := by exact rfl) (e : nthP L k = B bb cs T := by exact rfl) (hcs : putB cs o vs = some cs' := by exact rfl) (el : setB L k (B bb cs' T) = some L' := by exact rfl)
    (hw : want n ops l b ⟨none, .store T2 x y, ty, pos, after, g⟩ = true := by exact rfl) : Rd P n ops bm em G xm Q i (⟨none, .store T2 x y, ty, pos, after, g⟩ :: rest) l b w :=
  duE (Ctx.putAgg hc hk e (evo_some hx) (evo_some hy) hv (by rw [← Nat.eq_of_beq_eq_true hm]; exact hs) (putB_len hcs) (putB_eq hcs) (setB_eq el)) hw rfl K
theorem pod (hc : Ctx w L) (k : Nat) (hs : ∀ w, (sizeOf T2).run P w = .ok 1 w) (K : ∀ w', Ctx w' L' → FX bm em G i w' ∧ Rd P n ops bm em G xm Q (i + 1) rest l b w')
    (hx : evo n l b x = some (.pointer (some ⟨bb, o, none⟩)) := by exact rfl) (hy : evo n l b y = some v := by exact rfl) (hv : v.oneCell' = true := by exact rfl)
    (hk : ltP L k = true := by exact rfl) (e : nthP L k = B bb cs T := by exact rfl) (hcs : putB cs o [v] = some cs' := by exact rfl) (el : setB L k (B bb cs' T) = some L' := by exact rfl)
    (hw : want n ops l b ⟨none, .store T2 x y, ty, pos, after, g⟩ = true := by exact rfl) : Rd P n ops bm em G xm Q i (⟨none, .store T2 x y, ty, pos, after, g⟩ :: rest) l b w :=
  duE (Ctx.putOp hc hk e (evo_some hx) (evo_some hy) hv hs (List.getElem?_eq_getElem (by have := putB_len hcs; rw [Nat.ble_eq] at this; simp only [List.length_singleton] at this; omega)) (by rw [← putB_eq hcs]; have := putB_len hcs; rw [Nat.ble_eq] at this; simp only [List.length_singleton] at this; simp [laid, List.set_eq_take_append_cons_drop, show o < cs.length by omega]) (setB_eq el)) hw rfl K
theorem lg (hT : ∀ w, (isAgg T2).run P w = .ok true w) (hs : ∀ w, (sizeOf T2).run P w = .ok m w) (hc : Ctx w L) (k : Nat) (K : Rg P n ops Q rest ((d, .agg vs.toArray) :: l) b w)
    (hx : evo n l b x = some (.pointer (some ⟨bb, o, none⟩)) := by exact rfl) (hk : ltP L k = true := by exact rfl) (e : nthP L k = B bb cs T := by exact rfl) (hv : takB cs o m = some vs := by exact rfl)
    (hw : want n ops l b ⟨some d, .load T2 x, ty, pos, after, g⟩ = true := by exact rfl) : Rg P n ops Q (⟨some d, .load T2 x, ty, pos, after, g⟩ :: rest) l b w :=
  rs (ldg (evo_some hx) hT hs (takB_eq hv).1 (Ctx.cells hc hk e o (takB_eq hv).2)) hw K
theorem fz {fn : Func} {K : Value → World → Prop} {r : Nat} (hr : fn.results = #[.tmp r]) (hn : fn.ntmps = n) (h : K v w) (hv : ev n l b (.tmp r) = v := by exact rfl) : postQ P fn (Ret K) .ret l b w := f1 hr hn hv ⟨_, rfl, h⟩
theorem fz2 {fn : Func} {K : Value → World → Prop} {r s : Nat} {v u : Value} (hr : fn.results = #[.tmp r, .tmp s]) (hn : fn.ntmps = n) (h : K (.tuple #[v, u]) w) (hv : ev n l b (.tmp r) = v := by exact rfl) (hu : ev n l b (.tmp s) = u := by exact rfl) : postQ P fn (Ret K) .ret l b w := f2 hr hn hv hu ⟨_, rfl, h⟩
theorem Wif {c : Prop} [Decidable c] {α : Type} {A D : Option α} {r : α} {X Y : Code} (hp : (if c then A else D) = some r) (hf : ¬ c → D = some r → Wp P n Y Q l b w) (ht : c → A = some r → Wp P n X Q l b w) (hv : ev n l b x = .bool (decide c) := by exact rfl) : Wp P n (.cond x X Y) Q l b w := by
  by_cases h : c
  · exact Wct (hv.trans (by rw [decide_eq_true h])) (ht h (gpos hp h))
  · exact Wcf (hv.trans (by rw [decide_eq_false h])) (hf h (gneg hp h))
def upL : Nat → Nat → List Nat → List Nat
  | _, 0, t => t
  | s, c + 1, t => s :: upL (Nat.succ s) c t
def rg : List Nat → List Nat
  | s :: c :: t => upL s c (rg t)
  | _ => []
end
section
variable {P : Program} {n : Nat} {Q : Qt} {l : Fm} {b : Nat → Value} {w w0 : World} {ops : List Oper} {rest : List Oper} {op : Op} {x : Operand} {ty ty2 : TypeId} {pos pos2 : String} {after after2 : Array Edge} {g g2 : Option (Nat × Bool)} {d d2 T U m : Nat} {bm : List Nat} {G : Nat → World → Prop} {em xm i : Nat}
theorem sz {v : Value} {w' : World} (h : (execOp (ev n l b) ⟨some d, op, ty, pos, after, g⟩).run P w = .ok (.value v) w') (k : Rg P n ops Q rest ((d, v) :: l) b w') (hw : want n ops l b ⟨some d, op, ty, pos, after, g⟩ = true := by exact rfl) : Rg P n ops Q (⟨some d, op, ty, pos, after, g⟩ :: rest) l b w := rs h hw k
theorem fq {fs : Array Field} {f : Nat} {fd : Field} {bb o o' U3 : Nat} {u : Value} (off : Nat) (hu : P.underlying T = some (.struct fs)) (hs : ∀ w, (sizeOf U3).run P w = .ok m w) (hA : ∀ w, (isAgg U).run P w = .ok false w) {L : List HP} (hc : Ctx w L) (j : Nat)
    (k : Rg P n ops Q rest ((d2, u) :: (d, .pointer (some ⟨bb, o', none⟩)) :: l) b w) {cs : List Value} {TT : TypeId}
    (hx : evo n l b x = some (.pointer (some ⟨bb, o, none⟩)) := by exact rfl) (hf : fs[f]? = some fd := by exact rfl) (ht : fd.type = U3 := by exact rfl) (hm : Nat.beq m 0 = false := by exact rfl) (ho : fd.offset = off := by exact rfl) (ho' : o + off = o' := by exact rfl) (hk : ltP L j = true := by exact rfl) (e : nthP L j = B bb cs TT := by exact rfl) (hi : cs[o']? = some u := by exact rfl)
    (he : ev n ((d, .pointer (some ⟨bb, o', none⟩)) :: l) b (.tmp d) = .pointer (some ⟨bb, o', none⟩) := by exact rfl) (hw : want n ops l b ⟨some d, .fieldAddr T x f, ty, pos, after, g⟩ = true := by exact rfl) (hw2 : want n ops ((d, .pointer (some ⟨bb, o', none⟩)) :: l) b ⟨some d2, .load U (.tmp d), ty2, pos2, after2, g2⟩ = true := by exact rfl) : Rg P n ops Q (⟨some d, .fieldAddr T x f, ty, pos, after, g⟩ :: ⟨some d2, .load U (.tmp d), ty2, pos2, after2, g2⟩ :: rest) l b w :=
  fl off hu (fun w => by rw [ht]; exact hs w) hA (Ctx.cell hc hk e hi) (evo_some hx) hf hm ho ho' he hw hw2 k
theorem kz {f : FuncId} {args : Array Operand} {ats : Array TypeId} {vs : List Value} (hc : ∀ (a : Array Value) (w : World), (callFunc f a).run P w = .ok (.enter f a) w) (k : Calls P f vs.toArray w (Ret fun v w'' => Rg P n ops Q rest ((d, v) :: l) b w'')) (ha : args.toList.map (ev n l b) = vs := by exact rfl) (hf : ev n l b x = .func (.func f) #[] #[] := by exact rfl) (hw : want n ops l b ⟨some d, .call ⟨.value x, args, ats⟩, ty, pos, after, g⟩ = true := by exact rfl) : Rg P n ops Q (⟨some d, .call ⟨.value x, args, ats⟩, ty, pos, after, g⟩ :: rest) l b w := rc (cl hc ha hf) hw k
theorem sj {α : Type} {a b : α} (h : some a = some b) : a = b := Option.some.inj h
theorem Ctx.dz {α : Type} {m : Nat} {E : PR α m} {cs : List Value} {x : α} {l : List HP} (h : Ctx w l) (k : Nat) (hk : ltP l k = true := by exact rfl) (e : nthP l k = Hold E cs x := by exact rfl) : Ctx w (Hold E cs x :: l) := h.dup hk e
theorem Ctx.rz {α : Type} {m : Nat} {E : PR α m} {xs : List α} {l : List HP} (h : Ctx w l) (k : Nat) {P : HP} {a : Option Addr} {n c : Nat} (hP : Reads P E (.slice a n c) xs) (hk : ltP l k = true := by exact rfl) (e : nthP l k = P := by exact rfl) : n = xs.length := (h.rdLen hk e hP).1
end
section
variable {P : Program} {n : Nat} {l : Fm} {b : Nat → Value} {w : World} {y : Operand} {ty t T : TypeId} {pos : String} {after : Array Edge} {g : Option (Nat × Bool)} {d : Nat} {L : List HP} {α : Type} {m : Nat} {E : PR α m} {xs : List α}
theorem Ctx.ra (h : Ctx w L) (k : Nat) {H : HP} {a : Option Addr} {n c : Nat} (hP : Reads H E (.slice a n c) xs) {i : Int} {x : α} (hx : idx xs i = some x) (hk : ltP L k = true := by exact rfl) (e : nthP L k = H := by exact rfl) : ∃ bb oo, a = some ⟨bb, oo, none⟩ ∧ 0 ≤ i ∧ i < n := Ctx.rdAt h hk e hP hx
theorem Ctx.rv (h : Ctx w L) (k : Nat) {f : α → List Value} {hl : ∀ x, (f x).length = m} {ho : ∀ x, (f x).all (·.oneCell') = true} {H : HP} {bb oo n c : Nat} (hP : Reads H (pC f hl ho) (.slice (some ⟨bb, oo, none⟩) n c) xs) {i : Int} {x : α} (hx : idx xs i = some x) (hk : ltP L k = true := by exact rfl) (e : nthP L k = H := by exact rfl) :
    ∀ (j : Nat) u, (f x)[j]? = some u → w.cell? ⟨bb, oo + i.toNat * m + j, none⟩ = some u := by
  obtain ⟨cs, h2, h3⟩ := Ctx.rdCell h hk e hP hx
  obtain ⟨rfl, _⟩ := Ctx.holdC h2
  exact h3
theorem nja {a i j : Nat} {p : Prop} (hj : Nat.testBit a j = false) (e : j = i) (h : Nat.testBit a i = true := by decide) : p := by subst e; rw [h] at hj; cases hj
theorem oneI {k : IntKind} {X : Int} {zv : Value} (h : Ctx w L) (hu : P.underlying t = some (.slice T)) (hs : ∀ w, (sizeOf T).run P w = .ok 1 w) (hz : ∀ w, (zeroValue T).run P w = .ok zv w) (hx : evo n l b y = some (.int k X) := by exact rfl) (hzs : Nat.beq zv.cells.size 1 = true := by exact rfl) :
    ∃ v' w', (execOp (ev n l b) ⟨some d, .buildSlice t 1 #[(0, y)], ty, pos, after, g⟩).run P w = .ok (.value v') w' ∧ ∃ a, v' = .slice a 1 1 ∧ Ctx w' (Own (pInt k) T (.slice a 1 1) [X] :: L) := by
  have he := evo_some hx
  refine Ctx.builtOp (css := [[.int k X]]) (xs := [X]) (E := pInt k) (Ctx.holdsC (f := fun x : Int => [.int k x]) (fun _ _ _ => rfl) h [X]) hu hs hz rfl ?_ rfl (by simpa using hzs) rfl rfl rfl rfl
  show [(ev n l b y).cells.toList] = _
  rw [he]; rfl
theorem Ctx.ap (h : Ctx w L) (k k2 : Nat) {v u : Value} {ys : List α} {H : HP} (hQ : Reads H E u ys) {zv : Value} (ht : P.underlying t = some (.slice T)) (i : TypeInfo) (hg : xs.length + ys.length ≤ 4294967296) {x y : Operand} {n : Nat} {l : Fm} {b : Nat → Value}
    (hk : ltP L k = true := by exact rfl) (e : nthP L k = Own E T v xs := by exact rfl) (hk2 : ltP L k2 = true := by exact rfl) (e2 : nthP L k2 = H := by exact rfl) (hi : P.info? T = some i := by exact rfl) (hz : i.zero = some zv := by exact rfl) (hsize : i.size = m := by exact rfl) (hby : Nat.ble i.bytes 32768 = true := by exact rfl) (hzs : zv.cells.size = m := by exact rfl) (hsz : Nat.blt 0 m = true := by exact rfl)
    (hx : ev n l b x = v := by exact rfl) (hy : ev n l b y = u := by exact rfl) :
    ∃ v' w', (execOp (ev n l b) ⟨some d, .call ⟨.builtin .append, #[x, y], #[t, t]⟩, ty, pos, after, g⟩).run P w = .ok (.value v') w' ∧ ∃ a c, v' = .slice a (xs ++ ys).length c ∧ Ctx w' (setP L k (Own E T v' (xs ++ ys))) :=
  Ctx.append h hk e hk2 e2 hQ ht hi hz hsize hby hzs hsz hx hy hg
end
end Go.Hp
end
