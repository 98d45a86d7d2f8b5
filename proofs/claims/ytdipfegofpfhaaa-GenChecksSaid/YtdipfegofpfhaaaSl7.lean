/- Maps, owned: small laws over any program. -/
import Derived.MapKept
import Derived.Test.YtdipfegofpfhaaaSl6
namespace Go.Hp
open Go Go.RowKit
set_option linter.unusedVariables false
set_option linter.unusedSimpArgs false
set_option linter.unusedSectionVars false
def mget {κ β : Type} [DecidableEq κ] : List (κ × β) → κ → Option β
  | [], _ => none
  | (k', x) :: l, k => if k' = k then some x else mget l k
def mset {κ β : Type} [DecidableEq κ] : List (κ × β) → κ → β → List (κ × β)
  | [], k, x => [(k, x)]
  | (k', x') :: l, k, x => if k' = k then (k, x) :: l else (k', x') :: mset l k x
def mdel {κ β : Type} [DecidableEq κ] : List (κ × β) → κ → List (κ × β)
  | [], _ => []
  | (k', x') :: l, k => if k' = k then l else (k', x') :: mdel l k
def findK {κ : Type} [DecidableEq κ] (k : κ) : List κ → List MapEntry → Nat → Option (Nat × Value)
  | k' :: ks, e :: es, i => if k' = k then some (i, e.val) else findK k ks es (i + 1)
  | _, _, _ => none
structure KeyL (P : Program) (kt : TypeId) (κ : Type) [DecidableEq κ] (ek : κ → Value) : Prop where
  chk : ∀ b k w, (Instr.checkKey b 10000 kt (ek k)).run P w = .ok () w
  find : ∀ (k : κ) (es : List MapEntry) (ks : List κ) w, es.map (·.key) = ks.map ek → (Instr.findKey kt (ek k) es).run P w = .ok (findK k ks es 0) w
  same : ∀ k, Instr.sameBits 10000 (ek k) (ek k) = true
def ekI (k : IntKind) (x : Int) : Value := .int k x
theorem keyL_int {P : Program} {kt : TypeId} {kd : IntKind} (ht : P.underlying kt = some (.int kd)) : KeyL P kt Int (ekI kd) where
  chk := fun b k w => by
    have h : ∀ n, (Instr.checkKey b (n + 1) kt (.int kd k)).run P w = .ok () w := by intro n; simp [Instr.checkKey, run_underlying ht]
    exact h 9999
  same := fun k => by
    have h : ∀ n, Instr.sameBits n (.int kd k) (.int kd k) = true := by intro n; cases n <;> simp [Instr.sameBits]
    exact h 10000
  find := fun k es ks w h => by
    have key : ∀ (es : List MapEntry) (ks : List Int) (i : Nat), es.map (·.key) = ks.map (ekI kd) → Instr.findNow (.int kd) (ekI kd k) es i = some (findK k ks es i) := by
      intro es
      induction es with
      | nil => intro ks i h; cases ks <;> simp [Instr.findNow, findK] at h ⊢
      | cons e es ih =>
        intro ks i h
        cases ks with
        | nil => simp at h
        | cons k' ks =>
          simp only [List.map_cons, List.cons.injEq] at h
          simp only [Instr.findNow, h.1, ekI, Instr.sameNow, if_true, findK]
          by_cases e1 : k' = k
          · subst e1; simp
          · have e2 : (k == k') = false := by simpa using fun h => e1 h.symm
            rw [e2, if_neg e1]
            exact ih ks (i + 1) h.2
    simp [Instr.findKey, run_underlying ht, key es ks 0 h]
section
variable {κ β : Type} [DecidableEq κ] {ek : κ → Value} {V : Value → β → HP} {P : Program} {w w' : World} {R R' : Nat → Prop}
def EnR (ek : κ → Value) (V : Value → β → HP) (w : World) (R : Nat → Prop) : List MapEntry → List (κ × β) → List (List Nat) → Prop
  | [], [], [] => True
  | e :: es, (k, x) :: l, S :: Ss => e.key = ek k ∧ (V e.val x).p w R S ∧ EnR ek V w R es l Ss
  | _, _, _ => False
theorem EnR.st : ∀ {es : List MapEntry} {l : List (κ × β)} {Ss : List (List Nat)}, EnR ek V w R es l Ss → Kp (fun b => b ∈ Ss.flatten ∨ R b) w w' → (∀ b, R b → R' b) → EnR ek V w' R' es l Ss
  | [], [], [], _, _, _ => trivial
  | e :: es, (k, x) :: l, S :: Ss, h, hk, hR => ⟨h.1, (V e.val x).st h.2.1 (hk.mono (by intro b hb; rcases hb with h | h; exact .inl (by simp [h]); exact .inr h)) hR,
      EnR.st h.2.2 (hk.mono (by intro b hb; rcases hb with h | h; exact .inl (by simp only [List.flatten_cons, List.mem_append]; exact .inr h); exact .inr h)) hR⟩
  | [], _ :: _, _, h, _, _ => h.elim
  | _ :: _, [], _, h, _, _ => h.elim
  | [], [], _ :: _, h, _, _ => h.elim
  | _ :: _, _ :: _, [], h, _, _ => h.elim
theorem EnR.keys : ∀ {es : List MapEntry} {l : List (κ × β)} {Ss : List (List Nat)}, EnR ek V w R es l Ss → es.map (·.key) = (l.map (·.1)).map ek
  | [], [], [], _ => rfl
  | e :: es, (k, x) :: l, S :: Ss, h => by simp only [List.map_cons, h.1, EnR.keys h.2.2]
  | [], _ :: _, _, h => h.elim
  | _ :: _, [], _, h => h.elim
  | [], [], _ :: _, h => h.elim
  | _ :: _, _ :: _, [], h => h.elim
theorem EnR.len : ∀ {es : List MapEntry} {l : List (κ × β)} {Ss : List (List Nat)}, EnR ek V w R es l Ss → es.length = l.length
  | [], [], [], _ => rfl
  | e :: es, (k, x) :: l, S :: Ss, h => by simp [EnR.len h.2.2]
  | [], _ :: _, _, h => h.elim
  | _ :: _, [], _, h => h.elim
  | [], [], _ :: _, h => h.elim
  | _ :: _, _ :: _, [], h => h.elim
/-- What is found. -/
theorem EnR.find (k : κ) : ∀ {es : List MapEntry} {l : List (κ × β)} {Ss : List (List Nat)} (i : Nat), EnR ek V w R es l Ss →
    (findK k (l.map (·.1)) es i = none ∧ mget l k = none ∧ mdel l k = l ∧ (∀ x, mset l k x = l ++ [(k, x)])) ∨
    ∃ (j : Nat) (e : MapEntry) (x : β) (S : List Nat), findK k (l.map (·.1)) es i = some (i + j, e.val) ∧ es[j]? = some e ∧ e.key = ek k ∧ mget l k = some x ∧ Ss[j]? = some S ∧ (V e.val x).p w R S ∧
      EnR ek V w R (es.eraseIdx j) (mdel l k) (Ss.eraseIdx j) ∧ ∀ (v : Value) (y : β) (T : List Nat), (V v y).p w R T → EnR ek V w R (es.set j { e with val := v }) (mset l k y) (Ss.set j T)
  | [], [], [], _, _ => .inl ⟨rfl, rfl, rfl, fun _ => rfl⟩
  | e :: es, (k', x) :: l, S :: Ss, i, h => by
    by_cases hk : k' = k
    · subst hk
      right
      exact ⟨0, e, x, S, by simp [findK], rfl, h.1, by simp [mget], rfl, h.2.1, by simpa [mdel] using h.2.2, fun v y T hT => by simp only [mset, if_true, List.set_cons_zero]; exact ⟨h.1, hT, h.2.2⟩⟩
    · rcases EnR.find k (i + 1) h.2.2 with ⟨h1, h2, h3, h4⟩ | ⟨j, e', x', S', h1, h2, h3, h4, h5, h6, h7, h8⟩
      · left
        exact ⟨by simp [findK, hk, h1], by simp [mget, hk, h2], by simp [mdel, hk, h3], fun x => by simp [mset, hk, h4]⟩
      · right
        exact ⟨j + 1, e', x', S', by simp [findK, hk, h1]; omega, by simpa using h2, h3, by simp [mget, hk, h4], by simpa using h5, h6, by simp only [mdel, hk, if_false, List.eraseIdx_cons_succ]; exact ⟨h.1, h.2.1, h7⟩, fun v y T hT => by simp only [mset, hk, if_false, List.set_cons_succ]; exact ⟨h.1, h.2.1, h8 v y T hT⟩⟩
  | [], _ :: _, _, _, h => h.elim
  | _ :: _, [], _, _, h => h.elim
  | [], [], _ :: _, _, h => h.elim
  | _ :: _, _ :: _, [], _, h => h.elim
theorem EnR.push {e : MapEntry} {k : κ} {x : β} {S : List Nat} (he : e.key = ek k) (hx : (V e.val x).p w R S) : ∀ {es : List MapEntry} {l : List (κ × β)} {Ss : List (List Nat)}, EnR ek V w R es l Ss → EnR ek V w R (es ++ [e]) (l ++ [(k, x)]) (Ss ++ [S])
  | [], [], [], _ => ⟨he, hx, trivial⟩
  | _ :: es, _ :: l, S :: Ss, h => ⟨h.1, h.2.1, EnR.push he hx h.2.2⟩
  | [], _ :: _, _, h => h.elim
  | _ :: _, [], _, h => h.elim
  | [], [], _ :: _, h => h.elim
  | _ :: _, _ :: _, [], h => h.elim
/-- A map of one's own, in a block: its entries in the model's order. -/
def Mp (ek : κ → Value) (V : Value → β → HP) (b : Nat) (l : List (κ × β)) : HP :=
  ⟨fun w R S => ∃ (es : Array MapEntry) (clock : Nat) (Ss : List (List Nat)), w.heap[b]? = some (.map es clock) ∧ EnR ek V w R es.toList l Ss ∧ S = b :: Ss.flatten ∧ (es.toList.map MapEntry.born).Nodup ∧ (∀ e ∈ es.toList, e.born < clock),
   fun {w w' R R' S} ⟨es, clock, Ss, h1, h2, h3, h4⟩ hk hR => ⟨es, clock, Ss, by rw [hk.block b (.inl (by simp [h3]))]; exact h1, h2.st (hk.mono (by intro x hx; rcases hx with h | h; exact .inl (by rw [h3]; simp [h]); exact .inr h)) hR, h3, h4⟩⟩
/-- Values that hold no blocks of their own. -/
def HV {m : Nat} (vf : List Value → Value) (E : PR β m) (v : Value) (x : β) : HP := ⟨fun w R S => S = [] ∧ ∃ cs, v = vf cs ∧ E.r w R cs x, fun ⟨h, cs, e, hE⟩ hk hR => ⟨h, cs, e, E.st hE (hk.mono fun b hb => .inr hb) hR⟩⟩
def vf1 (cs : List Value) : Value := cs.headD undef
def vfA (cs : List Value) : Value := .agg cs.toArray
section
variable {ρ : Operand → Value} {dst : Option Nat} {ty : TypeId} {pos : String} {after : Array Edge} {g : Option (Nat × Bool)} {x y z : Operand} {hs : List HP} {i b : Nat} {t kt et : TypeId} {l : List (κ × β)} {k : κ} {m : Nat} {vf : List Value → Value} {E : PR β m}
theorem Ctx.mpGet (K : KeyL P kt κ ek) (h : Ctx w hs) (hi : ltP hs i = true) (e : nthP hs i = Mp ek (HV vf E) b l) (ht : P.underlying t = some (.map kt et)) (hx : ρ x = .map (some b)) (hy : ρ y = ek k) {zv : Value} {zcs : List Value} {x0 : β} (hz : ∀ w, (zeroValue et).run P w = .ok zv w) (hzv : zv = vf zcs) (hz0 : ∀ (w : World) R, E.r w R zcs x0) (ok : Bool) :
    ∃ v w', (execOp ρ ⟨dst, .lookup t x y ok, ty, pos, after, g⟩).run P w = .ok (.value v) w' ∧ w' = w ∧ ∃ cs, v = (if ok then .tuple #[vf cs, .bool (mget l k).isSome] else vf cs) ∧ Ctx w (Hold E cs ((mget l k).getD x0) :: hs) := by
  obtain ⟨R, Ss0, hc⟩ := h
  obtain ⟨S, hS⟩ := CtxAt.nth hc.all hi
  rw [e] at hS
  obtain ⟨es, clock, Ss, hb, hE, _, _, _⟩ := hS
  have hf := K.find k es.toList (l.map (·.1)) w hE.keys
  have hg : (getObj b).run P w = .ok (.map es clock) w := by simp [getObj, Sem.run, hb]
  rcases hE.find k 0 with ⟨h1, h2, _, _⟩ | ⟨j, en, xx, S', h1, _, _, h4, _, h6, _, _⟩
  · rw [h1] at hf
    refine ⟨_, w, ?_, rfl, zcs, rfl, ?_⟩
    · simp [execOp, Instr.lookup, run_underlying ht, hx, hy, hg, K.chk, hf, hz, hzv, h2]
    · rw [h2]; exact ⟨R, [] :: Ss0, hc.hold (hz0 w R)⟩
  · rw [h1] at hf
    obtain ⟨_, cs, hv, hr⟩ := h6
    refine ⟨_, w, ?_, rfl, cs, rfl, ?_⟩
    · simp [execOp, Instr.lookup, run_underlying ht, hx, hy, hg, K.chk, hf, hv, h4]
    · rw [h4]; exact ⟨R, [] :: Ss0, hc.hold hr⟩
theorem Ctx.mpLen (h : Ctx w hs) (hi : ltP hs i = true) (e : nthP hs i = Mp ek V b l) (ht : P.underlying t = some (.map kt et)) (hx : ρ x = .map (some b)) :
    (execOp ρ ⟨dst, .call ⟨.builtin .len, #[x], #[t]⟩, ty, pos, after, g⟩).run P w = .ok (.value (.int .i64 ((l.length : Nat) : Int))) w := by
  obtain ⟨R, S, hS, _⟩ := h.at hi e
  obtain ⟨es, clock, Ss, hb, hE, _, _, _⟩ := hS
  have hg : (getObj b).run P w = .ok (.map es clock) w := by simp [getObj, Sem.run, hb]
  have := hE.len
  simp [execOp, resolve, invoke, builtin, Builtin.len_, hx, run_underlying ht, hg, goInt]
  have h9 : es.size = l.length := by simpa using this
  rw [h9]
theorem setObj_kp {A : Nat → Prop} {o : Obj} (hA : ∀ x, A x → x ≠ b) : Kp A w { w with heap := w.heap.setIfInBounds b o } :=
  ⟨rfl, rfl, rfl, by simp, fun x hx => by
    show (w.heap.setIfInBounds b o)[x]? = _
    rw [Array.getElem?_setIfInBounds_ne (fun e => hA x hx e.symm)]⟩
theorem run_setMap {es : Array MapEntry} {clock : Nat} (hb : w.heap[b]? = some (.map es clock)) (o : Obj) : (setObj b o).run P w = .ok () { w with heap := w.heap.setIfInBounds b o } := by simp [setObj, Sem.run, hb]
theorem heap_setMap {es : Array MapEntry} {clock : Nat} (hb : w.heap[b]? = some (.map es clock)) (o : Obj) : ({ w with heap := w.heap.setIfInBounds b o } : World).heap[b]? = some o := by
  have := (Array.getElem?_eq_some_iff.1 hb).1
  simp [this]
/-- The map turns, and what it holds besides it goes. -/
theorem Ctx.mpUpd (h : Ctx w hs) (hi : ltP hs i = true) (e : nthP hs i = Mp ek (HV vf E) b l) {es : Array MapEntry} {clock : Nat} (hb : w.heap[b]? = some (.map es clock)) (es' : Array MapEntry) (clock' : Nat) (l' : List (κ × β))
    (hu : ∀ R Ss S, CtxAt w R hs S → EnR ek (HV vf E) w R es.toList l Ss → ∃ Ss', EnR ek (HV vf E) w R es'.toList l' Ss') (hn : (es.toList.map MapEntry.born).Nodup → (∀ e ∈ es.toList, e.born < clock) → (es'.toList.map MapEntry.born).Nodup ∧ ∀ e ∈ es'.toList, e.born < clock') :
    Ctx { w with heap := w.heap.setIfInBounds b (.map es' clock') } (setP hs i (Mp ek (HV vf E) b l')) := by
  refine Ctx.updK h hi _ (fun R Ss0 S hc hS hSo hSn => ?_) rfl
  rw [e] at hS
  obtain ⟨es2, clock2, Ss, hb2, hE, rfl, h4, h5⟩ := hS
  rw [hb] at hb2
  injection hb2 with e1
  injection e1 with e1 e2
  subst e1 e2
  have hnil : ∀ {es : List MapEntry} {l : List (κ × β)} {Ss : List (List Nat)}, EnR ek (HV vf E) w R es l Ss → Ss.flatten = [] := by
    intro es
    induction es with
    | nil => intro l Ss h; cases l <;> cases Ss <;> simp [EnR] at h ⊢
    | cons e es ih =>
      intro l Ss h
      cases l with
      | nil => exact h.elim
      | cons p l => cases Ss with
        | nil => exact h.elim
        | cons S Ss => rw [List.flatten_cons, h.2.1.1, ih h.2.2]; rfl
  obtain ⟨Ss', hE'⟩ := hu R Ss Ss0 hc hE
  have hbR : ¬ R b := (hSo b (by simp)).2
  have hkp : ∀ A : Nat → Prop, (∀ x, A x → x ≠ b) → Kp A w { w with heap := w.heap.setIfInBounds b (.map es' clock') } := fun A hA => setObj_kp hA
  refine ⟨[b], ⟨es', clock', Ss', heap_setMap hb _, hE'.st (hkp _ (fun x hx e => by
      rw [hnil hE'] at hx
      rcases hx with hx | hx
      · simp at hx
      · exact hbR (e ▸ hx))) (fun _ h => h), by rw [hnil hE'], (hn h4 h5).1, (hn h4 h5).2⟩, by simp, fun x hx => ⟨.inl (by simp at hx; simp [hx]), by have := (hSo b (by simp)).1; simp at hx; subst hx; simpa using this⟩, hkp _ (fun x hx e => hx.2 (by simp [e]))⟩
theorem Ctx.mpClear (h : Ctx w hs) (hi : ltP hs i = true) (e : nthP hs i = Mp ek (HV vf E) b l) (ht : P.underlying t = some (.map kt et)) (hx : ρ x = .map (some b)) :
    ∃ v w', (execOp ρ ⟨dst, .call ⟨.builtin .clear, #[x], #[t]⟩, ty, pos, after, g⟩).run P w = .ok (.value v) w' ∧ Ctx w' (setP hs i (Mp ek (HV vf E) b [])) := by
  obtain ⟨R, S, hS, _⟩ := h.at hi e
  obtain ⟨es, clock, Ss, hb, hE, _, _, _⟩ := hS
  have hg : (getObj b).run P w = .ok (.map es clock) w := by simp [getObj, Sem.run, hb]
  refine ⟨.tuple #[], _, ?_, Ctx.mpUpd h hi e hb #[] clock [] (fun R Ss S hc hE => ⟨[], trivial⟩) (fun _ _ => ⟨by simp, by simp⟩)⟩
  have : (Builtin.clear_ #[t] ty #[.map (some b)]).run P w = .ok (.tuple #[]) { w with heap := w.heap.setIfInBounds b (.map #[] clock) } := by
    simp [Builtin.clear_, run_underlying ht, hg, run_setMap hb]
  simp [execOp, resolve, invoke, builtin, hx, this]
theorem Ctx.mpDel (K : KeyL P kt κ ek) (h : Ctx w hs) (hi : ltP hs i = true) (e : nthP hs i = Mp ek (HV vf E) b l) (ht : P.underlying t = some (.map kt et)) (hx : ρ x = .map (some b)) (hy : ρ y = ek k) :
    ∃ v w', (execOp ρ ⟨dst, .call ⟨.builtin .delete, #[x, y], #[t, kt]⟩, ty, pos, after, g⟩).run P w = .ok (.value v) w' ∧ Ctx w' (setP hs i (Mp ek (HV vf E) b (mdel l k))) := by
  obtain ⟨R, S, hS, _⟩ := h.at hi e
  obtain ⟨es, clock, Ss, hb, hE, _, _, _⟩ := hS
  have hf := K.find k es.toList (l.map (·.1)) w hE.keys
  have hg : (getObj b).run P w = .ok (.map es clock) w := by simp [getObj, Sem.run, hb]
  rcases hE.find k 0 with ⟨h1, h2, h3, _⟩ | ⟨j, en, xx, S', h1, hj, _, h4, _, h6, h7, _⟩
  · rw [h1] at hf
    refine ⟨.tuple #[], _, ?_, Ctx.mpUpd h hi e hb es clock (mdel l k) (fun R Ss S hc hE => ⟨Ss, by rw [h3]; exact hE⟩) (fun a b => ⟨a, b⟩)⟩
    have : (Builtin.delete_ #[t, kt] ty #[.map (some b), ek k]).run P w = .ok (.tuple #[]) { w with heap := w.heap.setIfInBounds b (.map es clock) } := by
      simp [Builtin.delete_, run_underlying ht, hg, K.chk, hf, run_setMap hb]
    simp [execOp, resolve, invoke, builtin, hx, hy, this]
  · rw [h1, Nat.zero_add] at hf
    have hjl : j < es.size := by have := (List.getElem?_eq_some_iff.1 hj).1; simpa using this
    have hel : (es.eraseIdxIfInBounds j).toList = es.toList.eraseIdx j := by simp [Array.eraseIdxIfInBounds, hjl]
    refine ⟨.tuple #[], _, ?_, Ctx.mpUpd h hi e hb (es.eraseIdxIfInBounds j) clock (mdel l k) (fun R Ss S hc hE => ?_) (fun a b => ?_)⟩
    · have : (Builtin.delete_ #[t, kt] ty #[.map (some b), ek k]).run P w = .ok (.tuple #[]) { w with heap := w.heap.setIfInBounds b (.map (es.eraseIdxIfInBounds j) clock) } := by
        simp [Builtin.delete_, run_underlying ht, hg, K.chk, hf, run_setMap hb]
      simp [execOp, resolve, invoke, builtin, hx, hy, this]
    · rcases hE.find k 0 with ⟨h1', _⟩ | ⟨j', en', xx', S'', h1', _, _, _, _, _, h7', _⟩
      · rw [h1] at h1'; cases h1'
      · rw [h1] at h1'
        injection h1' with h1'
        injection h1' with h1' _
        have : j' = j := by omega
        subst this
        exact ⟨_, by rw [hel]; exact h7'⟩
    · rw [hel]
      refine ⟨?_, fun x hx => b x (List.mem_of_mem_eraseIdx hx)⟩
      exact List.Nodup.sublist ((List.eraseIdx_sublist _ _).map _) a
theorem Ctx.mpSet (K : KeyL P kt κ ek) {cs : List Value} {xv : β} (h : Ctx w (Hold E cs xv :: hs)) (hi : ltP hs i = true) (e : nthP hs i = Mp ek (HV vf E) b l) (ht : P.underlying t = some (.map kt et)) (hx : ρ x = .map (some b)) (hy : ρ y = ek k) (hz : ρ z = vf cs) :
    ∃ w', (execOp ρ ⟨dst, .mapUpdate t x y z, ty, pos, after, g⟩).run P w = .ok .skip w' ∧ Ctx w' (setP hs i (Mp ek (HV vf E) b (mset l k xv))) := by
  obtain ⟨R, S, hS, _⟩ := h.drop.at hi e
  obtain ⟨es, clock, Ss, hb, hE, _, _, _⟩ := hS
  have hf := K.find k es.toList (l.map (·.1)) w hE.keys
  have hg : (getObj b).run P w = .ok (.map es clock) w := by simp [getObj, Sem.run, hb]
  have hholds : ∀ R S, CtxAt w R (Hold E cs xv :: hs) S → (HV vf E (vf cs) xv).p w R [] := by
    intro R S hc
    match S, hc with
    | S0 :: Ss, hc => exact ⟨rfl, cs, rfl, hc.all.1.2⟩
  rcases hE.find k 0 with ⟨h1, h2, _, h3⟩ | ⟨j, en, xx, S', h1, hj, hke, h4, _, h6, _, _⟩
  · rw [h1] at hf
    have hrun : (Instr.mapUpdate t (.map (some b)) (ek k) (vf cs)).run P w = .ok () { w with heap := w.heap.setIfInBounds b (.map (es.push ⟨ek k, vf cs, clock⟩) (clock + 1)) } := by
      simp [Instr.mapUpdate, run_underlying ht, hg, K.chk, hf, run_setMap hb]
    refine ⟨_, by simp [execOp, hx, hy, hz, hrun]; rfl, ?_⟩
    have := Ctx.mpUpd h (i := i + 1) hi e hb (es.push ⟨ek k, vf cs, clock⟩) (clock + 1) (mset l k xv) (fun R Ss S hc hE => ⟨Ss ++ [[]], by
      rw [h3, Array.toList_push]
      exact EnR.push (ek := ek) (V := HV vf E) (k := k) rfl (hholds R S hc) hE⟩) (fun a b => ⟨by
        rw [Array.toList_push, List.map_append, List.nodup_append]
        refine ⟨a, by simp, fun p hp q hq e => ?_⟩
        simp at hq
        obtain ⟨x, hx, hxe⟩ := List.mem_map.1 hp
        have := b x hx
        omega, fun x hx => by
        rw [Array.toList_push, List.mem_append] at hx
        rcases hx with hx | hx
        · have := b x hx; omega
        · simp at hx; subst hx; simp⟩)
    exact this.drop
  · rw [h1, Nat.zero_add] at hf
    have hjl : j < es.size := by have := (List.getElem?_eq_some_iff.1 hj).1; simpa using this
    have hen : es[j]? = some en := by simpa using hj
    have hstay : (Instr.keyThatStays (ek k) (ek k)).run P w = .ok (ek k) w := by simp [Instr.keyThatStays, K.same]
    have hrun : (Instr.mapUpdate t (.map (some b)) (ek k) (vf cs)).run P w = .ok () { w with heap := w.heap.setIfInBounds b (.map (es.modify j fun e => { e with key := ek k, val := vf cs }) clock) } := by
      simp [Instr.mapUpdate, run_underlying ht, hg, K.chk, hf, hen, hke, hstay, run_setMap hb]
    have hml : (es.modify j fun e => { e with key := ek k, val := vf cs }).toList = es.toList.set j { en with val := vf cs } := by
      apply List.ext_getElem?
      intro q
      rw [Array.getElem?_toList, Array.getElem?_modify, List.getElem?_set]
      by_cases e : j = q
      · subst e
        have h9 := (Array.getElem?_eq_some_iff.1 hen).2
        simp [hjl, h9, ← hke]
      · simp [e]
    refine ⟨_, by simp [execOp, hx, hy, hz, hrun]; rfl, ?_⟩
    have := Ctx.mpUpd h (i := i + 1) hi e hb (es.modify j fun e => { e with key := ek k, val := vf cs }) clock (mset l k xv) (fun R Ss S hc hE => by
      rcases hE.find k 0 with ⟨h1', _⟩ | ⟨j', en', xx', S'', h1', hj', _, _, _, _, _, h8'⟩
      · rw [h1] at h1'; cases h1'
      · rw [h1] at h1'
        injection h1' with h1'
        injection h1' with h1' _
        have : j' = j := by omega
        subst this
        rw [hj] at hj'
        injection hj' with hj'
        subst hj'
        exact ⟨_, by rw [hml]; exact h8' _ _ [] (hholds R S hc)⟩) (fun a b => by
      have hbm : (es.toList.set j { en with val := vf cs }).map MapEntry.born = es.toList.map MapEntry.born := by
        rw [List.map_set]
        apply List.ext_getElem?
        intro q
        rw [List.getElem?_set]
        by_cases e : j = q
        · subst e
          rw [if_pos rfl, if_pos (by simpa using hjl), List.getElem?_map, hj]; rfl
        · rw [if_neg e]
      rw [hml, hbm]
      refine ⟨a, fun x hx => ?_⟩
      rcases List.mem_or_eq_of_mem_set hx with hx | hx
      · exact b x hx
      · subst hx; exact b en (List.mem_iff_getElem?.2 ⟨j, hj⟩))
    exact this.drop
theorem Ctx.mpMake (ek : κ → Value) (V : Value → β → HP) (h : Ctx w hs) : ∃ v w', (execOp ρ ⟨dst, .makeMap t none, ty, pos, after, g⟩).run P w = .ok (.value v) w' ∧ ∃ b, v = .map (some b) ∧ Ctx w' (Mp ek V b [] :: hs) := by
  refine ⟨.map (some w.heap.size), w.alloc (.map #[] 0), by simp [execOp, Instr.makeMap, newObj, Sem.run], _, rfl, ?_⟩
  exact h.new (.map #[] 0) _ fun R => ⟨#[], 0, [], heap_alloc_new w _, trivial, rfl, by simp, by simp⟩
end
end
end Go.Hp
namespace Go.Hp
open Go Go.RowKit
set_option linter.unusedVariables false
set_option linter.unusedSimpArgs false
set_option linter.unusedSectionVars false
section
variable {κ β : Type} [DecidableEq κ] {ek : κ → Value} {P : Program} {w : World} {ρ : Operand → Value} {dst : Option Nat} {ty : TypeId} {pos : String} {after : Array Edge} {g : Option (Nat × Bool)} {x y z : Operand} {hs : List HP} {i b : Nat} {t kt et : TypeId} {l : List (κ × β)} {k : κ} {m : Nat} {vf : List Value → Value} {E : PR β m}
/-- A look whose value is known. -/
theorem Ctx.mpGetC {f : β → List Value} (hf : ∀ (w : World) R cs x, E.r w R cs x → cs = f x) (K : KeyL P kt κ ek) (h : Ctx w hs) (hi : ltP hs i = true) (e : nthP hs i = Mp ek (HV vf E) b l) (ht : P.underlying t = some (.map kt et)) (hx : ρ x = .map (some b)) (hy : ρ y = ek k) {zv : Value} {x0 : β} (hz : ∀ w, (zeroValue et).run P w = .ok zv w) (hzv : zv = vf (f x0)) (hz0 : ∀ (w : World) R, E.r w R (f x0) x0)
    {u : Value} (hu : vf (f ((mget l k).getD x0)) = u) : (execOp ρ ⟨dst, .lookup t x y false, ty, pos, after, g⟩).run P w = .ok (.value u) w := by
  subst hu
  obtain ⟨v, w', h1, rfl, cs, rfl, h2⟩ := Ctx.mpGet (dst := dst) (ty := ty) (pos := pos) (after := after) (g := g) K h hi e ht hx hy hz hzv hz0 false
  obtain ⟨R, S, hp, _⟩ := h2.get
  rw [hf _ _ _ _ hp.2] at h1
  exact h1
theorem Ctx.mpGetC2 {f : β → List Value} (hf : ∀ (w : World) R cs x, E.r w R cs x → cs = f x) (K : KeyL P kt κ ek) (h : Ctx w hs) (hi : ltP hs i = true) (e : nthP hs i = Mp ek (HV vf E) b l) (ht : P.underlying t = some (.map kt et)) (hx : ρ x = .map (some b)) (hy : ρ y = ek k) {zv : Value} {x0 : β} (hz : ∀ w, (zeroValue et).run P w = .ok zv w) (hzv : zv = vf (f x0)) (hz0 : ∀ (w : World) R, E.r w R (f x0) x0)
    {u : Value} (hu : vf (f ((mget l k).getD x0)) = u) : (execOp ρ ⟨dst, .lookup t x y true, ty, pos, after, g⟩).run P w = .ok (.value (.tuple #[u, .bool (mget l k).isSome])) w := by
  subst hu
  obtain ⟨v, w', h1, rfl, cs, rfl, h2⟩ := Ctx.mpGet (dst := dst) (ty := ty) (pos := pos) (after := after) (g := g) K h hi e ht hx hy hz hzv hz0 true
  obtain ⟨R, S, hp, _⟩ := h2.get
  rw [hf _ _ _ _ hp.2] at h1
  exact h1
theorem Ctx.mpGetR (K : KeyL P kt κ ek) (h : Ctx w hs) (hi : ltP hs i = true) (e : nthP hs i = Mp ek (HV vf E) b l) (ht : P.underlying t = some (.map kt et)) (hx : ρ x = .map (some b)) (hy : ρ y = ek k) {zv : Value} {zcs : List Value} {x0 : β} (hz : ∀ w, (zeroValue et).run P w = .ok zv w) (hzv : zv = vf zcs) (hz0 : ∀ (w : World) R, E.r w R zcs x0) :
    ∃ v w', (execOp ρ ⟨dst, .lookup t x y false, ty, pos, after, g⟩).run P w = .ok (.value v) w' ∧ w' = w ∧ ∃ cs, v = vf cs ∧ Ctx w (Hold E cs ((mget l k).getD x0) :: hs) := by
  obtain ⟨v, w', h1, rfl, cs, rfl, h2⟩ := Ctx.mpGet (dst := dst) (ty := ty) (pos := pos) (after := after) (g := g) K h hi e ht hx hy hz hzv hz0 false
  exact ⟨_, _, h1, rfl, cs, rfl, h2⟩
theorem Ctx.mpGetR2 (K : KeyL P kt κ ek) (h : Ctx w hs) (hi : ltP hs i = true) (e : nthP hs i = Mp ek (HV vf E) b l) (ht : P.underlying t = some (.map kt et)) (hx : ρ x = .map (some b)) (hy : ρ y = ek k) {zv : Value} {zcs : List Value} {x0 : β} (hz : ∀ w, (zeroValue et).run P w = .ok zv w) (hzv : zv = vf zcs) (hz0 : ∀ (w : World) R, E.r w R zcs x0) :
    ∃ v w', (execOp ρ ⟨dst, .lookup t x y true, ty, pos, after, g⟩).run P w = .ok (.value v) w' ∧ w' = w ∧ ∃ cs, v = .tuple #[vf cs, .bool (mget l k).isSome] ∧ Ctx w (Hold E cs ((mget l k).getD x0) :: hs) := by
  obtain ⟨v, w', h1, rfl, cs, rfl, h2⟩ := Ctx.mpGet (dst := dst) (ty := ty) (pos := pos) (after := after) (g := g) K h hi e ht hx hy hz hzv hz0 true
  exact ⟨_, _, h1, rfl, cs, rfl, h2⟩
end
end Go.Hp
namespace Go.Hp
open Go Go.RowKit
section
variable {P : Program} {ρ : Operand → Value} {w : World} {dst : Option Nat} {ty : TypeId} {pos : String} {after : Array Edge} {g : Option (Nat × Bool)} {x y : Operand} {T U e : TypeId} {n q : Nat} {a : Addr}
theorem esnT (hT : P.underlying T = some (.slice e)) (hx : ρ x = .slice none n q) (hy : ρ y = .slice none 0 0) : (execOp ρ ⟨dst, .binOp .eql T x y U, ty, pos, after, g⟩).run P w = .ok (.value (.bool true)) w := esn hT hx hy
theorem esnF (hT : P.underlying T = some (.slice e)) (hx : ρ x = .slice (some a) n q) (hy : ρ y = .slice none 0 0) : (execOp ρ ⟨dst, .binOp .eql T x y U, ty, pos, after, g⟩).run P w = .ok (.value (.bool false)) w := esn hT hx hy
end

section
variable {P : Program} {ρ : Operand → Value} {w : World} {dst : Option Nat} {ty : TypeId} {pos : String} {after : Array Edge} {g : Option (Nat × Bool)} {x y : Operand}
theorem bmn {T : TypeId} {k : IntKind} {u : TypeDesc} {a b : Int} (hx : ρ x = .int k a) (hy : ρ y = .int k b) (_ : P.underlying T = some u) :
    (execOp ρ ⟨dst, .call ⟨.builtin .min, #[x, y], #[T, T]⟩, ty, pos, after, g⟩).run P w = .ok (.value (.int k (min a b))) w := by
  have e : min a b = if b < a then b else a := by split <;> omega
  simp [execOp, resolve, invoke, builtin, hx, hy, Builtin.min_, Builtin.min2, e]
theorem bmx {T : TypeId} {k : IntKind} {u : TypeDesc} {a b : Int} (hx : ρ x = .int k a) (hy : ρ y = .int k b) (_ : P.underlying T = some u) :
    (execOp ρ ⟨dst, .call ⟨.builtin .max, #[x, y], #[T, T]⟩, ty, pos, after, g⟩).run P w = .ok (.value (.int k (max a b))) w := by
  have e : max a b = if a < b then b else a := by split <;> omega
  simp [execOp, resolve, invoke, builtin, hx, hy, Builtin.max_, Builtin.max2, e]
theorem cvi {S D : TypeId} {k k1 k2 : IntKind} {a : Int} (hx : ρ x = .int k a) (h1 : P.underlying S = some (.int k1)) (h2 : P.underlying D = some (.int k2)) :
    (execOp ρ ⟨dst, .convert S D x, ty, pos, after, g⟩).run P w = .ok (.value (.int k2 (k2.wrap a))) w := by
  simp [execOp, convert, hx, run_underlying h1, run_underlying h2, Conv.intToInt]
end
end Go.Hp
