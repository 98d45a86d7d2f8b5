/- Ranges over functions: what a round walks, what an iterator walks. -/
import Derived.Test.YtdipfegofpfhaaaSl20
import Derived.RangeFuncIn
import Derived.RangeFuncLeaves
import Derived.RangeFuncRecord
import Derived.TacticsIn
import Derived.Sort.EveryDepth
namespace Go.Hp
open Go Go.RowKit
set_option linter.unusedVariables false
set_option linter.unusedSectionVars false
section
variable {α : Type} {m : Nat} {E : PR α m} {xs : List α} {w : World} {l : List HP} {k : Nat}
/-- A part of a row, with room up to its own end. -/
theorem reads_sub3 {Q : HP} {a : Option Addr} {n c lo hi mx : Nat} (hQ : Reads Q E (.slice a n c) xs) (h1 : lo ≤ hi) (h2 : hi ≤ xs.length) (h3 : hi ≤ mx) :
    Reads Q E (.slice (if mx = lo then a else a.map (·.add (lo * m))) (hi - lo) (mx - lo)) ((xs.take hi).drop lo) := by
  intro w R S hp
  obtain ⟨a', c', hv, hc, hr⟩ := hQ w R S hp
  injection hv with e1 e2 e3
  subst e1 e3
  refine ⟨_, _, by rw [show hi - lo = ((xs.take hi).drop lo).length by simp; omega], by simp; omega, fun i x hx => ?_⟩
  have hx' : xs[lo + i]? = some x := by
    rw [List.getElem?_drop, List.getElem?_take] at hx
    split at hx
    · exact hx
    · cases hx
  have hlt : lo + i < hi := by
    rw [List.getElem?_drop, List.getElem?_take] at hx
    split at hx
    · assumption
    · cases hx
  obtain ⟨bb, oo, cs, ha, hA, hE, hcs⟩ := hr (lo + i) x hx'
  subst ha
  refine ⟨bb, oo + lo * m, cs, ?_, hA, hE, fun j u hu => ?_⟩
  · rw [if_neg (by omega)]
    simp [Addr.add_lit]
  · have := hcs j u hu
    rw [show oo + lo * m + i * m + j = oo + (lo + i) * m + j by rw [Nat.add_mul]; omega]
    exact this
/-- A block that holds an object. -/
def Ob (b : Nat) (o : Obj) : HP := ⟨fun w R S => S = [b] ∧ w.heap[b]? = some o, fun h hk hR => ⟨h.1, (hk.block _ (.inl (by simp [h.1]))).trans h.2⟩⟩
theorem Ctx.obNew (h : Ctx w l) (o : Obj) : Ctx (w.alloc o) (Ob w.heap.size o :: l) := h.new _ _ fun R => ⟨rfl, World.alloc_heap_new w o⟩
theorem Ctx.obGet (h : Ctx w l) {b : Nat} {o : Obj} (hk : ltP l k = true) (e : nthP l k = Ob b o) : w.heap[b]? = some o := by
  obtain ⟨R, S, hp, _⟩ := h.at hk e
  exact hp.2
theorem Ctx.obPut (h : Ctx w l) {b : Nat} {o : Obj} (hk : ltP l k = true) (e : nthP l k = Ob b o) (o' : Obj) {l' : List HP} (el : setP l k (Ob b o') = l') : Ctx (w.putObj b o') l' := by
  refine h.upd1 hk _ (fun R S hp hS => ?_) el
  rw [e] at hp
  obtain ⟨rfl, hb⟩ := hp
  exact ⟨⟨rfl, World.putObj_heap_same (hS b (by simp)).1⟩, ⟨rfl, rfl, rfl, by simp, fun b' hb' => World.putObj_heap_other (by simpa using hb'.2)⟩⟩
end
-- in a round, and where a round is called; ds: the marks of the ranges gone through
def actD (ds : List Deferred) (n : Nat) (l : Fm) (b : Nat → Value) : Act := { act n l b with defers := ds }
abbrev QtD := List Deferred → Qt
def liftD (n : Nat) (Q : QtD) : Exit → Act → World → Prop := fun e a w => ∃ ds l b, a = actD ds n l b ∧ Q ds e l b w
def thenD (J : List Deferred → Fm → (Nat → Value) → World → Prop) (Q : QtD) : QtD := fun ds => thenQ (J ds) (Q ds)
def blkD (id : Nat) (Q : QtD) : QtD := fun ds => blkQ id (Q ds)
structure Wi (F : Fence) (P : Program) (n : Nat) (c : Code) (Q : QtD) (ds : List Deferred) (l : Fm) (b : Nat → Value) (w : World) : Prop where
  h : c.wpIn F 0 P (liftD n Q) (actD ds n l b) w
structure Ri (F : Fence) (P : Program) (n : Nat) (ops : List Oper) (Q : QtD) (rest : List Oper) (ds : List Deferred) (l : Fm) (b : Nat → Value) (w : World) : Prop where
  h : wpListIn F 0 P ops.toArray (liftD n Q) rest (actD ds n l b) w
theorem actD_eval (ds : List Deferred) (n : Nat) (l : Fm) (b : Nat → Value) : (actD ds n l b).eval = ev n l b := act_eval n l b
theorem actD_put (ds : List Deferred) (n : Nat) (l : Fm) (b : Nat → Value) (d : Option Nat) (v : Value) : (actD ds n l b).put d v = actD ds n (putF d v l) b := by
  have h := act_put n l b d v
  cases d with
  | none => rfl
  | some d =>
    simp only [Act.put, putF] at h ⊢
    unfold actD
    rw [← h]
theorem wantD (ds : List Deferred) (n : Nat) (ops : List Oper) (l : Fm) (b : Nat → Value) (o : Oper) : Region.wanted o (yielded ops.toArray (actD ds n l b).tmps) = want n ops l b o := want_act n ops l b o
/-- A fence that bars nothing. -/
structure Free (F : Fence) : Prop where
  fn : ∀ f, F.fn f
  depth : F.depth = none
  calls : ∀ {P : Program} {f : FuncId} {args : Array Value} {w : World} {R : Ending → World → Prop}, Calls P f args w R → CallsIn F 0 P f args w R
theorem free_wide : Free Fence.wide := ⟨fun _ => trivial, rfl, fun h => callsIn_wide.2 h⟩
theorem free_round (r : Nat) : Free (Fence.wide.inRound r) := ⟨fun _ => trivial, rfl, fun h => (callsIn_wide (n := 0)).2 h⟩
section
variable {F : Fence} {P : Program} {n : Nat} {Q : QtD} {ds : List Deferred} {l : Fm} {b : Nat → Value} {w : World}
theorem Wi_of {c : Code} (h : Wp P n c (Q []) l b w) : Wi Fence.wide P n c Q [] l b w := ⟨wpIn_wide.2 (wp_mono h.h fun e a w ⟨l, b, ha, hq⟩ => ⟨[], l, b, ha, hq⟩)⟩
theorem WiSeq {x y : Code} (h : Wi F P n x (thenD (Wi F P n y Q) Q) ds l b w) : Wi F P n (.seq x y) Q ds l b w :=
  ⟨wpIn_seq (Go.wpIn_mono h.h fun e a w ⟨ds, l, b, ha, hq⟩ => by cases e <;> first | (subst ha; exact hq.h) | exact ⟨ds, l, b, ha, hq⟩)⟩
theorem WiCt {c : Operand} {x y : Code} (hc : ev n l b c = .bool true) (h : Wi F P n x Q ds l b w) : Wi F P n (.cond c x y) Q ds l b w := ⟨wpIn_cond_true (by rw [actD_eval]; exact hc) h.h⟩
theorem WiCf {c : Operand} {x y : Code} (hc : ev n l b c = .bool false) (h : Wi F P n y Q ds l b w) : Wi F P n (.cond c x y) Q ds l b w := ⟨wpIn_cond_false (by rw [actD_eval]; exact hc) h.h⟩
theorem WiBlk {id : Nat} {c : Code} (h : Wi F P n c (blkD id Q) ds l b w) : Wi F P n (.block id c) Q ds l b w :=
  ⟨wpIn_block (Go.wpIn_mono h.h fun e a w ⟨ds, l, b, ha, hq⟩ => by
    cases e <;> first | exact ⟨ds, l, b, ha, hq⟩ | skip
    rename_i id'
    simp only [Exit.inBlock, blkD, blkQ] at hq ⊢
    split at hq
    · rename_i h; rw [if_pos h]; exact ⟨ds, l, b, ha, hq⟩
    · rename_i h; rw [if_neg h]; exact ⟨ds, l, b, ha, hq⟩)⟩
theorem WiSkip (h : Q ds .normal l b w) : Wi F P n .skip Q ds l b w := ⟨wpIn_skip ⟨ds, l, b, rfl, h⟩⟩
theorem WiExit {id : Nat} (h : Q ds (.exit id) l b w) : Wi F P n (.exit id) Q ds l b w := ⟨wpIn_exit ⟨ds, l, b, rfl, h⟩⟩
theorem WiRet (h : Q ds .ret l b w) : Wi F P n .ret Q ds l b w := ⟨wpIn_ret ⟨ds, l, b, rfl, h⟩⟩
theorem least {p : Nat → Prop} : ∀ m, p m → ∃ k, p k ∧ ∀ j, p j → k ≤ j := by
  intro m
  induction m using Nat.strongRecOn with
  | _ m ih =>
    intro hm
    by_cases h : ∃ j, j < m ∧ p j
    · obtain ⟨j, hj, hp⟩ := h
      exact ih j hj hp
    · exact ⟨m, hm, fun j hj => Nat.le_of_not_lt fun hlt => h ⟨j, hlt, hj⟩⟩
noncomputable def lst (p : Nat → Prop) : Nat := @dite _ (∃ m, p m) (Classical.propDecidable _) (fun h => Classical.choose (least _ (Classical.choose_spec h))) (fun _ => 0)
theorem lst_spec {p : Nat → Prop} {m : Nat} (h : p m) : p (lst p) ∧ lst p ≤ m := by
  have hx : ∃ m, p m := ⟨m, h⟩
  unfold lst
  rw [dif_pos hx]
  have := Classical.choose_spec (least _ (Classical.choose_spec hx))
  exact ⟨this.1, this.2 _ h⟩
/-- A loop by what holds of its variables. -/
theorem WiLoop {c : Code} (J : Nat → List Deferred → Fm → (Nat → Value) → World → Prop) (m0 : Nat) (h0 : J m0 ds l b w)
    (hr : ∀ m ds l b w, J m ds l b w → Wi F P n c (thenD (fun ds l b w => ∃ m', m' < m ∧ J m' ds l b w) Q) ds l b w) : Wi F P n (.loop c) Q ds l b w := by
  refine ⟨wpIn_loop (fun a w => ∃ m ds l b, a = actD ds n l b ∧ J m ds l b w) (fun a w => lst fun m => ∃ ds l b, a = actD ds n l b ∧ J m ds l b w) ⟨m0, ds, l, b, rfl, h0⟩ fun a w hI => ?_⟩
  obtain ⟨mm, ds0, l0, b0, hI⟩ := hI
  obtain ⟨ds1, l1, b1, ha, hJ⟩ := (lst_spec (p := fun m => ∃ ds l b, a = actD ds n l b ∧ J m ds l b w) ⟨ds0, l0, b0, hI⟩).1
  have h1 := (hr _ _ _ _ _ hJ).h
  rw [← ha] at h1
  refine Go.wpIn_mono h1 fun e a' w' ⟨ds', l', b', ha', hq⟩ => ?_
  cases e with
  | normal =>
    obtain ⟨m', hlt, hJ'⟩ := hq
    exact ⟨⟨m', ds', l', b', ha', hJ'⟩, Nat.lt_of_le_of_lt (lst_spec (p := fun m => ∃ ds l b, a' = actD ds n l b ∧ J m ds l b w') ⟨ds', l', b', ha', hJ'⟩).2 hlt⟩
  | _ => exact ⟨ds', l', b', ha', hq⟩
/-- The frame by some of its variables. -/
theorem WiSlots {c : Code} (slots : List Nat) {vs : List Value} (hv : slots.map (look l b) = vs) (h : Wi F P n c Q ds (slots.zip vs) (look l b) w) : Wi F P n c Q ds l b w := by
  subst hv
  have e : act n (slots.zip (slots.map (look l b))) (look l b) = act n l b := act_congr n fun i => look_zip slots (look l b) (look l b) (fun _ _ => rfl) i
  have e2 : actD ds n (slots.zip (slots.map (look l b))) (look l b) = actD ds n l b := by unfold actD; rw [e]
  exact ⟨e2 ▸ h.h⟩
end
section
variable {F : Fence} {P : Program} {n : Nat} {Q : QtD} {ds : List Deferred} {l : Fm} {b : Nat → Value} {w : World} {ops rest : List Oper} {op : Op} {ty : TypeId} {pos : String} {after : Array Edge} {g : Option (Nat × Bool)} {d : Nat}
theorem WiReg {id : Nat} {ops : List Oper} (h : Ri F P n ops Q ops ds l b w) : Wi F P n (.region id ops.toArray false) Q ds l b w := ⟨wpIn_region_lit h.h⟩
theorem riN (h : Q ds .normal l b w) : Ri F P n ops Q [] ds l b w := ⟨⟨ds, l, b, rfl, h⟩⟩
theorem semAt_plain (o : Oper) (ρ : Operand → Value) (h : ∀ c, o.op ≠ .defer c) : o.semAt F.round ρ = execOp ρ o := by
  cases hr : F.round with
  | none => unfold Oper.semAt; rfl
  | some l => exact Oper.semAt_some l ρ o h
theorem riS (hF : Free F) (hd : ∀ c, op ≠ .defer c) {v : Value} {w' : World} (h : (execOp (ev n l b) ⟨some d, op, ty, pos, after, g⟩).run P w = .ok (.value v) w') (hw : want n ops l b ⟨some d, op, ty, pos, after, g⟩ = true) (k : Ri F P n ops Q rest ds ((d, v) :: l) b w') : Ri F P n ops Q (⟨some d, op, ty, pos, after, g⟩ :: rest) ds l b w := by
  refine ⟨?_⟩
  unfold wpListIn
  rw [wantD, hw, if_pos rfl]
  refine ⟨fun f _ => hF.fn f, ?_⟩
  rw [semAt_plain _ _ hd, actD_eval, h, Oper.uponIn_value, actD_put]
  exact k.h
theorem riSE (hF : Free F) (hd : ∀ c, op ≠ .defer c) {A : Value → World → Prop} (h : ∃ v w', (execOp (ev n l b) ⟨some d, op, ty, pos, after, g⟩).run P w = .ok (.value v) w' ∧ A v w') (hw : want n ops l b ⟨some d, op, ty, pos, after, g⟩ = true) (k : ∀ v w', A v w' → Ri F P n ops Q rest ds ((d, v) :: l) b w') : Ri F P n ops Q (⟨some d, op, ty, pos, after, g⟩ :: rest) ds l b w := by
  obtain ⟨v, w', h1, h2⟩ := h
  exact riS hF hd h1 hw (k v w' h2)
theorem riU (hF : Free F) (hd : ∀ c, op ≠ .defer c) {w' : World} (h : (execOp (ev n l b) ⟨none, op, ty, pos, after, g⟩).run P w = .ok .skip w') (hw : want n ops l b ⟨none, op, ty, pos, after, g⟩ = true) (k : Ri F P n ops Q rest ds l b w') : Ri F P n ops Q (⟨none, op, ty, pos, after, g⟩ :: rest) ds l b w := by
  refine ⟨?_⟩
  unfold wpListIn
  rw [wantD, hw, if_pos rfl]
  refine ⟨fun f _ => hF.fn f, ?_⟩
  rw [semAt_plain _ _ hd, actD_eval, h, Oper.uponIn_skip, actD_put]
  exact k.h
theorem riUE (hF : Free F) (hd : ∀ c, op ≠ .defer c) {A : World → Prop} (h : ∃ w', (execOp (ev n l b) ⟨none, op, ty, pos, after, g⟩).run P w = .ok .skip w' ∧ A w') (hw : want n ops l b ⟨none, op, ty, pos, after, g⟩ = true) (k : ∀ w', A w' → Ri F P n ops Q rest ds l b w') : Ri F P n ops Q (⟨none, op, ty, pos, after, g⟩ :: rest) ds l b w := by
  obtain ⟨w', h1, h2⟩ := h
  exact riU hF hd h1 hw (k w' h2)
theorem riC (hF : Free F) (hd : ∀ c, op ≠ .defer c) {f : FuncId} {args : Array Value} {w' : World} (h : (execOp (ev n l b) ⟨some d, op, ty, pos, after, g⟩).run P w = .ok (.enter f args) w') (hw : want n ops l b ⟨some d, op, ty, pos, after, g⟩ = true)
    (k : Calls P f args w' (Ret fun v w'' => Ri F P n ops Q rest ds ((d, v) :: l) b w'')) : Ri F P n ops Q (⟨some d, op, ty, pos, after, g⟩ :: rest) ds l b w := by
  refine ⟨?_⟩
  unfold wpListIn
  rw [wantD, hw, if_pos rfl]
  refine ⟨fun f _ => hF.fn f, ?_⟩
  rw [semAt_plain _ _ hd, actD_eval, h, Oper.uponIn_enter]
  refine ⟨(fun e => by rw [hF.depth] at e; cases e), hF.calls (k.mono fun e w ⟨v, he, hk⟩ => ?_)⟩
  subst he
  simp only [actD_put]
  exact hk.h
/-- A call of a range's yield. -/
theorem riY (hF : Free F) (hd : ∀ c, op ≠ .defer c) {r : Nat} {f : FuncId} {tmps : Array Value} {assign body : Code} {v : Value} {J : World → Prop} {w' : World} (h : (execOp (ev n l b) ⟨some d, op, ty, pos, after, g⟩).run P w = .ok (.round r f tmps assign body) w') (hw : want n ops l b ⟨some d, op, ty, pos, after, g⟩ = true)
    (hy : RoundIn F 0 P r f tmps assign body w' fun e w'' => e = .returned v ∧ J w'') (k : ∀ w'', J w'' → Ri F P n ops Q rest ds ((d, v) :: l) b w'') : Ri F P n ops Q (⟨some d, op, ty, pos, after, g⟩ :: rest) ds l b w := by
  refine ⟨?_⟩
  unfold wpListIn
  rw [wantD, hw, if_pos rfl]
  refine ⟨fun f _ => hF.fn f, ?_⟩
  rw [semAt_plain _ _ hd, actD_eval, h, Oper.uponIn_round]
  refine ⟨(fun e => by rw [hF.depth] at e; cases e), hy.mono fun e w ⟨he, hk⟩ => ?_⟩
  subst he
  simp only [actD_put]
  exact (k _ hk).h
/-- The operation of such a call. -/
theorem cy {ρ : Operand → Value} {x : Operand} {args : Array Operand} {ats : Array TypeId} {vs : List Value} {dst : Option Nat} {r : Nat} {rc : Loop} {T : Array Value} (hf : ρ x = .func (.yield r) #[] #[]) (ha : args.toList.map ρ = vs) (hl : w.heap[r]? = some (.loop rc)) (hs : vs.length = rc.params.size)
    (ht : (rc.params.zip vs.toArray).foldl (fun tmps (t, a) => tmps.setIfInBounds t a) rc.tmps = T) :
    (execOp ρ ⟨dst, .call ⟨.value x, args, ats⟩, ty, pos, after, g⟩).run P w = .ok (.round r rc.fn T rc.assign rc.body) w := by
  subst ha ht
  have : args.map ρ = (args.toList.map ρ).toArray := by apply Array.ext' ; simp
  have hy := run_yield (P := P) (args := (args.toList.map ρ).toArray) hl (by simpa using hs)
  simp [execOp, resolve, hf, Deferred.ofValue, invoke, this, hy]
end
section
variable {P : Program} {n : Nat} {w : World}
theorem argsAct {args : List Value} {n : Nat} (hl : Nat.ble args.length n = true) : act n (argsF 0 args) (fun _ => undef) = { tmps := args.toArray ++ Array.replicate (n - args.toArray.size) undef, defers := [] } := by
  replace hl := Nat.le_of_ble_eq_true hl
  simp only [act, Act.mk.injEq, and_true]
  apply Array.ext
  · simp; omega
  · intro i h1 h2
    simp only [Array.size_ofFn] at h1
    simp only [Array.getElem_ofFn, look_argsF]
    by_cases hi : i < args.length
    · rw [Array.getElem_append_left (by simpa using hi)]; simp [hi]
    · rw [Array.getElem_append_right (by simpa using hi)]; simp [hi]
/-- What a body must come to: the marks taken off. -/
def postM (P : Program) (fn : Func) (R : Ending → World → Prop) : QtD
  | ds, .normal, l, b, w | ds, .ret, l, b, w => LeavesInM Fence.wide 0 P fn (act fn.ntmps l b).tmps R ds .returning w
  | _, _, _, _, _ => False
theorem CenterM {f : FuncId} {fn : Func} {c : Code} {n : Nat} {args : List Value} {R : Ending → World → Prop} (hf : P.funcs[f]? = some fn) (hn : fn.ntmps = n) (hb : fn.body = some c) (hl : Nat.ble args.length n = true) {l : Fm} (hA : argsF 0 args = l)
    (h : Wi Fence.wide P n c (postM P fn R) [] l (fun _ => undef) w) : CallsIn Fence.wide 0 P f args.toArray w R := by
  subst hn hA
  refine callsIn_of_wp_marks hf hb trivial ?_ rfl
  rw [← argsAct hl]
  exact Go.wpIn_mono h.h fun e a w ⟨ds, l, b, hab, hq⟩ => by
    subst hab
    cases e <;> first | exact hq | exact hq.elim
theorem CenterMC {f : FuncId} {fn : Func} {c : Code} {n : Nat} {args : List Value} {R : Ending → World → Prop} (hf : P.funcs[f]? = some fn) (hn : fn.ntmps = n) (hb : fn.body = some c) (hl : Nat.ble args.length n = true) {l : Fm} (hA : argsF 0 args = l)
    (h : Wi Fence.wide P n c (postM P fn R) [] l (fun _ => undef) w) : Calls P f args.toArray w R := callsIn_wide.1 (CenterM hf hn hb hl hA h)
theorem m0n {fn : Func} {R : Ending → World → Prop} {l : Fm} {b : Nat → Value} (hr : fn.results = #[]) (h : R (.returned (.tuple #[])) w) : postM P fn R [] .normal l b w := ⟨_, results_none hr _ _ _, h⟩
/-- One mark: its block is shut. -/
theorem m1r {fn : Func} {R : Ending → World → Prop} {l : Fm} {b : Nat → Value} {r D : Nat} {v : Value} (hr : fn.results = #[.tmp r]) (hn : fn.ntmps = n) (hv : ev n l b (.tmp r) = v) (hD : w.heap[D]? = some (.deferred (some []))) (h : R (.returned v) (w.putObj D (.deferred none))) :
    postM P fn R [{ target := .collected D, args := #[] }] .ret l b w := by
  subst hn
  refine ⟨by simp, .inl ⟨_, _, rfl, run_takeDeferred hD, v, ?_, h⟩⟩
  rw [results_tmp hr]
  congr 1
  have := congrFun (act_eval fn.ntmps l b) (.tmp r)
  rw [← hv, ← this]
  rfl
/-- A round, by the walks of its assignment and its body. -/
def roundQ (r : Nat) (rc : Loop) (J : World → Prop) : QtD
  | _, .normal, _, _, w => ∃ G, Ctx w (Ob r (.loop { rc with state := .busy }) :: G) ∧ ∀ w', Ctx w' (Ob r (.loop rc) :: G) → J w'
  | _, _, _, _, _ => False
def assignQ (P : Program) (n r : Nat) (rc : Loop) (J : World → Prop) : QtD
  | ds, .normal, l, b, w => ∃ G, Ctx w (Ob r (.loop rc) :: G) ∧ ∀ w', Ctx w' (Ob r (.loop { rc with state := .busy }) :: G) → Wi (Fence.wide.inRound r) P n rc.body (roundQ r rc J) ds l b w'
  | _, _, _, _, _ => False
theorem round_of {r : Nat} {rc : Loop} {l : Fm} {b : Nat → Value} {T : Array Value} {J : World → Prop} (hst : rc.state = .ready) (hpd : rc.pending = none) (hT : (act n l b).tmps = T)
    (h : Wi (Fence.wide.inRound r) P n rc.assign (assignQ P n r rc J) [] l b w) : RoundIn Fence.wide 0 P r rc.fn T rc.assign rc.body w fun e w' => e = .returned (.bool true) ∧ J w' := by
  subst hT
  refine roundIn_of_wpIn trivial (Go.wpIn_mono h.h fun e a w1 ⟨ds, l, b, ha, hq⟩ => ?_)
  cases e with
  | normal =>
    subst ha
    obtain ⟨G, hc, hk⟩ := hq
    refine ⟨_, run_beginRound (hc.obGet (k := 0) rfl rfl) hst, Go.wpIn_mono (hk _ (hc.obPut (k := 0) rfl rfl _ rfl)).h fun e a w2 ⟨ds, l, b, ha, hq⟩ => ?_⟩
    cases e with
    | normal =>
      obtain ⟨G, hc, hk⟩ := hq
      refine ⟨_, _, run_endRound none (hc.obGet (k := 0) rfl rfl), rfl, hk _ ?_⟩
      refine hc.obPut (k := 0) rfl rfl _ ?_
      have : rc = { { rc with state := LoopState.busy } with state := if (none : Option Code).isNone = true then .ready else .done, pending := none } := by
        obtain ⟨s, p, _, _, _, _, _, _⟩ := rc
        simp only at hst hpd
        subst hst hpd
        rfl
      rw [← this]
      rfl
    | _ => exact hq.elim
  | _ => exact hq.elim
theorem tmpsPut {l : Fm} {b : Nat → Value} {d : Nat} {v : Value} : (act n ((d, v) :: l) b).tmps = ((#[d] : Array Nat).zip #[v]).foldl (fun tmps (t, a) => tmps.setIfInBounds t a) (act n l b).tmps := by
  have h := congrArg Act.tmps (act_put n l b (some d) v)
  simp only [putF, Act.put] at h
  rw [← h]
  simp
/-- .. of one variable. -/
theorem round_1 {r d : Nat} {rc : Loop} {l : Fm} {b : Nat → Value} {v : Value} {J : World → Prop} (hst : rc.state = .ready) (hpd : rc.pending = none) (htm : rc.tmps = (act n l b).tmps) (hps : rc.params = #[d])
    (h : Wi (Fence.wide.inRound r) P n rc.assign (assignQ P n r rc J) [] ((d, v) :: l) b w) :
    RoundIn Fence.wide 0 P r rc.fn ((rc.params.zip #[v]).foldl (fun tmps (t, a) => tmps.setIfInBounds t a) rc.tmps) rc.assign rc.body w fun e w' => e = .returned (.bool true) ∧ J w' := by
  refine round_of hst hpd ?_ h
  rw [htm, hps]
  exact tmpsPut
/-- The statement: the iterator is called with the yield of a new record. -/
theorem WiRange {g : Operand} {ps : Array Tmp} {assign body : Code} {Q : QtD} {ds : List Deferred} {l : Fm} {b : Nat → Value} {gf : Nat} {caps : List Value} {Fr : List HP} (hg : ev n l b g = .func (.func gf) #[] caps.toArray) (eg : ∀ args w, (callFunc gf args).run P w = .ok (.enter gf args) w) (hc : Ctx w Fr)
    (h : ∀ (D r : Nat) (rc : Loop) (w' : World), rc.state = .ready → rc.pending = none → rc.tmps = (act n l b).tmps → rc.params = ps → rc.assign = assign → rc.body = body → Ctx w' (Ob r (.loop rc) :: Ob D (.deferred (some [])) :: Fr) →
      CallsIn Fence.wide 0 P gf ((.func (.yield r) #[] #[] :: caps).toArray) w' fun e w'' => (∃ v, e = .returned v) ∧ ∃ G, Ctx w'' (Ob r (.loop rc) :: Ob D (.deferred (some [])) :: G) ∧
        ∀ w3, Ctx w3 (Ob D (.deferred (some [])) :: G) → Q ({ target := .collected D, args := #[] } :: ds) .normal l b w3) :
    Wi Fence.wide P n (.rangeFunc g ps assign body) Q ds l b w := by
  refine ⟨wpIn_rangeFunc fun fn _ => ?_⟩
  have hc2 := (hc.obNew (.deferred (some []))).obNew (.loop { state := .ready, pending := none, fn, tmps := (act n l b).tmps, params := ps, assign, body, defers := w.heap.size })
  rw [World.size_alloc] at hc2
  have hr := run_enterLoop_outer (P := P) (w := w) fn (actD ds n l b).tmps ps assign body
  rw [show (actD ds n l b).tmps = (act n l b).tmps from rfl] at hr
  generalize hW : (w.alloc (.deferred (some []))).alloc (.loop { state := .ready, pending := none, fn, tmps := (act n l b).tmps, params := ps, assign, body, defers := w.heap.size }) = W1 at hc2 hr
  clear hW
  have hh := h _ _ _ _ rfl rfl rfl rfl rfl rfl hc2
  refine ⟨w.heap.size + 1, [{ target := .collected w.heap.size, args := #[] }], W1, { target := .fn (.func gf) caps.toArray, args := #[.func (.yield (w.heap.size + 1)) #[] #[]] }, W1, gf, #[.func (.yield (w.heap.size + 1)) #[] #[]] ++ caps.toArray, W1, hr, ?_, fun _ _ => trivial, ?_, (fun e => by cases e), ?_⟩
  · rw [actD_eval]
    simp only [resolve, hg]
    simp [go_sem]
    rfl
  · simp [invoke, go_sem, eg]
  · have e1 : (#[.func (.yield (w.heap.size + 1)) #[] #[]] ++ caps.toArray : Array Value) = (.func (.yield (w.heap.size + 1)) #[] #[] :: caps).toArray := by simp
    rw [e1]
    refine hh.mono fun e w2 ⟨⟨v, he⟩, G, hG, hk⟩ => ?_
    subst he
    refine ⟨none, _, run_endLoop (hG.obGet (k := 0) rfl rfl) (by simp), ?_⟩
    exact ⟨_, l, b, rfl, hk _ (hG.obPut (k := 0) rfl rfl _ rfl).drop⟩
end
section
variable {P : Program} {ρ : Operand → Value} {w : World} {dst : Option Nat} {ty : TypeId} {pos : String} {after : Array Edge} {g : Option (Nat × Bool)} {x lo hi mx : Operand} {T t : TypeId} {m : Nat} {a : Option Addr} {n q : Nat}
/-- 's[l:h:m]', and what it is. -/
theorem run_sub3v {l h k : Int} (hx : ρ x = .slice a n q) (hl : ∃ kk, ρ lo = .int kk l) (hh : ∃ kk, ρ hi = .int kk h) (hm : ∃ kk, ρ mx = .int kk k) (ht : P.underlying t = some (.slice T)) (hs : ∀ w, (sizeOf T).run P w = .ok m w) (h1 : 0 ≤ l ∧ l ≤ h ∧ h ≤ k) (hq : k ≤ q) :
    (execOp ρ ⟨dst, .slice t x (some lo) (some hi) (some mx), ty, pos, after, g⟩).run P w = .ok (.value (.slice (if k.toNat = l.toNat then a else a.map (·.add (l.toNat * m))) (h.toNat - l.toNat) (k.toNat - l.toNat))) w := by
  obtain ⟨k1, e1⟩ := hl
  obtain ⟨k2, e2⟩ := hh
  obtain ⟨k3, e3⟩ := hm
  have hu : ∀ w, (underlying t).run P w = .ok (.slice T) w := fun w => run_underlying ht w
  have hb : ∀ (k : IntKind) (i : Int) (y : Nat) (code : BoundsCode), 0 ≤ i → i ≤ y → (Instr.sliceBound (.int k i) y code).run P w = .ok i.toNat w := fun k i y code h0 h1 => by simp [Instr.sliceBound, asIntOf, h0, h1]
  simp only [execOp, Option.map_some, hx, e1, e2, e3]
  have hbb : (Instr.sliceBounds true n q (some (.int k1 l)) (some (.int k2 h)) (some (.int k3 k))).run P w = .ok (l.toNat, h.toNat, k.toNat) w := by
    simp [Instr.sliceBounds, hb k3 k q _ (by omega) (by omega), hb k2 h k.toNat _ (by omega) (by omega), hb k1 l h.toNat _ (by omega) (by omega)]
  simp [Instr.sliceAt, Instr.slice, hu, hbb, hs]
end
end Go.Hp
namespace Go.Hp
open Go Go.RowKit
section
variable {P : Program} {ρ : Operand → Value} {w : World} {dst : Option Nat} {ty : TypeId} {pos : String} {after : Array Edge} {g : Option (Nat × Bool)} {x : Operand}
/-- A field of a struct's value. -/
theorem fldv {T : TypeId} {fs : Array Field} {f : Nat} {fd : Field} {cs : List Value} {v : Value} (hx : ρ x = .agg cs.toArray) (hu : P.underlying T = some (.struct fs)) (hf : fs[f]? = some fd) (hA : ∀ w, (isAgg fd.type).run P w = .ok false w) (hv : cs[fd.offset]? = some v) :
    (execOp ρ ⟨dst, .field T x f, ty, pos, after, g⟩).run P w = .ok (.value v) w := by
  have h1 := run_underlying hu w
  simp only [execOp, hx]
  simp [Instr.field, h1, hf, part, hA, hv, asAgg]
end
end Go.Hp
namespace Go.Hp
open Go Go.RowKit
set_option linter.unusedSectionVars false
section
variable {κ β : Type} [DecidableEq κ] {m : Nat} {ek : κ → Value} {vf : List Value → Value} {E : PR β m} {w : World} {R : Nat → Prop}
theorem EnR.flat : ∀ {es : List MapEntry} {l : List (κ × β)} {Ss : List (List Nat)}, EnR ek (HV vf E) w R es l Ss → Ss.flatten = []
  | [], [], [], _ => rfl
  | _ :: es, _ :: l, S :: Ss, h => by
    have h1 := h.2.1.1
    have h2 := EnR.flat h.2.2
    rw [List.flatten_cons, h1, h2]
    rfl
  | [], _ :: _, _, h => h.elim
  | _ :: _, [], _, h => h.elim
  | [], [], _ :: _, h => h.elim
  | _ :: _, _ :: _, [], h => h.elim
/-- A map of plain values, laid once more. -/
theorem Ctx.mpClone {b : Nat} {l : List (κ × β)} {hs : List HP} (h : Ctx w (Mp ek (HV vf E) b l :: hs)) :
    ∃ es clock, w.heap[b]? = some (.map es clock) ∧ Ctx (w.alloc (.map es clock)) (Mp ek (HV vf E) w.heap.size l :: Mp ek (HV vf E) b l :: hs) := by
  have h0 := h
  obtain ⟨R, Ss, hc⟩ := h0
  match Ss, hc with
  | [], hc => exact hc.all.elim
  | S0 :: Ss, hc =>
    obtain ⟨⟨es, clock, Ss1, hb, _⟩, _⟩ := hc.all
    refine ⟨es, clock, hb, ?_⟩
    refine Ctx.upd (Ps := [Mp ek (HV vf E) b l]) (Qs := [Mp ek (HV vf E) w.heap.size l, Mp ek (HV vf E) b l]) (Fr := hs) h fun R Ss hc => ?_
    match Ss, hc with
    | [], hc => exact hc.all.elim
    | _ :: _ :: _, hc => exact hc.all.2.elim
    | [S], hc =>
      obtain ⟨⟨es', clock', Ss', hb', hE, hS, hn, hcl⟩, _⟩ := hc.all
      rw [hb] at hb'
      injection hb' with hb'
      injection hb' with e1 e2
      subst e1 e2
      have hfl := hE.flat
      have kp : ∀ A : Nat → Prop, (∀ b, A b → b < w.heap.size) → Kp A w (w.alloc (.map es clock)) := fun A hA => ⟨rfl, rfl, rfl, by simp, fun b hb => Below.heap_alloc _ _ _ (hA b hb)⟩
      have hlt : b < w.heap.size := (Array.getElem?_eq_some_iff.1 hb).1
      have hE' := hE.st (kp _ (fun x hx => by rcases hx with h | h; rw [hfl] at h; cases h; exact hc.fz x h)) (fun _ h => h)
      rw [hfl] at hS
      subst hS
      refine ⟨R, [[w.heap.size], [b]], ⟨⟨es, clock, Ss', World.alloc_heap_new w _, hE', by rw [hfl], hn, hcl⟩, ⟨es, clock, Ss', (Below.heap_alloc _ _ _ hlt).trans hb, hE', by rw [hfl], hn, hcl⟩, trivial⟩, by simp; omega, fun x hx => ?_, fun _ h => h, fun x hx => ⟨.inl hx, by have := hc.fz x hx; simp; omega⟩, kp _ (fun x hx => hx.1)⟩
      simp at hx
      rcases hx with rfl | rfl
      · exact ⟨.inr (Nat.le_refl _), by simp, fun hr => by have := hc.fz _ hr; omega⟩
      · exact ⟨.inl (by simp), by simp; omega, (hc.own x (by simp)).2⟩
end
end Go.Hp
namespace Go.Hp
open Go Go.RowKit
section
variable {α : Type} {m : Nat} {E : PR α m} {xs : List α} {w : World} {l : List HP}
/-- How a frozen row begins. -/
theorem Ctx.preRo {a : Option Addr} {n c hi : Nat} (h : Ctx w (Hold (pRo E) [.slice a n c] xs :: l)) (h2 : hi ≤ xs.length) : Ctx w (Hold (pRo E) [.slice a hi c] (xs.take hi) :: l) := by
  refine Ctx.conv h (k := 0) rfl (Hold (pRo E) [.slice a hi c] (xs.take hi)) (fun R S (hp : (Hold (pRo E) [.slice a n c] xs).p w R S) => ⟨hp.1, ?_⟩) rfl
  obtain ⟨v, e, a', c', hv, hc, hr⟩ := hp.2
  injection e with e
  subst e
  injection hv with e1 e2 e3
  subst e1 e3
  have hl : (xs.take hi).length = hi := by simp; omega
  refine ⟨_, rfl, a, c, by rw [hl], by rw [hl]; omega, fun i x hx => hr i x ?_⟩
  rw [List.getElem?_take] at hx
  split at hx
  · exact hx
  · cases hx
end
end Go.Hp
