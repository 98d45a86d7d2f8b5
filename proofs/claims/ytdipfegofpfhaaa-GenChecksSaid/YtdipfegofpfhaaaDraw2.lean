/- A region that draws its order, in which writing operations stand unordered beside one another: order by order. -/
import Derived.Test.YtdipfegofpfhaaaCore
namespace Go.Hp
open Go
set_option linter.unusedVariables false
set_option linter.unusedSimpArgs false
set_option linter.unusedSectionVars false
section
variable {P : Program} {n : Nat} {Q : Exit → Act → World → Prop} {ops : List Oper}
/-- An operation that may come next, where some must stand before others besides. -/
def RX (ops : List Oper) (X : List (Nat × Nat)) (listed : Array Bool) (k : Nat) : Prop := k ∈ Region.ready .any ops.toArray listed ∧ ∀ p ∈ X, p.2 = k → listed.getD p.1 false = true
def StepsF (ops : List Oper) (X : List (Nat × Nat)) : Nat → Array Bool → List Nat → Prop
  | 0, _, L => L = []
  | f + 1, listed, L => (L = [] ∧ ∀ k, ¬ RX ops X listed k) ∨ ∃ k L', L = k :: L' ∧ RX ops X listed k ∧ StepsF ops X f (listed.setIfInBounds k true) L'
theorem steps_linearise : ∀ (f t : Nat) (listed : Array Bool), StepsF ops [] f listed (Region.linearise.go .any ops.toArray f t listed [])
  | 0, t, listed => by simp [Region.linearise.go, StepsF]
  | f + 1, t, listed => by
    simp only [Region.linearise.go]
    change StepsF ops [] (f + 1) listed (match (Region.ready .any ops.toArray listed)[t % (Region.ready .any ops.toArray listed).length]? with
      | some i => Region.linearise.go .any ops.toArray f (t / (Region.ready .any ops.toArray listed).length) (listed.setIfInBounds i true) [i]
      | none => [].reverse)
    cases hi : (Region.ready .any ops.toArray listed)[t % (Region.ready .any ops.toArray listed).length]? with
    | none =>
      left
      refine ⟨rfl, fun k hk => ?_⟩
      have hnil : Region.ready .any ops.toArray listed = [] := by
        cases hr : Region.ready .any ops.toArray listed with
        | nil => rfl
        | cons x xs =>
          rw [hr] at hi
          have hlt : t % (x :: xs).length < (x :: xs).length := Nat.mod_lt _ (by simp)
          simp at hi
          simp at hlt
          omega
      have := hk.1
      rw [hnil] at this
      cases this
    | some i =>
      right
      simp only []
      rw [linearise_go_acc]
      exact ⟨i, Region.linearise.go .any ops.toArray f (t / (Region.ready .any ops.toArray listed).length) (listed.setIfInBounds i true) [], by simp, ⟨List.mem_of_getElem? hi, fun p hp => by cases hp⟩, steps_linearise f _ _⟩
theorem listed_ready {listed : Array Bool} {k : Nat} (h : k ∈ Region.ready .any ops.toArray listed) : k < listed.size := by
  have h0 := (mem_ready.1 h).1
  rcases Nat.lt_or_ge k listed.size with h' | h'
  · exact h'
  · simp [Array.getElem?_eq_none h'] at h0
theorem steps_settled {X : List (Nat × Nat)} {i j : Nat} : ∀ (f : Nat) (listed : Array Bool) (L : List Nat), listed.getD i false = true → StepsF ops X f listed L → StepsF ops ((i, j) :: X) f listed L
  | 0, _, _, _, h => h
  | f + 1, listed, L, hi, h => by
    rcases h with ⟨h1, h2⟩ | ⟨k, L', h1, h2, h3⟩
    · exact .inl ⟨h1, fun k hk => h2 k ⟨hk.1, fun p hp => hk.2 p (by simp [hp])⟩⟩
    · refine .inr ⟨k, L', h1, ⟨h2.1, fun p hp hpk => ?_⟩, steps_settled f _ _ (by rw [getD_set_true]; exact hi) h3⟩
      rcases List.mem_cons.1 hp with rfl | hp
      · exact hi
      · exact h2.2 p hp hpk
/-- Of two, one stands before the other. -/
theorem steps_split {X : List (Nat × Nat)} {i j : Nat} (hij : i ≠ j) : ∀ (f : Nat) (listed : Array Bool) (L : List Nat), StepsF ops X f listed L → StepsF ops ((i, j) :: X) f listed L ∨ StepsF ops ((j, i) :: X) f listed L
  | 0, _, _, h => .inl h
  | f + 1, listed, L, h => by
    rcases h with ⟨h1, h2⟩ | ⟨k, L', h1, h2, h3⟩
    · exact .inl (.inl ⟨h1, fun k hk => h2 k ⟨hk.1, fun p hp => hk.2 p (by simp [hp])⟩⟩)
    · have hk := listed_ready h2.1
      by_cases hki : k = i
      · subst hki
        refine .inl (.inr ⟨k, L', h1, ⟨h2.1, fun p hp hpk => ?_⟩, steps_settled f _ _ (by simp [hk]) h3⟩)
        rcases List.mem_cons.1 hp with rfl | hp
        · exact (hij hpk.symm).elim
        · exact h2.2 p hp hpk
      · by_cases hkj : k = j
        · subst hkj
          refine .inr (.inr ⟨k, L', h1, ⟨h2.1, fun p hp hpk => ?_⟩, steps_settled f _ _ (by simp [hk]) h3⟩)
          rcases List.mem_cons.1 hp with rfl | hp
          · exact (hki hpk.symm).elim
          · exact h2.2 p hp hpk
        · rcases steps_split hij f _ _ h3 with h4 | h4
          · refine .inl (.inr ⟨k, L', h1, ⟨h2.1, fun p hp hpk => ?_⟩, h4⟩)
            rcases List.mem_cons.1 hp with rfl | hp
            · exact (hkj hpk.symm).elim
            · exact h2.2 p hp hpk
          · refine .inr (.inr ⟨k, L', h1, ⟨h2.1, fun p hp hpk => ?_⟩, h4⟩)
            rcases List.mem_cons.1 hp with rfl | hp
            · exact (hki hpk.symm).elim
            · exact h2.2 p hp hpk
/-- The operations in another order, with more edges. -/
def renumO (ord : List Nat) (X : List (Nat × Nat)) (k : Nat) (o : Oper) : Oper :=
  ⟨o.dst, o.op, o.type, o.pos, ((o.after.toList.map fun e => (⟨ord.idxOf e.on, e.ground⟩ : Edge)) ++ ((X.filter fun p => Nat.beq p.2 k).map fun p => (⟨ord.idxOf p.1, .data⟩ : Edge))).toArray, o.guard.map fun g => (ord.idxOf g.1, g.2)⟩
def renumA (ops : List Oper) (ord0 : List Nat) (X : List (Nat × Nat)) : List Nat → List Oper
  | [] => []
  | k :: ord => (match ops[k]? with | some o => renumO ord0 X k o | none => ⟨none, .move (.const undef), 0, "", #[], none⟩) :: renumA ops ord0 X ord
def renum (ord : List Nat) (X : List (Nat × Nat)) (ops : List Oper) : List Oper := renumA ops ord X ord
def okOrd (ord : List Nat) (n : Nat) : Bool := Nat.beq ord.length n && (List.range n).all (fun k => ord[ord.idxOf k]? == some k) && (List.range n).all fun p => match ord[p]? with | some k => Nat.beq (ord.idxOf k) p && Nat.blt k n | none => false
theorem renumA_get (ops : List Oper) (ord0 : List Nat) (X : List (Nat × Nat)) : ∀ (ord : List Nat) (p : Nat), (renumA ops ord0 X ord)[p]? = (ord[p]?).map fun k => match ops[k]? with | some o => renumO ord0 X k o | none => ⟨none, .move (.const undef), 0, "", #[], none⟩
  | [], p => by simp [renumA]
  | k :: ord, 0 => by simp [renumA]
  | k :: ord, p + 1 => by simp only [renumA, List.getElem?_cons_succ]; exact renumA_get ops ord0 X ord p
section
variable {ord : List Nat} {X : List (Nat × Nat)} (hO : okOrd ord ops.length = true)
include hO
theorem ord_len : ord.length = ops.length := by
  simp only [okOrd, Bool.and_eq_true, Nat.beq_eq] at hO
  exact hO.1.1
theorem ord_at {k : Nat} (hk : k < ops.length) : ord[ord.idxOf k]? = some k := by
  simp only [okOrd, Bool.and_eq_true, List.all_eq_true, List.mem_range, beq_iff_eq] at hO
  exact hO.1.2 k hk
theorem ord_inv {p : Nat} (hp : p < ops.length) : ∃ k, ord[p]? = some k ∧ ord.idxOf k = p ∧ k < ops.length := by
  simp only [okOrd, Bool.and_eq_true, List.all_eq_true, List.mem_range] at hO
  have := hO.2 p hp
  cases h : ord[p]? with
  | none => rw [h] at this; cases this
  | some k =>
    rw [h] at this
    simp only [Bool.and_eq_true, Nat.beq_eq] at this
    exact ⟨k, rfl, this.1, by simpa using this.2⟩
theorem oidx_lt {k : Nat} (hk : k < ops.length) : ord.idxOf k < ops.length := by
  have := (List.getElem?_eq_some_iff.1 (ord_at hO hk)).1
  rwa [ord_len hO] at this
theorem oidx_out {k : Nat} (hk : ¬ k < ops.length) : ord.idxOf k = ops.length := by
  have hnm : k ∉ ord := fun hm => by
    obtain ⟨p, hp⟩ := List.getElem?_of_mem hm
    have hpl : p < ops.length := by have := (List.getElem?_eq_some_iff.1 hp).1; rwa [ord_len hO] at this
    obtain ⟨k', h1, _, h3⟩ := ord_inv hO hpl
    rw [hp] at h1
    injection h1 with h1
    subst h1; exact hk h3
  rw [List.idxOf_eq_length hnm, ord_len hO]
theorem oidx_inj {j k : Nat} (hj : j < ops.length) (hk : k < ops.length) (h : ord.idxOf j = ord.idxOf k) : j = k := by
  have h1 := ord_at hO hj
  rw [h, ord_at hO hk] at h1
  injection h1 with h1; exact h1.symm
theorem renum_len : (renum ord X ops).length = ops.length := by
  have : ∀ (l ord0 : List Nat), (renumA ops ord0 X l).length = l.length := by
    intro l ord0
    induction l with
    | nil => rfl
    | cons k l ih => simp [renumA, ih]
  rw [renum, this, ord_len hO]
theorem renum_get {k : Nat} {o : Oper} (ho : ops[k]? = some o) : (renum ord X ops)[ord.idxOf k]? = some (renumO ord X k o) := by
  have hk := (List.getElem?_eq_some_iff.1 ho).1
  rw [renum, renumA_get, ord_at hO hk, Option.map_some, ho]
theorem renum_none {k : Nat} (hk : ¬ k < ops.length) : (renum ord X ops)[ord.idxOf k]? = none := by
  rw [oidx_out hO hk]
  exact List.getElem?_eq_none (by rw [renum_len hO]; exact Nat.le_refl _)
theorem yielded_renum (t : Array Value) (j : Nat) : yielded (renum ord X ops).toArray t (ord.idxOf j) = yielded ops.toArray t j := by
  unfold yielded
  cases h : ops[j]? with
  | none =>
    have hk : ¬ j < ops.length := fun hk => by rw [List.getElem?_eq_getElem hk] at h; cases h
    have h2 := renum_none hO hk (X := X)
    simp [h, h2]
  | some o =>
    have h2 := renum_get hO h (X := X)
    simp [h, h2, renumO]
theorem wanted_renum (t : Array Value) (k : Nat) (o : Oper) : Region.wanted (renumO ord X k o) (yielded (renum ord X ops).toArray t) = Region.wanted o (yielded ops.toArray t) := by
  unfold Region.wanted
  cases hg : o.guard with
  | none => simp [renumO, hg]
  | some g => simp only [renumO, hg, Option.map_some, yielded_renum hO]
theorem wpOp_renum {k : Nat} (hk : k < ops.length) {K : Act → World → Prop} {a : Act} {w : World} (h : wpOp P (renum ord X ops).toArray Q (ord.idxOf k) K a w) : wpOp P ops.toArray Q k K a w := by
  unfold wpOp at *
  have ho := List.getElem?_eq_getElem hk
  have h2 := renum_get hO ho (X := X)
  simp only [List.getElem?_toArray, ho] at h ⊢
  simp only [h2] at h
  rw [wanted_renum hO] at h
  exact h
theorem ready_renum {listed listed' : Array Bool} (hl : ∀ k, listed'.getD (ord.idxOf k) false = listed.getD k false) (hs : listed.size = ops.length) (hs' : listed'.size = ops.length) {k : Nat} (h : RX ops X listed k) : ord.idxOf k ∈ Region.ready .any (renum ord X ops).toArray listed' := by
  obtain ⟨hu, o, ho, hall⟩ := mem_ready.1 h.1
  have ho' : ops[k]? = some o := by simpa using ho
  have hk := (List.getElem?_eq_some_iff.1 ho').1
  refine mem_ready.2 ⟨?_, _, by simpa using renum_get hO ho' (X := X), fun e he hb => ?_⟩
  · have h1 := hl k
    have hkl : k < listed.size := by omega
    have hik : ord.idxOf k < listed'.size := by have := oidx_lt hO hk; omega
    simp only [Array.getD_eq_getD_getElem?, Array.getElem?_eq_getElem hkl, Array.getElem?_eq_getElem hik, Option.getD_some] at h1 hu ⊢
    rw [h1, hu]
  · simp only [renumO, List.mem_toArray, List.mem_append, List.mem_map, List.mem_filter] at he
    rcases he with ⟨e0, he0, rfl⟩ | ⟨p, ⟨hp, hpk⟩, rfl⟩
    · have hb0 : Region.binds .any e0 = true := by simpa [Region.binds] using hb
      show listed'.getD (ord.idxOf e0.on) false = true
      rw [hl]; exact hall e0 (by simpa using he0) hb0
    · show listed'.getD (ord.idxOf p.1) false = true
      rw [hl]; exact h.2 p hp (Nat.eq_of_beq_eq_true hpk)
theorem ready_back {listed listed' : Array Bool} (hl : ∀ k, listed'.getD (ord.idxOf k) false = listed.getD k false) (hs : listed.size = ops.length) (hs' : listed'.size = ops.length) {p : Nat} (h : p ∈ Region.ready .any (renum ord X ops).toArray listed') : ∃ k, ord.idxOf k = p ∧ RX ops X listed k := by
  have hpl := listed_ready (ops := renum ord X ops) h
  obtain ⟨k, h1, h2, h3⟩ := ord_inv hO (p := p) (by omega)
  subst h2
  obtain ⟨hu, o, ho, hall⟩ := mem_ready.1 h
  have ho0 := List.getElem?_eq_getElem h3
  have ho2 := renum_get hO ho0 (X := X)
  have ho' : (renum ord X ops)[ord.idxOf k]? = some o := by simpa using ho
  rw [ho2] at ho'
  injection ho' with ho'
  subst ho'
  refine ⟨k, rfl, mem_ready.2 ⟨?_, _, by rw [List.getElem?_toArray]; exact ho0, fun e he hb => ?_⟩, fun p hp hpk => ?_⟩
  · have h1 := hl k
    have hkl : k < listed.size := by omega
    have hik : ord.idxOf k < listed'.size := hpl
    simp only [Array.getD_eq_getD_getElem?, Array.getElem?_eq_getElem hkl, Array.getElem?_eq_getElem hik, Option.getD_some] at h1 hu ⊢
    rw [← h1, hu]
  · rw [← hl]
    exact hall ⟨ord.idxOf e.on, e.ground⟩ (by simp only [renumO, List.mem_toArray, List.mem_append, List.mem_map]; exact .inl ⟨e, by simpa using he, rfl⟩) (by simpa [Region.binds] using hb)
  · rw [← hl]
    exact hall ⟨ord.idxOf p.1, .data⟩ (by simp only [renumO, List.mem_toArray, List.mem_append, List.mem_map, List.mem_filter]; exact .inr ⟨p, ⟨hp, by rw [hpk]; simp⟩, rfl⟩) (by simp [Region.binds])
theorem ops_of_renum : ∀ (f : Nat) (listed listed' : Array Bool) (L : List Nat) (a : Act) (w : World), (∀ k, listed'.getD (ord.idxOf k) false = listed.getD k false) → listed.size = ops.length → listed'.size = ops.length →
    wpAny P .any (renum ord X ops).toArray Q f listed' a w → StepsF ops X f listed L → wpOps P ops.toArray Q L a w
  | 0, listed, listed', L, a, w, hl, hs, hs', h, hL => by
    rw [show L = [] from hL]; exact h.2
  | f + 1, listed, listed', L, a, w, hl, hs, hs', h, hL => by
    rcases hL with ⟨rfl, h2⟩ | ⟨k, L', rfl, h2, h3⟩
    · refine h.1 ?_
      apply List.eq_nil_iff_forall_not_mem.2
      intro p hp
      obtain ⟨k, _, hk⟩ := ready_back hO hl hs hs' hp
      exact h2 k hk
    · have hkl : k < ops.length := by have := listed_ready h2.1; omega
      have h4 := wpOp_renum hO hkl (h.2 _ (ready_renum hO hl hs hs' h2))
      rw [wpOps_cons]
      refine wpOp_mono (fun a' w' h5 => ops_of_renum f _ _ L' a' w' (fun q => ?_) (by simpa using hs) (by simpa using hs') h5 h3) h4
      by_cases hq : q < ops.length
      · by_cases hqk : q = k
        · subst hqk
          have h6 : ord.idxOf q < listed'.size := by have := oidx_lt hO hq; omega
          have h7 : q < listed.size := by omega
          simp [h6, h7]
        · have h6 : ¬ ord.idxOf k = ord.idxOf q := fun e => hqk (oidx_inj hO hq hkl e.symm)
          rw [getD_set_ne false h6, getD_set_ne false (fun e => hqk e.symm)]
          exact hl q
      · rw [oidx_out hO hq]
        have h6 : ¬ ops.length < (listed'.setIfInBounds (ord.idxOf k) true).size := by simp [hs']
        have h7 : ¬ q < (listed.setIfInBounds k true).size := by simp [hs]; omega
        simp only [Array.getD_eq_getD_getElem?]
        rw [Array.getElem?_eq_none (by omega), Array.getElem?_eq_none (by omega)]
end
end
section
open Go.RowKit
variable {P : Program} {n : Nat} {Q : Qt} {l : Fm} {b : Nat → Value} {w : World} {ops : List Oper}
/-- Every order in which these stand before those. -/
structure RGw (P : Program) (n : Nat) (ops : List Oper) (X : List (Nat × Nat)) (Q : Qt) (l : Fm) (b : Nat → Value) (w : World) : Prop where
  h : ∀ L, StepsF ops X ops.length (Array.replicate ops.length false) L → wpOps P ops.toArray (lift n Q) L (act n l b) w.drew
theorem Wrg {id : Nat} (hm : P.follows .mixedOrders = true) (h : RGw P n ops [] Q l b w) : Wp P n (.region id ops.toArray true) Q l b w := ⟨wp_region_draw fun t => by
  simp only [Region.schedule, hm, Bool.true_or, if_true]
  exact h.h _ (by have := steps_linearise (ops := ops) ops.length t (Array.replicate ops.length false); simpa [Region.linearise] using this)⟩
theorem RGsplit {X : List (Nat × Nat)} (i j : Nat) (hij : Nat.beq i j = false) (h1 : RGw P n ops ((i, j) :: X) Q l b w) (h2 : RGw P n ops ((j, i) :: X) Q l b w) : RGw P n ops X Q l b w := ⟨fun L hL => by
  have hne : i ≠ j := fun e => by rw [e, Nat.beq_refl] at hij; cases hij
  rcases steps_split hne _ _ _ hL with h | h
  · exact h1.h L h
  · exact h2.h L h⟩
theorem RGleaf {X : List (Nat × Nat)} (ord : List Nat) (G : Nat → World → Prop) (bm : List Nat) (em xm : Nat) (hO : okOrd ord ops.length = true) (hB : lexX (renum ord X ops).toArray bm xm = true) (hF : ∀ j, free bm em j = true → G j w.drew)
    (h : Rd P n (renum ord X ops) bm em G xm Q 0 (renum ord X ops) l b w.drew) : RGw P n ops X Q l b w := ⟨fun L hL => by
  have hlen := renum_len (X := X) hO
  simp only [lexX, Bool.and_eq_true, beq_iff_eq] at hB
  have hd : DC .any (renum ord X ops).toArray (Array.replicate (renum ord X ops).toArray.size false) := by
    intro j o ho hl
    have : (Array.replicate (renum ord X ops).toArray.size false).getD j false = false := by
      rw [Array.getD_eq_getD_getElem?, Array.getElem?_replicate]
      split <;> rfl
    rw [this] at hl
    cases hl
  have hI : Inv bm em G (Array.replicate (renum ord X ops).toArray.size false) w.drew := fun j _ he => hF j (by
    refine List.all_eq_true.2 fun e h1 => ?_
    cases hb : (em.testBit e && (bm.getD j 0).testBit e)
    · rfl
    · simp only [Bool.and_eq_true] at hb
      have h3 := he e (List.mem_range.1 h1) hb.1 hb.2
      rw [Array.getD_eq_getD_getElem?, Array.getElem?_replicate] at h3
      split at h3 <;> cases h3)
  have hw := wpAny_of_F (md := .any) (em := em) (xm := xm) (Q := fun a' w' => lift n Q .normal a' w') (Q' := lift n Q) hB.1.2 hB.1.1.1 (fun _ _ h => h) _ G _ _ _ hd hI
    (by have := wpAnyF_lex (md := .any) (Q := fun a' w' => lift n Q .normal a' w') hB.1.1.2 hB.1.2 hB.1.1.1 (renum ord X ops) 0 G (Array.replicate (renum ord X ops).toArray.size false) (act n l b) w.drew hd hI (by simp) (by simpa using hB.2) h.h
        simpa using this)
  refine ops_of_renum hO ops.length _ (Array.replicate (renum ord X ops).length false) L _ _ (fun k => ?_) (by simp) (by simp [hlen]) (by simpa [hlen] using hw) hL
  simp only [Array.getD_eq_getD_getElem?, Array.getElem?_replicate]
  split <;> split <;> rfl⟩
end
end Go.Hp
