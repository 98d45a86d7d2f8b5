/- Ranges over maps, keys of several cells, frozen things behind pointers: small laws over any program. -/
import Derived.Maps.RangeRun
import Derived.Test.YtdipfegofpfhaaaSl9
namespace Go.Hp
open Go Go.RowKit
set_option linter.unusedVariables false
set_option linter.unusedSimpArgs false
set_option linter.unusedSectionVars false
/-- Keys of more cells than one. -/
theorem keyL_agg {P : Program} {kt : TypeId} {κ : Type} [DecidableEq κ] {f : κ → List Value} {fs : Array Field} (ht : P.underlying kt = some (.struct fs)) (heq : ∀ w (a b : κ), (Op.equal kt (.agg (f a).toArray) (.agg (f b).toArray)).run P w = .ok (decide (a = b)) w)
    (hchk : ∀ b k w, (Instr.checkKey b 10000 kt (.agg (f k).toArray)).run P w = .ok () w) (hsame : ∀ k, Instr.sameBits 10000 (.agg (f k).toArray) (.agg (f k).toArray) = true) : KeyL P kt κ (fun k => .agg (f k).toArray) where
  chk := hchk
  same := hsame
  find := fun k es ks w h => by
    have ask : ∀ (es : List MapEntry) (ks : List κ) (i : Nat), es.map (·.key) = ks.map (fun k => Value.agg (f k).toArray) → (Instr.findAsking kt (.agg (f k).toArray) es i).run P w = .ok (findK k ks es i) w := by
      intro es
      induction es with
      | nil => intro ks i h; cases ks <;> simp [Instr.findAsking, findK] at h ⊢
      | cons e es ih =>
        intro ks i h
        cases ks with
        | nil => simp at h
        | cons k' ks =>
          simp only [List.map_cons, List.cons.injEq] at h
          simp only [Instr.findAsking, h.1, Sem.run_bind, heq, findK, Result.andThen]
          by_cases e1 : k = k'
          · subst e1; simp
          · simp only [decide_eq_false e1, Bool.false_eq_true, if_false, if_neg (fun h : k' = k => e1 h.symm)]
            exact ih ks (i + 1) h.2
    cases es with
    | nil => cases ks with
      | nil => simp [Instr.findKey, run_underlying ht, Instr.findNow, findK]
      | cons a b => simp at h
    | cons e es =>
      have hn : Instr.findNow (.struct fs) (.agg (f k).toArray) (e :: es) 0 = none := by
        cases ks with
        | nil => simp at h
        | cons k' ks =>
          simp only [List.map_cons, List.cons.injEq] at h
          simp [Instr.findNow, h.1, Instr.sameNow]
      have := ask (e :: es) ks 0 h
      simp only [Instr.findKey, Sem.run_bind, run_underlying ht, Result.andThen, hn]
      exact this
theorem map_erase {α β : Type} (f : α → β) : ∀ (l : List α) (j : Nat), (l.eraseIdx j).map f = (l.map f).eraseIdx j
  | [], _ => rfl
  | _ :: _, 0 => rfl
  | a :: l, j + 1 => by simp only [List.eraseIdx_cons_succ, List.map_cons, map_erase f l j]
/-- What is left of a map's keys, of which some were seen. -/
def remK {κ β : Type} [DecidableEq κ] (l : List (κ × β)) (seen : List κ) : List κ := (l.map (·.1)).filter fun k => decide (k ∉ seen)
theorem remK_keys {κ β γ : Type} [DecidableEq κ] {l : List (κ × β)} {l' : List (κ × γ)} (h : l.map (·.1) = l'.map (·.1)) (seen : List κ) : remK l seen = remK l' seen := by unfold remK; rw [h]
/-- Whichever of these: it comes to the same. -/
def anyK {κ β : Type} [DecidableEq β] (ks : List κ) (a : Option β) (f : κ → Option β) : Option β := match ks with
  | [] => a
  | k :: ks => if ks.all (fun k' => decide (f k' = f k)) then f k else none
theorem anyK_nil {κ β : Type} [DecidableEq β] {ks : List κ} {a : Option β} {f : κ → Option β} {r : β} (h : anyK ks a f = some r) (e : ks = []) : a = some r := by subst e; exact h
theorem anyK_mem {κ β : Type} [DecidableEq β] {ks : List κ} {a : Option β} {f : κ → Option β} {r : β} (h : anyK ks a f = some r) {k : κ} (hk : k ∈ ks) : f k = some r := by
  cases ks with
  | nil => cases hk
  | cons k0 ks =>
    simp only [anyK] at h
    split at h
    · rename_i ha
      rcases List.mem_cons.1 hk with rfl | hk
      · exact h
      · rw [← h]; simpa using List.all_eq_true.1 ha k hk
    · cases h
theorem anyK_eq {κ β : Type} [DecidableEq β] {ks : List κ} {a : Option β} {f : κ → Option β} {r : Option β} (h : ∀ k ∈ ks, f k = r) (hn : ks ≠ []) : anyK ks a f = r := by
  cases ks with
  | nil => exact (hn rfl).elim
  | cons k0 ks =>
    simp only [anyK]
    rw [if_pos (List.all_eq_true.2 fun k hk => by simp [h k (by simp [hk]), h k0 (by simp)])]
    exact h k0 (by simp)
section
variable {κ β : Type} [DecidableEq κ] {ek : κ → Value} {V : Value → β → HP} {P : Program} {w w' : World} {R R' : Nat → Prop}
theorem mget_at {l : List (κ × β)} (hn : (l.map Prod.fst).Nodup) : ∀ {j : Nat} {k : κ} {x : β}, l[j]? = some (k, x) → mget l k = some x := by
  induction l with
  | nil => intro j k x h; simp at h
  | cons p l ih =>
    obtain ⟨k', x'⟩ := p
    intro j k x h
    simp only [List.map_cons, List.nodup_cons] at hn
    cases j with
    | zero => simp at h; obtain ⟨rfl, rfl⟩ := h; simp [mget]
    | succ j =>
      have h' : l[j]? = some (k, x) := by simpa using h
      have hne : k' ≠ k := fun e => hn.1 (by subst e; exact List.mem_map.2 ⟨(k', x), List.mem_of_getElem? h', rfl⟩)
      simp only [mget, hne, if_false]
      exact ih hn.2 h'
theorem EnR.at : ∀ {es : List MapEntry} {l : List (κ × β)} {Ss : List (List Nat)} {j : Nat} {e : MapEntry}, EnR ek V w R es l Ss → es[j]? = some e → ∃ k x S, l[j]? = some (k, x) ∧ Ss[j]? = some S ∧ e.key = ek k ∧ (V e.val x).p w R S
  | e :: es, (k, x) :: l, S :: Ss, 0, e', h, he => by simp at he; subst he; exact ⟨k, x, S, rfl, rfl, h.1, h.2.1⟩
  | e :: es, (k, x) :: l, S :: Ss, j + 1, e', h, he => by
    obtain ⟨k', x', S', h1, h2, h3, h4⟩ := EnR.at (j := j) h.2.2 (by simpa using he)
    exact ⟨k', x', S', by simpa using h1, by simpa using h2, h3, h4⟩
  | [], _, _, _, _, _, he => by simp at he
  | _ :: _, [], _, _, _, h, _ => h.elim
  | _ :: _, _ :: _, [], _, _, h, _ => h.elim
/-- A map that is being ranged over: its iterator stands in block r. -/
def MpI (ek : κ → Value) (V : Value → β → HP) (b r : Nat) (l : List (κ × β)) (seen : List κ) (cur : Option (κ × Value)) : HP :=
  ⟨fun w R S => ∃ (es : Array MapEntry) (clock : Nat) (Ss : List (List Nat)) (sn : Array Nat), w.heap[b]? = some (.map es clock) ∧ w.heap[r]? = some (.mapIter (some b) clock sn clock) ∧ EnR ek V w R es.toList l Ss ∧ S = r :: b :: Ss.flatten ∧ (es.toList.map MapEntry.born).Nodup ∧ (∀ e ∈ es.toList, e.born < clock) ∧
      (l.map Prod.fst).Nodup ∧ (∀ (j : Nat) e p, es.toList[j]? = some e → l[j]? = some p → (e.born ∈ sn.toList ↔ p.1 ∈ seen)) ∧ ∀ q, cur = some q → ∃ (j : Nat) (e : MapEntry), es.toList[j]? = some e ∧ e.key = ek q.1 ∧ e.val = q.2 ∧ sn.back? = some e.born,
   fun {w w' R R' S} ⟨es, clock, Ss, sn, h1, h2, h3, h4, h5⟩ hk hR => ⟨es, clock, Ss, sn, by rw [hk.block b (.inl (by simp [h4]))]; exact h1, by rw [hk.block r (.inl (by simp [h4]))]; exact h2, h3.st (hk.mono (by intro x hx; rcases hx with h | h; exact .inl (by rw [h4]; simp [h]); exact .inr h)) hR, h4, h5⟩⟩
variable {ρ : Operand → Value} {dst : Option Nat} {ty : TypeId} {pos : String} {after : Array Edge} {g : Option (Nat × Bool)} {x y z : Operand} {hs : List HP} {i b r : Nat} {t kt et : TypeId} {l : List (κ × β)} {k : κ} {m : Nat} {vf : List Value → Value} {E : PR β m} {seen : List κ} {cur : Option (κ × Value)}
/-- 'for .. := range m': the beginning. -/
theorem Ctx.itMake (h : Ctx w hs) (hi : ltP hs i = true) (e : nthP hs i = Mp ek V b l) (ht : P.underlying t = some (.map kt et)) (hx : ρ x = .map (some b)) (hn : (l.map Prod.fst).Nodup) :
    ∃ v w', (execOp ρ ⟨dst, .range t x, ty, pos, after, g⟩).run P w = .ok (.value v) w' ∧ ∃ r, v = .pointer (some ⟨r, 0, none⟩) ∧ Ctx w' (setP hs i (MpI ek V b r l [] none)) := by
  obtain ⟨R, S, hS, _⟩ := h.at hi e
  obtain ⟨es, clock, Ss, hb, hE, _, _, _⟩ := hS
  have hgo : (getObj b).run P w = .ok (.map es clock) w := by simp [getObj, Sem.run, hb]
  refine ⟨_, w.alloc (.mapIter (some b) clock #[] clock), ?_, w.heap.size, rfl, ?_⟩
  · simp [execOp, Instr.range, run_underlying ht, hx, hgo, newObj, Sem.run]
  · refine Ctx.updK h hi _ (fun R Ss0 S hc hS hSo hSn => ?_) rfl
    rw [e] at hS
    obtain ⟨es2, clock2, Ss2, hb2, hE2, rfl, h4, h5⟩ := hS
    rw [hb] at hb2
    injection hb2 with e1
    injection e1 with e1 e2
    subst e1 e2
    have hkp : ∀ A : Nat → Prop, (∀ x, A x → x < w.heap.size) → Kp A w (w.alloc (.mapIter (some b) clock #[] clock)) := fun A hA => ⟨rfl, rfl, rfl, by simp, fun x hx => Below.heap_alloc _ _ _ (hA x hx)⟩
    have hnew : w.heap.size ∉ b :: Ss2.flatten := fun hm => by have := (hSo _ hm).1; omega
    refine ⟨w.heap.size :: b :: Ss2.flatten, ⟨es, clock, Ss2, #[], ?_, heap_alloc_new w _, hE2.st (hkp _ fun x hx => ?_) (fun _ h => h), rfl, h4, h5, hn, fun j e p _ _ => by simp, fun k hk => by cases hk⟩, List.nodup_cons.2 ⟨hnew, hSn⟩, fun x hx => ?_, hkp _ fun x hx => hx.1⟩
    · rw [Below.heap_alloc _ _ _ (hSo b (by simp)).1]; exact hb
    · rcases hx with hx | hx
      · exact (hSo x (by simp [hx])).1
      · exact hc.fz x hx
    · rcases List.mem_cons.1 hx with rfl | hx
      · exact ⟨.inr (Nat.le_refl _), by simp⟩
      · exact ⟨.inl hx, by have := (hSo x hx).1; simp; omega⟩
/-- .. its end: the map as it was. -/
theorem Ctx.itEnd (h : Ctx w hs) (hi : ltP hs i = true) (e : nthP hs i = MpI ek V b r l seen cur) {hs' : List HP} (el : setP hs i (Mp ek V b l) = hs') : Ctx w hs' := by
  refine Ctx.updK h hi _ (fun R Ss0 S hc hS hSo hSn => ?_) el
  rw [e] at hS
  obtain ⟨es, clock, Ss, sn, hb, hr, hE, rfl, h4, h5, _⟩ := hS
  refine ⟨b :: Ss.flatten, ⟨es, clock, Ss, hb, hE, rfl, h4, h5⟩, (List.nodup_cons.1 hSn).2, fun x hx => ⟨.inl (by simp at hx ⊢; exact .inr hx), (hSo x (by simp at hx ⊢; exact .inr hx)).1⟩, Kp.refl _ _⟩
theorem mem_remK {l : List (κ × β)} {seen : List κ} {k : κ} : k ∈ remK l seen ↔ k ∈ l.map (·.1) ∧ k ∉ seen := by simp [remK]
/-- .. a step. -/
theorem Ctx.itNext (h : Ctx w hs) (hi : ltP hs i = true) (e : nthP hs i = MpI ek (HV vf E) b r l seen cur) (hx : ρ x = .pointer (some ⟨r, 0, none⟩)) :
    ∃ v w', (execOp ρ ⟨dst, .next x false, ty, pos, after, g⟩).run P w = .ok (.value v) w' ∧
      ((remK l seen = [] ∧ v = .tuple #[.bool false] ∧ Ctx w' hs) ∨
       ∃ k xx cs, k ∈ remK l seen ∧ mget l k = some xx ∧ v = .tuple #[.bool true, ek k, vf cs] ∧ Ctx w' (Hold E cs xx :: setP hs i (MpI ek (HV vf E) b r l (k :: seen) (some (k, vf cs))))) := by
  obtain ⟨R, Ss0, hc⟩ := h
  obtain ⟨S, hS⟩ := CtxAt.nth hc.all hi
  rw [e] at hS
  obtain ⟨es, clock, Ss, sn, hb, hr, hE, hSe, h4, h5, hn, hsn, _⟩ := hS
  have hrun : ∀ v w', (Instr.next (.pointer (some ⟨r, 0, none⟩)) false ty).run P w = .ok v w' → (execOp ρ ⟨dst, .next x false, ty, pos, after, g⟩).run P w = .ok (.value v) w' := fun v w' h => by simp [execOp, hx, h]
  have hmem : ∀ e : MapEntry, e ∈ (leftOf es sn).toList ↔ e ∈ es.toList ∧ e.born ∉ sn.toList := fun e => by simp [leftOf]
  have hlen := hE.len
  rcases run_next_at (P := P) w ty r b clock clock sn es clock hr hb h5 (Nat.le_refl _) with ⟨h0, hq⟩ | ⟨en, hen, w1, hw1, hq⟩
  · refine ⟨_, _, hrun _ _ hq, .inl ⟨?_, rfl, R, Ss0, hc⟩⟩
    apply List.eq_nil_iff_forall_not_mem.2
    intro k hk
    rw [mem_remK] at hk
    obtain ⟨⟨k', xx⟩, hp, rfl⟩ := List.mem_map.1 hk.1
    obtain ⟨j, hj⟩ := List.getElem?_of_mem hp
    have hjl : j < es.toList.length := by rw [hlen]; exact (List.getElem?_eq_some_iff.1 hj).1
    have h1 := List.getElem?_eq_getElem hjl
    have h2 : es.toList[j] ∈ (leftOf es sn).toList := (hmem _).2 ⟨List.getElem_mem hjl, fun hm => hk.2 ((hsn j _ _ h1 hj).1 hm)⟩
    have h3 : (leftOf es sn).toList.length = 0 := by simpa using h0
    have := List.length_pos_of_mem h2
    omega
  · refine ⟨_, _, hrun _ _ hq, .inr ?_⟩
    obtain ⟨hm1, hm2⟩ := (hmem en).1 hen
    obtain ⟨j, hj⟩ := List.getElem?_of_mem hm1
    obtain ⟨k, xx, S', hl1, hl2, hkey, hval⟩ := hE.at hj
    have hval0 := hval
    obtain ⟨rfl, cs, hv, hEr⟩ := hval
    have hmg := mget_at hn hl1
    have hkr : k ∈ remK l seen := mem_remK.2 ⟨List.mem_map.2 ⟨(k, xx), List.mem_of_getElem? hl1, rfl⟩, fun hm => hm2 ((hsn j en (k, xx) hj hl1).2 hm)⟩
    refine ⟨k, xx, cs, hkr, hmg, by rw [hkey, hv], ?_⟩
    -- the world turns at the iterator alone
    have hcw : CtxAt w1 R hs Ss0 := by
      rcases hw1 with rfl | rfl
      · exact hc
      · exact ⟨hc.all.kept ⟨rfl, rfl, rfl, Nat.le_refl _, fun _ _ => rfl⟩ (fun _ h => h), hc.nodup, hc.own, hc.fz⟩
    have hEw : E.r w1 R cs xx := by
      rcases hw1 with rfl | rfl
      · exact hEr
      · exact E.st hEr ⟨rfl, rfl, rfl, Nat.le_refl _, fun _ _ => rfl⟩ (fun _ h => h)
    have hr1 : w1.heap[r]? = some (.mapIter (some b) clock sn clock) := by rcases hw1 with rfl | rfl <;> exact hr
    have hb1 : w1.heap[b]? = some (.map es clock) := by rcases hw1 with rfl | rfl <;> exact hb
    have hcc : Ctx w1 (Hold E cs xx :: hs) := ⟨R, [] :: Ss0, hcw.hold hEw⟩
    have hnb : ∀ e' : MapEntry, e' ∈ es.toList → e'.born = en.born → e' = en := fun e' he' hb' => by
      obtain ⟨j', hj'⟩ := List.getElem?_of_mem he'
      have hjl := (List.getElem?_eq_some_iff.1 hj).1
      have hjl' := (List.getElem?_eq_some_iff.1 hj').1
      have hjj : j' = j := (List.getElem?_inj (by simpa using hjl') h4).1 (by rw [List.getElem?_map, List.getElem?_map, hj, hj']; simp [hb'])
      subst hjj; rw [hj] at hj'; injection hj' with h; exact h.symm
    have hset : Hold E cs xx :: setP hs i (MpI ek (HV vf E) b r l (k :: seen) (some (k, vf cs))) = setP (Hold E cs xx :: hs) (i + 1) (MpI ek (HV vf E) b r l (k :: seen) (some (k, vf cs))) := rfl
    rw [hset]
    refine Ctx.updK hcc (k := i + 1) hi _ (fun R' Ss' S' hc' hS' hSo hSn => ?_) rfl
    have hS'' : (nthP hs i).p w1 R' S' := hS'
    rw [e] at hS''
    obtain ⟨es2, clock2, Ss2, sn2, hb2, hr2, hE2, rfl, g4, g5, gn, gsn, _⟩ := hS''
    rw [hb1] at hb2
    injection hb2 with e1
    injection e1 with e1 e2
    subst e1 e2
    rw [hr1] at hr2
    injection hr2 with e1
    injection e1 with e1 e2 e3 e4
    subst e3
    have hrl : r < w1.heap.size := (Array.getElem?_eq_some_iff.1 hr1).1
    have hrb : r ∉ b :: Ss2.flatten := (List.nodup_cons.1 hSn).1
    have hkp : ∀ A : Nat → Prop, (∀ x, A x → x ≠ r) → Kp A w1 (ChangeMaps.setBlock w1 r (.mapIter (some b) clock (sn.push en.born) clock)) := fun A hA => ⟨rfl, rfl, rfl, by simp [ChangeMaps.setBlock], fun x hx => by
      show (w1.heap.setIfInBounds r _)[x]? = _
      rw [Array.getElem?_setIfInBounds_ne (fun e => hA x hx e.symm)]⟩
    refine ⟨r :: b :: Ss2.flatten, ⟨es, clock, Ss2, sn.push en.born, ?_, ?_, hE2.st (hkp _ fun q hx hxr => ?_) (fun _ h => h), rfl, g4, g5, gn, fun j' e' p he' hp => ?_, fun k' hk' => ?_⟩, hSn, fun x hx => ⟨.inl hx, by have := (hSo x hx).1; simpa [ChangeMaps.setBlock] using this⟩, hkp _ fun x hx hxr => hx.2 (by simp [hxr])⟩
    · rw [(hkp (fun x => x = b) fun x hx hxr => hrb (by simp [← hx, hxr])).block b rfl]; exact hb1
    · simp [ChangeMaps.setBlock, hrl]
    · rw [hxr] at hx
      rcases hx with hm | hm
      · exact hrb (by simp at hm ⊢; exact .inr hm)
      · exact (hSo r (by simp)).2 hm
    · have := hsn j' e' p he' hp
      simp only [Array.toList_push, List.mem_append, List.mem_singleton, List.mem_cons]
      have hek : e'.born = en.born ↔ p.1 = k := by
        constructor
        · intro hbb
          have hee := hnb e' (List.mem_of_getElem? he') hbb
          subst hee
          have hjl := (List.getElem?_eq_some_iff.1 hj).1
          have hjj : j' = j := (List.getElem?_inj (by have := (List.getElem?_eq_some_iff.1 he').1; simpa using this) h4).1 (by rw [List.getElem?_map, List.getElem?_map, hj, he'])
          subst hjj; rw [hl1] at hp; injection hp with hp; rw [← hp]
        · intro hpk
          have hl1' := (List.getElem?_eq_some_iff.1 hp).1
          have hjj : j' = j := (List.getElem?_inj (by simpa using hl1') hn).1 (by rw [List.getElem?_map, List.getElem?_map, hl1, hp]; simp [hpk])
          subst hjj; rw [hj] at he'; injection he' with he'; rw [he']
      rw [this, hek]
      simp [or_comm]
    · injection hk' with hk'
      subst hk'
      exact ⟨j, en, hj, hkey, hv, by simp⟩
/-- .. what came. -/
theorem Ctx.itEntry {u : Value} (h : Ctx w hs) (hi : ltP hs i = true) (e : nthP hs i = MpI ek V b r l seen (some (k, u))) (hx : ρ x = .pointer (some ⟨r, 0, none⟩)) :
    (execOp ρ ⟨dst, .entry x, ty, pos, after, g⟩).run P w = .ok (.value (.tuple #[ek k, u])) w := by
  obtain ⟨R, S, hS, _⟩ := h.at hi e
  obtain ⟨es, clock, Ss, sn, hb, hr, hE, _, h4, h5, _, _, hcur⟩ := hS
  obtain ⟨j, en, hj, hk, hv, hbk⟩ := hcur _ rfl
  have hne : sn ≠ #[] := fun e => by subst e; simp at hbk
  have hpos : 0 < sn.size := Array.size_pos_iff.2 hne
  have hsn : sn = sn.pop.push en.born := by
    have hbk2 : sn[sn.size - 1]? = some en.born := by simpa [Array.back?] using hbk
    obtain ⟨h1, h2⟩ := Array.getElem?_eq_some_iff.1 hbk2
    apply Array.ext
    · simp; omega
    · intro q h3 h4
      rw [Array.getElem_push]
      split
      · simp
      · rename_i h5
        simp at h5
        have : q = sn.size - 1 := by omega
        subst this; exact h2
  rw [hsn] at hr
  have := run_entry_at (P := P) w r b clock sn.pop es clock en hr hb (List.mem_of_getElem? hj) h4
  rw [hk, hv] at this
  simp [execOp, hx, this]
/-- .. one goes. -/
theorem Ctx.itDel (K : KeyL P kt κ ek) (h : Ctx w hs) (hi : ltP hs i = true) (e : nthP hs i = MpI ek (HV vf E) b r l seen cur) (ht : P.underlying t = some (.map kt et)) (hx : ρ x = .map (some b)) (hy : ρ y = ek k) :
    ∃ v w', (execOp ρ ⟨dst, .call ⟨.builtin .delete, #[x, y], #[t, kt]⟩, ty, pos, after, g⟩).run P w = .ok (.value v) w' ∧ Ctx w' (setP hs i (MpI ek (HV vf E) b r (mdel l k) seen none)) := by
  obtain ⟨R, S, hS, _⟩ := h.at hi e
  obtain ⟨es, clock, Ss, sn, hb, hr, hE, hSe, h4, h5, hn, hsn, _⟩ := hS
  have hf := K.find k es.toList (l.map (·.1)) w hE.keys
  have hgo : (getObj b).run P w = .ok (.map es clock) w := by simp [getObj, Sem.run, hb]
  -- what goes
  have key : ∃ es' : Array MapEntry, (Builtin.delete_ #[t, kt] ty #[.map (some b), ek k]).run P w = .ok (.tuple #[]) { w with heap := w.heap.setIfInBounds b (.map es' clock) } ∧
      ((es' = es ∧ mdel l k = l) ∨ ∃ j : Nat, es'.toList = es.toList.eraseIdx j ∧ mdel l k = l.eraseIdx j ∧ j < l.length) ∧ ∀ w R Ss, EnR ek (HV vf E) w R es.toList l Ss → ∃ Ss', EnR ek (HV vf E) w R es'.toList (mdel l k) Ss' := by
    rcases hE.find k 0 with ⟨h1, h2, h3, _⟩ | ⟨j, en, xx, S', h1, hj, hkey, h4', _, h6, h7, _⟩
    · rw [h1] at hf
      exact ⟨es, by simp [Builtin.delete_, run_underlying ht, hgo, K.chk, hf, run_setMap hb], .inl ⟨rfl, h3⟩, fun w R Ss h => ⟨Ss, by rw [h3]; exact h⟩⟩
    · rw [h1, Nat.zero_add] at hf
      have hjl : j < es.size := by have := (List.getElem?_eq_some_iff.1 hj).1; simpa using this
      have hel : (es.eraseIdxIfInBounds j).toList = es.toList.eraseIdx j := by simp [Array.eraseIdxIfInBounds, hjl]
      have hdel : ∀ (l : List (κ × β)) (es : List MapEntry) (i0 j : Nat) v, es.length = l.length → findK k (l.map (·.1)) es i0 = some (i0 + j, v) → mdel l k = l.eraseIdx j := by
        intro l
        induction l with
        | nil => intro es i0 j v hlen hq; cases es <;> simp [findK] at hq
        | cons p l ih =>
          intro es i0 j v hlen hq
          cases es with
          | nil => simp [findK] at hq
          | cons e es =>
            obtain ⟨k', x'⟩ := p
            simp only [List.map_cons, findK] at hq
            by_cases hk : k' = k
            · simp only [hk, if_true] at hq
              injection hq with hq
              injection hq with hq _
              have : j = 0 := by omega
              subst this; simp [mdel, hk]
            · simp only [hk, if_false] at hq
              cases j with
              | zero =>
                exfalso
                have hge : ∀ (ks : List κ) (es : List MapEntry) (i : Nat) (q : Nat × Value), findK k ks es i = some q → i ≤ q.1 := by
                  intro ks
                  induction ks with
                  | nil => intro es i q h; cases es <;> simp [findK] at h
                  | cons k1 ks ihk => intro es i q h; cases es with
                    | nil => simp [findK] at h
                    | cons e1 es =>
                      simp only [findK] at h
                      split at h
                      · injection h with h; rw [← h]; exact Nat.le_refl _
                      · have := ihk es (i + 1) q h; omega
                have := hge _ _ _ _ hq
                simp only at this
                omega
              | succ j =>
                simp only [mdel, hk, if_false, List.eraseIdx_cons_succ]
                rw [ih es (i0 + 1) j v (by simpa using hlen) (by rw [hq]; simp; omega)]
      have hm := hdel l es.toList 0 j en.val hE.len (by rw [h1])
      refine ⟨es.eraseIdxIfInBounds j, by simp [Builtin.delete_, run_underlying ht, hgo, K.chk, hf, run_setMap hb], .inr ⟨j, hel, hm, by rw [← hE.len]; exact (List.getElem?_eq_some_iff.1 hj).1⟩, fun w R Ss h => ?_⟩
      rw [hel]
      rcases h.find k 0 with ⟨g1, _⟩ | ⟨j2, en2, x2, S2, g1, _, _, _, _, _, g7, _⟩
      · rw [h1] at g1; cases g1
      · rw [h1] at g1; injection g1 with g1; injection g1 with g1 _
        have : j2 = j := by omega
        subst this
        exact ⟨_, g7⟩
  obtain ⟨es', hrun, hform, hEn⟩ := key
  refine ⟨.tuple #[], { w with heap := w.heap.setIfInBounds b (.map es' clock) }, by simp [execOp, resolve, invoke, builtin, hx, hy, hrun], ?_⟩
  refine Ctx.updK h hi _ (fun R Ss0 S hc hS hSo hSn => ?_) rfl
  rw [e] at hS
  obtain ⟨es2, clock2, Ss2, sn2, hb2, hr2, hE2, rfl, g4, g5, gn, gsn, _⟩ := hS
  rw [hb] at hb2
  injection hb2 with e1
  injection e1 with e1 e2
  subst e1 e2
  rw [hr] at hr2
  injection hr2 with e1
  injection e1 with e1 e2 e3 e4
  subst e3
  have hnil : ∀ {es : List MapEntry} {l : List (κ × β)} {Ss : List (List Nat)}, EnR ek (HV vf E) w R es l Ss → Ss.flatten = [] := by
    intro es
    induction es with
    | nil => intro l Ss h; cases l <;> cases Ss <;> simp [EnR] at h ⊢
    | cons e es ih =>
      intro l Ss h
      cases l with
      | nil => exact h.elim
      | cons p l => cases Ss with
        | nil => exact h.elim
        | cons S Ss => rw [List.flatten_cons, h.2.1.1, ih h.2.2]; rfl
  obtain ⟨Ss', hE'⟩ := hEn w R Ss2 hE2
  have h2nil := hnil hE2
  have h'nil := hnil hE'
  have hrb : r ≠ b := fun e => (List.nodup_cons.1 hSn).1 (by simp [e])
  have hkp : ∀ A : Nat → Prop, (∀ x, A x → x ≠ b) → Kp A w { w with heap := w.heap.setIfInBounds b (.map es' clock) } := fun A hA => setObj_kp hA
  refine ⟨[r, b], ⟨es', clock, Ss', sn, heap_setMap hb _, ?_, hE'.st (hkp _ fun q hq hxb => ?_) (fun _ h => h), by rw [h'nil], ?_, ?_, ?_, ?_, fun k hk => by cases hk⟩, by simp [hrb], fun x hx => ⟨.inl (by rw [h2nil]; exact hx), ?_⟩, hkp _ fun x hx hxb => hx.2 (by simp [hxb])⟩
  · rw [(hkp (fun x => x = r) fun x hx hxb => hrb (by rw [← hx, hxb])).block r rfl]; exact hr
  · rw [hxb] at hq
    rcases hq with hm | hm
    · rw [h'nil] at hm; cases hm
    · exact (hSo b (by simp)).2 hm
  · rcases hform with ⟨rfl, _⟩ | ⟨j, h1, h2, h3⟩
    · exact g4
    · rw [h1, map_erase]; exact g4.sublist (List.eraseIdx_sublist ..)
  · rcases hform with ⟨rfl, _⟩ | ⟨j, h1, h2, h3⟩
    · exact g5
    · intro e he; rw [h1] at he; exact g5 e (List.mem_of_mem_eraseIdx he)
  · rcases hform with ⟨rfl, h1⟩ | ⟨j, h1, h2, h3⟩
    · rw [h1]; exact gn
    · rw [h2, map_erase]; exact gn.sublist (List.eraseIdx_sublist ..)
  · rcases hform with ⟨rfl, h1⟩ | ⟨j, h1, h2, h3⟩
    · rw [h1]; exact hsn
    · rw [h1, h2]
      intro j' e p he hp
      rw [List.getElem?_eraseIdx] at he hp
      split at he
      · rename_i hq; rw [if_pos hq] at hp; exact hsn _ _ _ he hp
      · rename_i hq; rw [if_neg hq] at hp; exact hsn _ _ _ he hp
  · have := (hSo r (by simp)).1
    have := (hSo b (by simp)).1
    simp at hx
    rcases hx with rfl | rfl <;> simpa
end
end Go.Hp
