/- Operations on rows that are owned or read: small laws over any program. -/
import Derived.Test.YtdipfegofpfhaaaSl2
namespace Go.Hp
open Go Go.RowKit
set_option linter.unusedVariables false
set_option linter.unusedSimpArgs false
theorem bind_some {α β : Type} {x : Option α} {f : α → Option β} {r : β} (h : x.bind f = some r) : ∃ a, x = some a ∧ f a = some r := Option.bind_eq_some_iff.1 h
/-- The sum of two lists, where memory bears it. -/
def app {α : Type} (xs ys : List α) : Option (List α) := if xs.length + ys.length ≤ 4294967296 then some (xs ++ ys) else none
theorem app_some {α : Type} {xs ys r : List α} (h : app xs ys = some r) : xs.length + ys.length ≤ 4294967296 ∧ r = xs ++ ys := by
  unfold app at h
  split at h
  · injection h with h; exact ⟨‹_›, h.symm⟩
  · cases h
section
variable {P : Program} {ρ : Operand → Value} {w : World} {dst : Option Nat} {ty : TypeId} {pos : String} {after : Array Edge} {g : Option (Nat × Bool)} {x y c : Operand}
theorem foldl_cells (m : Nat) : ∀ (vc : List Value) (j0 off : Nat) (cs : List Value), off + j0 + vc.length ≤ cs.length →
    ((vc.zipIdx j0).foldl (fun (a : Array Value) (p : Value × Nat) => a.setIfInBounds (off + p.2) p.1) cs.toArray) = (cs.take (off + j0) ++ vc ++ cs.drop (off + j0 + vc.length)).toArray
  | [], j0, off, cs, h => by simp
  | v :: vc, j0, off, cs, h => by
    simp only [List.length_cons] at h
    rw [List.zipIdx_cons, List.foldl_cons]
    have hs : cs.toArray.setIfInBounds (off + j0) v = (cs.set (off + j0) v).toArray := by simp
    simp only [hs]
    rw [foldl_cells m vc (j0 + 1) off (cs.set (off + j0) v) (by simp; omega)]
    congr 1
    have hlt : off + j0 < cs.length := by omega
    rw [show off + (j0 + 1) = off + j0 + 1 by omega, List.take_set, List.drop_set_of_lt (by omega)]
    rw [List.take_succ_eq_append_getElem hlt, List.set_append_right _ _ (by simp; omega)]
    simp [Nat.min_eq_left (Nat.le_of_lt hlt)]
    omega
def enum {α : Type} : Nat → List α → List (Nat × α)
  | _, [] => []
  | i, x :: xs => (i, x) :: enum (i + 1) xs
theorem fill_rows (m : Nat) : ∀ (vs : List Value) (k : Nat) (pre rest : List Value), (∀ v ∈ vs, v.cells.size = m) → pre.length = k * m → rest.length = vs.length * m →
    Instr.fill (fun i => some (i * m, m)) (pre ++ rest).toArray (enum k vs) = some (pre ++ (vs.map (·.cells.toList)).flatten).toArray
  | [], k, pre, rest, _, _, hr => by
    have : rest = [] := List.eq_nil_of_length_eq_zero (by simpa using hr)
    subst this
    simp [enum, Instr.fill]
  | v :: vs, k, pre, rest, hv, hp, hr => by
    have hvs := hv v (by simp)
    have hrl : rest.length = m + vs.length * m := by rw [hr, List.length_cons, Nat.succ_mul]; omega
    simp only [enum, Instr.fill]
    rw [if_neg (by simp [hvs, hp, hrl])]
    have hf := foldl_cells m v.cells.toList 0 (k * m) (pre ++ rest) (by simp [hvs, hp, hrl])
    have hz : v.cells.zipIdx.foldl (fun (cs : Array Value) (x : Value × Nat) => match x with | (c, j) => cs.setIfInBounds (k * m + j) c) (pre ++ rest).toArray =
        ((v.cells.toList.zipIdx 0).foldl (fun (a : Array Value) (p : Value × Nat) => a.setIfInBounds (k * m + p.2) p.1) (pre ++ rest).toArray) := by
      rw [← Array.foldl_toList]; simp
    rw [hz, hf]
    have e1 : (pre ++ rest).take (k * m + 0) = pre := by rw [Nat.add_zero, ← hp, List.take_left]
    have e2 : (pre ++ rest).drop (k * m + 0 + v.cells.toList.length) = rest.drop m := by
      rw [Nat.add_zero, List.drop_append, hp]
      simp [hvs, hp]
    rw [e1, e2]
    rw [fill_rows m vs (k + 1) (pre ++ v.cells.toList) (rest.drop m) (fun u hu => hv u (by simp [hu])) (by rw [List.length_append, hp, Nat.succ_mul]; simp [hvs]) (by rw [List.length_drop, hrl]; omega)]
    simp
/-- '[]T{v, ..}', all of its elements. -/
theorem bsl {T E : TypeId} {m n : Nat} {z : Value} {ps : Array (Nat × Operand)} (css : List (List Value)) (hu : P.underlying T = some (.slice E)) (hs : ∀ w, (sizeOf E).run P w = .ok m w) (hz : ∀ w, (zeroValue E).run P w = .ok z w)
    (hps : ps.toList.map (·.1) = List.range n) (hcs : (ps.toList.map fun p => (ρ p.2).cells.toList) = css) (hm : css.all (fun c => Nat.beq c.length m) = true) (hzs : Nat.beq z.cells.size m = true) (hn : Nat.ble (n * m) 16777216 = true) :
    (execOp ρ ⟨dst, .buildSlice T n ps, ty, pos, after, g⟩).run P w = .ok (.value (.slice (some ⟨w.heap.size, 0, none⟩) n n)) (w.alloc (.cells css.flatten.toArray E)) := by
  subst hcs
  have hlen : ps.toList.length = n := by have := congrArg List.length hps; simpa using this
  have hzs' : z.cells.size = m := by simpa using hzs
  have hn' : n * m ≤ 16777216 := Nat.le_of_ble_eq_true hn
  have hmap : (ps.map fun (p : Nat × Operand) => (p.1, ρ p.2)).toList = enum 0 (ps.toList.map fun p => ρ p.2) := by
    have key : ∀ (l : List (Nat × Operand)) (k : Nat), l.map (·.1) = List.range' k l.length → l.map (fun p => (p.1, ρ p.2)) = enum k (l.map fun p => ρ p.2) := by
      intro l
      induction l with
      | nil => intro k _; rfl
      | cons p l ih =>
        intro k h
        simp only [List.map_cons, List.length_cons, List.range'_succ, List.cons.injEq] at h
        simp only [List.map_cons, enum, ih (k + 1) h.2, h.1]
    rw [Array.toList_map]
    exact key _ 0 (by rw [hps, hlen, List.range_eq_range'])
  have hr0 : ∀ zz : Array Value, zz.size = m ∨ n * m = 0 → ((Array.range (n * m)).map (zz[· % zz.size]!)).toList.length = n * m := by intro zz _; simp
  have hfill : ∀ zz : Array Value, Instr.fill (fun i => some (i * m, m)) ((Array.range (n * m)).map (zz[· % zz.size]!)) (ps.map fun (p : Nat × Operand) => (p.1, ρ p.2)).toList = some ((ps.toList.map fun p => (ρ p.2).cells.toList).flatten).toArray := by
    intro zz
    have := fill_rows m (ps.toList.map fun p => ρ p.2) 0 [] ((Array.range (n * m)).map (zz[· % zz.size]!)).toList (by
      intro v hv
      obtain ⟨p, hp, rfl⟩ := List.mem_map.1 hv
      have := List.all_eq_true.1 hm _ (List.mem_map.2 ⟨p, hp, rfl⟩)
      simpa using this) (by simp) (by simp [hlen])
    rw [hmap]
    rw [List.nil_append, Array.toArray_toList, List.nil_append, List.map_map] at this
    exact this
  have hgt : ¬ n * m > 2 ^ 24 := by simp; omega
  have key : (Instr.buildSlice T n (ps.map fun (p : Nat × Operand) => (p.1, ρ p.2))).run P w = .ok (.slice (some ⟨w.heap.size, 0, none⟩) n n) (w.alloc (.cells ((ps.toList.map fun p => (ρ p.2).cells.toList).flatten).toArray E)) := by
    unfold Instr.buildSlice
    simp only [Sem.run_bind, run_underlying hu, hs]
    simp [hgt, run_underlying hu, hs]
    by_cases h0 : n * m = 0
    · simp [h0, hs, run_underlying hu]
      have := hfill #[]
      rw [h0] at this
      simp at this
      simp [this, newRow, newObj, Sem.run]
    · simp [h0, hs, run_underlying hu, hz, hn']
      have := hfill z.cells
      simp at this
      simp [this, newRow, newObj, Sem.run]
  simp only [execOp]
  simp [key]
end

section
variable {P : Program} {n : Nat} {Q : Qt} {l : Fm} {b : Nat → Value} {w : World} {ops : List Oper} {rest : List Oper} {op : Op} {ty : TypeId} {pos : String} {after : Array Edge} {g : Option (Nat × Bool)} {d : Nat} {A : Value → World → Prop}
theorem rsE (h : ∃ v w', (execOp (ev n l b) ⟨some d, op, ty, pos, after, g⟩).run P w = .ok (.value v) w' ∧ A v w') (hw : want n ops l b ⟨some d, op, ty, pos, after, g⟩ = true) (k : ∀ v w', A v w' → Rg P n ops Q rest ((d, v) :: l) b w') : Rg P n ops Q (⟨some d, op, ty, pos, after, g⟩ :: rest) l b w := by
  obtain ⟨v, w', h1, h2⟩ := h
  exact rs h1 hw (k v w' h2)
theorem ruE {A : World → Prop} (h : ∃ w', (execOp (ev n l b) ⟨none, op, ty, pos, after, g⟩).run P w = .ok .skip w' ∧ A w') (hw : want n ops l b ⟨none, op, ty, pos, after, g⟩ = true) (k : ∀ w', A w' → Rg P n ops Q rest l b w') : Rg P n ops Q (⟨none, op, ty, pos, after, g⟩ :: rest) l b w := by
  obtain ⟨w', h1, h2⟩ := h
  exact ru h1 hw (k w' h2)
/-- .. whose value goes nowhere. -/
theorem rvE {A : World → Prop} (h : ∃ v w', (execOp (ev n l b) ⟨none, op, ty, pos, after, g⟩).run P w = .ok (.value v) w' ∧ A w') (hw : want n ops l b ⟨none, op, ty, pos, after, g⟩ = true) (k : ∀ w', A w' → Rg P n ops Q rest l b w') : Rg P n ops Q (⟨none, op, ty, pos, after, g⟩ :: rest) l b w := by
  obtain ⟨v, w', h1, h2⟩ := h
  refine ⟨?_⟩
  unfold wpList
  rw [want_act, hw, if_pos rfl]
  refine .inl ?_
  unfold Oper.wp
  rw [act_eval, h1, Oper.upon_value, act_put]
  exact (k w' h2).h
variable {bm : List Nat} {G : Nat → World → Prop} {em xm i : Nat}
theorem deE (h : ∃ v w', (execOp (ev n l b) ⟨some d, op, ty, pos, after, g⟩).run P w = .ok (.value v) w' ∧ A v w') (hw : want n ops l b ⟨some d, op, ty, pos, after, g⟩ = true) (he : effB op = true) (k : ∀ v w', A v w' → FX bm em G i w' ∧ Rd P n ops bm em G xm Q (i + 1) rest ((d, v) :: l) b w') : Rd P n ops bm em G xm Q i (⟨some d, op, ty, pos, after, g⟩ :: rest) l b w := by
  obtain ⟨v, w', h1, h2⟩ := h
  exact de h1 hw he (k v w' h2).1 (k v w' h2).2
theorem duE {A : World → Prop} (h : ∃ w', (execOp (ev n l b) ⟨none, op, ty, pos, after, g⟩).run P w = .ok .skip w' ∧ A w') (hw : want n ops l b ⟨none, op, ty, pos, after, g⟩ = true) (he : effB op = true) (k : ∀ w', A w' → FX bm em G i w' ∧ Rd P n ops bm em G xm Q (i + 1) rest l b w') : Rd P n ops bm em G xm Q i (⟨none, op, ty, pos, after, g⟩ :: rest) l b w := by
  obtain ⟨w', h1, h2⟩ := h
  exact du h1 hw he (k w' h2).1 (k w' h2).2
end

section
variable {P : Program} {ρ : Operand → Value} {w : World} {dst : Option Nat} {ty : TypeId} {pos : String} {after : Array Edge} {g : Option (Nat × Bool)} {x y z : Operand}
variable {α : Type} {m : Nat} {E : PR α m} {l : List HP} {k k2 : Nat} {T t : TypeId} {v u : Value} {xs ys : List α}
theorem run_app_none {s : Option Addr} {n c q : Nat} (ht : P.underlying t = some (.slice T)) {i : TypeInfo} (hi : P.info? T = some i) (hn : n ≤ c) (hcell : s = none ∨ ∃ a, s = some a) :
    (Builtin.append_ #[t, t] ty #[.slice s n c, .slice none 0 q]).run P w = .ok (.slice s n c) w := by
  have hsz : ∀ w, (sizeOf T).run P w = .ok i.size w := fun w => by simp [sizeOf, typeInfo, Sem.run, hi]
  have hu : ∀ w, (underlying t).run P w = .ok (.slice T) w := fun w => run_underlying ht w
  unfold Builtin.append_
  cases s <;> simp [hu, hsz, Builtin.lenOf, Builtin.firstCells, hn, storeCells]
/-- 'append(xs, ys...)'. -/
theorem Ctx.append (h : Ctx w l) (hk : ltP l k = true) (e : nthP l k = Own E T v xs) (hk2 : ltP l k2 = true) {Q : HP} (e2 : nthP l k2 = Q) (hQ : Reads Q E u ys)
    {i : TypeInfo} {zv : Value} (ht : P.underlying t = some (.slice T)) (hi : P.info? T = some i) (hz : i.zero = some zv) (hsize : i.size = m) (hby : Nat.ble i.bytes 32768 = true) (hzs : zv.cells.size = m) (hsz : Nat.blt 0 m = true)
    (hx : ρ x = v) (hy : ρ y = u) (hg : xs.length + ys.length ≤ 4294967296) :
    ∃ v' w', (execOp ρ ⟨dst, .call ⟨.builtin .append, #[x, y], #[t, t]⟩, ty, pos, after, g⟩).run P w = .ok (.value v') w' ∧ ∃ a c, v' = .slice a (xs ++ ys).length c ∧ Ctx w' (setP l k (Own E T v' (xs ++ ys))) := by
  have hrun : ∃ v' w', (Builtin.append_ #[t, t] ty #[v, u]).run P w = .ok v' w' ∧ Ctx w' (setP l k (Own E T v' (xs ++ ys))) := by
    obtain ⟨R, Ss, hc⟩ := h
    obtain ⟨S1, h1⟩ := CtxAt.nth hc.all hk
    obtain ⟨S2, h2⟩ := CtxAt.nth hc.all hk2
    rw [e] at h1
    rw [e2] at h2
    obtain ⟨css, r1, r2, _⟩ := h1
    obtain ⟨a, c, hu, _, hr⟩ := hQ.w w R S2 h2
    subst hu
    have hbytes : (xs.length + ys.length) * i.bytes ≤ 140737488355328 := by
      have h3 : i.bytes ≤ 32768 := Nat.le_of_ble_eq_true hby
      calc (xs.length + ys.length) * i.bytes ≤ 4294967296 * 32768 := Nat.mul_le_mul hg h3
        _ = _ := rfl
    have h0m : 0 < m := by simpa using hsz
    obtain ⟨ds, q1, q2⟩ := rows_of (E := E) (w := w) (R := R) (m := m) (a := a) (A := fun _ => True) ys 0 (fun i x hx => by obtain ⟨bb, oo, cs, h1, h2, h3, h4⟩ := hr i x hx; exact ⟨bb, oo, cs, h1, h2, h3, fun j u hu => by rw [Nat.zero_add]; exact h4 j u hu⟩)
    cases a with
    | none =>
      have : ys = [] := by
        cases ys with
        | nil => rfl
        | cons y ys => obtain ⟨bb, oo, cs, h1, _⟩ := hr 0 y rfl; cases h1
      subst this
      rcases r2.2 with ⟨rfl, hn⟩ | ⟨gg, cap, cur, rfl, _, hgg, hcap, _, hs, ht'⟩
      · refine ⟨_, w, run_app_none ht hi (Nat.le_refl _) (.inl rfl), ?_⟩
        rw [List.append_nil]
        exact Ctx.conv ⟨R, Ss, hc⟩ hk _ (fun R S hp => by rw [e] at hp; exact hp) rfl
      · refine ⟨_, w, run_app_none ht hi hcap (.inr ⟨_, rfl⟩), ?_⟩
        rw [List.append_nil]
        exact Ctx.conv ⟨R, Ss, hc⟩ hk _ (fun R S hp => by rw [e] at hp; exact hp) rfl
    | some a =>
      have hnews : ∀ j u, ds.flatten[j]? = some u → w.cell? (a.add j) = some u := by
        intro j u hu
        cases ys with
        | nil =>
          have : ds = [] := List.eq_nil_of_length_eq_zero (by simpa using Rows.len q1)
          subst this; simp at hu
        | cons y ys =>
          obtain ⟨bb, oo, cs, h1, _⟩ := hr 0 y rfl
          injection h1 with h1
          subst h1
          have := q2 bb oo rfl j u hu
          rw [Addr.add_lit]
          simpa using this
      obtain ⟨v', w', hr', hown, hgr, hbl⟩ := run_app (P := P) (w := w) (ty := ty) 0 ht hi hz hsize rfl hzs h0m r2 (c := c) ds.flatten (by rw [Rows.flen q1]) hnews (fun u hu => Rows.one q1 u hu) (by omega) hbytes (Nat.zero_le _)
      refine ⟨v', w', hr', ?_⟩
      refine Ctx.updK ⟨R, Ss, hc⟩ hk _ (fun R' Ss' S hc' hS hSo hSn => ?_) rfl
      rw [e] at hS
      -- the same look in any reading
      obtain ⟨css', r1', r2', rfl⟩ := hS
      obtain ⟨S2', h2'⟩ := CtxAt.nth hc'.all hk2
      rw [e2] at h2'
      obtain ⟨a', c', hu', _, hr2⟩ := hQ.w w R' S2' h2'
      injection hu' with ea _ ec
      subst ea
      obtain ⟨ds', q1', q2'⟩ := rows_of (E := E) (w := w) (R := R') (m := m) (a := some a) (A := fun _ => True) ys 0 (fun i x hx => by obtain ⟨bb, oo, cs, h1, h2, h3, h4⟩ := hr2 i x hx; exact ⟨bb, oo, cs, h1, h2, h3, fun j u hu => by rw [Nat.zero_add]; exact h4 j u hu⟩)
      have hcss : css'.flatten = css.flatten := by
        rcases r2.2 with ⟨hv, hn⟩ | ⟨g1, cap, cur, hv, _, hgg, _, _, _, ht1⟩
        · have e1 : css.flatten = [] := List.eq_nil_of_length_eq_zero (by rw [r2.1, hn, Nat.zero_mul])
          have e2 : css'.flatten = [] := List.eq_nil_of_length_eq_zero (by rw [r2'.1, hn, Nat.zero_mul])
          rw [e1, e2]
        · rcases r2'.2 with ⟨hv', _⟩ | ⟨g2, cap2, cur2, hv', _, hgg', _, _, _, ht2⟩
          · rw [hv] at hv'; cases hv'
          · rw [hv] at hv'
            injection hv' with e1 e3 e4
            injection e1 with e1
            injection e1 with e1
            subst e1
            rw [hgg] at hgg'
            injection hgg' with e5
            injection e5 with e5
            subst e5
            rw [← ht1, ← ht2]
      have hdss : ds'.flatten = ds.flatten := by
        apply List.ext_getElem?
        intro j
        by_cases hj : j < ys.length * m
        · have l1 := Rows.flen q1
          have l2 := Rows.flen q1'
          rw [List.getElem?_eq_getElem (by rw [l2]; exact hj), List.getElem?_eq_getElem (by rw [l1]; exact hj)]
          cases ys with
          | nil => simp at hj
          | cons y ys =>
            obtain ⟨bb, oo, cs, h1, _⟩ := hr2 0 y rfl
            have x1 := q2 bb oo h1 j _ (List.getElem?_eq_getElem (by rw [l1]; exact hj))
            have x2 := q2' bb oo h1 j _ (List.getElem?_eq_getElem (by rw [l2]; exact hj))
            rw [x1] at x2
            exact x2.symm
        · rw [List.getElem?_eq_none (by rw [Rows.flen q1']; omega), List.getElem?_eq_none (by rw [Rows.flen q1]; omega)]
      have hkp : Kp (fun b => b < w.heap.size ∧ b ∉ v.ownBlock.toList) w w' := ⟨hgr.os, hgr.tape, hgr.output, hgr.size, fun b hb => hgr.block b hb.1 (fun e => hb.2 (by simp [← e]))⟩
      have hkr : Kp R' w w' := hkp.mono fun b hb => ⟨hc'.fz b hb, fun hm => (hSo b hm).2 hb⟩
      refine ⟨v'.ownBlock.toList, ⟨css' ++ ds', (r1'.app q1').st hkr (fun _ h => h), ?_, rfl⟩, by cases v'.ownBlock <;> simp, fun b hb => ?_, hkp⟩
      · rw [List.length_append, List.flatten_append, hcss, hdss]; exact hown
      · have hb' : v'.ownBlock = some b := by simpa using hb
        refine ⟨?_, (hown.lt b hb').2⟩
        rcases hbl with h3 | h3
        · left; rw [← h3]; exact hb
        · right; rw [h3] at hb'; injection hb' with hb'; omega
  obtain ⟨v', w', h1, h2⟩ := hrun
  refine ⟨v', w', by simp [execOp, resolve, invoke, builtin, hx, hy, h1], ?_⟩
  have hk' : ltP (setP l k (Own E T v' (xs ++ ys))) k = true ∧ nthP (setP l k (Own E T v' (xs ++ ys))) k = Own E T v' (xs ++ ys) := by
    clear h2 h1 h e e2 hk2
    induction l generalizing k with
    | nil => cases hk
    | cons p l ih => cases k with
      | zero => exact ⟨rfl, rfl⟩
      | succ k => exact ih hk
  obtain ⟨a, c, hv⟩ := h2.rd hk'.1 hk'.2 reads_own
  exact ⟨a, c, hv, h2⟩
end
end Go.Hp
