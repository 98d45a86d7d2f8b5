/- Operations that make or fill memory: small laws over any program. -/
import Derived.Test.YtdipfegofpfhaaaOps
import Derived.Laws.MakeOwn
namespace Go.Hp
open Go Go.RowKit
set_option linter.unusedVariables false
set_option linter.unusedSimpArgs false
section
variable {P : Program} {ρ : Operand → Value} {w : World} {dst : Option Nat} {ty : TypeId} {pos : String} {after : Array Edge} {g : Option (Nat × Bool)} {x y c : Operand}
/-- '[]T{v}'. -/
theorem bs1 {T E : TypeId} {v z : Value} (hx : ρ x = v) (hv : v.oneCell' = true) (hu : P.underlying T = some (.slice E)) (hs : ∀ w, (sizeOf E).run P w = .ok 1 w) (hz : ∀ w, (zeroValue E).run P w = .ok z w) :
    (execOp ρ ⟨dst, .buildSlice T 1 #[(0, x)], ty, pos, after, g⟩).run P w = .ok (.value (.slice (some ⟨w.heap.size, 0, none⟩) 1 1)) (w.alloc (.cells #[v] E)) := by
  subst hx
  have h1 : (ρ x).cells = #[ρ x] := by cases h : ρ x <;> first | rfl | simp [h, Value.oneCell'] at hv
  have hr : ((Array.range (1 * 1)).map (z.cells[· % z.cells.size]!)) = #[z.cells[0 % z.cells.size]!] := by
    apply Array.ext
    · simp
    · intro i h1 h2
      have : i = 0 := by simpa using h2
      subst this
      simp
  have hf : Instr.fill (fun i => some (i * 1, 1)) ((Array.range (1 * 1)).map (z.cells[· % z.cells.size]!)) [(0, ρ x)] = some #[ρ x] := by
    rw [hr]
    simp [Instr.fill, h1]
  have : (Instr.buildSlice T 1 #[(0, ρ x)]).run P w = .ok (.slice (some ⟨w.heap.size, 0, none⟩) 1 1) (w.alloc (.cells #[ρ x] E)) := by
    unfold Instr.buildSlice
    simp only [Sem.run_bind, run_underlying hu, hs]
    simp [run_underlying hu, hs, hz]
    simp only [Nat.mul_one, Nat.one_mul] at hf
    simp [hf, newRow, newObj, Sem.run]
  simp [execOp, this]

theorem madeCells_flat (z : Array Value) (m : Nat) (hm : z.size = m) (h0 : 0 < m) (n : Nat) : (madeCells z (n * m)).toList = flat (fun _ : Unit => z.toList) (List.replicate n ()) := by
  have hf : ∀ o : Unit, ((fun _ : Unit => z.toList) o).length = m := fun _ => by simpa using hm
  apply List.ext_getElem?
  intro j
  have hj : j = (j / m) * m + j % m := by rw [Nat.mul_comm]; exact (Nat.div_add_mod j m).symm
  have hlt : j % m < m := Nat.mod_lt _ h0
  by_cases hjn : j < n * m
  · have hd : j / m < n := (Nat.div_lt_iff_lt_mul h0).2 hjn
    rw [hj, flat_get _ m hf _ _ _ hlt, ← hj]
    simp [madeCells, hjn, hd, hm, hlt]
  · rw [List.getElem?_eq_none (by simp [madeCells]; omega), List.getElem?_eq_none (by rw [flat_length _ m hf]; simp; omega)]
theorem mk {T E : TypeId} {i : TypeInfo} {z : Value} {n : Nat} (hx : ρ x = .int .i64 (n : Int)) (hy : ρ y = .int .i64 (n : Int)) (hu : P.underlying T = some (.slice E)) (hi : P.info? E = some i) (hz : i.zero = some z) (hb : i.bytes * n ≤ 281474976710656) (hn : n ≤ 9223372036854775807) :
    (execOp ρ ⟨dst, .makeSlice T x y, ty, pos, after, g⟩).run P w = .ok (.value (.slice (some ⟨w.heap.size, 0, none⟩) n n)) (w.alloc (.cells (madeCells z.cells (n * i.size)) E)) := by
  have hb' : (i.bytes : Int) * (n : Int) ≤ 281474976710656 := by
    have h : ((i.bytes * n : Nat) : Int) ≤ 281474976710656 := by omega
    rwa [Int.natCast_mul] at h
  have hr := run_make (P := P) w T E i z hu hi hz .i64 .i64 n n (by omega) (Int.le_refl _) hb' (by omega)
  simp only [Int.toNat_natCast] at hr
  simp [execOp, hx, hy, hr]
end

section
variable {P : Program} {n : Nat} {Q : Qt} {l : Fm} {b : Nat → Value} {w : World} {ops : List Oper} {rest : List Oper} {ty : TypeId} {pos : String} {after : Array Edge} {g : Option (Nat × Bool)} {d : Nat} {x y : Operand}
/-- The world behind a name, of which this is known. -/
theorem rgen (A : World → Prop) (hA : A w) (k : ∀ w', A w' → Rg P n ops Q rest l b w') : Rg P n ops Q rest l b w := k w hA
theorem wgen {c : Code} (A : World → Prop) (hA : A w) (k : ∀ w', A w' → Wp P n c Q l b w') : Wp P n c Q l b w := k w hA
theorem dgen {bm : List Nat} {em : Nat} {G : Nat → World → Prop} {xm i : Nat} (A : World → Prop) (hA : A w) (k : ∀ w', A w' → Rd P n ops bm em G xm Q i rest l b w') : Rd P n ops bm em G xm Q i rest l b w := k w hA
/-- What append comes to, and where it lies: in its own block still, or in a new one. -/
theorem run_app (base : Nat) {t ty e : TypeId} {i : TypeInfo} {z : Value} {size bytes : Nat} (ht : P.underlying t = some (.slice e)) (hi : P.info? e = some i) (hz : i.zero = some z)
    (hsize : i.size = size) (hby : i.bytes = bytes) (hzs : z.cells.size = size) (hsz : 0 < size) {v : Value} {k : Nat} {xs : List Value} (hown : w.ownsRow base e size v k xs)
    {a : Addr} {m c : Nat} (news : List Value) (hl : news.length = m * size) (hnews : ∀ j u, news[j]? = some u → w.cell? (a.add j) = some u) (h1 : ∀ u ∈ news, u.oneCell' = true)
    (h63 : k + m ≤ 9223372036854775807) (hbytes : (k + m) * bytes ≤ 140737488355328) (hbase : base ≤ w.heap.size) :
    ∃ v' w', (Builtin.append_ #[t, t] ty #[v, .slice (some a) m c]).run P w = .ok v' w' ∧ w'.ownsRow base e size v' (k + m) (xs ++ news) ∧ w.grownBy w' v.ownBlock ∧
      (v'.ownBlock = v.ownBlock ∨ v'.ownBlock = some w.heap.size) := by
  obtain ⟨v', w', hr, hown', hg, hn⟩ := run_append_own (P := P) w base t ty e i z size bytes ht hi hz hsize hby hzs hsz v k xs hown a m c news hl hnews h1 (by unfold maxLen; omega) hbytes hbase
  refine ⟨v', w', hr, hown', hg, ?_⟩
  subst hsize hby
  rcases hown.2 with ⟨rfl, rfl⟩ | ⟨gg, cap, cur, rfl, _, hgg, hnc, _, hcs, _⟩
  · by_cases hm : m = 0
    · rw [hn.2 ⟨rfl, hm⟩]; exact .inl rfl
    · have h2 := run_append_nil (P := P) w t ty e i z ht hi hz a m c news hl hnews (by omega) (by omega) (by simp only [Nat.zero_add] at hbytes; omega)
      rw [h2] at hr
      injection hr with e1 _
      subst e1
      exact .inr rfl
  · by_cases hroom : k + m ≤ cap
    · have h2 := run_append_room (P := P) w t ty e i ht hi gg k cap cur hgg a m c news hl hnews h1 hroom (by rw [hl, hcs, ← Nat.add_mul]; exact Nat.mul_le_mul_right _ hroom)
      rw [h2] at hr
      injection hr with e1 _
      subst e1
      exact .inl rfl
    · have h2 := run_append_grow (P := P) w t ty e i z ht hi hz ⟨gg, 0, none⟩ k cap xs hown.1 (hown.cells (g := gg) rfl) a m c news hl hnews (by omega) (by omega) (growslice_fits (by omega) hbytes)
      rw [h2] at hr
      injection hr with e1 _
      subst e1
      exact .inr rfl
/-- 'append(xs, ys...)' where xs is the call's own. -/
theorem rap (base : Nat) {t e : TypeId} {i : TypeInfo} {z : Value} {size bytes : Nat} (ht : P.underlying t = some (.slice e)) (hi : P.info? e = some i) (hz : i.zero = some z)
    (hsize : i.size = size) (hby : i.bytes = bytes) (hzs : z.cells.size = size) (hsz : 0 < size) {v : Value} {k : Nat} {xs : List Value} (hx : ev n l b x = v) (hown : w.ownsRow base e size v k xs)
    {a : Addr} {m c : Nat} (news : List Value) (hy : ev n l b y = .slice (some a) m c) (hl : news.length = m * size) (hnews : ∀ j u, news[j]? = some u → w.cell? (a.add j) = some u) (h1 : ∀ u ∈ news, u.oneCell' = true)
    (h63 : k + m ≤ 9223372036854775807) (hbytes : (k + m) * bytes ≤ 140737488355328) (hbase : base ≤ w.heap.size) (hw : want n ops l b ⟨some d, .call ⟨.builtin .append, #[x, y], #[t, t]⟩, ty, pos, after, g⟩ = true)
    (K : ∀ v' w', w'.ownsRow base e size v' (k + m) (xs ++ news) → w.grownBy w' v.ownBlock → (v'.ownBlock = v.ownBlock ∨ v'.ownBlock = some w.heap.size) → Rg P n ops Q rest ((d, v') :: l) b w') : Rg P n ops Q (⟨some d, .call ⟨.builtin .append, #[x, y], #[t, t]⟩, ty, pos, after, g⟩ :: rest) l b w := by
  obtain ⟨v', w', hr, hown', hg, hb⟩ := run_app (P := P) (ty := ty) base ht hi hz hsize hby hzs hsz hown (c := c) news hl hnews h1 h63 hbytes hbase
  refine rs (v := v') (w' := w') ?_ hw (K v' w' hown' hg hb)
  subst hx
  simp [execOp, resolve, invoke, builtin, hy, hr]
/-- 'append(xs, v)': one element of one cell, behind '[]T{v}'. -/
theorem rap1 (base : Nat) {t e : TypeId} {i : TypeInfo} {z : Value} {bytes : Nat} (ht : P.underlying t = some (.slice e)) (hi : P.info? e = some i) (hz : i.zero = some z)
    (hsize : i.size = 1) (hby : i.bytes = bytes) (hzs : z.cells.size = 1) {v : Value} {k : Nat} {xs : List Value} (hx : ev n l b x = v) (hown : w.ownsRow base e 1 v k xs)
    {u : Value} {bb : Nat} {T : TypeId} (hy : ev n l b y = .slice (some ⟨bb, 0, none⟩) 1 1) (hB : Blk w bb [u] T) (h1 : u.oneCell' = true)
    (h63 : k + 1 ≤ 9223372036854775807) (hbytes : (k + 1) * bytes ≤ 140737488355328) (hbase : base ≤ w.heap.size) (hw : want n ops l b ⟨some d, .call ⟨.builtin .append, #[x, y], #[t, t]⟩, ty, pos, after, g⟩ = true)
    (K : ∀ v' w', w'.ownsRow base e 1 v' (k + 1) (xs ++ [u]) → w.grownBy w' v.ownBlock → (v'.ownBlock = v.ownBlock ∨ v'.ownBlock = some w.heap.size) → Rg P n ops Q rest ((d, v') :: l) b w') : Rg P n ops Q (⟨some d, .call ⟨.builtin .append, #[x, y], #[t, t]⟩, ty, pos, after, g⟩ :: rest) l b w := by
  refine rap base ht hi hz hsize hby hzs (by omega) hx hown [u] hy rfl (fun j v hj => ?_) (by simpa using h1) h63 hbytes hbase hw K
  match j, hj with
  | 0, hj => simp at hj; subst hj; exact hB.cell rfl
/-- 'clear(xs)' of a whole row. -/
theorem rclr {t E T : TypeId} {bb m : Nat} {z : Value} {cs : List Value} {k c : Nat} (ht : P.underlying t = some (.slice E)) (hz : ∀ w, (zeroValue E).run P w = .ok z w) (hzs : z.cells.size = m) (h1 : ∀ u ∈ z.cells.toList, u.oneCell' = true)
    (hx : ev n l b x = .slice (some ⟨bb, 0, none⟩) k c) (hB : Blk w bb cs T) (hk : k * m = cs.length) (hw : want n ops l b ⟨none, .call ⟨.builtin .clear, #[x], #[t]⟩, ty, pos, after, g⟩ = true)
    (K : ∀ w', Blk w' bb (Builtin.zeroCells z.cells k).toList T → Only [bb] w w' → Rg P n ops Q rest l b w') : Rg P n ops Q (⟨none, .call ⟨.builtin .clear, #[x], #[t]⟩, ty, pos, after, g⟩ :: rest) l b w := by
  have hsz : (Builtin.zeroCells z.cells k).size = cs.length := by simp [Builtin.zeroCells, hzs, hk]
  have hrun : ∃ w', (Builtin.clear_ #[t] ty #[.slice (some ⟨bb, 0, none⟩) k c]).run P w = .ok (.tuple #[]) w' ∧ Blk w' bb (Builtin.zeroCells z.cells k).toList T ∧ Only [bb] w w' := by
    cases k with
    | zero =>
      refine ⟨w, by simp [Builtin.clear_, run_underlying ht], ?_, Only.refl _ _⟩
      have h0 : cs = [] := List.eq_nil_of_length_eq_zero (by omega)
      have hz0 : (Builtin.zeroCells z.cells 0).toList = [] := List.eq_nil_of_length_eq_zero (by simp [Builtin.zeroCells])
      rw [hz0, ← h0]; exact hB
    | succ k =>
      have hmem : ∀ u ∈ (Builtin.zeroCells z.cells (k + 1)).toList, u.oneCell' = true := by
        intro u hu
        simp only [Builtin.zeroCells, Array.toList_map, List.mem_map] at hu
        obtain ⟨i, hi, rfl⟩ := hu
        have hi' : i < (k + 1) * z.cells.size := by simpa using hi
        have hpos : 0 < z.cells.size := by
          rcases Nat.eq_zero_or_pos z.cells.size with h | h
          · rw [h] at hi'; omega
          · exact h
        have hlt : i % z.cells.size < z.cells.size := Nat.mod_lt _ hpos
        rw [getElem!_pos z.cells _ hlt]
        exact h1 _ (by simp)
      have h := run_storeCells_at P bb 0 T (Builtin.zeroCells z.cells (k + 1)).toList 0 cs.toArray w hB (by simp [hsz]) hmem
      simp only [Nat.add_zero, Nat.zero_add] at h
      have he : ((cs.toArray.toList.take 0 ++ (Builtin.zeroCells z.cells (k + 1)).toList ++ cs.toArray.toList.drop (Builtin.zeroCells z.cells (k + 1)).toList.length).toArray) = (Builtin.zeroCells z.cells (k + 1)) := by
        simp [hsz]
      rw [he] at h
      refine ⟨w.setRow bb (Builtin.zeroCells z.cells (k + 1)), by simp [Builtin.clear_, run_underlying ht, hz, h], ?_, ?_⟩
      · have := hB.setRow (Builtin.zeroCells z.cells (k + 1)).toList
        simpa using this
      · exact (Only.refl [bb] w).setRow (.inl (by simp)) _
  obtain ⟨w', hr, hb, ho⟩ := hrun
  refine ⟨?_⟩
  unfold wpList
  rw [want_act, hw, if_pos rfl]
  refine .inl ?_
  unfold Oper.wp
  rw [act_eval]
  have : (execOp (ev n l b) ⟨none, .call ⟨.builtin .clear, #[x], #[t]⟩, ty, pos, after, g⟩).run P w = .ok (.value (.tuple #[])) w' := by
    simp [execOp, resolve, invoke, builtin, hx, hr]
  rw [this, Oper.upon_value, act_put]
  exact (K w' hb ho).h
theorem zeroCells_flat (z : Array Value) (m : Nat) (hm : z.size = m) (h0 : 0 < m) (n : Nat) : (Builtin.zeroCells z n).toList = flat (fun _ : Unit => z.toList) (List.replicate n ()) := by
  rw [← madeCells_flat z m hm h0 n, ← hm]
  rfl
theorem flat_const {α β : Type} (f : α → List Value) (h : β → List Value) (o : α) (u : β) (e : f o = h u) (n : Nat) : flat f (List.replicate n o) = flat h (List.replicate n u) := by
  unfold flat
  induction n with
  | zero => rfl
  | succ n ih => rw [List.replicate_succ, List.replicate_succ, List.flatMap_cons, List.flatMap_cons, ih, e]
end
end Go.Hp
