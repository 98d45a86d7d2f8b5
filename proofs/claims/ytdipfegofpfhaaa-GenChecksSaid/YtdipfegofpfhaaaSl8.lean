/- Parts of a row moved within the row: small laws over any program. -/
import Derived.Test.YtdipfegofpfhaaaSl7
namespace Go.Hp
open Go Go.RowKit
set_option linter.unusedVariables false
set_option linter.unusedSimpArgs false
section
variable {α : Type} {m : Nat} {E : PR α m} {w w' : World} {l : List HP} {k : Nat} {T : TypeId} {xs : List α}
theorem Rows.drop {R : Nat → Prop} : ∀ (j : Nat) (css : List (List Value)) (xs : List α), Rows E w R css xs → Rows E w R (css.drop j) (xs.drop j) ∧ (css.drop j).flatten = css.flatten.drop (j * m)
  | 0, css, xs, h => ⟨h, by simp⟩
  | j + 1, [], [], _ => ⟨trivial, by simp⟩
  | j + 1, [], _ :: _, h => h.elim
  | j + 1, _ :: _, [], h => h.elim
  | j + 1, c :: css, x :: xs, h => by
    obtain ⟨h1, h2⟩ := Rows.drop j css xs h.2
    refine ⟨h1, ?_⟩
    have hl := E.len h.1
    have e1 : c.drop ((j + 1) * m) = [] := List.drop_of_length_le (by rw [hl, Nat.succ_mul]; omega)
    have e2 : (j + 1) * m - m = j * m := by rw [Nat.succ_mul, Nat.add_sub_cancel]
    rw [List.drop_succ_cons, h2, List.flatten_cons, List.drop_append, e1, hl, e2, List.nil_append]
/-- 'append(xs[:i], xs[j:]...)' within the row. -/
theorem Ctx.appendIn {P : Program} {ρ : Operand → Value} {dst : Option Nat} {ty t : TypeId} {pos : String} {after : Array Edge} {g : Option (Nat × Bool)} {x y : Operand} {inf : TypeInfo} (h : Ctx w l) (hk : ltP l k = true) {a : Option Addr} {n c : Nat} (e : nthP l k = Own E T (.slice a n c) xs)
    (ht : P.underlying t = some (.slice T)) (hi : P.info? T = some inf) (hsize : inf.size = m) (i j : Nat) (hij : i < j) (hj : j ≤ n) (hx : ρ x = .slice a i c) (hy : ρ y = .slice (if c = j then a else a.map (·.add (j * m))) (n - j) (c - j)) :
    ∃ v w', (execOp ρ ⟨dst, .call ⟨.builtin .append, #[x, y], #[t, t]⟩, ty, pos, after, g⟩).run P w = .ok (.value v) w' ∧ v = .slice a (i + (n - j)) c ∧ Ctx w' (setP l k (Own E T (.slice a n c) (xs.take i ++ xs.drop j ++ xs.drop (i + (n - j))))) := by
  have hn : n = xs.length := (Ctx.rdLen h hk e reads_own).1
  obtain ⟨R, Ss, hc⟩ := h
  obtain ⟨S, hS⟩ := CtxAt.nth hc.all hk
  rw [e] at hS
  have hform : ∃ bb, a = some ⟨bb, 0, none⟩ := by
    obtain ⟨css, r1, r2, _⟩ := hS
    rcases r2.2 with ⟨hv, hn'⟩ | ⟨g, cap, cur, hv, _⟩
    · omega
    · injection hv with e1 _ _
      exact ⟨g, e1⟩
  obtain ⟨bb, rfl⟩ := hform
  obtain ⟨_, _, hnc, hcm, rfl, css, cur, r1, hgg, hsz, htk⟩ := Own.block hS
  obtain ⟨A, hA, hsrc⟩ : ∃ A : Addr, (if c = j then (some ⟨bb, 0, none⟩ : Option Addr) else (some ⟨bb, 0, none⟩ : Option Addr).map (·.add (j * m))) = some A ∧ (c ≠ j → A = ⟨bb, j * m, none⟩) := by
    by_cases h : c = j
    · exact ⟨_, by rw [if_pos h], fun h' => absurd h h'⟩
    · exact ⟨_, by rw [if_neg h]; rfl, fun _ => by simp [Addr.add_lit]⟩
  rw [hA] at hy
  obtain ⟨d1, d2⟩ := Rows.drop j css xs r1
  have hfl := Rows.flen r1
  have hnl : (css.drop j).flatten.length = (n - j) * m := by rw [Rows.flen d1, List.length_drop, hn]
  have hjm : j * m ≤ n * m := Nat.mul_le_mul_right _ hj
  have hsub : (n - j) * m = n * m - j * m := Nat.sub_mul _ _ _
  have him : i * m ≤ j * m := Nat.mul_le_mul_right _ (by omega)
  have hcm' : n * m ≤ c * m := Nat.mul_le_mul_right _ hnc
  have hnews : ∀ p u, (css.drop j).flatten[p]? = some u → w.cell? (A.add p) = some u := by
    intro p u hu
    have hp : p < (n - j) * m := by rw [← hnl]; exact (List.getElem?_eq_some_iff.1 hu).1
    have hcj : c ≠ j := fun e => by
      have : n - j = 0 := by omega
      rw [this] at hp; omega
    rw [hsrc hcj, Addr.add_lit]
    rw [d2, ← htk, List.getElem?_drop, List.getElem?_take] at hu
    split at hu
    · simp [World.cell?, hgg]
      simpa using hu
    · cases hu
  have hrun := run_append_room (P := P) w t ty T inf ht hi bb i c cur hgg A (n - j) (c - j) (css.drop j).flatten (by rw [hnl, hsize]) hnews (fun u hu => Rows.one d1 u hu) (by omega) (by rw [hnl, hsize, hsz, hsub]; omega)
  rw [hsize] at hrun
  refine ⟨.slice (some ⟨bb, 0, none⟩) (i + (n - j)) c, w.setRow bb (cur.toList.take (i * m) ++ (css.drop j).flatten ++ cur.toList.drop (i * m + (css.drop j).flatten.length)).toArray, ?_, rfl, ?_⟩
  · simp only [execOp, resolve, invoke, builtin, hx, hy]
    simp [hx, hy, hrun]
  refine Ctx.updK ⟨R, Ss, hc⟩ hk _ (fun R' Ss' S' hc' hS' hSo hSn => ?_) rfl
  rw [e] at hS'
  obtain ⟨_, _, _, _, rfl, css', cur', r1', hgg', hsz', htk'⟩ := Own.block hS'
  rw [hgg] at hgg'
  injection hgg' with e5
  injection e5 with e5
  subst e5
  have hcss : css'.flatten = css.flatten := by rw [← htk, ← htk']
  have hkp : ∀ A : Nat → Prop, (∀ b, A b → b ≠ bb) → Kp A w (w.setRow bb (cur.toList.take (i * m) ++ (css.drop j).flatten ++ cur.toList.drop (i * m + (css.drop j).flatten.length)).toArray) := fun A hA => setRow_kp hA
  have hRk := hkp R' (fun b hb e => (hSo bb (by simp)).2 (e ▸ hb))
  obtain ⟨t1, t2⟩ := Rows.take i css' xs r1'
  obtain ⟨u1, u2⟩ := Rows.drop j css' xs r1'
  obtain ⟨v1, v2⟩ := Rows.drop (i + (n - j)) css' xs r1'
  have hcl : cur.toList.length = c * m := by simpa using hsz
  have hcz : cur.size = c * m := hsz
  refine ⟨[bb], Own.mk' (css := css'.take i ++ css'.drop j ++ css'.drop (i + (n - j))) (by simp; omega) hnc hcm (Rows.app (Rows.app (t1.st hRk fun _ h => h) (u1.st hRk fun _ h => h)) (v1.st hRk fun _ h => h)) (setRow_heap w bb _ _ T _ hgg) ?_ ?_, hSn, fun b hb => ⟨.inl hb, by have := (hSo b hb).1; simpa [World.setRow] using this⟩, hkp _ fun b hb e => hb.2 (by simp [e])⟩
  · simp only [List.size_toArray, List.length_append, List.length_take, List.length_drop, hnl, hcl]
    omega
  · rw [List.flatten_append, List.flatten_append, t2, u2, v2, hcss, ← d2, ← htk, List.take_take, Nat.min_eq_left (by omega)]
    show List.take (n * m) (_ ++ _ ++ _) = _
    have hl2 : (cur.toList.take (i * m) ++ (css.drop j).flatten).length = i * m + (n - j) * m := by rw [List.length_append, List.length_take, hnl, hcl]; omega
    rw [List.take_append, hl2, List.take_of_length_le (by rw [hl2, hsub]; omega), hnl, Nat.add_mul, List.drop_take]
end
end Go.Hp
namespace Go.Hp
open Go Go.RowKit
set_option linter.unusedVariables false
set_option linter.unusedSimpArgs false
section
variable {α : Type} {m : Nat} {E : PR α m} {w : World} {T : TypeId} {xs : List α} {P : Program} {ρ : Operand → Value} {dst : Option Nat} {ty t : TypeId} {pos : String} {after : Array Edge} {g : Option (Nat × Bool)} {x lo hi mx : Operand} {a : Option Addr} {n q c : Nat}
theorem sub_pre (a : Option Addr) (q : Nat) : (if q = 0 then a else a.map (·.add (0 * m))) = a := by
  split
  · rfl
  · cases a <;> simp [Addr.add]
theorem reads_pre {Q : HP} {hv : Int} (hQ : Reads Q E (.slice a n q) xs) (h : hv.toNat ≤ n) (hq : n ≤ q) (hn : n = xs.length) : Reads Q E (.slice a hv.toNat q) (xs.take hv.toNat) := by
  have hs := reads_sub (lo := 0) (hi := hv.toNat) hQ (by omega) (by omega)
  rw [sub_pre] at hs
  simpa using hs
/-- 's[:h]'. -/
theorem run_sub0 {hv : Int} (hx : ρ x = .slice a n q) (hh : ∃ kk, ρ hi = .int kk hv) (ht : P.underlying t = some (.slice T)) (hs : ∀ w, (sizeOf T).run P w = .ok m w) (h1 : 0 ≤ hv ∧ hv ≤ n) (hq : n ≤ q) :
    (execOp ρ ⟨dst, .slice t x none (some hi) none, ty, pos, after, g⟩).run P w = .ok (.value (.slice a hv.toNat q)) w := by
  have hr := run_sub (P := P) (w := w) (dst := dst) (ty := ty) (pos := pos) (after := after) (g := g) (lo := none) (hi := some hi) (li := none) (hi' := some hv) hx trivial hh ht hs (by simp only [lohi]; omega) hq
  have ha : (if q = (lohi n none (some hv)).1.toNat then a else a.map (·.add ((lohi n none (some hv)).1.toNat * m))) = a := sub_pre a q
  rw [ha] at hr
  simp only [lohi, Int.toNat_zero, Nat.sub_zero] at hr
  exact hr
/-- 's[l:h]' up to what there is room for. -/
theorem run_subc {l h : Int} (hx : ρ x = .slice a n q) (hl : ∃ kk, ρ lo = .int kk l) (hh : ∃ kk, ρ hi = .int kk h) (ht : P.underlying t = some (.slice T)) (hs : ∀ w, (sizeOf T).run P w = .ok m w) (h1 : 0 ≤ l ∧ l ≤ h) (hq : h ≤ q) :
    (execOp ρ ⟨dst, .slice t x (some lo) (some hi) none, ty, pos, after, g⟩).run P w = .ok (.value (.slice (if q = l.toNat then a else a.map (·.add (l.toNat * m))) (h.toNat - l.toNat) (q - l.toNat))) w := by
  obtain ⟨k1, e1⟩ := hl
  obtain ⟨k2, e2⟩ := hh
  have hu : ∀ w, (underlying t).run P w = .ok (.slice T) w := fun w => run_underlying ht w
  have hb : ∀ (k : IntKind) (i : Int) (y : Nat) (code : BoundsCode), 0 ≤ i → i ≤ y → (Instr.sliceBound (.int k i) y code).run P w = .ok i.toNat w := fun k i y code h0 h1 => by simp [Instr.sliceBound, asIntOf, h0, h1]
  simp only [execOp, Option.map_none, Option.map_some, hx, e1, e2]
  have hbb : (Instr.sliceBounds true n q (some (.int k1 l)) (some (.int k2 h)) none).run P w = .ok (l.toNat, h.toNat, q) w := by
    simp [Instr.sliceBounds, hb k2 h q _ (by omega) (by omega), hb k1 l h.toNat _ (by omega) (by omega)]
  simp [Instr.sliceAt, Instr.slice, hu, hbb, hs]
/-- 's[l:h:m]'. -/
theorem run_sub3 {l h k : Int} (hx : ρ x = .slice a n q) (hl : ∃ kk, ρ lo = .int kk l) (hh : ∃ kk, ρ hi = .int kk h) (hm : ∃ kk, ρ mx = .int kk k) (ht : P.underlying t = some (.slice T)) (hs : ∀ w, (sizeOf T).run P w = .ok m w) (h1 : 0 ≤ l ∧ l ≤ h ∧ h ≤ k) (hq : k ≤ q) :
    ∃ v w', (execOp ρ ⟨dst, .slice t x (some lo) (some hi) (some mx), ty, pos, after, g⟩).run P w = .ok (.value v) w' ∧ w' = w := by
  obtain ⟨k1, e1⟩ := hl
  obtain ⟨k2, e2⟩ := hh
  obtain ⟨k3, e3⟩ := hm
  have hu : ∀ w, (underlying t).run P w = .ok (.slice T) w := fun w => run_underlying ht w
  have hb : ∀ (k : IntKind) (i : Int) (y : Nat) (code : BoundsCode), 0 ≤ i → i ≤ y → (Instr.sliceBound (.int k i) y code).run P w = .ok i.toNat w := fun k i y code h0 h1 => by simp [Instr.sliceBound, asIntOf, h0, h1]
  simp only [execOp, Option.map_none, Option.map_some, hx, e1, e2, e3]
  have hbb : (Instr.sliceBounds true n q (some (.int k1 l)) (some (.int k2 h)) (some (.int k3 k))).run P w = .ok (l.toNat, h.toNat, k.toNat) w := by
    simp [Instr.sliceBounds, hb k3 k q _ (by omega) (by omega), hb k2 h k.toNat _ (by omega) (by omega), hb k1 l h.toNat _ (by omega) (by omega)]
  simp [Instr.sliceAt, Instr.slice, hu, hbb, hs]
end
end Go.Hp
namespace Go.Hp
open Go Go.RowKit
section
variable {P : Program} {n : Nat} {l : Fm} {b : Nat → Value} {w : World} {fn : Func} {R : Ending → World → Prop} {r s T m : Nat} {a : Addr} {cs : List Value} {u : Value}
/-- A result that stands in a cell. -/
theorem f1c (hr : fn.results = #[.cell r T]) (hn : fn.ntmps = n) (hv : ev n l b (.tmp r) = .pointer (some a)) (hT : ∀ w, (isAgg T).run P w = .ok true w) (hs : ∀ w, (sizeOf T).run P w = .ok m w) (hm : cs.length = m) (hc : ∀ j v, cs[j]? = some v → w.cell? (a.add j) = some v)
    (h : R (.returned (.agg cs.toArray)) w) : postQ P fn R .ret l b w := by
  subst hn hm
  refine ⟨_, ?_, h⟩
  have e : (act fn.ntmps l b).tmps.getD r undef = .pointer (some a) := (congrFun (act_eval fn.ntmps l b) (.tmp r)).trans hv
  have hl := run_loadCells_list (P := P) (w := w) a cs hc
  simp only [Array.getD_eq_getD_getElem?] at e
  simp [results, hr, e, asAddr, loadVar, hT, hs, hl]
theorem f2c (hr : fn.results = #[.cell r T, .tmp s]) (hn : fn.ntmps = n) (hv : ev n l b (.tmp r) = .pointer (some a)) (hT : ∀ w, (isAgg T).run P w = .ok true w) (hs : ∀ w, (sizeOf T).run P w = .ok m w) (hm : cs.length = m) (hc : ∀ j v, cs[j]? = some v → w.cell? (a.add j) = some v)
    (hu : ev n l b (.tmp s) = u) (h : R (.returned (.tuple #[.agg cs.toArray, u])) w) : postQ P fn R .ret l b w := by
  subst hn hm hu
  refine ⟨_, ?_, h⟩
  have e : (act fn.ntmps l b).tmps.getD r undef = .pointer (some a) := (congrFun (act_eval fn.ntmps l b) (.tmp r)).trans hv
  have e2 : (act fn.ntmps l b).tmps.getD s undef = ev fn.ntmps l b (.tmp s) := congrFun (act_eval fn.ntmps l b) (.tmp s)
  have hl := run_loadCells_list (P := P) (w := w) a cs hc
  simp only [Array.getD_eq_getD_getElem?] at e e2
  simp [results, hr, e, e2, asAddr, loadVar, hT, hs, hl]
end
end Go.Hp
namespace Go.Hp
open Go Go.RowKit
section
variable {α : Type} {m : Nat} {E : PR α m} {w : World} {l : List HP} {k : Nat} {xs : List α}
/-- A row's cells, of elements that are just their cells. -/
def PinRow (E : PR α m) (a : Option Addr) (xs : List α) (w : World) : Prop := ∀ (i : Int) x bb oo, idx xs i = some x → a = some ⟨bb, oo, none⟩ → ∀ (w2 : World) (R : Nat → Prop) cs, E.r w2 R cs x → ∀ (j : Nat) u, cs[j]? = some u → w.cell? ⟨bb, oo + i.toNat * m + j, none⟩ = some u
theorem PinRow.of (h : Ctx w l) (hk : ltP l k = true) {Q : HP} (e : nthP l k = Q) {a : Option Addr} {n q : Nat} (hQ : Reads Q E (.slice a n q) xs) (hd : ∀ (w w2 : World) (R R2 : Nat → Prop) cs cs2 x, E.r w R cs x → E.r w2 R2 cs2 x → cs = cs2) : PinRow E a xs w := by
  intro i x bb oo hx ha w2 R2 cs hE j u hu
  obtain ⟨h0, h1, h2⟩ := idx_some hx
  obtain ⟨R, S, hp, _⟩ := h.at hk e
  obtain ⟨a', c', hv, _, hr⟩ := hQ.w w R S hp
  injection hv with e1 _ _
  subst e1
  obtain ⟨bb', oo', cs', ha', _, hE', hcs⟩ := hr _ _ h2
  rw [ha] at ha'
  injection ha' with ha'
  injection ha' with e2 e3
  subst e2 e3
  rw [hd _ _ _ _ _ _ _ hE hE'] at hu
  exact hcs j u hu
end
end Go.Hp
namespace Go.Hp
open Go Go.RowKit
section
variable {H : Type} {enc : TypeId × Value → H} {P : Program} {w : World} {base : Nat} {spare : Nat → Bool} {held : Bool} {t : TypeId}
/-- An int that stands in a struct that came in is one of its kind. -/
theorem leaf_wf {fs : Array Field} {v : Value} {d : DataW H} {ps : List MemPlace} (ht : P.underlying t = some (.struct fs)) (h : DataW.Trod enc P w base spare held t v d ps) {i : Nat} {f : Field} (hf : fs[i]? = some f) {k : IntKind} (hT : P.underlying f.type = some (.int k))
    {o : Nat} (ho : f.offset = o) (hq : P.cellsOf f.type = 1) {a : Int} (hv : v.cells.toList[o]? = some (.int k a)) : (Lit.int k a).wf = true := by
  subst ho
  obtain ⟨n, hn⟩ := h
  obtain ⟨xs, m, _, _, _, hx, hs⟩ := DataW.trod_struct ht hn
  have hi := (Array.getElem?_eq_some_iff.1 hf).1
  have this := hs i f hf
  rw [List.getElem?_eq_getElem (by omega)] at this
  obtain ⟨b, hb, _, hw⟩ := DataW.trod_int hT this
  rw [hq] at hb
  have h2 : ((v.cells.toList.drop f.offset).take 1)[0]? = some (.int k b) := by rw [hb]; rfl
  rw [List.getElem?_take_of_lt (by omega), List.getElem?_drop, Nat.add_zero, hv] at h2
  injection h2 with h2
  injection h2 with _ h2
  rw [h2]
  exact hw
end
end Go.Hp
