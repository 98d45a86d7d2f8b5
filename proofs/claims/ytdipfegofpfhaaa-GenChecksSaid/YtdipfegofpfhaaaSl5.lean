/- The operations as a walk meets them: small laws over any program. -/
import Derived.Test.YtdipfegofpfhaaaSl4
namespace Go.Hp
open Go Go.RowKit
set_option linter.unusedVariables false
set_option linter.unusedSimpArgs false
theorem gpos {c : Prop} [Decidable c] {α : Type} {a b : Option α} {r : α} (h : (if c then a else b) = some r) (hc : c) : a = some r := by rwa [if_pos hc] at h
theorem gneg {c : Prop} [Decidable c] {α : Type} {a b : Option α} {r : α} (h : (if c then a else b) = some r) (hc : ¬ c) : b = some r := by rwa [if_neg hc] at h
/-- A partial step: where p does not hold nothing is said. -/
def chk {α : Type} (p : Prop) [Decidable p] (x : Option α) : Option α := if p then x else none
theorem chk_some {p : Prop} [Decidable p] {α : Type} {x : Option α} {r : α} (h : chk p x = some r) : p ∧ x = some r := by
  unfold chk at h
  split at h
  · exact ⟨‹_›, h⟩
  · cases h
/-- A pointer of one's own, nil or not. -/
def PtO {α : Type} (f : Nat → α → HP) (v : Value) (o : Option α) : HP := match o with
  | none => Pu (v = .pointer none)
  | some x => Ex fun b => Sep (Pu (v = .pointer (some ⟨b, 0, none⟩))) (f b x)
section
variable {P : Program} {ρ : Operand → Value} {w : World} {dst : Option Nat} {ty : TypeId} {pos : String} {after : Array Edge} {g : Option (Nat × Bool)} {x y c : Operand}
variable {α : Type} {m : Nat} {E : PR α m} {l : List HP} {k k2 : Nat} {T t : TypeId} {v u : Value} {xs ys : List α}
theorem Ctx.ptoN {f : Nat → α → HP} (h : Ctx w (PtO f v none :: l)) : v = .pointer none ∧ Ctx w l := Ctx.puF h
theorem Ctx.ptoS {f : Nat → α → HP} {z : α} (h : Ctx w (PtO f v (some z) :: l)) : ∃ b, v = .pointer (some ⟨b, 0, none⟩) ∧ Ctx w (f b z :: l) := by
  obtain ⟨b, h⟩ := Ctx.exF h
  obtain ⟨e, h⟩ := Ctx.puF (Ctx.sepF h)
  exact ⟨b, e, h⟩
theorem Ctx.ptoNB (f : Nat → α → HP) (h : Ctx w l) : Ctx w (PtO f (.pointer none) none :: l) := Ctx.puB rfl h
theorem Ctx.ptoSB (f : Nat → α → HP) {b : Nat} {z : α} (h : Ctx w (f b z :: l)) : Ctx w (PtO f (.pointer (some ⟨b, 0, none⟩)) (some z) :: l) :=
  Ctx.exB (fun b' => Sep (Pu (Value.pointer (some ⟨b, 0, none⟩) = .pointer (some ⟨b', 0, none⟩))) (f b' z)) b (Ctx.sepB (Ctx.puB rfl h))
theorem Ctx.cells (h : Ctx w l) {b : Nat} {cs : List Value} (hk : ltP l k = true) (e : nthP l k = B b cs T) (o : Nat) {vs : List Value} (hv : (cs.drop o).take vs.length = vs) : ∀ j v, vs[j]? = some v → w.cell? ((⟨b, o, none⟩ : Addr).add j) = some v := by
  intro j v hj
  rw [Addr.add_lit]
  refine h.cell hk e ?_
  rw [← hv, List.getElem?_take] at hj
  split at hj
  · rwa [List.getElem?_drop] at hj
  · cases hj
theorem elCells {bb o : Nat} {cs : List Value} (h : ∀ (j : Nat) u, cs[j]? = some u → w.cell? ⟨bb, o + j, none⟩ = some u) (q : Nat) {vs : List Value} (hv : (cs.drop q).take vs.length = vs) : ∀ j v, vs[j]? = some v → w.cell? ((⟨bb, o + q, none⟩ : Addr).add j) = some v := by
  intro j v hj
  rw [Addr.add_lit, Nat.add_assoc]
  refine h (q + j) v ?_
  rw [← hv, List.getElem?_take] at hj
  split at hj
  · rwa [List.getElem?_drop] at hj
  · cases hj
theorem fax {fs : Array Field} {f : Nat} {fd : Field} {bb o o' : Nat} (off : Nat) (hx : ρ x = .pointer (some ⟨bb, o, none⟩)) (hu : P.underlying T = some (.struct fs)) (hf : fs[f]? = some fd) (hs : ∀ w, (sizeOf fd.type).run P w = .ok m w) (hm : Nat.beq m 0 = false) (ho : fd.offset = off) (ho' : o + off = o') :
    (execOp ρ ⟨dst, .fieldAddr T x f, ty, pos, after, g⟩).run P w = .ok (.value (.pointer (some ⟨bb, o', none⟩))) w := by
  subst ho'
  exact fa off hx hu hf hs hm ho
theorem fld {fs : Array Field} {f : Nat} {fd : Field} {cs : List Value} {v : Value} (hx : ρ x = .agg cs.toArray) (hr : (execOp ρ ⟨dst, .field T x f, ty, pos, after, g⟩).run P w = .ok (.value v) w) : (execOp ρ ⟨dst, .field T x f, ty, pos, after, g⟩).run P w = .ok (.value v) w := hr
/-- A store into a block. -/
theorem Ctx.putOp (h : Ctx w l) {b : Nat} {cs : List Value} (hk : ltP l k = true) (e : nthP l k = B b cs T) {i : Nat} {T2 : TypeId} {u0 : Value} (hx : ρ x = .pointer (some ⟨b, i, none⟩)) (hy : ρ y = v) (hv : v.oneCell' = true) (hs : ∀ w, (sizeOf T2).run P w = .ok 1 w) (hi : cs[i]? = some u0)
    {cs' : List Value} (hcs : cs.set i v = cs') {l' : List HP} (el : setP l k (B b cs' T) = l') : ∃ w', (execOp ρ ⟨dst, .store T2 x y, ty, pos, after, g⟩).run P w = .ok .skip w' ∧ Ctx w' l' :=
  ⟨_, st hx hy hv hs (h.cell hk e hi) ((h.blk hk e).free i), h.put hk e i v hcs el⟩
theorem Ctx.putAgg (h : Ctx w l) {b : Nat} {cs : List Value} (hk : ltP l k = true) (e : nthP l k = B b cs T) {i : Nat} {T2 : TypeId} {vs : List Value} (hx : ρ x = .pointer (some ⟨b, i, none⟩)) (hy : ρ y = .agg vs.toArray) (hv : vs.all (·.oneCell') = true) (hs : ∀ w, (sizeOf T2).run P w = .ok vs.length w) (hi : Nat.ble (i + vs.length) cs.length = true)
    {cs' : List Value} (hcs : laid cs vs i = cs') {l' : List HP} (el : setP l k (B b cs' T) = l') : ∃ w', (execOp ρ ⟨dst, .store T2 x y, ty, pos, after, g⟩).run P w = .ok .skip w' ∧ Ctx w' l' := by
  subst hcs
  exact ⟨_, stg hx hy hs (h.blk hk e) (Nat.le_of_ble_eq_true hi) (fun u hu => List.all_eq_true.1 hv u hu), h.putRow hk e _ el⟩
theorem Ctx.ownPutOp (h : Ctx w l) (hk : ltP l k = true) {bb oo n q : Nat} (e : nthP l k = Own E T (.slice (some ⟨bb, oo, none⟩) n q) xs) {i : Int} {z z' : α} (hz : idx xs i = some z) (j : Nat) (hj : Nat.blt j m = true) {u : Value} {T2 : TypeId}
    (hx : ρ x = .pointer (some ⟨bb, oo + i.toNat * m + j, none⟩)) (hy : ρ y = u) (hu : u.oneCell' = true) (hs : ∀ w, (sizeOf T2).run P w = .ok 1 w)
    (hE : ∀ (w : World) R cs, E.r w R cs z → E.r w R (cs.set j u) z') {l' : List HP} (el : setP l k (Own E T (.slice (some ⟨bb, oo, none⟩) n q) (xs.set i.toNat z')) = l') :
    ∃ w', (execOp ρ ⟨dst, .store T2 x y, ty, pos, after, g⟩).run P w = .ok .skip w' ∧ Ctx w' l' := by
  obtain ⟨cs, h2, hc⟩ := Ctx.rdCell h hk e reads_own hz
  have hlen := h2.holdLen
  have hj' : j < cs.length := by rw [hlen]; simpa using hj
  have hcell := hc j _ (List.getElem?_eq_getElem hj')
  have hfz : w.frozen? ⟨bb, oo + i.toNat * m + j, none⟩ = false := by
    obtain ⟨R, S, hp, _⟩ := h.at hk e
    obtain ⟨_, _, _, _, _, css, cur, _, hgg, _⟩ := Own.block hp
    simp [World.frozen?, hgg]
  exact ⟨_, st hx hy hu hs hcell hfz, Ctx.ownPut h hk e hz j hj u hE el⟩
theorem Ctx.boxOp {cs : List Value} (h : Ctx w l) (hx : ρ x = v) (hv : v.cells = cs.toArray) : ∃ v' w', (execOp ρ ⟨dst, .box T x, ty, pos, after, g⟩).run P w = .ok (.value v') w' ∧ ∃ b, v' = .pointer (some ⟨b, 0, none⟩) ∧ Ctx w' (B b cs T :: l) :=
  ⟨_, _, bo hx, _, rfl, by rw [hv]; exact h.box cs T⟩
theorem Ctx.allocOp {cs : List Value} {z : Value} (h : Ctx w l) (hz : ∀ w, (zeroValue T).run P w = .ok z w) (hv : z.cells = cs.toArray) : ∃ v' w', (execOp ρ ⟨dst, .alloc T, ty, pos, after, g⟩).run P w = .ok (.value v') w' ∧ ∃ b, v' = .pointer (some ⟨b, 0, none⟩) ∧ Ctx w' (B b cs T :: l) :=
  ⟨_, _, al hz, _, rfl, by rw [hv]; exact h.box cs T⟩
theorem Ctx.builtOp {n : Nat} {zv : Value} {ps : Array (Nat × Operand)} {css : List (List Value)} (h : Ctx w (holds E css xs l)) (hu : P.underlying t = some (.slice T)) (hs : ∀ w, (sizeOf T).run P w = .ok m w) (hz : ∀ w, (zeroValue T).run P w = .ok zv w)
    (hps : ps.toList.map (·.1) = List.range n) (hcs : (ps.toList.map fun p => (ρ p.2).cells.toList) = css) (hm : css.all (fun c => Nat.beq c.length m) = true) (hzs : Nat.beq zv.cells.size m = true) (hn : Nat.ble (n * m) 16777216 = true)
    (hl : Nat.beq css.length xs.length = true) (hn1 : xs.length = n) (hn2 : Nat.ble n 16777216 = true) :
    ∃ v' w', (execOp ρ ⟨dst, .buildSlice t n ps, ty, pos, after, g⟩).run P w = .ok (.value v') w' ∧ ∃ a, v' = .slice a n n ∧ Ctx w' (Own E T (.slice a n n) xs :: l) :=
  ⟨_, _, bsl css hu hs hz hps hcs hm hzs hn, _, rfl, Ctx.built h hl hn1 hn2⟩
theorem Ctx.subOp {lo hi : Option Operand} {li hi' : Option Int} {a : Option Addr} {n q : Nat} {Q : HP} (h : Ctx w l) (hk : ltP l k = true) (e : nthP l k = Q) (hQ : Reads Q E (.slice a n q) xs) (hx : ρ x = .slice a n q) (hl : optI ρ lo li) (hh : optI ρ hi hi') (ht : P.underlying t = some (.slice T)) (hs : ∀ w, (sizeOf T).run P w = .ok m w)
    (h1 : 0 ≤ (lohi n li hi').1 ∧ (lohi n li hi').1 ≤ (lohi n li hi').2 ∧ (lohi n li hi').2 ≤ n) :
    ∃ v' w', (execOp ρ ⟨dst, .slice t x lo hi none, ty, pos, after, g⟩).run P w = .ok (.value v') w' ∧ w' = w ∧ ∃ a' q', v' = .slice a' ((lohi n li hi').2.toNat - (lohi n li hi').1.toNat) q' ∧ Reads Q E v' ((xs.take (lohi n li hi').2.toNat).drop (lohi n li hi').1.toNat) ∧
      a' = (if q = (lohi n li hi').1.toNat then a else a.map (·.add ((lohi n li hi').1.toNat * m))) ∧ q' = q - (lohi n li hi').1.toNat := by
  obtain ⟨hn, hq⟩ := Ctx.rdLen h hk e hQ
  refine ⟨_, w, run_sub hx hl hh ht hs h1 hq, rfl, _, _, rfl, ?_, rfl, rfl⟩
  exact reads_sub hQ (by omega) (by omega)
theorem Ctx.subOp0 {hi : Operand} {hv : Int} {a : Option Addr} {n q : Nat} {Q : HP} (h : Ctx w l) (hk : ltP l k = true) (e : nthP l k = Q) (hQ : Reads Q E (.slice a n q) xs) (hx : ρ x = .slice a n q) (hh : ∃ kk, ρ hi = .int kk hv) (ht : P.underlying t = some (.slice T)) (hs : ∀ w, (sizeOf T).run P w = .ok m w)
    (h1 : 0 ≤ hv ∧ hv ≤ n) :
    ∃ v' w', (execOp ρ ⟨dst, .slice t x none (some hi) none, ty, pos, after, g⟩).run P w = .ok (.value v') w' ∧ w' = w ∧ v' = .slice a hv.toNat q ∧ Reads Q E (.slice a hv.toNat q) (xs.take hv.toNat) := by
  obtain ⟨hn, hq⟩ := Ctx.rdLen h hk e hQ
  have hr := run_sub (P := P) (w := w) (dst := dst) (ty := ty) (pos := pos) (after := after) (g := g) (lo := none) (hi := some hi) (li := none) (hi' := some hv) hx trivial hh ht hs (by simp only [lohi]; omega) hq
  have hs := reads_sub (lo := 0) (hi := hv.toNat) hQ (by omega) (by omega)
  have ha : (if q = (lohi n none (some hv)).1.toNat then a else a.map (·.add ((lohi n none (some hv)).1.toNat * m))) = a := by
    split
    · rfl
    · cases a <;> simp [lohi, Addr.add]
  rw [ha] at hr
  have ha2 : (if q = 0 then a else a.map (·.add (0 * m))) = a := by
    split
    · rfl
    · cases a <;> simp [Addr.add]
  rw [ha2] at hs
  simp only [lohi, Int.toNat_zero, Nat.sub_zero] at hr
  simp only [List.drop_zero, Nat.sub_zero] at hs
  exact ⟨_, w, hr, rfl, rfl, hs⟩
theorem ixx {i : Int} {kk : IntKind} {bb o o' len cap : Nat} (hx : ρ x = .slice (some ⟨bb, o, none⟩) len cap) (hy : ρ y = .int kk i) (hu : P.underlying t = some (.slice T)) (hs : ∀ w, (sizeOf T).run P w = .ok m w) (h0 : 0 ≤ i) (h1 : i < len) (ho : o + i.toNat * m = o') :
    (execOp ρ ⟨dst, .indexAddr t x y, ty, pos, after, g⟩).run P w = .ok (.value (.pointer (some ⟨bb, o', none⟩))) w := ix hx hy hu hs h0 h1 ho
end
section
variable {P : Program} {n : Nat} {l : Fm} {b : Nat → Value} {w : World}
theorem f3 {fn : Func} {R : Ending → World → Prop} {r s t : Nat} {v u z : Value} (hr : fn.results = #[.tmp r, .tmp s, .tmp t]) (hn : fn.ntmps = n) (hv : ev n l b (.tmp r) = v) (hu : ev n l b (.tmp s) = u) (hz : ev n l b (.tmp t) = z) (h : R (.returned (.tuple #[v, u, z])) w) : postQ P fn R .ret l b w := by
  subst hn
  refine ⟨_, ?_, h⟩
  rw [results_tmp3 hr]
  have h1 := congrFun (act_eval fn.ntmps l b) (.tmp r)
  have h2 := congrFun (act_eval fn.ntmps l b) (.tmp s)
  have h3 := congrFun (act_eval fn.ntmps l b) (.tmp t)
  rw [← hv, ← hu, ← hz, ← h1, ← h2, ← h3]
  rfl
end
end Go.Hp
namespace Go.Hp
open Go Go.RowKit
def optc {α β : Type} (o : Option α) (a : Option β) (f : α → Option β) : Option β := match o with
  | none => a
  | some x => f x
theorem optN {α β : Type} {o : Option α} {a : Option β} {f : α → Option β} {r : β} (h : optc o a f = some r) (e : o = none) : a = some r := by subst e; exact h
theorem optS {α β : Type} {o : Option α} {a : Option β} {f : α → Option β} {r : β} {x : α} (h : optc o a f = some r) (e : o = some x) : f x = some r := by subst e; exact h
end Go.Hp
namespace Go.Hp
open Go Go.RowKit
set_option linter.unusedVariables false
set_option linter.unusedSimpArgs false
theorem Ctx.front {w : World} {Qs As Fr : List HP} (h : Ctx w (Qs ++ (As ++ Fr))) : Ctx w (As ++ (Qs ++ Fr)) := by
  refine h.perm ?_
  rw [← List.append_assoc, ← List.append_assoc]
  exact List.perm_append_comm.append_right _
section
variable {α : Type} {m : Nat} {E : PR α m} {w : World} {l : List HP} {k : Nat} {T : TypeId} {xs : List α}
theorem Rows.take {R : Nat → Prop} : ∀ (j : Nat) (css : List (List Value)) (xs : List α), Rows E w R css xs → Rows E w R (css.take j) (xs.take j) ∧ (css.take j).flatten = css.flatten.take (j * m)
  | 0, css, xs, _ => by simp; exact trivial
  | j + 1, [], [], _ => ⟨trivial, by simp⟩
  | j + 1, [], _ :: _, h => h.elim
  | j + 1, _ :: _, [], h => h.elim
  | j + 1, c :: css, x :: xs, h => by
    have hcl := E.len h.1
    obtain ⟨i1, i2⟩ := Rows.take j css xs h.2
    refine ⟨⟨h.1, i1⟩, ?_⟩
    rw [List.take_succ_cons, List.flatten_cons, List.flatten_cons, i2, List.take_append, hcl, List.take_of_length_le (l := c) (by rw [hcl, Nat.succ_mul]; omega), show (j + 1) * m - m = j * m by rw [Nat.succ_mul]; omega]
/-- The first ones of a row of one's own. -/
theorem Ctx.ownTake {a : Option Addr} {n c : Nat} (h : Ctx w l) (hk : ltP l k = true) (e : nthP l k = Own E T (.slice a n c) xs) (j : Nat) (hj : j ≤ n) {l' : List HP} (el : setP l k (Own E T (.slice a j c) (xs.take j)) = l') : Ctx w l' := by
  refine h.conv hk _ (fun R S hp => ?_) el
  rw [e] at hp
  obtain ⟨css, r1, r2, rfl⟩ := hp
  obtain ⟨t1, hft⟩ := Rows.take j css xs r1
  refine ⟨css.take j, t1, ?_, by cases a <;> rfl⟩
  have hfl := Rows.flen t1
  refine ⟨hfl, ?_⟩
  rcases r2.2 with ⟨hv, hn⟩ | ⟨g, cap, cur, hv, hb, hgg, hcap, hm, hs, ht⟩
  · injection hv with e1 e2 e3
    subst e1 e2 e3
    have : j = 0 := by omega
    subst this
    exact .inl ⟨rfl, by simp⟩
  · injection hv with e1 e2 e3
    subst e1 e2 e3
    have hl : (xs.take j).length = j := by rw [List.length_take]; omega
    rw [hl]
    refine .inr ⟨g, c, cur, rfl, hb, hgg, by omega, hm, hs, ?_⟩
    rw [hft, ← ht, List.take_take, Nat.min_eq_left (Nat.mul_le_mul_right _ (by omega))]
/-- 'clear' of what stands behind the first ones. -/
theorem Ctx.clearFrom {P : Program} {ρ : Operand → Value} {dst : Option Nat} {ty t : TypeId} {pos : String} {after : Array Edge} {g : Option (Nat × Bool)} {x : Operand} {x0 : α} {zv : Value} (h : Ctx w l) (hk : ltP l k = true) {a : Option Addr} {n c : Nat} (e : nthP l k = Own E T (.slice a n c) xs) (ht : P.underlying t = some (.slice T)) (hz : ∀ w, (zeroValue T).run P w = .ok zv w) (hzs : zv.cells.size = m) (hm : Nat.blt 0 m = true)
    (hE : ∀ (w : World) R, E.r w R zv.cells.toList x0) (i : Nat) (hi : i ≤ n) (hx : ρ x = .slice (if c = i then a else a.map (·.add (i * m))) (n - i) (c - i)) :
    ∃ v w', (execOp ρ ⟨dst, .call ⟨.builtin .clear, #[x], #[t]⟩, ty, pos, after, g⟩).run P w = .ok (.value v) w' ∧ Ctx w' (setP l k (Own E T (.slice a n c) (xs.take i ++ List.replicate (n - i) x0))) := by
  have hn : n = xs.length := (Ctx.rdLen h hk e reads_own).1
  by_cases h0 : n - i = 0
  · have hin : i = n := by omega
    refine ⟨.tuple #[], w, ?_, ?_⟩
    · rw [h0] at hx
      have : (Builtin.clear_ #[t] ty #[.slice (if c = i then a else a.map (·.add (i * m))) 0 (c - i)]).run P w = .ok (.tuple #[]) w := by
        generalize (if c = i then a else a.map (·.add (i * m))) = s
        cases s <;> simp [Builtin.clear_, run_underlying ht]
      simp [execOp, resolve, invoke, builtin, hx, this]
    · rw [h0, hin, hn, List.take_length]
      simp only [List.replicate_zero, List.append_nil]
      exact h.conv hk _ (fun R S hp => by rw [e] at hp; rw [hn] at hp; exact hp) rfl
  · -- a row of a block
    obtain ⟨R, Ss, hc⟩ := h
    obtain ⟨S, hS⟩ := CtxAt.nth hc.all hk
    rw [e] at hS
    have hrow : ∀ (w : World) R n, Rows E w R (List.replicate n zv.cells.toList) (List.replicate n x0) := by
      intro w R n
      induction n with
      | zero => exact trivial
      | succ n ih => exact ⟨hE w R, ih⟩
    have hform : ∃ bb, a = some ⟨bb, 0, none⟩ := by
      obtain ⟨css, r1, r2, _⟩ := hS
      rcases r2.2 with ⟨hv, hn'⟩ | ⟨g, cap, cur, hv, _⟩
      · omega
      · injection hv with e1 _ _
        exact ⟨g, e1⟩
    obtain ⟨bb, rfl⟩ := hform
    obtain ⟨_, _, hnc, hcm, rfl, css, cur, r1, hgg, hsz, htk⟩ := Own.block hS
    have hci : ¬ c = i := by omega
    rw [if_neg hci] at hx
    simp only [Option.map_some, Addr.add_lit, Nat.zero_add] at hx
    obtain ⟨q, hq⟩ : ∃ q, n - i = q + 1 := ⟨n - i - 1, by omega⟩
    have hzl : (Builtin.zeroCells zv.cells (n - i)).toList = (List.replicate (n - i) zv.cells.toList).flatten := by
      rw [zeroCells_flat _ m hzs (by simpa using hm), flat_rep]
    have hzlen : (Builtin.zeroCells zv.cells (n - i)).toList.length = (n - i) * m := by simp [Builtin.zeroCells, hzs]
    have hone : ∀ u ∈ (Builtin.zeroCells zv.cells (n - i)).toList, u.oneCell' = true := by
      rw [hzl]; exact Rows.one (hrow w R (n - i))
    have hle : i * m + (n - i) * m ≤ cur.size := by rw [hsz, ← Nat.add_mul]; exact Nat.mul_le_mul_right _ (by omega)
    have hst := run_storeCells_at P bb (i * m) T (Builtin.zeroCells zv.cells (n - i)).toList 0 cur w hgg (by rw [hzlen]; omega) hone
    simp only [Nat.add_zero] at hst
    refine ⟨.tuple #[], w.setRow bb (cur.toList.take (i * m) ++ (Builtin.zeroCells zv.cells (n - i)).toList ++ cur.toList.drop (i * m + (Builtin.zeroCells zv.cells (n - i)).toList.length)).toArray, ?_, ?_⟩
    · have h1 : (Builtin.clear_ #[t] ty #[.slice (some ⟨bb, i * m, none⟩) (n - i) (c - i)]).run P w = .ok (.tuple #[]) (w.setRow bb (cur.toList.take (i * m) ++ (Builtin.zeroCells zv.cells (n - i)).toList ++ cur.toList.drop (i * m + (Builtin.zeroCells zv.cells (n - i)).toList.length)).toArray) := by
        rw [hq] at hst ⊢
        simp only [Builtin.clear_]
        simp [run_underlying ht, hz]
        simp at hst
        simp [hst]
      simp [execOp, resolve, invoke, builtin, hx, h1]
    · refine Ctx.updK ⟨R, Ss, hc⟩ hk _ (fun R' Ss' S' hc' hS' hSo hSn => ?_) rfl
      rw [e] at hS'
      obtain ⟨_, _, _, _, rfl, css', cur', r1', hgg', hsz', htk'⟩ := Own.block hS'
      rw [hgg] at hgg'
      injection hgg' with e5
      injection e5 with e5
      subst e5
      have hkp : ∀ A : Nat → Prop, (∀ b, A b → b ≠ bb) → Kp A w (w.setRow bb (cur.toList.take (i * m) ++ (Builtin.zeroCells zv.cells (n - i)).toList ++ cur.toList.drop (i * m + (Builtin.zeroCells zv.cells (n - i)).toList.length)).toArray) := fun A hA => setRow_kp hA
      have hRk := hkp R' (fun b hb e => (hSo bb (by simp)).2 (e ▸ hb))
      obtain ⟨t1, t2⟩ := Rows.take i css' xs r1'
      refine ⟨[bb], Own.mk' (css := css'.take i ++ List.replicate (n - i) zv.cells.toList) (by simp; omega) hnc hcm (Rows.app (t1.st hRk fun _ h => h) (hrow _ _ _)) (setRow_heap w bb _ _ T _ hgg) ?_ ?_, hSn, fun b hb => ⟨.inl hb, by have := (hSo b hb).1; simpa [World.setRow] using this⟩, hkp _ fun b hb e => hb.2 (by simp [e])⟩
      · have hcl : cur.toList.length = c * m := by simpa using hsz
        have h2 : i * m ≤ c * m := Nat.mul_le_mul_right _ (by omega)
        simp only [List.size_toArray, List.length_append, List.length_take, List.length_drop, hzlen]
        rw [hcl] 
        have h3 : cur.size = c * m := hsz
        omega
      · have hcl : cur.toList.length = c * m := by simpa using hsz
        have h2 : i * m ≤ c * m := Nat.mul_le_mul_right _ (by omega)
        have h4 : i * m + (n - i) * m = n * m := by rw [← Nat.add_mul]; congr 1; omega
        rw [List.flatten_append, t2, ← htk', List.take_take, Nat.min_eq_left (Nat.mul_le_mul_right _ hi), ← hzl]
        show List.take (n * m) (_ ++ _ ++ _) = _
        rw [List.take_append, List.length_append, List.length_take, hzlen, Nat.min_eq_left (by rw [hcl]; exact h2), h4, Nat.sub_self, List.take_zero, List.append_nil, List.take_of_length_le (by rw [List.length_append, List.length_take, hzlen, Nat.min_eq_left (by rw [hcl]; exact h2), h4]; exact Nat.le_refl _)]
end
section
variable {P : Program} {ρ : Operand → Value} {w : World} {dst : Option Nat} {ty : TypeId} {pos : String} {after : Array Edge} {g : Option (Nat × Bool)} {x y : Operand} {T U : TypeId}
theorem equal_slice_nil {e : TypeId} {a : Option Addr} {n q : Nat} (hT : P.underlying T = some (.slice e)) : (Op.equal T (.slice a n q) (.slice none 0 0)).run P w = .ok a.isNone w := by
  have key : ∀ d, (Op.equalIn (d + 1) T (.slice a n q) (.slice none 0 0)).run P w = .ok a.isNone w := by
    intro d
    cases a <;> simp [Op.equalIn, run_underlying hT]
  exact key 9999
theorem esn {e : TypeId} {a : Option Addr} {n q : Nat} (hT : P.underlying T = some (.slice e)) (hx : ρ x = .slice a n q) (hy : ρ y = .slice none 0 0) : (execOp ρ ⟨dst, .binOp .eql T x y U, ty, pos, after, g⟩).run P w = .ok (.value (.bool a.isNone)) w :=
  bin_gen hx hy (by unfold eqGuard; rfl) (by have := equal_slice_nil (w := w) (a := a) (n := n) (q := q) hT; simp only [binOp]; simp [this])
theorem Ctx.nilRows {α : Type} {m : Nat} {E : PR α m} {l : List HP} {k n q : Nat} {xs : List α} (h : Ctx w l) (hk : ltP l k = true) {Q : HP} (e : nthP l k = Q) (hQ : Reads Q E (.slice none n q) xs) : xs = [] := by
  obtain ⟨R, S, hp, _⟩ := h.at hk e
  obtain ⟨a', c', hv, _, hr⟩ := hQ.w w R S hp
  cases xs with
  | nil => rfl
  | cons y ys =>
    obtain ⟨bb, oo, cs, ha, _⟩ := hr 0 y rfl
    injection hv with e1
    rw [ha] at e1
    cases e1
end
end Go.Hp
