/- New rows, rows cleared, parts of rows: small laws over any program. -/
import Derived.Test.YtdipfegofpfhaaaSl3
namespace Go.Hp
open Go Go.RowKit
set_option linter.unusedVariables false
set_option linter.unusedSimpArgs false
theorem setP_at : ∀ {l : List HP} {k : Nat} {Q : HP}, ltP l k = true → ltP (setP l k Q) k = true ∧ nthP (setP l k Q) k = Q
  | [], _, _, h => by cases h
  | _ :: _, 0, _, _ => ⟨rfl, rfl⟩
  | _ :: l, k + 1, Q, h => setP_at (l := l) h
theorem flat_rep (z : List Value) (n : Nat) : flat (fun _ : Unit => z) (List.replicate n ()) = (List.replicate n z).flatten := by
  unfold flat
  induction n with
  | zero => rfl
  | succ n ih => rw [List.replicate_succ, List.replicate_succ, List.flatMap_cons, List.flatten_cons, ih]
def holds {α : Type} {m : Nat} (E : PR α m) : List (List Value) → List α → List HP → List HP
  | c :: cs, x :: xs, l => Hold E c x :: holds E cs xs l
  | _, _, l => l
section
variable {P : Program} {ρ : Operand → Value} {w : World} {dst : Option Nat} {ty : TypeId} {pos : String} {after : Array Edge} {g : Option (Nat × Bool)} {x y z : Operand}
variable {α : Type} {m : Nat} {E : PR α m} {l : List HP} {k k2 : Nat} {T t : TypeId} {v u : Value} {xs ys : List α}
theorem Ctx.unholds : ∀ {css : List (List Value)} {xs : List α} {l : List HP}, css.length = xs.length → Ctx w (holds E css xs l) → ∃ R Ss, CtxAt w R l Ss ∧ Rows E w R css xs
  | [], [], l, _, ⟨R, Ss, h⟩ => ⟨R, Ss, h, trivial⟩
  | c :: cs, x :: xs, l, hl, ⟨R, Ss, h⟩ => by
    match Ss, h with
    | S :: Ss, h =>
      have hE := h.all.1
      have h2 : Ctx w (holds E cs xs l) := Ctx.drop ⟨R, S :: Ss, h⟩
      -- at the same R
      have key : ∀ {css : List (List Value)} {xs : List α} {l : List HP} {R : Nat → Prop} {Ss : List (List Nat)}, css.length = xs.length → CtxAt w R (holds E css xs l) Ss → ∃ Ss', CtxAt w R l Ss' ∧ Rows E w R css xs := by
        intro css
        induction css with
        | nil => intro xs l R Ss hl h; cases xs with
          | nil => exact ⟨Ss, h, trivial⟩
          | cons x xs => simp at hl
        | cons c cs ih =>
          intro xs l R Ss hl h
          cases xs with
          | nil => simp at hl
          | cons x xs =>
            match Ss, h with
            | S :: Ss, h =>
              have h3 : CtxAt w R (holds E cs xs l) Ss := ⟨h.all.2, (List.nodup_append.1 (by simpa using h.nodup)).2.1, fun b hb => h.own b (by simp only [List.flatten_cons, List.mem_append]; exact .inr hb), h.fz⟩
              obtain ⟨Ss', h4, h5⟩ := ih (by simpa using hl) h3
              exact ⟨Ss', h4, h.all.1.2, h5⟩
      obtain ⟨Ss', h4, h5⟩ := key (css := c :: cs) (xs := x :: xs) hl h
      exact ⟨R, Ss', h4, h5⟩
  | [], _ :: _, l, hl, _ => by simp at hl
  | _ :: _, [], l, hl, _ => by simp at hl
theorem Ctx.newRow {R : Nat → Prop} {Ss : List (List Nat)} (hc : CtxAt w R l Ss) {css : List (List Value)} (hr : Rows E w R css xs) (hn : xs.length ≤ maxLen) :
    Ctx (w.alloc (.cells css.flatten.toArray T)) (Own E T (.slice (some ⟨w.heap.size, 0, none⟩) xs.length xs.length) xs :: l) := by
  refine CtxAt.upd (Ps := []) (Qs := [_]) (Fr := l) (R := R) (Ss0 := Ss) hc fun Ts hT => ?_
  match Ts, hT with
  | [], hT =>
    have hkp : Kp (fun b => b < w.heap.size) w (w.alloc (.cells css.flatten.toArray T)) := ⟨rfl, rfl, rfl, by simp, fun b hb => Below.heap_alloc _ _ _ hb⟩
    refine ⟨R, [[w.heap.size]], ⟨⟨css, hr.st (hkp.mono hT.fz) (fun _ h => h), ⟨Rows.flen hr, .inr ⟨w.heap.size, xs.length, css.flatten.toArray, rfl, Nat.zero_le _, heap_alloc_new w _, Nat.le_refl _, hn, by simpa using Rows.flen hr, ?_⟩⟩, rfl⟩, trivial⟩, by simp, fun b hb => ?_, fun b hb => hb, fun b hb => ⟨.inl hb, by have := hT.fz b hb; simp; omega⟩, hkp.mono fun b hb => hb.1⟩
    · show List.take _ css.flatten = _
      rw [List.take_of_length_le (by rw [Rows.flen hr]; exact Nat.le_refl _)]
    · simp at hb; subst hb
      exact ⟨.inr (Nat.le_refl _), by simp, fun hr => by have := hT.fz _ hr; omega⟩
  | _ :: _, hT => exact hT.all.elim
/-- '[]T{v, ..}'. -/
theorem Ctx.built {css : List (List Value)} {xs : List α} {n : Nat} (h : Ctx w (holds E css xs l)) (hl : Nat.beq css.length xs.length = true) (hn : xs.length = n) (hn2 : Nat.ble n 16777216 = true) :
    Ctx (w.alloc (.cells css.flatten.toArray T)) (Own E T (.slice (some ⟨w.heap.size, 0, none⟩) n n) xs :: l) := by
  subst hn
  obtain ⟨R, Ss, hc, hr⟩ := h.unholds (by simpa using hl)
  exact Ctx.newRow hc hr (by have : xs.length ≤ 16777216 := Nat.le_of_ble_eq_true hn2; unfold maxLen; omega)
/-- 'make([]T, n)'. -/
theorem Ctx.make {i : TypeInfo} {zv : Value} {n : Nat} {x0 : α} (h : Ctx w l) (hx : ρ x = .int .i64 (n : Int)) (hy : ρ y = .int .i64 (n : Int)) (hu : P.underlying t = some (.slice T)) (hi : P.info? T = some i) (hz : i.zero = some zv) (hsize : i.size = m) (hzs : zv.cells.size = m) (hm : Nat.blt 0 m = true)
    (hby : Nat.ble i.bytes 32768 = true) (hE : ∀ (w : World) R, E.r w R zv.cells.toList x0) (hg : n ≤ 4294967296) :
    ∃ v' w', (execOp ρ ⟨dst, .makeSlice t x y, ty, pos, after, g⟩).run P w = .ok (.value v') w' ∧ ∃ a, v' = .slice a n n ∧ Ctx w' (Own E T v' (List.replicate n x0) :: l) := by
  have hb : i.bytes * n ≤ 281474976710656 := by
    have h3 : i.bytes ≤ 32768 := Nat.le_of_ble_eq_true hby
    calc i.bytes * n ≤ 32768 * 4294967296 := Nat.mul_le_mul h3 hg
      _ ≤ _ := by decide
  refine ⟨_, _, mk (dst := dst) (ty := ty) (pos := pos) (after := after) (g := g) hx hy hu hi hz hb (by omega), _, rfl, ?_⟩
  have e : (madeCells zv.cells (n * i.size)).toList = (List.replicate n zv.cells.toList).flatten := by
    rw [hsize, madeCells_flat _ m hzs (by simpa using hm), flat_rep]
  obtain ⟨R, Ss, hc⟩ := h
  have hrow : ∀ n, Rows E w R (List.replicate n zv.cells.toList) (List.replicate n x0) := by
    intro n
    induction n with
    | zero => exact trivial
    | succ n ih => exact ⟨hE w R, ih⟩
  have := Ctx.newRow (T := T) hc (hrow n) (by simp; unfold maxLen; omega)
  rw [List.length_replicate] at this
  rw [show madeCells zv.cells (n * i.size) = ((List.replicate n zv.cells.toList).flatten).toArray by rw [← e]]
  exact this

theorem Own.block {R : Nat → Prop} {S : List Nat} {bb oo n c : Nat} (h : (Own E T (.slice (some ⟨bb, oo, none⟩) n c) xs).p w R S) :
    oo = 0 ∧ n = xs.length ∧ n ≤ c ∧ c ≤ maxLen ∧ S = [bb] ∧ ∃ css cur, Rows E w R css xs ∧ w.heap[bb]? = some (.cells cur T (0, 0)) ∧ cur.size = c * m ∧ cur.toList.take (n * m) = css.flatten := by
  obtain ⟨css, r1, r2, rfl⟩ := h
  rcases r2.2 with ⟨hv, hn⟩ | ⟨g, cap, cur, hv, hb, hgg, hcap, hm, hs, ht⟩
  · cases hv
  · injection hv with e1 e2 e3
    injection e1 with e1
    injection e1 with e1 e4
    subst e1 e3 e4
    exact ⟨rfl, e2, by omega, hm, rfl, css, cur, r1, hgg, hs, by rw [e2]; exact ht⟩
theorem Own.mk' {R : Nat → Prop} {bb n c : Nat} {css : List (List Value)} {cur : Array Value} (hn : n = xs.length) (hc : n ≤ c) (hm : c ≤ maxLen) (h1 : Rows E w R css xs) (h2 : w.heap[bb]? = some (.cells cur T (0, 0))) (h3 : cur.size = c * m) (h4 : cur.toList.take (n * m) = css.flatten) :
    (Own E T (.slice (some ⟨bb, 0, none⟩) n c) xs).p w R [bb] := by
  subst hn
  exact ⟨css, h1, ⟨Rows.flen h1, .inr ⟨bb, c, cur, rfl, Nat.zero_le _, h2, hc, hm, h3, h4⟩⟩, rfl⟩
theorem setRow_kp {bb : Nat} {cs : Array Value} {A : Nat → Prop} (hA : ∀ b, A b → b ≠ bb) : Kp A w (w.setRow bb cs) :=
  ⟨rfl, rfl, rfl, by simp [World.setRow], fun b hb => by
    simp only [World.setRow, Array.getElem?_modify]
    rw [if_neg (fun e => hA b hb e.symm)]⟩
/-- A whole element of one's own. -/
theorem Ctx.ownStore {x' : α} {vs : List Value} (h : Ctx w (Hold E vs x' :: l)) (hk : ltP l k = true) {bb oo n c : Nat} (e : nthP l k = Own E T (.slice (some ⟨bb, oo, none⟩) n c) xs) {i : Int} {x0 : α} (hx0 : idx xs i = some x0) {T2 : TypeId}
    (hx : ρ x = .pointer (some ⟨bb, oo + i.toNat * m, none⟩)) (hy : ρ y = .agg vs.toArray) (hs : ∀ w, (sizeOf T2).run P w = .ok m w) :
    ∃ w', (execOp ρ ⟨dst, .store T2 x y, ty, pos, after, g⟩).run P w = .ok .skip w' ∧ Ctx w' (setP l k (Own E T (.slice (some ⟨bb, oo, none⟩) n c) (xs.set i.toNat x'))) := by
  obtain ⟨h0, hlt, hget⟩ := idx_some hx0
  have hl := h.drop
  obtain ⟨R, Ss, hc⟩ := h
  match Ss, hc with
  | S0 :: Ss, hc =>
    obtain ⟨⟨_, hE⟩, hall⟩ := hc.all
    obtain ⟨S, hS⟩ := CtxAt.nth hall hk
    rw [e] at hS
    obtain ⟨rfl, hn, hnc, hcm, rfl, css, cur, r1, hgg, hsz, htk⟩ := Own.block hS
    have hvl := E.len hE
    have hfit : 0 + i.toNat * m + vs.length ≤ cur.toList.length := by
      rw [hvl, Nat.zero_add, ← Nat.succ_mul, Array.length_toList, hsz]
      exact Nat.mul_le_mul_right _ (by omega)
    have hB : Blk w bb cur.toList T := by unfold Blk; simpa using hgg
    refine ⟨_, stg (dst := dst) (ty := ty) (pos := pos) (after := after) (g := g) hx hy (by rw [hvl]; exact hs) hB hfit (E.one hE), ?_⟩
    have hcc : Ctx w (Hold E vs x' :: l) := ⟨R, S0 :: Ss, hc⟩
    refine Ctx.drop (P := Hold E vs x') ?_
    have : Hold E vs x' :: setP l k (Own E T (.slice (some ⟨bb, 0, none⟩) n c) (xs.set i.toNat x')) = setP (Hold E vs x' :: l) (k + 1) (Own E T (.slice (some ⟨bb, 0, none⟩) n c) (xs.set i.toNat x')) := rfl
    rw [this]
    refine Ctx.updK hcc (k := k + 1) hk _ (fun R' Ss' S' hc' hS' hSo hSn => ?_) rfl
    have hS'' : (nthP l k).p w R' S' := hS'
    rw [e] at hS''
    obtain ⟨_, _, _, _, rfl, css', cur', r1', hgg', hsz', htk'⟩ := Own.block hS''
    rw [hgg] at hgg'
    injection hgg' with e5
    injection e5 with e5
    subst e5
    match Ss', hc' with
    | S0' :: Ss', hc' =>
      have hE' := hc'.all.1.2
      have hkp : ∀ A : Nat → Prop, (∀ b, A b → b ≠ bb) → Kp A w (w.setRow bb (laid cur.toList vs (0 + i.toNat * m)).toArray) := fun A hA => setRow_kp hA
      have hRk := hkp R' (fun b hb e => (hSo bb (by simp)).2 (e ▸ hb))
      refine ⟨[bb], Own.mk' (css := css'.set i.toNat vs) (cur := (laid cur.toList vs (0 + i.toNat * m)).toArray) (by rw [List.length_set]; exact hn) hnc hcm ((r1'.st hRk fun _ h => h).set hget (E.st hE' hRk fun _ h => h)) (setRow_heap w bb _ _ T _ hgg) ?_ ?_, hSn, fun b hb => ⟨.inl hb, ?_⟩, hkp _ fun b hb e => hb.2 (by simp [e])⟩
      · simp only [laid, List.size_toArray, List.length_append, List.length_take, List.length_drop]
        have : cur.toList.length = c * m := by simpa using hsz
        omega
      · -- what is looked at
        obtain ⟨d, hd, _, _⟩ := r1'.get hget
        have hdl : ∀ (css : List (List Value)) (xs : List α), Rows E w R' css xs → ∀ (i : Nat) (d : List Value), css[i]? = some d → (css.set i vs).flatten = laid css.flatten vs (i * m) := by
          intro css
          induction css with
          | nil => intro xs _ i d hd; simp at hd
          | cons c0 css ih =>
            intro xs hr i d hd
            cases xs with
            | nil => exact hr.elim
            | cons y ys =>
              have hc0 := E.len hr.1
              cases i with
              | zero =>
                simp only [List.set_cons_zero, List.flatten_cons, laid, Nat.zero_mul, List.take_zero, List.nil_append, Nat.zero_add, hvl]
                rw [List.drop_append, ← hc0]; simp
              | succ i =>
                simp only [List.set_cons_succ, List.flatten_cons]
                rw [ih ys hr.2 i d (by simpa using hd)]
                unfold laid
                rw [show (i + 1) * m = c0.length + i * m by rw [hc0, Nat.succ_mul]; omega, List.take_append, List.take_of_length_le (by omega : c0.length ≤ c0.length + i * m), show c0.length + i * m - c0.length = i * m by omega,
                  List.drop_append, List.drop_of_length_le (by omega : c0.length ≤ c0.length + i * m + vs.length), show c0.length + i * m + vs.length - c0.length = i * m + vs.length by omega]
                simp
        rw [hdl css' xs r1' i.toNat d hd, Nat.zero_add, ← htk', hn]
        have hxs : (i.toNat + 1) * m ≤ xs.length * m := Nat.mul_le_mul_right _ (by omega)
        rw [Nat.succ_mul] at hxs
        show List.take _ (laid cur.toList vs (i.toNat * m)) = laid (List.take (xs.length * m) cur.toList) vs (i.toNat * m)
        unfold laid
        have hcl : xs.length * m ≤ cur.toList.length := by
          have h9 : cur.toList.length = c * m := by simpa using hsz
          rw [h9]; exact Nat.mul_le_mul_right _ (by omega)
        rw [List.take_take, Nat.min_eq_left (by omega)]
        rw [List.take_append, List.take_append, List.length_append, List.length_take, Nat.min_eq_left (by omega), List.take_of_length_le (l := List.take (i.toNat * m) cur.toList) (by rw [List.length_take]; omega), List.take_of_length_le (l := vs) (by omega)]
        congr 1
        rw [List.drop_take]
      · have := (hSo b hb).1; simpa [World.setRow] using this

/-- 'clear(xs)'. -/
theorem Ctx.clear {x0 : α} {zv : Value} (h : Ctx w l) (hk : ltP l k = true) {a : Option Addr} {n c : Nat} (e : nthP l k = Own E T (.slice a n c) xs) (ht : P.underlying t = some (.slice T)) (hz : ∀ w, (zeroValue T).run P w = .ok zv w) (hzs : zv.cells.size = m) (hm : Nat.blt 0 m = true)
    (hE : ∀ (w : World) R, E.r w R zv.cells.toList x0) (hx : ρ x = .slice a n c) :
    ∃ v w', (execOp ρ ⟨dst, .call ⟨.builtin .clear, #[x], #[t]⟩, ty, pos, after, g⟩).run P w = .ok (.value v) w' ∧ Ctx w' (setP l k (Own E T (.slice a n c) (List.replicate n x0))) := by
  obtain ⟨R, Ss, hc⟩ := h
  obtain ⟨S, hS⟩ := CtxAt.nth hc.all hk
  rw [e] at hS
  have hrow : ∀ (w : World) R n, Rows E w R (List.replicate n zv.cells.toList) (List.replicate n x0) := by
    intro w R n
    induction n with
    | zero => exact trivial
    | succ n ih => exact ⟨hE w R, ih⟩
  cases a with
  | none =>
    obtain ⟨css, r1, r2, _⟩ := hS
    rcases r2.2 with ⟨hv, hn⟩ | ⟨g, cap, cur, hv, _⟩
    · injection hv with _ e2 e3
      subst e2 e3
      have : xs = [] := List.eq_nil_of_length_eq_zero hn
      subst this
      refine ⟨.tuple #[], w, by simp [execOp, resolve, invoke, builtin, hx, Builtin.clear_, run_underlying ht], ?_⟩
      exact Ctx.conv ⟨R, Ss, hc⟩ hk _ (fun R S hp => by rw [e] at hp; exact hp) rfl
    · cases hv
  | some a =>
    obtain ⟨bb, oo, sp⟩ := a
    have hsp : sp = none ∧ oo = 0 := by
      obtain ⟨css, r1, r2, _⟩ := hS
      rcases r2.2 with ⟨hv, hn⟩ | ⟨g, cap, cur, hv, _⟩
      · cases hv
      · injection hv with e1 _ _
        injection e1 with e1
        injection e1 with e1 e2 e3
        exact ⟨e3, e2⟩
    obtain ⟨rfl, rfl⟩ := hsp
    obtain ⟨_, hn, hnc, hcm, rfl, css, cur, r1, hgg, hsz, htk⟩ := Own.block hS
    have hzl : (Builtin.zeroCells zv.cells n).toList = (List.replicate n zv.cells.toList).flatten := by
      rw [zeroCells_flat _ m hzs (by simpa using hm), flat_rep]
    have hzlen : (Builtin.zeroCells zv.cells n).toList.length = n * m := by simp [Builtin.zeroCells, hzs]
    have hone : ∀ u ∈ (Builtin.zeroCells zv.cells n).toList, u.oneCell' = true := by
      rw [hzl]; exact Rows.one (hrow w R n)
    have hle : n * m ≤ cur.size := by rw [hsz]; exact Nat.mul_le_mul_right _ hnc
    have hst := run_storeCells_at P bb 0 T (Builtin.zeroCells zv.cells n).toList 0 cur w hgg (by rw [hzlen]; omega) hone
    simp only [Nat.add_zero, Nat.zero_add] at hst
    have hrun : ∃ v w', (Builtin.clear_ #[t] ty #[.slice (some ⟨bb, 0, none⟩) n c]).run P w = .ok v w' ∧ w' = (if n = 0 then w else w.setRow bb (cur.toList.take 0 ++ (Builtin.zeroCells zv.cells n).toList ++ cur.toList.drop (Builtin.zeroCells zv.cells n).toList.length).toArray) := by
      cases n with
      | zero => exact ⟨.tuple #[], w, by simp [Builtin.clear_, run_underlying ht], by simp⟩
      | succ n => exact ⟨.tuple #[], _, by simp only [Builtin.clear_]; simp [run_underlying ht, hz, hst]; rfl, by simp⟩
    obtain ⟨v, w', h1, hw'⟩ := hrun
    refine ⟨v, w', by simp [execOp, resolve, invoke, builtin, hx, h1], ?_⟩
    subst hw'
    split
    · rename_i h0
      subst h0
      have : xs = [] := List.eq_nil_of_length_eq_zero hn.symm
      subst this
      exact Ctx.conv ⟨R, Ss, hc⟩ hk _ (fun R S hp => by rw [e] at hp; exact hp) rfl
    · refine Ctx.updK ⟨R, Ss, hc⟩ hk _ (fun R' Ss' S' hc' hS' hSo hSn => ?_) rfl
      rw [e] at hS'
      obtain ⟨_, _, _, _, rfl, css', cur', r1', hgg', hsz', htk'⟩ := Own.block hS'
      refine ⟨[bb], Own.mk' (css := List.replicate n zv.cells.toList) (by simp) hnc hcm (hrow _ _ n) (setRow_heap w bb _ _ T _ hgg) ?_ ?_, hSn, fun b hb => ⟨.inl hb, by have := (hSo b hb).1; simpa [World.setRow] using this⟩, setRow_kp fun b hb e => hb.2 (by simp [e])⟩
      · simp only [List.take_zero, List.nil_append, List.size_toArray, List.length_append, List.length_drop, hzlen]
        have : cur.toList.length = c * m := by simpa using hsz
        omega
      · simp only [List.take_zero, List.nil_append]
        rw [List.take_append, hzlen, Nat.sub_self, List.take_zero, List.append_nil, List.take_of_length_le (by omega), hzl]
theorem reads_sub {Q : HP} {a : Option Addr} {n c lo hi : Nat} (hQ : Reads Q E (.slice a n c) xs) (h1 : lo ≤ hi) (h2 : hi ≤ xs.length) :
    Reads Q E (.slice (if c = lo then a else a.map (·.add (lo * m))) (hi - lo) (c - lo)) ((xs.take hi).drop lo) := by
  intro w R S hp
  obtain ⟨a', c', hv, hc, hr⟩ := hQ w R S hp
  injection hv with e1 e2 e3
  subst e1 e3
  refine ⟨_, _, by rw [show hi - lo = ((xs.take hi).drop lo).length by simp; omega], by simp; omega, fun i x hx => ?_⟩
  have hx' : xs[lo + i]? = some x := by
    rw [List.getElem?_drop, List.getElem?_take] at hx
    split at hx
    · exact hx
    · cases hx
  have hlt : lo + i < hi := by
    rw [List.getElem?_drop, List.getElem?_take] at hx
    split at hx
    · assumption
    · cases hx
  obtain ⟨bb, oo, cs, ha, hA, hE, hcs⟩ := hr (lo + i) x hx'
  subst ha
  refine ⟨bb, oo + lo * m, cs, ?_, hA, hE, fun j u hu => ?_⟩
  · rw [if_neg (by omega)]
    simp [Addr.add_lit]
  · have := hcs j u hu
    rwa [Nat.add_mul, ← Nat.add_assoc] at this
end
section
variable {P : Program} {ρ : Operand → Value} {w : World} {dst : Option Nat} {ty : TypeId} {pos : String} {after : Array Edge} {g : Option (Nat × Bool)} {x : Operand} {T t : TypeId} {m : Nat}
/-- 'xs[lo:hi]', by what stands of the bounds. -/
def lohi (len : Nat) : Option Int → Option Int → Int × Int
  | none, none => (0, len)
  | some l, none => (l, len)
  | none, some h => (0, h)
  | some l, some h => (l, h)
def optI (ρ : Operand → Value) : Option Operand → Option Int → Prop
  | none, none => True
  | some o, some i => ∃ k, ρ o = .int k i
  | _, _ => False
theorem run_sub {lo hi : Option Operand} {li hi' : Option Int} {a : Option Addr} {n c : Nat} (hx : ρ x = .slice a n c) (hl : optI ρ lo li) (hh : optI ρ hi hi') (ht : P.underlying t = some (.slice T)) (hs : ∀ w, (sizeOf T).run P w = .ok m w)
    (h1 : 0 ≤ (lohi n li hi').1 ∧ (lohi n li hi').1 ≤ (lohi n li hi').2 ∧ (lohi n li hi').2 ≤ n) (hc : n ≤ c) :
    (execOp ρ ⟨dst, .slice t x lo hi none, ty, pos, after, g⟩).run P w = .ok (.value (.slice (if c = (lohi n li hi').1.toNat then a else a.map (·.add ((lohi n li hi').1.toNat * m))) ((lohi n li hi').2.toNat - (lohi n li hi').1.toNat) (c - (lohi n li hi').1.toNat))) w := by
  have hu : ∀ w, (underlying t).run P w = .ok (.slice T) w := fun w => run_underlying ht w
  have key : ∀ (L H : Option Value) (l h : Int), (Instr.sliceBounds true n c L H none).run P w = .ok (l.toNat, h.toNat, c) w → (Instr.sliceAt t (.slice a n c) L H none).run P w = .ok (.slice (if c = l.toNat then a else a.map (·.add (l.toNat * m))) (h.toNat - l.toNat) (c - l.toNat)) w := by
    intro L H l h hb
    simp [Instr.sliceAt, Instr.slice, hu, hb, hs]
  have hb : ∀ (k : IntKind) (i : Int) (y : Nat) (code : BoundsCode), 0 ≤ i → i ≤ y → (Instr.sliceBound (.int k i) y code).run P w = .ok i.toNat w := fun k i y code h0 h1 => by simp [Instr.sliceBound, asIntOf, h0, h1]
  cases lo <;> cases hi <;> cases li <;> cases hi' <;> simp only [optI] at hl hh <;> simp only [lohi] at h1 ⊢
  · simp only [execOp, Option.map_none, hx]
    have := key none none 0 n (by simp [Instr.sliceBounds])
    simp at this
    simp [this]
  · obtain ⟨k, hk⟩ := hh
    simp only [execOp, Option.map_none, Option.map_some, hx, hk]
    rename_i h
    have := key none (some (.int k h)) 0 h (by simp [Instr.sliceBounds, hb k h c _ (by omega) (by omega)])
    simp at this
    simp [this]
  · obtain ⟨k, hk⟩ := hl
    simp only [execOp, Option.map_none, Option.map_some, hx, hk]
    rename_i h
    have := key (some (.int k h)) none h n (by simp [Instr.sliceBounds, hb k h n _ (by omega) (by omega)])
    simp at this
    simp [this]
    split <;> rename_i hq <;> simp [hq]
  · obtain ⟨k, hk⟩ := hl
    obtain ⟨k', hk'⟩ := hh
    simp only [execOp, Option.map_none, Option.map_some, hx, hk, hk']
    rename_i h h'
    have := key (some (.int k h)) (some (.int k' h')) h h' (by simp [Instr.sliceBounds, hb k' h' c _ (by omega) (by omega), hb k h h'.toNat _ (by omega) (by omega)])
    simp [this]
    split <;> rename_i hq <;> simp [hq]
end
end Go.Hp
