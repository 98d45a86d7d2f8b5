/- Rows of elements, owned and frozen: small laws over any program. -/
import Derived.Test.YtdipfegofpfhaaaSl
namespace Go.Hp
open Go Go.RowKit
set_option linter.unusedVariables false
set_option linter.unusedSimpArgs false

-- what cells hold
def pC {α : Type} {m : Nat} (f : α → List Value) (hl : ∀ x, (f x).length = m) (ho : ∀ x, (f x).all (·.oneCell') = true) : PR α m :=
  ⟨fun _ _ cs x => cs = f x, fun h _ _ => h, fun h => by rw [h]; exact hl _, fun h v hv => by rw [h] at hv; exact List.all_eq_true.1 (ho _) v hv⟩
def pInt (k : IntKind) : PR Int 1 := pC (fun x => [.int k x]) (fun _ => rfl) (fun _ => rfl)
def pBool : PR Bool 1 := pC (fun x => [.bool x]) (fun _ => rfl) (fun _ => rfl)
def pStr : PR ByteArray 1 := pC (fun x => [.string x]) (fun _ => rfl) (fun _ => rfl)
def pSeq {α β : Type} {m n : Nat} (A : PR α m) (C : PR β n) : PR (α × β) (m + n) :=
  ⟨fun w R cs x => ∃ c1 c2, cs = c1 ++ c2 ∧ A.r w R c1 x.1 ∧ C.r w R c2 x.2,
   fun ⟨c1, c2, e, h1, h2⟩ hk hR => ⟨c1, c2, e, A.st h1 hk hR, C.st h2 hk hR⟩,
   fun ⟨c1, c2, e, h1, h2⟩ => by rw [e, List.length_append, A.len h1, C.len h2],
   fun ⟨c1, c2, e, h1, h2⟩ v hv => by rw [e, List.mem_append] at hv; rcases hv with h | h; exact A.one h1 v h; exact C.one h2 v h⟩
def pMap {α β : Type} {m : Nat} (f : β → α) (E : PR α m) : PR β m := ⟨fun w R cs y => E.r w R cs (f y), E.st, E.len, E.one⟩
def idx {α : Type} (xs : List α) (i : Int) : Option α := if 0 ≤ i then xs[i.toNat]? else none
theorem idx_some {α : Type} {xs : List α} {i : Int} {x : α} (h : idx xs i = some x) : 0 ≤ i ∧ i < xs.length ∧ xs[i.toNat]? = some x := by
  unfold idx at h
  split at h
  · rename_i h0
    have := (List.getElem?_eq_some_iff.1 h).1
    exact ⟨h0, by omega, h⟩
  · cases h
/-- What a row that begins at a holds; A: of its block. -/
def RowAt {α : Type} {m : Nat} (E : PR α m) (w : World) (R A : Nat → Prop) (a : Option Addr) (xs : List α) : Prop :=
  ∀ i x, xs[i]? = some x → ∃ bb oo cs, a = some ⟨bb, oo, none⟩ ∧ A bb ∧ E.r w R cs x ∧ ∀ (j : Nat) u, cs[j]? = some u → w.cell? ⟨bb, oo + i * m + j, none⟩ = some u
def roSl {α : Type} {m : Nat} (E : PR α m) (w : World) (R A : Nat → Prop) (v : Value) (xs : List α) : Prop := ∃ a c, v = .slice a xs.length c ∧ xs.length ≤ c ∧ RowAt E w R A a xs
theorem roSl.imp {α : Type} {m : Nat} {E : PR α m} {w : World} {R A A' : Nat → Prop} {v : Value} {xs : List α} (h : roSl E w R A v xs) (k : ∀ b, A b → A' b) : roSl E w R A' v xs := by
  obtain ⟨a, c, hv, hc, hr⟩ := h
  exact ⟨a, c, hv, hc, fun i x hx => by obtain ⟨bb, oo, cs, h1, h2, h3⟩ := hr i x hx; exact ⟨bb, oo, cs, h1, k _ h2, h3⟩⟩
def pRo {α : Type} {m : Nat} (E : PR α m) : PR (List α) 1 :=
  ⟨fun w R cs xs => ∃ v, cs = [v] ∧ roSl E w R R v xs,
   fun ⟨v, e, a, c, hv, hc, hr⟩ hk hR => ⟨v, e, a, c, hv, hc, fun i x hx => by
     obtain ⟨bb, oo, cs, h1, h2, h3, h4⟩ := hr i x hx
     exact ⟨bb, oo, cs, h1, hR _ h2, E.st h3 hk hR, fun j u hu => (hk.cell (a := ⟨bb, oo + i * m + j, none⟩) h2).trans (h4 j u hu)⟩⟩,
   fun ⟨v, e, _⟩ => by rw [e]; rfl,
   fun ⟨v, e, a, c, hv, _⟩ u hu => by rw [e, List.mem_singleton] at hu; subst hu; rw [hv]; rfl⟩
/-- The row can be read. -/
def Reads {α : Type} {m : Nat} (P : HP) (E : PR α m) (v : Value) (xs : List α) : Prop := ∀ w R S, P.p w R S → roSl E w R (fun b => b ∈ S ∨ R b) v xs
theorem Reads.w {α : Type} {m : Nat} {P : HP} {E : PR α m} {v : Value} {xs : List α} (h : Reads P E v xs) : ∀ w R S, P.p w R S → roSl E w R (fun _ => True) v xs := fun w R S hp => (h w R S hp).imp fun _ _ => trivial
theorem reads_ro {α : Type} {m : Nat} {E : PR α m} {v : Value} {xs : List α} : Reads (Hold (pRo E) [v] xs) E v xs := by
  rintro w R S ⟨_, v', e, h⟩
  injection e with e
  subst e
  exact h.imp fun _ hb => .inr hb
def Rows {α : Type} {m : Nat} (E : PR α m) (w : World) (R : Nat → Prop) : List (List Value) → List α → Prop
  | [], [] => True
  | c :: cs, x :: xs => E.r w R c x ∧ Rows E w R cs xs
  | _, _ => False
section
variable {α : Type} {m : Nat} {E : PR α m} {w w' : World} {R R' : Nat → Prop}
theorem Rows.st : ∀ {css : List (List Value)} {xs : List α}, Rows E w R css xs → Kp R w w' → (∀ b, R b → R' b) → Rows E w' R' css xs
  | [], [], _, _, _ => trivial
  | _ :: _, _ :: _, h, hk, hR => ⟨E.st h.1 hk hR, Rows.st h.2 hk hR⟩
  | [], _ :: _, h, _, _ => h.elim
  | _ :: _, [], h, _, _ => h.elim
theorem Rows.len : ∀ {css : List (List Value)} {xs : List α}, Rows E w R css xs → css.length = xs.length
  | [], [], _ => rfl
  | _ :: _, _ :: _, h => by simp [Rows.len h.2]
  | [], _ :: _, h => h.elim
  | _ :: _, [], h => h.elim
theorem Rows.flen : ∀ {css : List (List Value)} {xs : List α}, Rows E w R css xs → css.flatten.length = xs.length * m
  | [], [], _ => by simp
  | c :: _, _ :: _, h => by rw [List.flatten_cons, List.length_append, E.len h.1, Rows.flen h.2, List.length_cons, Nat.succ_mul, Nat.add_comm]
  | [], _ :: _, h => h.elim
  | _ :: _, [], h => h.elim
theorem Rows.one : ∀ {css : List (List Value)} {xs : List α}, Rows E w R css xs → ∀ v ∈ css.flatten, v.oneCell' = true
  | [], [], _, v, hv => by simp at hv
  | c :: _, _ :: _, h, v, hv => by
    rw [List.flatten_cons, List.mem_append] at hv
    rcases hv with hv | hv
    · exact E.one h.1 v hv
    · exact Rows.one h.2 v hv
  | [], _ :: _, h, _, _ => h.elim
  | _ :: _, [], h, _, _ => h.elim
theorem Rows.get : ∀ {css : List (List Value)} {xs : List α}, Rows E w R css xs → ∀ {i : Nat} {x : α}, xs[i]? = some x → ∃ c, css[i]? = some c ∧ E.r w R c x ∧ ∀ (j : Nat) u, c[j]? = some u → css.flatten[i * m + j]? = some u
  | [], [], _, i, x, hx => by simp at hx
  | c :: cs, y :: ys, h, 0, x, hx => by
    simp at hx; subst hx
    refine ⟨c, rfl, h.1, fun j u hu => ?_⟩
    rw [Nat.zero_mul, Nat.zero_add, List.flatten_cons, List.getElem?_append_left (List.getElem?_eq_some_iff.1 hu).1]; exact hu
  | c :: cs, y :: ys, h, i + 1, x, hx => by
    obtain ⟨d, h1, h2, h3⟩ := Rows.get h.2 (i := i) (x := x) (by simpa using hx)
    refine ⟨d, by simpa using h1, h2, fun j u hu => ?_⟩
    have hl := E.len h.1
    rw [List.flatten_cons, List.getElem?_append_right (by rw [hl, Nat.succ_mul]; omega), hl, show (i + 1) * m + j - m = i * m + j by rw [Nat.succ_mul]; omega]
    exact h3 j u hu
  | [], _ :: _, h, _, _, _ => h.elim
  | _ :: _, [], h, _, _, _ => h.elim
theorem Rows.app {ds : List (List Value)} {ys : List α} : ∀ {css : List (List Value)} {xs : List α}, Rows E w R css xs → Rows E w R ds ys → Rows E w R (css ++ ds) (xs ++ ys)
  | [], [], _, h2 => h2
  | _ :: _, _ :: _, h, h2 => ⟨h.1, Rows.app h.2 h2⟩
  | [], _ :: _, h, _ => h.elim
  | _ :: _, [], h, _ => h.elim
theorem Rows.set : ∀ {css : List (List Value)} {xs : List α}, Rows E w R css xs → ∀ {i : Nat} {x x' : α} {c' : List Value} , xs[i]? = some x → E.r w R c' x' → Rows E w R (css.set i c') (xs.set i x')
  | [], [], _, i, x, _, _, hx, _ => by simp at hx
  | c :: cs, y :: ys, h, 0, x, x', c', hx, h' => ⟨h', h.2⟩
  | c :: cs, y :: ys, h, i + 1, x, x', c', hx, h' => ⟨h.1, Rows.set h.2 (by simpa using hx) h'⟩
  | [], _ :: _, h, _, _, _, _, _, _ => h.elim
  | _ :: _, [], h, _, _, _, _, _, _ => h.elim
theorem Rows.fset : ∀ {css : List (List Value)} {xs : List α}, Rows E w R css xs → ∀ {i : Nat} {c : List Value}, css[i]? = some c → ∀ (j : Nat) (u : Value), j < m → css.flatten.set (i * m + j) u = (css.set i (c.set j u)).flatten
  | [], [], _, i, c, hc, _, _, _ => by simp at hc
  | d :: cs, y :: ys, h, 0, c, hc, j, u, hj => by
    simp at hc; subst hc
    rw [Nat.zero_mul, Nat.zero_add, List.flatten_cons, List.set_append_left _ _ (by rw [E.len h.1]; exact hj)]; rfl
  | d :: cs, y :: ys, h, i + 1, c, hc, j, u, hj => by
    have hl := E.len h.1
    rw [List.flatten_cons, List.set_append_right _ _ (by rw [hl, Nat.succ_mul]; omega), hl, show (i + 1) * m + j - m = i * m + j by rw [Nat.succ_mul]; omega, Rows.fset h.2 (by simpa using hc) j u hj]; rfl
  | [], _ :: _, h, _, _, _, _, _, _ => h.elim
  | _ :: _, [], h, _, _, _, _, _, _ => h.elim
/-- Rows out of what can be read. -/
theorem rows_of {a : Option Addr} {A : Nat → Prop} : ∀ (xs : List α) (o : Nat), (∀ i x, xs[i]? = some x → ∃ bb oo cs, a = some ⟨bb, oo, none⟩ ∧ A bb ∧ E.r w R cs x ∧ ∀ (j : Nat) u, cs[j]? = some u → w.cell? ⟨bb, oo + (o + i) * m + j, none⟩ = some u) →
    ∃ css, Rows E w R css xs ∧ ∀ b oo, a = some ⟨b, oo, none⟩ → ∀ (j : Nat) u, css.flatten[j]? = some u → w.cell? ⟨b, oo + o * m + j, none⟩ = some u
  | [], o, _ => ⟨[], trivial, fun b oo _ j u hu => by simp at hu⟩
  | x :: xs, o, h => by
    obtain ⟨css, h1, h2⟩ := rows_of xs (o + 1) (fun i y hy => by
      have := h (i + 1) y (by simpa using hy)
      rwa [show o + (i + 1) = o + 1 + i by omega] at this)
    obtain ⟨bb, oo, cs, ha, hA, hE, hc⟩ := h 0 x rfl
    refine ⟨cs :: css, ⟨hE, h1⟩, fun b oo' ha' j u hu => ?_⟩
    rw [ha] at ha'
    injection ha' with ha'
    injection ha' with e1 e2
    subst e1 e2
    have hl := E.len hE
    rw [List.flatten_cons] at hu
    by_cases hj : j < m
    · rw [List.getElem?_append_left (by omega)] at hu
      exact hc j u hu
    · rw [List.getElem?_append_right (by omega)] at hu
      have := h2 bb oo ha (j - cs.length) u hu
      rw [hl] at this
      rwa [show oo + (o + 1) * m + (j - m) = oo + o * m + j by rw [Nat.succ_mul]; omega] at this
end
/-- A row of one's own. -/
def Own {α : Type} {m : Nat} (E : PR α m) (T : TypeId) (v : Value) (xs : List α) : HP :=
  ⟨fun w R S => ∃ css, Rows E w R css xs ∧ w.ownsRow 0 T m v xs.length css.flatten ∧ S = v.ownBlock.toList,
   fun {w w' R R' S} h hk hR => by
     obtain ⟨css, h1, h2, e⟩ := h
     refine ⟨css, h1.st (hk.mono fun b hb => .inr hb) hR, ⟨h2.1, ?_⟩, e⟩
     rcases h2.2 with hn | ⟨g, cap, cur, rfl, hb, hgg, rest⟩
     · exact .inl hn
     · refine .inr ⟨g, cap, cur, rfl, hb, ?_, rest⟩
       rw [hk.block g (.inl (by rw [e]; simp [Value.ownBlock]))]; exact hgg⟩
theorem reads_own {α : Type} {m : Nat} {E : PR α m} {T : TypeId} {v : Value} {xs : List α} : Reads (Own E T v xs) E v xs := by
  rintro w R S ⟨css, h1, h2, eS⟩
  rcases h2.2 with ⟨rfl, hn⟩ | ⟨g, cap, cur, rfl, _, hgg, hc, _, hs, ht⟩
  · have : xs = [] := List.eq_nil_of_length_eq_zero hn
    subst this
    exact ⟨none, 0, rfl, Nat.le_refl _, fun i x hx => by simp at hx⟩
  · refine ⟨_, cap, rfl, hc, fun i x hx => ?_⟩
    obtain ⟨c, _, h3, h4⟩ := h1.get hx
    refine ⟨g, 0, c, rfl, .inl (by rw [eS]; simp [Value.ownBlock]), h3, fun j u hu => ?_⟩
    have := h2.cells (g := g) rfl _ _ (h4 j u hu)
    rw [Addr.add_lit, ← Nat.add_assoc] at this
    exact this
section
variable {α : Type} {m : Nat} {E : PR α m} {w : World} {l : List HP} {k : Nat} {T : TypeId} {v : Value} {xs : List α}
theorem Ctx.rd (h : Ctx w l) (hk : ltP l k = true) {P : HP} (e : nthP l k = P) (hP : Reads P E v xs) : ∃ a c, v = .slice a xs.length c := by
  obtain ⟨R, S, hp, _⟩ := h.at hk e
  obtain ⟨a, c, h1, _⟩ := hP.w w R S hp
  exact ⟨a, c, h1⟩
theorem Ctx.rdAt (h : Ctx w l) (hk : ltP l k = true) {P : HP} (e : nthP l k = P) {a : Option Addr} {n c : Nat} (hP : Reads P E (.slice a n c) xs) {i : Int} {x : α} (hx : idx xs i = some x) :
    ∃ bb oo, a = some ⟨bb, oo, none⟩ ∧ 0 ≤ i ∧ i < n := by
  obtain ⟨h0, h1, h2⟩ := idx_some hx
  obtain ⟨R, S, hp, _⟩ := h.at hk e
  obtain ⟨a', c', hv, _, hr⟩ := hP.w w R S hp
  obtain ⟨bb, oo, cs, ha, _⟩ := hr _ _ h2
  injection hv with e1 e2 e3
  exact ⟨bb, oo, by rw [e1, ha], h0, by rw [e2]; exact h1⟩
theorem Ctx.rdLen (h : Ctx w l) (hk : ltP l k = true) {P : HP} (e : nthP l k = P) {a : Option Addr} {n c : Nat} (hP : Reads P E (.slice a n c) xs) : n = xs.length ∧ n ≤ c := by
  obtain ⟨R, S, hp, _⟩ := h.at hk e
  obtain ⟨a', c', hv, hc, hr⟩ := hP.w w R S hp
  injection hv with e1 e2 e3
  exact ⟨e2, by omega⟩
theorem Ctx.rdCell (h : Ctx w l) (hk : ltP l k = true) {P : HP} (e : nthP l k = P) {bb oo n c : Nat} (hP : Reads P E (.slice (some ⟨bb, oo, none⟩) n c) xs) {i : Int} {x : α} (hx : idx xs i = some x) :
    ∃ cs, Ctx w (Hold E cs x :: l) ∧ ∀ (j : Nat) u, cs[j]? = some u → w.cell? ⟨bb, oo + i.toNat * m + j, none⟩ = some u := by
  obtain ⟨h0, h1, h2⟩ := idx_some hx
  have h' := h.perm (perm_nth hk)
  rw [e] at h'
  obtain ⟨R, Ss, hc⟩ := h'
  match Ss, hc with
  | S :: Ss, hc =>
    obtain ⟨a, c', hv', _, hr⟩ := hP.w w R S hc.all.1
    obtain ⟨bb', oo', cs, ha, _, hE, hcs⟩ := hr _ _ h2
    subst ha
    injection hv' with e1 _ _
    injection e1 with e1
    injection e1 with e1 e2
    subst e1 e2
    refine ⟨cs, ?_, hcs⟩
    have : Ctx w (Hold E cs x :: P :: remP l k) := ⟨R, [] :: S :: Ss, ⟨⟨rfl, hE⟩, hc.all⟩, by simpa using hc.nodup, by simpa using hc.own, hc.fz⟩
    rw [← e] at this
    exact this.perm ((perm_nth hk).symm.cons _)
theorem Ctx.holdSeq {β : Type} {n : Nat} {A : PR α m} {C : PR β n} {x : α × β} {cs : List Value} (h : Ctx w (Hold (pSeq A C) cs x :: l)) : ∃ c1 c2, cs = c1 ++ c2 ∧ Ctx w (Hold A c1 x.1 :: Hold C c2 x.2 :: l) := by
  obtain ⟨R, Ss, hc⟩ := h
  match Ss, hc with
  | S :: Ss, hc =>
    obtain ⟨⟨rfl, c1, c2, e, h1, h2⟩, h3⟩ := hc.all
    exact ⟨c1, c2, e, R, [] :: [] :: Ss, ⟨⟨rfl, h1⟩, ⟨rfl, h2⟩, h3⟩, by simpa using hc.nodup, by simpa using hc.own, hc.fz⟩
theorem Ctx.holdSeqB {β : Type} {n : Nat} {A : PR α m} {C : PR β n} {x : α} {y : β} {c1 c2 : List Value} (h : Ctx w (Hold A c1 x :: Hold C c2 y :: l)) : Ctx w (Hold (pSeq A C) (c1 ++ c2) (x, y) :: l) := by
  obtain ⟨R, Ss, hc⟩ := h
  match Ss, hc with
  | S1 :: S2 :: Ss, hc =>
    obtain ⟨⟨rfl, h1⟩, ⟨rfl, h2⟩, h3⟩ := hc.all
    exact ⟨R, [] :: Ss, ⟨⟨rfl, c1, c2, rfl, h1, h2⟩, h3⟩, by simpa using hc.nodup, by simpa using hc.own, hc.fz⟩
  | [], hc => exact hc.all.elim
  | [_], hc => exact hc.all.2.elim
theorem Ctx.holdC {f : α → List Value} {hl : ∀ x, (f x).length = m} {ho : ∀ x, (f x).all (·.oneCell') = true} {cs : List Value} {x : α} (h : Ctx w (Hold (pC f hl ho) cs x :: l)) : cs = f x ∧ Ctx w l := by
  refine ⟨?_, h.drop⟩
  obtain ⟨R, S, hp, _⟩ := h.get
  exact hp.2
theorem Ctx.holdCB {f : α → List Value} {hl : ∀ x, (f x).length = m} {ho : ∀ x, (f x).all (·.oneCell') = true} (x : α) (h : Ctx w l) : Ctx w (Hold (pC f hl ho) (f x) x :: l) := h.add _ fun _ _ _ => ⟨rfl, rfl⟩
theorem Ctx.holdMap {β : Type} {f : β → α} {y : β} {cs : List Value} (h : Ctx w (Hold (pMap f E) cs y :: l)) : Ctx w (Hold E cs (f y) :: l) := h
theorem Ctx.holdRo {cs : List Value} (h : Ctx w (Hold (pRo E) cs xs :: l)) : ∃ v, cs = [v] ∧ Ctx w (Hold (pRo E) [v] xs :: l) := by
  obtain ⟨R, S, ⟨_, v, e, _⟩, _⟩ := h.get
  subst e
  exact ⟨v, rfl, h⟩
theorem Ctx.holdLen {cs : List Value} {x : α} (h : Ctx w (Hold E cs x :: l)) : cs.length = m := by
  obtain ⟨R, S, hp, _⟩ := h.get
  exact E.len hp.2
/-- What is owned, frozen for good. -/
theorem Ctx.freeze (h : Ctx w l) (hk : ltP l k = true) (e : nthP l k = Own E T v xs) {l' : List HP} (el : setP l k (Hold (pRo E) [v] xs) = l') : Ctx w l' := by
  subst el
  refine Ctx.perm (perm_set hk) ?_
  have h1 := h.perm (perm_nth hk)
  rw [e] at h1
  refine Ctx.upd (Ps := [Own E T v xs]) (Qs := [Hold (pRo E) [v] xs]) h1 fun R Ss hc => ?_
  match Ss, hc with
  | [S], hc =>
    obtain ⟨css, r1, r2, e⟩ := hc.all.1
    subst e
    have hlt := r2.lt
    refine ⟨fun b => R b ∨ some b = v.ownBlock, [[]], ⟨⟨rfl, v, rfl, ?_⟩, trivial⟩, by simp, by simp, fun b hb => .inl hb, fun b hb => ?_, Kp.refl _ _⟩
    · have r1' := r1.st (w' := w) (R' := fun b => R b ∨ some b = v.ownBlock) (Kp.refl _ _) fun _ h => .inl h
      rcases r2.2 with ⟨rfl, hn⟩ | ⟨g, cap, cur, rfl, _, hgg, hcap, _, hs, ht⟩
      · have : xs = [] := List.eq_nil_of_length_eq_zero hn
        subst this
        exact ⟨none, 0, rfl, Nat.le_refl _, fun i x hx => by simp at hx⟩
      · refine ⟨_, cap, rfl, hcap, fun i x hx => ?_⟩
        obtain ⟨c, _, h3, h4⟩ := r1'.get hx
        refine ⟨g, 0, c, rfl, .inr rfl, h3, fun j u hu => ?_⟩
        have := r2.cells (g := g) rfl _ _ (h4 j u hu)
        rw [Addr.add_lit, ← Nat.add_assoc] at this
        exact this
    · rcases hb with hb | hb
      · exact ⟨.inl hb, hc.fz b hb⟩
      · exact ⟨.inr (.inl (by simp [← hb])), (hlt b hb.symm).2⟩
  | [], hc => exact hc.all.elim
  | _ :: _ :: _, hc => exact hc.all.2.elim
/-- An empty row of one's own. -/
theorem Ctx.nilOwn (E : PR α m) (T : TypeId) (h : Ctx w l) : Ctx w (Own E T (.slice none 0 0) [] :: l) := h.add _ fun _ _ _ => ⟨[], trivial, World.ownsRow_nil _ _ _ _, rfl⟩
theorem Ctx.nilRo (E : PR α m) (h : Ctx w l) : Ctx w (Hold (pRo E) [.slice none 0 0] [] :: l) := h.add _ fun _ _ _ => ⟨rfl, _, rfl, none, 0, rfl, Nat.le_refl _, fun i x hx => by simp at hx⟩
/-- A field of an element of one's own. -/
theorem Ctx.ownPut (h : Ctx w l) (hk : ltP l k = true) {bb oo n c : Nat} (e : nthP l k = Own E T (.slice (some ⟨bb, oo, none⟩) n c) xs) {i : Int} {x x' : α} (hx : idx xs i = some x) (j : Nat) (hj : Nat.blt j m = true) (u : Value)
    (hE : ∀ (w : World) R cs, E.r w R cs x → E.r w R (cs.set j u) x') {l' : List HP} (el : setP l k (Own E T (.slice (some ⟨bb, oo, none⟩) n c) (xs.set i.toNat x')) = l') : Ctx (w.setCell ⟨bb, oo + i.toNat * m + j, none⟩ u) l' := by
  obtain ⟨_, _, h2⟩ := idx_some hx
  replace hj : j < m := by simpa using hj
  refine h.upd1 hk _ (fun R S hp hS => ?_) el
  rw [e] at hp
  obtain ⟨css, r1, r2, rfl⟩ := hp
  obtain ⟨d, hd, hE1, _⟩ := r1.get h2
  rcases r2.2 with ⟨hv, hn⟩ | ⟨g, cap, cur, hv, hb, hgg, hcap, hm, hs, ht⟩
  · cases hv
  · injection hv with e1 e2 e3
    injection e1 with e1
    injection e1 with e1 e4
    subst e1 e3 e4
    have hlt := (Array.getElem?_eq_some_iff.1 hgg).1
    have hkp : Kp (fun b => b < w.heap.size ∧ b ∉ (Value.slice (some ⟨bb, 0, none⟩) n c).ownBlock.toList) w (w.setCell ⟨bb, 0 + i.toNat * m + j, none⟩ u) :=
      ⟨rfl, rfl, rfl, by simp [World.setCell], fun b' hb' => Below.heap_setCell _ _ _ _ (by simpa [Value.ownBlock] using hb'.2)⟩
    have r1' : Rows E (w.setCell ⟨bb, 0 + i.toNat * m + j, none⟩ u) R css xs := by
      -- the frozen blocks are others
      exact r1.st ⟨rfl, rfl, rfl, by simp [World.setCell], fun b hb => Below.heap_setCell _ _ _ _ (fun e => (hS bb (by simp [Value.ownBlock])).2 ((show b = bb from e) ▸ hb))⟩ fun _ h => h
    have hxl := (List.getElem?_eq_some_iff.1 h2).1
    refine ⟨⟨css.set i.toNat (d.set j u), r1'.set h2 (hE _ _ _ (E.st hE1 ⟨rfl, rfl, rfl, by simp [World.setCell], fun b hb => Below.heap_setCell _ _ _ _ (fun e => (hS bb (by simp [Value.ownBlock])).2 ((show b = bb from e) ▸ hb))⟩ fun _ h => h)), ⟨?_, .inr ⟨bb, c, cur.setIfInBounds (0 + i.toNat * m + j) u, by simp [e2], hb, ?_, by simpa using hcap, hm, by simpa using hs, ?_⟩⟩, rfl⟩, hkp⟩
    · rw [← r1.fset hd j u hj]; simpa using r2.1
    · show (w.heap.modify bb _)[bb]? = _
      have h' : w.heap[bb] = .cells cur T (0, 0) := by simpa [Array.getElem?_eq_getElem hlt] using hgg
      rw [Array.getElem?_eq_getElem (by simpa using hlt), Array.getElem_modify_self, h']
      simp
    · rw [← r1.fset hd j u hj, Nat.zero_add, List.length_set, ← ht]
      simp only [Array.toList_setIfInBounds]
      rw [List.take_set]
end
end Go.Hp
