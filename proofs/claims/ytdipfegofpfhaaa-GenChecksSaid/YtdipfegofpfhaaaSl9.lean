/- Rows and maps whose elements own blocks: small laws over any program. -/
import Derived.Test.YtdipfegofpfhaaaSl8
namespace Go.Hp
open Go Go.RowKit
set_option linter.unusedVariables false
set_option linter.unusedSimpArgs false
set_option linter.unusedSectionVars false
/-- What m cells hold, with blocks of its own. -/
structure VP (α : Type) (m : Nat) where
  r : List Value → α → HP
  len : ∀ {w : World} {R : Nat → Prop} {S : List Nat} {cs : List Value} {x : α}, (r cs x).p w R S → cs.length = m
  one : ∀ {w : World} {R : Nat → Prop} {S : List Nat} {cs : List Value} {x : α}, (r cs x).p w R S → ∀ v ∈ cs, v.oneCell' = true
/-- Any cells. -/
def pAny (m : Nat) : PR (List Value) m := ⟨fun _ _ cs x => cs = x ∧ x.length = m ∧ ∀ v ∈ x, v.oneCell' = true, fun h _ _ => h, fun h => by rw [h.1]; exact h.2.1, fun h => by rw [h.1]; exact h.2.2⟩
def vHold {α : Type} {m : Nat} (E : PR α m) : VP α m := ⟨fun cs x => Hold E cs x, fun h => E.len h.2, fun h => E.one h.2⟩
/-- A pointer of its own, not nil. -/
def vPt {α : Type} (f : Nat → α → HP) : VP α 1 := ⟨fun cs x => Ex fun b => Sep (Pu (cs = [.pointer (some ⟨b, 0, none⟩)])) (f b x),
  fun ⟨b, S1, S2, _, ⟨_, h⟩, _⟩ => by rw [h]; rfl, fun ⟨b, S1, S2, _, ⟨_, h⟩, _⟩ v hv => by rw [h, List.mem_singleton] at hv; rw [hv]; rfl⟩
/-- A pointer of its own, nil or not. -/
def vOpt {α : Type} (f : Nat → α → HP) : VP (Option α) 1 := ⟨fun cs x => Ex fun v => Sep (Pu (cs = [v])) (PtO f v x),
  fun ⟨b, S1, S2, _, ⟨_, h⟩, _⟩ => by rw [h]; rfl, fun {w R S cs x} ⟨b, S1, S2, _, ⟨_, h⟩, h2⟩ v hv => by
    rw [h, List.mem_singleton] at hv
    subst hv
    cases x with
    | none => rw [h2.2]; rfl
    | some y => obtain ⟨b, S1, S2, _, ⟨_, h⟩, _⟩ := h2; rw [h]; rfl⟩
theorem own_one {α : Type} {m : Nat} {E : PR α m} {T : TypeId} {v : Value} {xs : List α} {w : World} {R : Nat → Prop} {S : List Nat} (h : (Own E T v xs).p w R S) : v.oneCell' = true := by
  obtain ⟨a, c, hv, _⟩ := reads_own _ _ _ h
  rw [hv]; rfl
/-- A row of its own. -/
def vOwn {α : Type} {m : Nat} (E : PR α m) (T : TypeId) : VP (List α) 1 := ⟨fun cs xs => Ex fun v => Sep (Pu (cs = [v])) (Own E T v xs),
  fun ⟨b, S1, S2, _, ⟨_, h⟩, _⟩ => by rw [h]; rfl, fun ⟨b, S1, S2, _, ⟨_, h⟩, h2⟩ v hv => by rw [h, List.mem_singleton] at hv; rw [hv]; exact own_one h2⟩
/-- Two lists, place by place. -/
def Big {σ τ : Type} (V : σ → τ → HP) : List σ → List τ → HP
  | [], [] => Pu True
  | a :: as, b :: bs => Sep (V a b) (Big V as bs)
  | _, _ => Pu False
def BigH {σ τ : Type} (V : σ → τ → HP) (as : List σ) (bs : List τ) (i : Int) : HP := Big V (as.eraseIdx i.toNat) (bs.eraseIdx i.toNat)
section
variable {w : World} {l : List HP} {σ τ : Type} {V : σ → τ → HP}
theorem Ctx.swap {A B : HP} (h : Ctx w (A :: B :: l)) : Ctx w (B :: A :: l) := h.perm (.swap _ _ _)
theorem Ctx.swap1 {A B C : HP} (h : Ctx w (C :: A :: B :: l)) : Ctx w (C :: B :: A :: l) := h.perm ((List.Perm.swap _ _ _).cons _)
theorem Ctx.sepB1 {A B C : HP} (h : Ctx w (C :: A :: B :: l)) : Ctx w (C :: Sep A B :: l) := (Ctx.sepB (h.perm (((List.Perm.swap _ _ _).trans ((List.Perm.swap _ _ _).cons _))))).swap
theorem Ctx.sepF1 {A B C : HP} (h : Ctx w (C :: Sep A B :: l)) : Ctx w (C :: A :: B :: l) := (Ctx.sepF h.swap).perm (((List.Perm.swap _ _ _).cons _).trans (List.Perm.swap _ _ _))
theorem Ctx.bigLen : ∀ {as : List σ} {bs : List τ} {l : List HP}, Ctx w (Big V as bs :: l) → as.length = bs.length
  | [], [], _, _ => rfl
  | a :: as, b :: bs, l, h => by simp [Ctx.bigLen (Ctx.sepF h).drop]
  | [], _ :: _, _, h => (Ctx.puF h).1.elim
  | _ :: _, [], _, h => (Ctx.puF h).1.elim
theorem Ctx.bigAt : ∀ {i : Nat} {as : List σ} {bs : List τ} {l : List HP} {y : τ}, Ctx w (Big V as bs :: l) → bs[i]? = some y → ∃ a, as[i]? = some a ∧ Ctx w (V a y :: Big V (as.eraseIdx i) (bs.eraseIdx i) :: l)
  | 0, a :: as, b :: bs, l, y, h, hy => by
    simp at hy; subst hy
    exact ⟨a, rfl, Ctx.sepF h⟩
  | i + 1, a :: as, b :: bs, l, y, h, hy => by
    obtain ⟨a', h1, h2⟩ := Ctx.bigAt (i := i) (Ctx.sepF h).swap (by simpa using hy)
    exact ⟨a', by simpa using h1, Ctx.sepB1 (h2.perm ((List.Perm.swap _ _ _).cons _))⟩
  | _, [], [], _, _, _, hy => by simp at hy
  | _, [], _ :: _, _, _, h, _ => (Ctx.puF h).1.elim
  | _, _ :: _, [], _, _, h, _ => (Ctx.puF h).1.elim
theorem Ctx.bigPut {a' : σ} {y' : τ} : ∀ {i : Nat} {as : List σ} {bs : List τ} {l : List HP}, Ctx w (V a' y' :: Big V (as.eraseIdx i) (bs.eraseIdx i) :: l) → i < as.length → i < bs.length → Ctx w (Big V (as.set i a') (bs.set i y') :: l)
  | 0, a :: as, b :: bs, l, h, _, _ => Ctx.sepB h
  | i + 1, a :: as, b :: bs, l, h, h1, h2 => by
    have h3 : Ctx w (V a' y' :: V a b :: Big V (as.eraseIdx i) (bs.eraseIdx i) :: l) := Ctx.sepF1 h
    have h4 := Ctx.bigPut (i := i) (l := V a b :: l) (h3.perm ((List.Perm.swap _ _ _).cons _)) (by simpa using h1) (by simpa using h2)
    exact Ctx.sepB h4.swap
  | _, [], _, _, _, h1, _ => by simp at h1
  | _, _, [], _, _, _, h2 => by simp at h2
theorem Ctx.bigF {as : List σ} {bs : List τ} {i : Int} {y : τ} (h : Ctx w (Big V as bs :: l)) (hx : idx bs i = some y) : ∃ a, idx as i = some a ∧ Ctx w (V a y :: BigH V as bs i :: l) := by
  obtain ⟨h0, h1, h2⟩ := idx_some hx
  obtain ⟨a, ha, hc⟩ := Ctx.bigAt h h2
  exact ⟨a, by unfold idx; rw [if_pos h0]; exact ha, hc⟩
theorem set_same {α : Type} {xs : List α} {i : Nat} {x : α} (h : xs[i]? = some x) : xs.set i x = xs := by
  obtain ⟨h1, h2⟩ := List.getElem?_eq_some_iff.1 h
  apply List.ext_getElem (by simp)
  intro j h3 h4
  rw [List.getElem_set]
  split
  · rename_i e; subst e; exact h2.symm
  · rfl
theorem Ctx.bigB {as : List σ} {bs : List τ} {i : Int} {a a' : σ} {y y' : τ} (h : Ctx w (V a' y' :: BigH V as bs i :: l)) (ha : idx as i = some a) (hx : idx bs i = some y) : Ctx w (Big V (as.set i.toNat a') (bs.set i.toNat y') :: l) := by
  obtain ⟨h0, h1, h2⟩ := idx_some hx
  obtain ⟨g0, g1, g2⟩ := idx_some ha
  exact Ctx.bigPut h (by omega) (by omega)
theorem Ctx.bigB1 {as : List σ} {bs : List τ} {i : Int} {a : σ} {y y' : τ} (h : Ctx w (V a y' :: BigH V as bs i :: l)) (ha : idx as i = some a) (hx : idx bs i = some y) : Ctx w (Big V as (bs.set i.toNat y') :: l) := by
  have := Ctx.bigB h ha hx
  rwa [set_same (idx_some ha).2.2] at this
theorem Ctx.bigB0 {as : List σ} {bs : List τ} {i : Int} {a : σ} {y : τ} (h : Ctx w (V a y :: BigH V as bs i :: l)) (ha : idx as i = some a) (hx : idx bs i = some y) : Ctx w (Big V as bs :: l) := by
  have := Ctx.bigB1 h ha hx
  rwa [set_same (idx_some hx).2.2] at this
theorem Ctx.bigNil (V : σ → τ → HP) (h : Ctx w l) : Ctx w (Big V [] [] :: l) := Ctx.puB trivial h
theorem Ctx.bigCons {a : σ} {b : τ} {as : List σ} {bs : List τ} (h : Ctx w (V a b :: Big V as bs :: l)) : Ctx w (Big V (a :: as) (b :: bs) :: l) := Ctx.sepB h
theorem Ctx.bigApp {as' : List σ} {bs' : List τ} : ∀ {as : List σ} {bs : List τ} {l : List HP}, Ctx w (Big V as bs :: Big V as' bs' :: l) → Ctx w (Big V (as ++ as') (bs ++ bs') :: l)
  | [], [], l, h => h.drop
  | a :: as, b :: bs, l, h => by
    have h1 := (Ctx.sepF h).swap
    have h2 : Ctx w (Big V as bs :: Big V as' bs' :: V a b :: l) := h1.perm ((List.Perm.swap _ _ _).cons _)
    exact Ctx.sepB (Ctx.bigApp h2).swap
  | [], _ :: _, _, h => (Ctx.puF h).1.elim
  | _ :: _, [], _, h => (Ctx.puF h).1.elim
theorem Ctx.bigRep {a : σ} {b : τ} (hV : ∀ (w : World) R, (V a b).p w R []) : ∀ (n : Nat) {l : List HP}, Ctx w l → Ctx w (Big V (List.replicate n a) (List.replicate n b) :: l)
  | 0, l, h => Ctx.puB trivial h
  | n + 1, l, h => Ctx.sepB ((Ctx.bigRep hV n h).add _ fun R _ _ => hV w R)
/-- A row whose elements own what they hold. -/
def OwnV {α : Type} {m : Nat} (V : VP α m) (T : TypeId) (v : Value) (xs : List α) : HP := Ex fun hs => Sep (Own (pAny m) T v hs) (Big V.r hs xs)
section
variable {α : Type} {m : Nat} {U : VP α m} {T : TypeId} {v : Value} {xs : List α}
theorem Ctx.ownVF (h : Ctx w (OwnV U T v xs :: l)) : ∃ hs, hs.length = xs.length ∧ Ctx w (Own (pAny m) T v hs :: Big U.r hs xs :: l) := by
  obtain ⟨hs, h⟩ := Ctx.exF h
  have h2 := Ctx.sepF h
  exact ⟨hs, Ctx.bigLen h2.drop, h2⟩
theorem Ctx.ownVB {hs : List (List Value)} (h : Ctx w (Own (pAny m) T v hs :: Big U.r hs xs :: l)) : Ctx w (OwnV U T v xs :: l) := Ctx.exB (fun hs => Sep (Own (pAny m) T v hs) (Big U.r hs xs)) hs (Ctx.sepB h)
/-- Its length is in sight. -/
theorem Ctx.ownVLen (h : Ctx w l) {k : Nat} (hk : ltP l k = true) (e : nthP l k = OwnV U T v xs) : ∃ a q, v = .slice a xs.length q := by
  have h1 := h.perm (perm_nth hk)
  rw [e] at h1
  obtain ⟨hs, hl, h2⟩ := Ctx.ownVF h1
  obtain ⟨a, c, hv⟩ := Ctx.rd h2 (k := 0) rfl rfl reads_own
  exact ⟨a, c, by rw [hv, hl]⟩
theorem Ctx.ownVLen' (h : Ctx w l) {k : Nat} (hk : ltP l k = true) {a : Option Addr} {n q : Nat} (e : nthP l k = OwnV U T (.slice a n q) xs) : n = xs.length := by
  obtain ⟨a', q', hv⟩ := h.ownVLen hk e
  injection hv
theorem Ctx.nilOwnV (U : VP α m) (T : TypeId) (h : Ctx w l) : Ctx w (OwnV U T (.slice none 0 0) [] :: l) := Ctx.ownVB (Ctx.nilOwn (pAny m) T (Ctx.bigNil U.r h))
end
-- maps
section
variable {κ β : Type} [DecidableEq κ] {m : Nat} {U : VP β m}
def VK (U : VP β m) (p : κ × List Value) (q : κ × β) : HP := Sep (Pu (p.1 = q.1)) (U.r p.2 q.2)
theorem Ctx.bigGet (k : κ) : ∀ {lh : List (κ × List Value)} {lx : List (κ × β)} {l : List HP}, Ctx w (Big (VK U) lh lx :: l) →
    (mget lx k = none ∧ mget lh k = none) ∨ ∃ y c, mget lx k = some y ∧ mget lh k = some c ∧ Ctx w (U.r c y :: Big (VK U) (mdel lh k) (mdel lx k) :: l)
  | [], [], l, h => .inl ⟨rfl, rfl⟩
  | (k1, c1) :: lh, (k2, y2) :: lx, l, h => by
    have h1 := Ctx.sepF h
    obtain ⟨e, h2⟩ := Ctx.puF (Ctx.sepF h1)
    simp only at e; subst e
    by_cases hk : k1 = k
    · subst hk
      exact .inr ⟨y2, c1, by simp [mget], by simp [mget], by simpa [mdel] using h2⟩
    · rcases Ctx.bigGet k h2.swap with ⟨g1, g2⟩ | ⟨y, c, g1, g2, g3⟩
      · exact .inl ⟨by simp [mget, hk, g1], by simp [mget, hk, g2]⟩
      · refine .inr ⟨y, c, by simp [mget, hk, g1], by simp [mget, hk, g2], ?_⟩
        simp only [mdel, hk, if_false]
        have g4 : Ctx w (U.r c1 y2 :: U.r c y :: Big (VK U) (mdel lh k) (mdel lx k) :: l) := g3.perm ((List.Perm.swap _ _ _).cons _ |>.trans (List.Perm.swap _ _ _))
        have g5 : Ctx w (VK U (k1, c1) (k1, y2) :: U.r c y :: Big (VK U) (mdel lh k) (mdel lx k) :: l) := Ctx.sepB (Ctx.puB rfl g4)
        exact Ctx.sepB1 g5.swap
  | [], _ :: _, _, h => (Ctx.puF h).1.elim
  | _ :: _, [], _, h => (Ctx.puF h).1.elim
theorem Ctx.bigGetS {k : κ} {lh : List (κ × List Value)} {lx : List (κ × β)} {y : β} (h : Ctx w (Big (VK U) lh lx :: l)) (hy : mget lx k = some y) : ∃ c, mget lh k = some c ∧ Ctx w (U.r c y :: Big (VK U) (mdel lh k) (mdel lx k) :: l) := by
  rcases Ctx.bigGet k h with ⟨g1, _⟩ | ⟨y', c, g1, g2, g3⟩
  · rw [g1] at hy; cases hy
  · rw [g1] at hy; injection hy with hy; subst hy; exact ⟨c, g2, g3⟩
theorem Ctx.bigGetN {k : κ} {lh : List (κ × List Value)} {lx : List (κ × β)} (h : Ctx w (Big (VK U) lh lx :: l)) (hy : mget lx k = none) : mget lh k = none := by
  rcases Ctx.bigGet k h with ⟨_, g2⟩ | ⟨y', c, g1, g2, g3⟩
  · exact g2
  · rw [g1] at hy; cases hy
/-- One is put: in its place, or behind all. -/
theorem Ctx.bigSet {k : κ} {c : List Value} {y : β} : ∀ {lh : List (κ × List Value)} {lx : List (κ × β)} {l : List HP}, Ctx w (U.r c y :: Big (VK U) lh lx :: l) → Ctx w (Big (VK U) (mset lh k c) (mset lx k y) :: l)
  | [], [], l, h => Ctx.sepB (Ctx.sepB (Ctx.puB rfl h))
  | (k1, c1) :: lh, (k2, y2) :: lx, l, h => by
    have h1 := Ctx.sepF h.swap
    obtain ⟨e, h2⟩ := Ctx.puF (Ctx.sepF h1)
    simp only at e; subst e
    by_cases hk : k1 = k
    · subst hk
      simp only [mset, if_true]
      exact Ctx.sepB (Ctx.sepB (Ctx.puB rfl (h2.drop.swap)))
    · simp only [mset, hk, if_false]
      have h3 : Ctx w (U.r c y :: Big (VK U) lh lx :: U.r c1 y2 :: l) := h2.perm ((List.Perm.swap _ _ _).trans (((List.Perm.swap _ _ _).cons _).trans (List.Perm.swap _ _ _) |>.trans ((List.Perm.refl _))) |>.trans (List.Perm.refl _))
      exact Ctx.sepB (Ctx.sepB (Ctx.puB rfl (Ctx.bigSet h3).swap))
  | [], _ :: _, _, h => (Ctx.puF h.swap).1.elim
  | _ :: _, [], _, h => (Ctx.puF h.swap).1.elim
/-- .. the one that was looked at. -/
theorem Ctx.bigKeys : ∀ {lh : List (κ × List Value)} {lx : List (κ × β)} {l : List HP}, Ctx w (Big (VK U) lh lx :: l) → lh.map (·.1) = lx.map (·.1)
  | [], [], _, _ => rfl
  | p :: lh, q :: lx, l, h => by
    have h1 := Ctx.sepF h
    obtain ⟨e, h2⟩ := Ctx.puF (Ctx.sepF h1)
    simp only [List.map_cons, e, Ctx.bigKeys h2.drop]
  | [], _ :: _, _, h => (Ctx.puF h).1.elim
  | _ :: _, [], _, h => (Ctx.puF h).1.elim
theorem Ctx.bigBack {k : κ} {c c' : List Value} {y y' : β} : ∀ {lh : List (κ × List Value)} {lx : List (κ × β)} {l : List HP}, Ctx w (U.r c' y' :: Big (VK U) (mdel lh k) (mdel lx k) :: l) → lh.map (·.1) = lx.map (·.1) → mget lh k = some c → mget lx k = some y → Ctx w (Big (VK U) (mset lh k c') (mset lx k y') :: l)
  | [], _, l, h, _, hc, _ => by simp [mget] at hc
  | _, [], l, h, _, _, hy => by simp [mget] at hy
  | (k1, c1) :: lh, (k2, y2) :: lx, l, h, hK, hc, hy => by
    simp only [List.map_cons, List.cons.injEq] at hK
    obtain ⟨e, hK⟩ := hK
    subst e
    by_cases hk : k1 = k
    · subst hk
      simp only [mset, mdel, if_true] at h ⊢
      exact Ctx.sepB (Ctx.sepB (Ctx.puB rfl h))
    · simp only [mset, mdel, mget, hk, if_false] at h hc hy ⊢
      have h1 := Ctx.sepF1 h
      have h2 : Ctx w (U.r c' y' :: Big (VK U) (mdel lh k) (mdel lx k) :: VK U (k1, c1) (k1, y2) :: l) := h1.perm ((List.Perm.swap _ _ _).cons _)
      exact Ctx.sepB (Ctx.bigBack h2 hK hc hy).swap
theorem Ctx.bigDel {k : κ} : ∀ {lh : List (κ × List Value)} {lx : List (κ × β)} {l : List HP}, Ctx w (Big (VK U) lh lx :: l) → Ctx w (Big (VK U) (mdel lh k) (mdel lx k) :: l)
  | [], [], _, h => h
  | (k1, c1) :: lh, (k2, y2) :: lx, l, h => by
    have h1 := Ctx.sepF h
    obtain ⟨e, h2⟩ := Ctx.puF (Ctx.sepF h1)
    simp only at e; subst e
    by_cases hk : k1 = k
    · subst hk
      simp only [mdel, if_true]
      exact h2.drop
    · simp only [mdel, hk, if_false]
      exact Ctx.sepB (Ctx.bigDel h1.swap).swap
  | [], _ :: _, _, h => (Ctx.puF h).1.elim
  | _ :: _, [], _, h => (Ctx.puF h).1.elim
theorem mset_same {κ β : Type} [DecidableEq κ] {k : κ} {y : β} : ∀ {l : List (κ × β)}, mget l k = some y → mset l k y = l
  | [], h => by simp [mget] at h
  | (k1, y1) :: l, h => by
    by_cases hk : k1 = k
    · subst hk; simp [mget] at h; subst h; simp [mset]
    · simp only [mget, mset, hk, if_false] at h ⊢; rw [mset_same h]
/-- A map whose values own what they hold. -/
def MpV (ek : κ → Value) (vf : List Value → Value) (U : VP β m) (b : Nat) (lx : List (κ × β)) : HP := Ex fun lh => Sep (Mp ek (HV vf (pAny m)) b lh) (Big (VK U) lh lx)
variable {ek : κ → Value} {vf : List Value → Value} {b : Nat} {lx : List (κ × β)}
theorem Ctx.mpVF (h : Ctx w (MpV ek vf U b lx :: l)) : ∃ lh, lh.map (·.1) = lx.map (·.1) ∧ Ctx w (Mp ek (HV vf (pAny m)) b lh :: Big (VK U) lh lx :: l) := by
  obtain ⟨hs, h⟩ := Ctx.exF h
  have h2 := Ctx.sepF h
  exact ⟨hs, Ctx.bigKeys h2.drop, h2⟩
theorem Ctx.mpVB {lh : List (κ × List Value)} (h : Ctx w (Mp ek (HV vf (pAny m)) b lh :: Big (VK U) lh lx :: l)) : Ctx w (MpV ek vf U b lx :: l) := Ctx.exB (fun lh => Sep (Mp ek (HV vf (pAny m)) b lh) (Big (VK U) lh lx)) lh (Ctx.sepB h)
end
section
variable {κ β : Type} [DecidableEq κ] {ek : κ → Value} {P : Program} {ρ : Operand → Value} {dst : Option Nat} {ty : TypeId} {pos : String} {after : Array Edge} {g : Option (Nat × Bool)} {x y z : Operand} {hs : List HP} {i b : Nat} {t kt et : TypeId} {k : κ} {m : Nat} {vf : List Value → Value} {E : PR β m}
/-- A look-up of what is there, of cells of whatever form. -/
theorem Ctx.mpGetH {lh : List (κ × List Value)} {c : List Value} (ok : Bool) (K : KeyL P kt κ ek) (h : Ctx w hs) (hi : ltP hs i = true) (e : nthP hs i = Mp ek (HV vf (pAny m)) b lh) (ht : P.underlying t = some (.map kt et)) (hx : ρ x = .map (some b)) (hy : ρ y = ek k) (hg : mget lh k = some c) :
    (execOp ρ ⟨dst, .lookup t x y ok, ty, pos, after, g⟩).run P w = .ok (.value (if ok then .tuple #[vf c, .bool true] else vf c)) w := by
  obtain ⟨R, S, hS, _⟩ := h.at hi e
  obtain ⟨es, clock, Ss, hb, hE, _, _, _⟩ := hS
  have hf := K.find k es.toList (lh.map (·.1)) w hE.keys
  have hgo : (getObj b).run P w = .ok (.map es clock) w := by simp [getObj, Sem.run, hb]
  rcases hE.find k 0 with ⟨h1, h2, _, _⟩ | ⟨j, en, xx, S', h1, _, _, h4, _, h6, _, _⟩
  · rw [h2] at hg; cases hg
  · rw [h1] at hf
    rw [h4] at hg
    injection hg with hg
    subst hg
    obtain ⟨_, cs, hv, hr⟩ := h6
    rw [hr.1] at hv
    simp [execOp, Instr.lookup, run_underlying ht, hx, hy, hgo, K.chk, hf, hv]
theorem Ctx.mpGetHN {lh : List (κ × List Value)} {zv : Value} (ok : Bool) (K : KeyL P kt κ ek) (h : Ctx w hs) (hi : ltP hs i = true) (e : nthP hs i = Mp ek (HV vf (pAny m)) b lh) (ht : P.underlying t = some (.map kt et)) (hx : ρ x = .map (some b)) (hy : ρ y = ek k) (hz : ∀ w, (zeroValue et).run P w = .ok zv w) (hg : mget lh k = none) :
    (execOp ρ ⟨dst, .lookup t x y ok, ty, pos, after, g⟩).run P w = .ok (.value (if ok then .tuple #[zv, .bool false] else zv)) w := by
  obtain ⟨R, S, hS, _⟩ := h.at hi e
  obtain ⟨es, clock, Ss, hb, hE, _, _, _⟩ := hS
  have hf := K.find k es.toList (lh.map (·.1)) w hE.keys
  have hgo : (getObj b).run P w = .ok (.map es clock) w := by simp [getObj, Sem.run, hb]
  rcases hE.find k 0 with ⟨h1, h2, _, _⟩ | ⟨j, en, xx, S', h1, _, _, h4, _, h6, _, _⟩
  · rw [h1] at hf
    simp [execOp, Instr.lookup, run_underlying ht, hx, hy, hgo, K.chk, hf, hz]
  · rw [h4] at hg; cases hg
end
end
end Go.Hp
