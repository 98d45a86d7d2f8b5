/- What is owned, what is frozen, and how the rest of the heap stays: small laws over any program. -/
import Derived.Test.YtdipfegofpfhaaaOps2
namespace Go.Hp
open Go Go.RowKit
set_option linter.unusedVariables false

/-- The blocks of A are as they were. -/
structure Kp (A : Nat → Prop) (w w' : World) : Prop where
  os : w'.os = w.os
  tape : w'.tape = w.tape
  output : w'.output = w.output
  size : w.heap.size ≤ w'.heap.size
  block : ∀ b, A b → w'.heap[b]? = w.heap[b]?
theorem Kp.refl (A : Nat → Prop) (w : World) : Kp A w w := ⟨rfl, rfl, rfl, Nat.le_refl _, fun _ _ => rfl⟩
theorem Kp.mono {A B : Nat → Prop} {w w' : World} (h : Kp A w w') (k : ∀ b, B b → A b) : Kp B w w' := ⟨h.os, h.tape, h.output, h.size, fun b hb => h.block b (k b hb)⟩
theorem Kp.cell {A : Nat → Prop} {w w' : World} (h : Kp A w w') {a : Addr} (ha : A a.block) : w'.cell? a = w.cell? a := World.cell?_of_block (h.block _ ha)

/-- A part of the heap: in a world, with what is frozen, on just these blocks. -/
structure HP where
  p : World → (Nat → Prop) → List Nat → Prop
  st : ∀ {w w' : World} {R R' : Nat → Prop} {S : List Nat}, p w R S → Kp (fun b => b ∈ S ∨ R b) w w' → (∀ b, R b → R' b) → p w' R' S
/-- What m cells hold, by frozen blocks alone. -/
structure PR (α : Type) (m : Nat) where
  r : World → (Nat → Prop) → List Value → α → Prop
  st : ∀ {w w' : World} {R R' : Nat → Prop} {cs : List Value} {x : α}, r w R cs x → Kp R w w' → (∀ b, R b → R' b) → r w' R' cs x
  len : ∀ {w : World} {R : Nat → Prop} {cs : List Value} {x : α}, r w R cs x → cs.length = m
  one : ∀ {w : World} {R : Nat → Prop} {cs : List Value} {x : α}, r w R cs x → ∀ v ∈ cs, v.oneCell' = true

def All (w : World) (R : Nat → Prop) : List HP → List (List Nat) → Prop
  | [], [] => True
  | P :: Ps, S :: Ss => P.p w R S ∧ All w R Ps Ss
  | _, _ => False
structure CtxAt (w : World) (R : Nat → Prop) (Ps : List HP) (Ss : List (List Nat)) : Prop where
  all : All w R Ps Ss
  nodup : Ss.flatten.Nodup
  own : ∀ b ∈ Ss.flatten, b < w.heap.size ∧ ¬ R b
  fz : ∀ b, R b → b < w.heap.size
def Ctx (w : World) (Ps : List HP) : Prop := ∃ R Ss, CtxAt w R Ps Ss

theorem All.kept {w w' : World} {R R' : Nat → Prop} : ∀ {Ps : List HP} {Ss : List (List Nat)}, All w R Ps Ss → Kp (fun b => b ∈ Ss.flatten ∨ R b) w w' → (∀ b, R b → R' b) → All w' R' Ps Ss
  | [], [], _, _, _ => trivial
  | P :: Ps, S :: Ss, h, hk, hR => ⟨P.st h.1 (hk.mono (by intro b hb; rcases hb with h | h; exact .inl (by simp [h]); exact .inr h)) hR,
      All.kept h.2 (hk.mono (by intro b hb; rcases hb with h | h; exact .inl (by simp only [List.flatten_cons, List.mem_append]; exact .inr h); exact .inr h)) hR⟩
  | [], _ :: _, h, _, _ => h.elim
  | _ :: _, [], h, _, _ => h.elim
theorem All.split {w : World} {R : Nat → Prop} : ∀ {Ps Qs : List HP} {Ss : List (List Nat)}, All w R (Ps ++ Qs) Ss → ∃ S1 S2, Ss = S1 ++ S2 ∧ All w R Ps S1 ∧ All w R Qs S2
  | [], Qs, Ss, h => ⟨[], Ss, rfl, trivial, h⟩
  | P :: Ps, Qs, [], h => h.elim
  | P :: Ps, Qs, S :: Ss, h => by
    obtain ⟨S1, S2, rfl, h1, h2⟩ := All.split (Ps := Ps) h.2
    exact ⟨S :: S1, S2, rfl, ⟨h.1, h1⟩, h2⟩
theorem All.join {w : World} {R : Nat → Prop} {Qs : List HP} {S2 : List (List Nat)} : ∀ {Ps : List HP} {S1 : List (List Nat)}, All w R Ps S1 → All w R Qs S2 → All w R (Ps ++ Qs) (S1 ++ S2)
  | [], [], _, h2 => h2
  | P :: Ps, S :: S1, h, h2 => ⟨h.1, All.join h.2 h2⟩
  | [], _ :: _, h, _ => h.elim
  | _ :: _, [], h, _ => h.elim
theorem CtxAt.perm {w : World} {R : Nat → Prop} {l l' : List HP} {Ss : List (List Nat)} (hp : l.Perm l') (hc : CtxAt w R l Ss) : ∃ Ss', CtxAt w R l' Ss' := by
  have key : ∀ {Ss : List (List Nat)}, All w R l Ss → ∃ Ss', All w R l' Ss' ∧ Ss.Perm Ss' := by
    clear hc
    induction hp with
    | nil => intro Ss h; exact ⟨Ss, h, .refl _⟩
    | cons x _ ih =>
      intro Ss h
      cases Ss with
      | nil => exact h.elim
      | cons S Ss => obtain ⟨Ss', h1, h2⟩ := ih h.2; exact ⟨S :: Ss', ⟨h.1, h1⟩, h2.cons _⟩
    | swap x y l =>
      intro Ss h
      match Ss, h with
      | S :: T :: Ss, h => exact ⟨T :: S :: Ss, ⟨h.2.1, h.1, h.2.2⟩, .swap _ _ _⟩
    | trans _ _ ih1 ih2 =>
      intro Ss h
      obtain ⟨S1, h1, p1⟩ := ih1 h
      obtain ⟨S2, h2, p2⟩ := ih2 h1
      exact ⟨S2, h2, p1.trans p2⟩
  obtain ⟨Ss', h1, h2⟩ := key hc.all
  have hf : Ss.flatten.Perm Ss'.flatten := h2.flatten
  exact ⟨Ss', h1, hf.nodup_iff.1 hc.nodup, fun b hb => hc.own b (hf.mem_iff.2 hb), hc.fz⟩
theorem Ctx.perm {w : World} {l l' : List HP} (hp : l.Perm l') (h : Ctx w l) : Ctx w l' := by
  obtain ⟨R, Ss, hc⟩ := h
  exact ⟨R, hc.perm hp⟩
/-- The k-th, and what is left. -/
def nthP : List HP → Nat → HP
  | [], _ => ⟨fun _ _ S => S = [], fun h _ _ => h⟩
  | P :: _, 0 => P
  | _ :: l, k + 1 => nthP l k
def setP : List HP → Nat → HP → List HP
  | [], _, _ => []
  | _ :: l, 0, Q => Q :: l
  | P :: l, k + 1, Q => P :: setP l k Q
def remP : List HP → Nat → List HP
  | [], _ => []
  | _ :: l, 0 => l
  | P :: l, k + 1 => P :: remP l k
def ltP : List HP → Nat → Bool
  | [], _ => false
  | _ :: _, 0 => true
  | _ :: l, k + 1 => ltP l k
theorem perm_nth : ∀ {l : List HP} {k : Nat}, ltP l k = true → l.Perm (nthP l k :: remP l k)
  | [], _, h => by cases h
  | P :: l, 0, _ => .refl _
  | P :: l, k + 1, h => ((perm_nth (l := l) h).cons P).trans (.swap _ _ _)
theorem perm_set : ∀ {l : List HP} {k : Nat} {Q : HP}, ltP l k = true → (Q :: remP l k).Perm (setP l k Q)
  | [], _, _, h => by cases h
  | P :: l, 0, _, _ => .refl _
  | P :: l, k + 1, Q, h => (List.Perm.swap _ _ _).trans ((perm_set (l := l) (Q := Q) h).cons P)
theorem Ctx.pull {w : World} {l : List HP} (k : Nat) (h : Ctx w l) (hk : ltP l k = true) {l' : List HP} (e : nthP l k :: remP l k = l') : Ctx w l' := e ▸ h.perm (perm_nth hk)
theorem Ctx.drop {w : World} {P : HP} {l : List HP} (h : Ctx w (P :: l)) : Ctx w l := by
  obtain ⟨R, Ss, hc⟩ := h
  match Ss, hc with
  | S :: Ss, hc => exact ⟨R, Ss, hc.all.2, (List.nodup_append.1 (by simpa using hc.nodup)).2.1, fun b hb => hc.own b (by simp only [List.flatten_cons, List.mem_append]; exact .inr hb), hc.fz⟩
theorem Ctx.rem {w : World} {l : List HP} (k : Nat) (h : Ctx w l) (hk : ltP l k = true) {l' : List HP} (e : remP l k = l') : Ctx w l' := e ▸ (h.perm (perm_nth hk)).drop
theorem Ctx.get {w : World} {P : HP} {l : List HP} (h : Ctx w (P :: l)) : ∃ R S, P.p w R S ∧ (∀ b ∈ S, b < w.heap.size ∧ ¬ R b) ∧ (∀ b, R b → b < w.heap.size) := by
  obtain ⟨R, Ss, hc⟩ := h
  match Ss, hc with
  | S :: Ss, hc => exact ⟨R, S, hc.all.1, fun b hb => hc.own b (by simp [hb]), hc.fz⟩
theorem Ctx.at {w : World} {l : List HP} (h : Ctx w l) {k : Nat} (hk : ltP l k = true) {P : HP} (e : nthP l k = P) : ∃ R S, P.p w R S ∧ (∀ b ∈ S, b < w.heap.size ∧ ¬ R b) ∧ (∀ b, R b → b < w.heap.size) := by
  have := h.perm (perm_nth hk)
  rw [e] at this
  exact this.get
theorem CtxAt.nth {w : World} {R : Nat → Prop} : ∀ {l : List HP} {Ss : List (List Nat)} {k : Nat}, All w R l Ss → ltP l k = true → ∃ S, (nthP l k).p w R S
  | [], _, _, _, h => by cases h
  | P :: l, S :: Ss, 0, h, _ => ⟨S, h.1⟩
  | P :: l, S :: Ss, k + 1, h, hk => CtxAt.nth (l := l) h.2 hk
  | _ :: _, [], _, h, _ => h.elim
/-- The world turns on the blocks of the first ones alone, and on new ones. -/
theorem CtxAt.upd {w w' : World} {R : Nat → Prop} {Ps Qs Fr : List HP} {Ss0 : List (List Nat)} (hc : CtxAt w R (Ps ++ Fr) Ss0)
    (k : ∀ Ss, CtxAt w R Ps Ss → ∃ R' Ts, All w' R' Qs Ts ∧ Ts.flatten.Nodup ∧ (∀ b ∈ Ts.flatten, (b ∈ Ss.flatten ∨ w.heap.size ≤ b) ∧ b < w'.heap.size ∧ ¬ R' b) ∧ (∀ b, R b → R' b) ∧
      (∀ b, R' b → (R b ∨ b ∈ Ss.flatten ∨ w.heap.size ≤ b) ∧ b < w'.heap.size) ∧ Kp (fun b => b < w.heap.size ∧ b ∉ Ss.flatten) w w') : Ctx w' (Qs ++ Fr) := by
  obtain ⟨S1, S2, rfl, h1, h2⟩ := All.split hc.all
  have hn := hc.nodup
  rw [List.flatten_append, List.nodup_append] at hn
  obtain ⟨n1, n2, n12⟩ := hn
  obtain ⟨R', Ts, ha, hnt, hto, hR, hR', hk⟩ := k S1 ⟨h1, n1, fun b hb => hc.own b (by rw [List.flatten_append]; exact List.mem_append_left _ hb), hc.fz⟩
  have hs2 : ∀ b ∈ S2.flatten, b < w.heap.size ∧ b ∉ S1.flatten ∧ ¬ R b := fun b hb => by
    have := hc.own b (by rw [List.flatten_append]; exact List.mem_append_right _ hb)
    exact ⟨this.1, fun hx => n12 b hx b hb rfl, this.2⟩
  refine ⟨R', Ts ++ S2, ha.join (h2.kept (hk.mono ?_) hR), ?_, ?_, fun b hb => (hR' b hb).2⟩
  · intro b hb
    rcases hb with hb | hb
    · exact ⟨(hs2 b hb).1, (hs2 b hb).2.1⟩
    · refine ⟨hc.fz b hb, fun hx => (hc.own b (by rw [List.flatten_append]; exact List.mem_append_left _ hx)).2 hb⟩
  · rw [List.flatten_append, List.nodup_append]
    refine ⟨hnt, n2, fun a ha' b hb e => ?_⟩
    subst e
    rcases (hto a ha').1 with hx | hx
    · exact (hs2 a hb).2.1 hx
    · have := (hs2 a hb).1; omega
  · intro b hb
    rw [List.flatten_append, List.mem_append] at hb
    rcases hb with hb | hb
    · exact ⟨(hto b hb).2.1, (hto b hb).2.2⟩
    · refine ⟨Nat.lt_of_lt_of_le (hs2 b hb).1 hk.size, fun hx => ?_⟩
      rcases (hR' b hx).1 with h' | h' | h'
      · exact (hs2 b hb).2.2 h'
      · exact (hs2 b hb).2.1 h'
      · have := (hs2 b hb).1; omega
theorem Ctx.upd {w w' : World} {Ps Qs Fr : List HP} (h : Ctx w (Ps ++ Fr))
    (k : ∀ R Ss, CtxAt w R Ps Ss → ∃ R' Ts, All w' R' Qs Ts ∧ Ts.flatten.Nodup ∧ (∀ b ∈ Ts.flatten, (b ∈ Ss.flatten ∨ w.heap.size ≤ b) ∧ b < w'.heap.size ∧ ¬ R' b) ∧ (∀ b, R b → R' b) ∧
      (∀ b, R' b → (R b ∨ b ∈ Ss.flatten ∨ w.heap.size ≤ b) ∧ b < w'.heap.size) ∧ Kp (fun b => b < w.heap.size ∧ b ∉ Ss.flatten) w w') : Ctx w' (Qs ++ Fr) := by
  obtain ⟨R, Ss, hc⟩ := h
  exact hc.upd (k R)
/-- .. of the k-th one, on its own blocks and new ones, with a look at all. -/
theorem Ctx.updK {w w' : World} {l : List HP} (h : Ctx w l) {k : Nat} (hk : ltP l k = true) (Q : HP)
    (hu : ∀ R Ss S, CtxAt w R l Ss → (nthP l k).p w R S → (∀ b ∈ S, b < w.heap.size ∧ ¬ R b) → S.Nodup → ∃ S', Q.p w' R S' ∧ S'.Nodup ∧ (∀ b ∈ S', (b ∈ S ∨ w.heap.size ≤ b) ∧ b < w'.heap.size) ∧ Kp (fun b => b < w.heap.size ∧ b ∉ S) w w') {l' : List HP} (e : setP l k Q = l') : Ctx w' l' := by
  subst e
  refine Ctx.perm (perm_set hk) ?_
  obtain ⟨R, Ss, hc⟩ := h
  obtain ⟨Ss', hc'⟩ := hc.perm (perm_nth hk)
  refine CtxAt.upd (Ps := [nthP l k]) (Qs := [Q]) hc' fun T hT => ?_
  match T, hT with
  | [S], hT =>
    obtain ⟨S', hq, hn, hs, hkp⟩ := hu R Ss S hc hT.all.1 (fun b hb => hT.own b (by simp [hb])) (by simpa using hT.nodup)
    refine ⟨R, [S'], ⟨hq, trivial⟩, by simpa using hn, fun b hb => ?_, fun b hb => hb, fun b hb => ⟨.inl hb, Nat.lt_of_lt_of_le (hT.fz b hb) hkp.size⟩, by simpa using hkp⟩
    have hb' : b ∈ S' := by simpa using hb
    refine ⟨by simpa using (hs b hb').1, (hs b hb').2, fun hr => ?_⟩
    rcases (hs b hb').1 with hx | hx
    · exact (hT.own b (by simpa using hx)).2 hr
    · have := hT.fz b hr; omega
  | [], hT => exact hT.all.elim
  | _ :: _ :: _, hT => exact hT.all.2.elim
/-- .. of the k-th one, on its own blocks. -/
theorem Ctx.upd1 {w w' : World} {l : List HP} (h : Ctx w l) {k : Nat} (hk : ltP l k = true) (Q : HP)
    (hu : ∀ R S, (nthP l k).p w R S → (∀ b ∈ S, b < w.heap.size ∧ ¬ R b) → Q.p w' R S ∧ Kp (fun b => b < w.heap.size ∧ b ∉ S) w w') {l' : List HP} (e : setP l k Q = l') : Ctx w' l' := by
  subst e
  refine Ctx.perm (perm_set hk) ?_
  have h1 := h.perm (perm_nth hk)
  refine Ctx.upd (Ps := [nthP l k]) (Qs := [Q]) h1 fun R Ss hc => ?_
  match Ss, hc with
  | [S], hc =>
    have hS := hc.all.1
    obtain ⟨hq, hkp⟩ := hu R S hS (fun b hb => hc.own b (by simp [hb]))
    refine ⟨R, [S], ⟨hq, trivial⟩, hc.nodup, fun b hb => ?_, fun b hb => hb, fun b hb => ⟨.inl hb, Nat.lt_of_lt_of_le (hc.fz b hb) hkp.size⟩, by simpa using hkp⟩
    have := hc.own b hb
    exact ⟨.inl hb, Nat.lt_of_lt_of_le this.1 hkp.size, this.2⟩
  | [], hc => exact hc.all.elim
  | _ :: _ :: _, hc => exact hc.all.2.elim
/-- One that looks alike. -/
theorem Ctx.conv {w : World} {l : List HP} (h : Ctx w l) {k : Nat} (hk : ltP l k = true) (Q : HP) (hu : ∀ R S, (nthP l k).p w R S → Q.p w R S) {l' : List HP} (e : setP l k Q = l') : Ctx w l' :=
  h.upd1 hk Q (fun R S hp _ => ⟨hu R S hp, Kp.refl _ _⟩) e
/-- The whole world turns only where nothing is looked at. -/
theorem Ctx.drew {w : World} {l : List HP} (h : Ctx w l) : Ctx w.drew l := by
  obtain ⟨R, Ss, hc⟩ := h
  exact ⟨R, Ss, hc.all.kept ⟨rfl, rfl, rfl, Nat.le_refl _, fun _ _ => rfl⟩ (fun _ h => h), hc.nodup, hc.own, hc.fz⟩
/-- A new part, on a new block. -/
theorem Ctx.new {w : World} {l : List HP} (h : Ctx w l) (o : Obj) (Q : HP) (hq : ∀ R, Q.p (w.alloc o) R [w.heap.size]) : Ctx (w.alloc o) (Q :: l) := by
  refine Ctx.upd (Ps := []) (Qs := [Q]) (Fr := l) h fun R Ss hc => ?_
  match Ss, hc with
  | [], hc =>
    refine ⟨R, [[w.heap.size]], ⟨hq R, trivial⟩, by simp, fun b hb => ?_, fun b hb => hb, fun b hb => ⟨.inl hb, by have := hc.fz b hb; simp; omega⟩, ⟨rfl, rfl, rfl, by simp, fun b hb => Below.heap_alloc _ _ _ hb.1⟩⟩
    simp at hb
    subst hb
    refine ⟨.inr (Nat.le_refl _), by simp, fun hr => ?_⟩
    have := hc.fz _ hr
    omega
  | _ :: _, hc => exact hc.all.elim
/-- A part without blocks of its own. -/
theorem Ctx.add {w : World} {l : List HP} (h : Ctx w l) (Q : HP) (hq : ∀ R Ss, CtxAt w R l Ss → Q.p w R []) : Ctx w (Q :: l) := by
  obtain ⟨R, Ss, hc⟩ := h
  exact ⟨R, [] :: Ss, ⟨hq R Ss hc, hc.all⟩, by simpa using hc.nodup, by simpa using hc.own, hc.fz⟩

-- parts of parts
def Sep (P Q : HP) : HP := ⟨fun w R S => ∃ S1 S2, S = S1 ++ S2 ∧ P.p w R S1 ∧ Q.p w R S2, fun ⟨S1, S2, e, h1, h2⟩ hk hR => by
  subst e
  exact ⟨S1, S2, rfl, P.st h1 (hk.mono (by intro b hb; rcases hb with h | h; exact .inl (List.mem_append_left _ h); exact .inr h)) hR, Q.st h2 (hk.mono (by intro b hb; rcases hb with h | h; exact .inl (List.mem_append_right _ h); exact .inr h)) hR⟩⟩
def Ex {β : Type} (f : β → HP) : HP := ⟨fun w R S => ∃ b, (f b).p w R S, fun ⟨b, h⟩ hk hR => ⟨b, (f b).st h hk hR⟩⟩
def Pu (φ : Prop) : HP := ⟨fun _ _ S => S = [] ∧ φ, fun h _ _ => h⟩
def Hold {α : Type} {m : Nat} (E : PR α m) (cs : List Value) (x : α) : HP := ⟨fun w R S => S = [] ∧ E.r w R cs x, fun h hk hR => ⟨h.1, E.st h.2 (hk.mono fun b hb => .inr hb) hR⟩⟩
def B (b : Nat) (cs : List Value) (T : TypeId) : HP := ⟨fun w _ S => S = [b] ∧ Blk w b cs T, fun h hk _ => ⟨h.1, by have := hk.block b (.inl (by simp [h.1])); unfold Blk at *; rw [this]; exact h.2⟩⟩
/-- What was there before stays, frozen. -/
def Old (w0 : World) : HP := ⟨fun w R S => S = [] ∧ w.os = w0.os ∧ w.tape = w0.tape ∧ w.output = w0.output ∧ w0.heap.size ≤ w.heap.size ∧ ∀ b, b < w0.heap.size → R b ∧ w.heap[b]? = w0.heap[b]?,
  fun h hk hR => ⟨h.1, hk.os.trans h.2.1, hk.tape.trans h.2.2.1, hk.output.trans h.2.2.2.1, Nat.le_trans h.2.2.2.2.1 hk.size, fun b hb => ⟨hR b (h.2.2.2.2.2 b hb).1, (hk.block b (.inr (h.2.2.2.2.2 b hb).1)).trans (h.2.2.2.2.2 b hb).2⟩⟩⟩
theorem Ctx.only {w0 w : World} {l : List HP} (h : Ctx w l) {k : Nat} (hk : ltP l k = true) (e : nthP l k = Old w0) : Only [] w0 w := by
  obtain ⟨R, S, ⟨_, h1, h2, h3, h4, h5⟩, _⟩ := h.at hk e
  exact ⟨h1, h2, h3, h4, fun b hb _ => (h5 b hb).2⟩
theorem Ctx.start (w : World) : Ctx w [Old w] := ⟨fun b => b < w.heap.size, [[]], ⟨⟨rfl, rfl, rfl, rfl, Nat.le_refl _, fun b hb => ⟨hb, rfl⟩⟩, trivial⟩, by simp, by simp, fun _ h => h⟩
theorem Ctx.sepF {w : World} {P Q : HP} {l : List HP} (h : Ctx w (Sep P Q :: l)) : Ctx w (P :: Q :: l) := by
  obtain ⟨R, Ss, hc⟩ := h
  match Ss, hc with
  | S :: Ss, hc =>
    obtain ⟨⟨S1, S2, rfl, h1, h2⟩, h3⟩ := hc.all
    exact ⟨R, S1 :: S2 :: Ss, ⟨h1, h2, h3⟩, by simpa using hc.nodup, by simpa using hc.own, hc.fz⟩
theorem Ctx.sepB {w : World} {P Q : HP} {l : List HP} (h : Ctx w (P :: Q :: l)) : Ctx w (Sep P Q :: l) := by
  obtain ⟨R, Ss, hc⟩ := h
  match Ss, hc with
  | S1 :: S2 :: Ss, hc =>
    obtain ⟨h1, h2, h3⟩ := hc.all
    exact ⟨R, (S1 ++ S2) :: Ss, ⟨⟨S1, S2, rfl, h1, h2⟩, h3⟩, by simpa using hc.nodup, by simpa using hc.own, hc.fz⟩
  | [], hc => exact hc.all.elim
  | [_], hc => exact hc.all.2.elim
theorem Ctx.exF {w : World} {β : Type} {f : β → HP} {l : List HP} (h : Ctx w (Ex f :: l)) : ∃ b, Ctx w (f b :: l) := by
  obtain ⟨R, Ss, hc⟩ := h
  match Ss, hc with
  | S :: Ss, hc =>
    obtain ⟨⟨b, h1⟩, h3⟩ := hc.all
    exact ⟨b, R, S :: Ss, ⟨h1, h3⟩, hc.nodup, hc.own, hc.fz⟩
theorem Ctx.exB {w : World} {β : Type} (f : β → HP) (b : β) {l : List HP} (h : Ctx w (f b :: l)) : Ctx w (Ex f :: l) := by
  obtain ⟨R, Ss, hc⟩ := h
  match Ss, hc with
  | S :: Ss, hc => exact ⟨R, S :: Ss, ⟨⟨b, hc.all.1⟩, hc.all.2⟩, hc.nodup, hc.own, hc.fz⟩
theorem Ctx.puF {w : World} {φ : Prop} {l : List HP} (h : Ctx w (Pu φ :: l)) : φ ∧ Ctx w l := by
  refine ⟨?_, h.drop⟩
  obtain ⟨R, S, hp, _⟩ := h.get
  exact hp.2
theorem Ctx.puB {w : World} {φ : Prop} {l : List HP} (hφ : φ) (h : Ctx w l) : Ctx w (Pu φ :: l) := h.add _ fun _ _ _ => ⟨rfl, hφ⟩
theorem Ctx.dup {w : World} {α : Type} {m : Nat} {E : PR α m} {cs : List Value} {x : α} {l : List HP} (h : Ctx w l) {k : Nat} (hk : ltP l k = true) (e : nthP l k = Hold E cs x) : Ctx w (Hold E cs x :: l) := by
  have h1 := h.perm (perm_nth hk)
  rw [e] at h1
  obtain ⟨R, Ss, hc⟩ := h1
  match Ss, hc with
  | S :: Ss, hc =>
    obtain ⟨rfl, hr⟩ := hc.all.1
    have : Ctx w (Hold E cs x :: Hold E cs x :: remP l k) := ⟨R, [] :: [] :: Ss, ⟨⟨rfl, hr⟩, ⟨rfl, hr⟩, hc.all.2⟩, by simpa using hc.nodup, by simpa using hc.own, hc.fz⟩
    rw [← e] at this
    have h2 := this.perm ((perm_nth hk).symm.cons _)
    rwa [e] at h2
theorem Ctx.cell {w : World} {l : List HP} (h : Ctx w l) {k b : Nat} {cs : List Value} {T : TypeId} (hk : ltP l k = true) (e : nthP l k = B b cs T) {i : Nat} {v : Value} (hi : cs[i]? = some v) : w.cell? ⟨b, i, none⟩ = some v := by
  obtain ⟨R, S, hp, _⟩ := h.at hk e
  exact hp.2.cell hi
theorem Ctx.blk {w : World} {l : List HP} (h : Ctx w l) {k b : Nat} {cs : List Value} {T : TypeId} (hk : ltP l k = true) (e : nthP l k = B b cs T) : Blk w b cs T := by
  obtain ⟨R, S, hp, _⟩ := h.at hk e
  exact hp.2
theorem Ctx.put {w : World} {l : List HP} (h : Ctx w l) {k b : Nat} {cs : List Value} {T : TypeId} (hk : ltP l k = true) (e : nthP l k = B b cs T) (i : Nat) (v : Value) {cs' : List Value} (hcs : cs.set i v = cs') {l' : List HP} (el : setP l k (B b cs' T) = l') : Ctx (w.setCell ⟨b, i, none⟩ v) l' := by
  subst hcs
  refine h.upd1 hk _ (fun R S hp _ => ?_) el
  rw [e] at hp
  obtain ⟨rfl, hb⟩ := hp
  exact ⟨⟨rfl, hb.set i v⟩, ⟨rfl, rfl, rfl, by simp [World.setCell], fun b' hb' => Below.heap_setCell _ _ _ _ (by simpa using hb'.2)⟩⟩
theorem Ctx.putRow {w : World} {l : List HP} (h : Ctx w l) {k b : Nat} {cs : List Value} {T : TypeId} (hk : ltP l k = true) (e : nthP l k = B b cs T) (vs : List Value) {l' : List HP} (el : setP l k (B b vs T) = l') : Ctx (w.setRow b vs.toArray) l' := by
  refine h.upd1 hk _ (fun R S hp _ => ?_) el
  rw [e] at hp
  obtain ⟨rfl, hb⟩ := hp
  refine ⟨⟨rfl, hb.setRow vs⟩, ⟨rfl, rfl, rfl, by simp [World.setRow], fun b' hb' => ?_⟩⟩
  have : b' ≠ b := by simpa using hb'.2
  simp only [World.setRow, Array.getElem?_modify]
  rw [if_neg (fun e => this e.symm)]
theorem Ctx.box {w : World} {l : List HP} (h : Ctx w l) (cs : List Value) (T : TypeId) : Ctx (w.alloc (.cells cs.toArray T)) (B w.heap.size cs T :: l) := h.new _ _ fun R => ⟨rfl, Blk.new w cs.toArray T⟩
end Go.Hp
