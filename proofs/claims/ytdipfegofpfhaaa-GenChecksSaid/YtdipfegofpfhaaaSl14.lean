/- Bytes and texts: a row of bytes as a text, and a row of bytes marked as one that texts have. -/
import Derived.Test.YtdipfegofpfhaaaSl13
import Derived.Laws.BytesArg
namespace Go.Hp
open Go Go.RowKit
set_option linter.unusedVariables false
section
variable {P : Program} {w : World} {l : List HP} {ρ : Operand → Value} {dst : Option Nat} {ty : TypeId} {pos : String} {after : Array Edge} {g : Option (Nat × Bool)} {x : Operand} {S D e : TypeId} {xs : List Int} {a : Option Addr} {n q : Nat}
theorem strNil : strOfNums [] = ByteArray.empty := rfl
theorem Ctx.b2s {k : Nat} {Q : HP} (h : Ctx w l) (hk : ltP l k = true) (eQ : nthP l k = Q) (hP : Reads Q (pInt .u8) (.slice a n q) xs) (hx : ρ x = .slice a n q)
    (hs : P.underlying S = some (.slice e)) (he : P.underlying e = some (.int .u8)) (hd : P.underlying D = some .string) :
    (execOp ρ ⟨dst, .convert S D x, ty, pos, after, g⟩).run P w = .ok (.value (.string (strOfNums xs))) w := by
  obtain ⟨R, S', hp, _⟩ := h.at hk eQ
  obtain ⟨a', c', hv, hc', hr⟩ := hP.w w R S' hp
  injection hv with e1 e2 e3
  subst e1 e2 e3
  have main : (convert S D (.slice a xs.length q)).run P w = .ok (.string (strOfNums xs)) w := by
    cases xs with
    | nil =>
      cases a with
      | none => exact run_convert_bytes_nil w S e hs he _ _ D hd
      | some a =>
        rw [run_convert_bytes_string w S D e _ _ _ hs he hd, run_bytesToString w a _ _ [] (by simpa using run_loadCells_list (P := P) w a [] (fun j v hj => by simp at hj))]
        rfl
    | cons y ys =>
      obtain ⟨bb, oo, cs, rfl, _, h3, h4⟩ := hr 0 y rfl
      refine run_convert_bytes_arg (P := P) (w := w) S e hs he bb oo _ q (y :: ys) rfl (fun i hi => ?_) D hd
      obtain ⟨bb', oo', cs', e1, _, h3', h4'⟩ := hr i _ (List.getElem?_eq_getElem hi)
      injection e1 with e1
      injection e1 with e1 e2
      subst e1 e2
      have e4 : cs' = [.int .u8 (y :: ys)[i]] := h3'
      subst e4
      have := h4' 0 _ rfl
      rw [Nat.mul_one, Nat.add_zero] at this
      rw [this, List.getD_eq_getElem?_getD, List.getElem?_eq_getElem hi]
      rfl
  simp [execOp, hx, main, Result.andThen]
theorem cell_freeze (w : World) (a b : Addr) (n : Nat) : (w.freeze a n).cell? b = w.cell? b := by
  unfold World.freeze
  by_cases hn : n = 0
  · rw [if_pos hn]
  · rw [if_neg hn]
    unfold World.cell?
    simp only [Array.getElem?_modify]
    by_cases hb : a.block = b.block
    · rw [if_pos hb]
      cases hw : w.heap[b.block]? with
      | none => rfl
      | some o => cases o <;> rfl
    · rw [if_neg hb]
/-- '[]byte(b)' of bytes just made: the row is frozen. -/
theorem Ctx.cvB (h : Ctx w (Own (pInt .u8) e (.slice a n q) xs :: l)) (hx : ρ x = .slice a n q) (hs : P.underlying S = some (.slice e)) (he : P.underlying e = some (.int .u8)) (h0 : 0 < xs.length) :
    ∃ v' w', (execOp ρ ⟨dst, .convert S S x, ty, pos, after, g⟩).run P w = .ok (.value v') w' ∧ v' = .slice a n q ∧ Ctx w' (Hold (pRo (pInt .u8)) [.slice a n q] xs :: l) := by
  obtain ⟨R, Ss, hc⟩ := h
  obtain ⟨S1, S2, rfl, hh1, hh2⟩ := All.split (Ps := [Own (pInt .u8) e (.slice a n q) xs]) hc.all
  have hblk : ∃ gb cur, a = some ⟨gb, 0, none⟩ ∧ w.heap[gb]? = some (.cells cur e (0, 0)) := by
    match S1, hh1 with
    | [S0], hh1 =>
      obtain ⟨css, r1, r2, rfl⟩ := hh1.1
      rcases r2.2 with ⟨hv, hn⟩ | ⟨gb, cap, cur, hv, hb, hgg, hcap, hm, hs', ht⟩
      · omega
      · injection hv with e1 e2 e3
        exact ⟨gb, cur, e1, hgg⟩
  obtain ⟨gb, cur, rfl, hgg⟩ := hblk
  have hrun : (execOp ρ ⟨dst, .convert S S x, ty, pos, after, g⟩).run P w = .ok (.value (.slice (some ⟨gb, 0, none⟩) n q)) (w.freeze ⟨gb, cur.size, none⟩ 1) := by
    have hsh : w.shape? gb = some (e, cur.size) := by unfold World.shape?; rw [hgg]
    simp [execOp, hx, convert, run_underlying hs, run_underlying he, markStringish, hsh, Result.andThen, Sem.run_bind]
  refine ⟨_, _, hrun, rfl, ?_⟩
  refine CtxAt.upd (Ps := [Own (pInt .u8) e (.slice (some ⟨gb, 0, none⟩) n q) xs]) (Qs := [Hold (pRo (pInt .u8)) [.slice (some ⟨gb, 0, none⟩) n q] xs]) hc fun Ss hc => ?_
  match Ss, hc with
  | [S], hc =>
    obtain ⟨css, r1, r2, rfl⟩ := hc.all.1
    have hlt := r2.lt
    have hmem : ∀ b : Nat, b ∈ ((Value.slice (some ⟨gb, 0, none⟩) n q).ownBlock.toList) ↔ b = gb := by intro b; simp [Value.ownBlock]
    have hsz : (w.freeze ⟨gb, cur.size, none⟩ 1).heap.size = w.heap.size := by unfold World.freeze; rw [if_neg (by decide)]; simp
    have hother : ∀ b, b ≠ gb → (w.freeze ⟨gb, cur.size, none⟩ 1).heap[b]? = w.heap[b]? := by
      intro b hb
      unfold World.freeze
      rw [if_neg (by decide)]
      simp only [Array.getElem?_modify]
      rw [if_neg (fun h => hb h.symm)]
    have hglt : gb < w.heap.size := (Array.getElem?_eq_some_iff.1 hgg).1
    refine ⟨fun b => R b ∨ b = gb, [[]], ⟨⟨rfl, _, rfl, ?_⟩, trivial⟩, by simp, by simp, fun b hb => .inl hb, fun b hb => ?_, ?_⟩
    · rcases r2.2 with ⟨hv, hn⟩ | ⟨gb', cap, cur', hv, hb, hgg', hcap, _, hs', ht⟩
      · cases hv
      · injection hv with e1 e2 e3
        injection e1 with e1
        injection e1 with e1
        subst e1 e2 e3
        refine ⟨_, q, rfl, hcap, fun i y hy => ?_⟩
        obtain ⟨c, _, h3, h4⟩ := r1.get hy
        refine ⟨gb, 0, c, rfl, .inr rfl, h3, fun j u hu => ?_⟩
        have := r2.cells (g := gb) rfl _ _ (h4 j u hu)
        rw [Addr.add_lit, ← Nat.add_assoc] at this
        rw [cell_freeze]
        exact this
    · rcases hb with hb | rfl
      · exact ⟨.inl hb, by rw [hsz]; exact hc.fz b hb⟩
      · exact ⟨.inr (.inl (by simp [Value.ownBlock])), by rw [hsz]; exact hglt⟩
    · refine ⟨?_, ?_, ?_, by rw [hsz]; exact Nat.le_refl _, fun b hb => hother b fun h => hb.2 (by subst h; simp [Value.ownBlock])⟩ <;> (unfold World.freeze; rw [if_neg (by decide)])
end
section
variable {P : Program} {n : Nat} {Q : Qt} {l : Fm} {b : Nat → Value} {w : World} {ops : List Oper} {rest : List Oper} {op : Op} {ty : TypeId} {pos : String} {after : Array Edge} {g : Option (Nat × Bool)} {G : Nat → World → Prop} {bm : List Nat} {em xm i : Nat}
/-- A writing operation with a value that goes nowhere, in a region that draws its order. -/
theorem dvE {A : World → Prop} (h : ∃ v w', (execOp (ev n l b) ⟨none, op, ty, pos, after, g⟩).run P w = .ok (.value v) w' ∧ A w') (hw : want n ops l b ⟨none, op, ty, pos, after, g⟩ = true) (he : effB op = true)
    (k : ∀ w', A w' → FX bm em G i w' ∧ Rd P n ops bm em G xm Q (i + 1) rest l b w') : Rd P n ops bm em G xm Q i (⟨none, op, ty, pos, after, g⟩ :: rest) l b w := by
  obtain ⟨v, w', h1, h2⟩ := h
  exact ⟨.inr (.inl ⟨he, by rw [want_act]; exact hw, by rw [act_eval, h1]; exact ⟨G, Agree.rfl', (k w' h2).1, by rw [act_put]; exact (k w' h2).2.h⟩⟩)⟩
end
theorem kn {mods : List Nat} {t : Nat → Value} {l : Fm} {b : Nat → Value} (h : ∀ i, mods.contains i = false → look l b i = t i) : ∀ i, mods.contains i = false → look [] (look l b) i = t i := h
end Go.Hp
