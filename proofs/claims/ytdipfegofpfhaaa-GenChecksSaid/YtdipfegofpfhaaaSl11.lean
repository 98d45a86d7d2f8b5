/- Operations on rows and maps whose elements own what they hold: small laws over any program. -/
import Derived.Test.YtdipfegofpfhaaaSl10
namespace Go.Hp
open Go Go.RowKit
set_option linter.unusedVariables false
set_option linter.unusedSimpArgs false
set_option linter.unusedSectionVars false
/-- A row whose elements own, in a cell. -/
def vOwnV {α : Type} {m : Nat} (U : VP α m) (T : TypeId) : VP (List α) 1 := ⟨fun cs xs => Ex fun v => Sep (Pu (cs = [v] ∧ v.oneCell' = true)) (OwnV U T v xs),
  fun ⟨b, S1, S2, _, ⟨_, h, _⟩, _⟩ => by rw [h]; rfl, fun ⟨b, S1, S2, _, ⟨_, h, h1⟩, h2⟩ v hv => by rw [h, List.mem_singleton] at hv; rw [hv]; exact h1⟩
def vMp {κ β : Type} [DecidableEq κ] (ek : κ → Value) (V : Value → β → HP) : VP (List (κ × β)) 1 := ⟨fun cs xs => Ex fun b => Sep (Pu (cs = [.map (some b)])) (Mp ek V b xs),
  fun ⟨b, S1, S2, _, ⟨_, h⟩, _⟩ => by rw [h]; rfl, fun ⟨b, S1, S2, _, ⟨_, h⟩, h2⟩ v hv => by rw [h, List.mem_singleton] at hv; rw [hv]; rfl⟩
def vMpV {κ β : Type} [DecidableEq κ] {m : Nat} (ek : κ → Value) (vf : List Value → Value) (U : VP β m) : VP (List (κ × β)) 1 := ⟨fun cs xs => Ex fun b => Sep (Pu (cs = [.map (some b)])) (MpV ek vf U b xs),
  fun ⟨b, S1, S2, _, ⟨_, h⟩, _⟩ => by rw [h]; rfl, fun ⟨b, S1, S2, _, ⟨_, h⟩, h2⟩ v hv => by rw [h, List.mem_singleton] at hv; rw [hv]; rfl⟩
theorem pAny_put {m : Nat} {z z' : List Value} {j : Nat} {u : Value} (hz : z.set j u = z') (hu : u.oneCell' = true) (w : World) (R : Nat → Prop) (cs : List Value) (h : (pAny m).r w R cs z) : (pAny m).r w R (cs.set j u) z' := by
  obtain ⟨rfl, h1, h2⟩ := h
  subst hz
  exact ⟨rfl, by simpa using h1, fun v hv => by rcases List.mem_or_eq_of_mem_set hv with h | h; exact h2 v h; rw [h]; exact hu⟩
theorem idx_set {α : Type} {xs : List α} {i : Int} {a : α} (h : idx xs i = some a) (a' : α) : idx (xs.set i.toNat a') i = some a' := by
  obtain ⟨h0, h1, h2⟩ := idx_some h
  unfold idx
  rw [if_pos h0, List.getElem?_set_self (by omega)]
theorem eraseIdx_set_same {α : Type} (a : α) : ∀ (xs : List α) (i : Nat), (xs.set i a).eraseIdx i = xs.eraseIdx i
  | [], _ => rfl
  | _ :: _, 0 => rfl
  | x :: xs, i + 1 => by simp only [List.set_cons_succ, List.eraseIdx_cons_succ, eraseIdx_set_same a xs i]
theorem bigH_set {σ τ : Type} {V : σ → τ → HP} {hs : List σ} {bs : List τ} {i : Int} (a : σ) : BigH V (hs.set i.toNat a) bs i = BigH V hs bs i := by unfold BigH; rw [eraseIdx_set_same]
section
variable {w : World} {l : List HP}
theorem vOwn_nil {α : Type} {m : Nat} {E : PR α m} {T : TypeId} (w : World) (R : Nat → Prop) : ((vOwn E T).r [.slice none 0 0] []).p w R [] := ⟨.slice none 0 0, [], [], rfl, ⟨rfl, rfl⟩, [], trivial, World.ownsRow_nil _ _ _ _, rfl⟩
theorem Ctx.anyB {m : Nat} (cs : List Value) (hl : Nat.beq cs.length m = true) (h1 : cs.all (·.oneCell') = true) (h : Ctx w l) : Ctx w (Hold (pAny m) cs cs :: l) := h.add _ fun _ _ _ => ⟨rfl, rfl, by simpa using hl, fun v hv => List.all_eq_true.1 h1 v hv⟩
theorem Ctx.anyF {m : Nat} {cs x : List Value} (h : Ctx w (Hold (pAny m) cs x :: l)) : cs = x ∧ Ctx w l := by
  refine ⟨?_, h.drop⟩
  obtain ⟨R, S, hp, _⟩ := h.get
  exact hp.2.1
/-- The opened one's cells. -/
theorem Ctx.rdAny {m : Nat} {k : Nat} {T : TypeId} {hs : List (List Value)} {bb oo n c : Nat} (h : Ctx w l) (hk : ltP l k = true) (e : nthP l k = Own (pAny m) T (.slice (some ⟨bb, oo, none⟩) n c) hs) {i : Int} {x : List Value} (hx : idx hs i = some x) :
    ∀ (j : Nat) u, x[j]? = some u → w.cell? ⟨bb, oo + i.toNat * m + j, none⟩ = some u := by
  obtain ⟨cs, h1, h2⟩ := Ctx.rdCell h hk e reads_own hx
  obtain ⟨rfl, _⟩ := Ctx.anyF h1
  exact h2
section
variable {α : Type} {m : Nat} {U : VP α m} {T : TypeId} {v u : Value} {xs ys : List α}
theorem Ctx.ownV1 {c : List Value} {x : α} (h : Ctx w (Own (pAny m) T v [c] :: U.r c x :: l)) : Ctx w (OwnV U T v [x] :: l) :=
  Ctx.ownVB ((Ctx.bigCons (Ctx.bigNil U.r h.swap |>.perm (((List.Perm.swap _ _ _).trans ((List.Perm.refl _))))  )).swap)
variable {P : Program} {ρ : Operand → Value} {dst : Option Nat} {ty : TypeId} {pos : String} {after : Array Edge} {g : Option (Nat × Bool)} {x y z : Operand} {t : TypeId}
/-- 'append(xs, ys...)', of rows whose elements own: the second one is gone. -/
theorem Ctx.appendV (h : Ctx w (OwnV U T v xs :: OwnV U T u ys :: l)) {i : TypeInfo} {zv : Value} (ht : P.underlying t = some (.slice T)) (hi : P.info? T = some i) (hz : i.zero = some zv) (hsize : i.size = m) (hby : Nat.ble i.bytes 32768 = true) (hzs : zv.cells.size = m) (hsz : Nat.blt 0 m = true)
    (hx : ρ x = v) (hy : ρ y = u) (hg : xs.length + ys.length ≤ 4294967296) :
    ∃ v' w', (execOp ρ ⟨dst, .call ⟨.builtin .append, #[x, y], #[t, t]⟩, ty, pos, after, g⟩).run P w = .ok (.value v') w' ∧ ∃ a c, v' = .slice a (xs ++ ys).length c ∧ Ctx w' (OwnV U T v' (xs ++ ys) :: l) := by
  obtain ⟨h1, l1, hc⟩ := Ctx.ownVF h
  have hc2 : Ctx w (OwnV U T u ys :: Own (pAny m) T v h1 :: Big U.r h1 xs :: l) := hc.pull 2 rfl rfl
  obtain ⟨h2, l2, hc3⟩ := Ctx.ownVF hc2
  obtain ⟨v', w', hr, a, c, hv, hc4⟩ := Ctx.append (dst := dst) (ty := ty) (pos := pos) (after := after) (g := g) hc3 (k := 2) rfl rfl (k2 := 0) rfl rfl reads_own ht hi hz hsize hby hzs hsz hx hy (by omega)
  refine ⟨v', w', hr, a, c, by rw [hv]; simp [l1, l2], ?_⟩
  have hc5 : Ctx w' (Big U.r h2 ys :: Own (pAny m) T v' (h1 ++ h2) :: Big U.r h1 xs :: l) := hc4.drop
  have hc6 : Ctx w' (Big U.r h1 xs :: Big U.r h2 ys :: Own (pAny m) T v' (h1 ++ h2) :: l) := hc5.pull 2 rfl rfl
  exact Ctx.ownVB (Ctx.bigApp hc6).swap
/-- Frozen, with all that its elements own. -/
theorem Ctx.freezeV {n : Nat} {E : PR α n} {T2 : TypeId} {xs : List (List α)} (h : Ctx w (OwnV (vOwn E T2) T v xs :: l)) : Ctx w (Hold (pRo (pRo E)) [v] xs :: l) := by
  obtain ⟨hs, hl, h1⟩ := Ctx.ownVF h
  -- the elements, one by one
  have key : ∀ (hs : List (List Value)) (xs : List (List α)) (l : List HP), Ctx w (Big (vOwn E T2).r hs xs :: l) → ∃ R Ss, CtxAt w R l Ss ∧ Rows (pRo E) w R hs xs := by
    intro hs
    induction hs with
    | nil => intro xs l h; cases xs with
      | nil => obtain ⟨R, Ss, hc⟩ := h.drop; exact ⟨R, Ss, hc, trivial⟩
      | cons x xs => exact (Ctx.puF h).1.elim
    | cons c hs ih => intro xs l h; cases xs with
      | nil => exact (Ctx.puF h).1.elim
      | cons x xs =>
        have h1 := Ctx.sepF h
        obtain ⟨v, h2⟩ := Ctx.exF h1
        obtain ⟨rfl, h3⟩ := Ctx.puF (Ctx.sepF h2)
        have h4 := Ctx.freeze h3 (k := 0) rfl rfl rfl
        obtain ⟨R, Ss, hc, hr⟩ := ih xs (Hold (pRo E) [v] x :: l) h4.swap
        match Ss, hc with
        | S :: Ss, hc => 
          obtain ⟨⟨hS, hE⟩, hall⟩ := hc.all
          subst hS
          exact ⟨R, Ss, ⟨hall, by simpa using hc.nodup, fun b hb => hc.own b (by simpa using hb), hc.fz⟩, hE, hr⟩
  obtain ⟨R, Ss, hc, hr⟩ := key hs xs _ h1.swap
  -- the handles hold what the rows say
  have hc' : CtxAt w R (Own (pRo E) T v xs :: l) Ss := by
    match Ss, hc with
    | S :: Ss, hc =>
      obtain ⟨hp, hall⟩ := hc.all
      refine ⟨⟨?_, hall⟩, hc.nodup, hc.own, hc.fz⟩
      obtain ⟨css, r1, r2, e⟩ := hp
      have hh : ∀ (css hs : List (List Value)), Rows (pAny 1) w R css hs → css = hs := by
        intro css
        induction css with
        | nil => intro hs h; cases hs with
          | nil => rfl
          | cons a b => exact h.elim
        | cons c css ih => intro hs h; cases hs with
          | nil => exact h.elim
          | cons a b => rw [h.1.1, ih b h.2]
      have := hh css hs r1
      subst this
      exact ⟨css, hr, by rw [← hl]; exact r2, e⟩
  exact Ctx.freeze ⟨R, Ss, hc'⟩ (k := 0) rfl rfl rfl
end
section
variable {κ β : Type} [DecidableEq κ] {ek : κ → Value} {P : Program} {ρ : Operand → Value} {dst : Option Nat} {ty : TypeId} {pos : String} {after : Array Edge} {g : Option (Nat × Bool)} {x y z : Operand} {i b : Nat} {t kt et : TypeId} {k : κ} {m : Nat} {vf : List Value → Value} {U : VP β m} {lx : List (κ × β)}
theorem Ctx.bigBack1 {lh : List (κ × List Value)} {c : List Value} {y y' : β} (h : Ctx w (U.r c y' :: Big (VK U) (mdel lh k) (mdel lx k) :: l)) (hK : lh.map (·.1) = lx.map (·.1)) (hg : mget lh k = some c) (hy : mget lx k = some y) : Ctx w (Big (VK U) lh (mset lx k y') :: l) := by
  have := Ctx.bigBack h hK hg hy
  rwa [mset_same hg] at this
theorem Ctx.bigBack0 {lh : List (κ × List Value)} {c : List Value} {y : β} (h : Ctx w (U.r c y :: Big (VK U) (mdel lh k) (mdel lx k) :: l)) (hK : lh.map (·.1) = lx.map (·.1)) (hg : mget lh k = some c) (hy : mget lx k = some y) : Ctx w (Big (VK U) lh lx :: l) := by
  have := Ctx.bigBack1 h hK hg hy
  rwa [mset_same hy] at this
theorem Ctx.mpvOpen {i : Nat} (h : Ctx w l) (hi : ltP l i = true) (e : nthP l i = MpV ek vf U b lx) : ∃ lh l', lh.map (·.1) = lx.map (·.1) ∧ Ctx w (Big (VK U) lh lx :: Mp ek (HV vf (pAny m)) b lh :: l') ∧ Ctx w (Mp ek (HV vf (pAny m)) b lh :: Big (VK U) lh lx :: l') := by
  have h1 := h.perm (perm_nth hi)
  rw [e] at h1
  obtain ⟨lh, hK, h2⟩ := Ctx.mpVF h1
  exact ⟨lh, _, hK, h2.swap, h2⟩
/-- A look for what isn't there. -/
theorem Ctx.mpvGetN {zv : Value} (ok : Bool) (K : KeyL P kt κ ek) (h : Ctx w l) (hi : ltP l i = true) (e : nthP l i = MpV ek vf U b lx) (ht : P.underlying t = some (.map kt et)) (hx : ρ x = .map (some b)) (hy : ρ y = ek k) (hz : ∀ w, (zeroValue et).run P w = .ok zv w) (hg : mget lx k = none) :
    (execOp ρ ⟨dst, .lookup t x y ok, ty, pos, after, g⟩).run P w = .ok (.value (if ok then .tuple #[zv, .bool false] else zv)) w := by
  obtain ⟨lh, l', hK, h1, h2⟩ := Ctx.mpvOpen h hi e
  exact Ctx.mpGetHN ok K h2 (i := 0) rfl rfl ht hx hy hz (Ctx.bigGetN h1 hg)
theorem Ctx.mpvLen (h : Ctx w l) (hi : ltP l i = true) (e : nthP l i = MpV ek vf U b lx) (ht : P.underlying t = some (.map kt et)) (hx : ρ x = .map (some b)) :
    (execOp ρ ⟨dst, .call ⟨.builtin .len, #[x], #[t]⟩, ty, pos, after, g⟩).run P w = .ok (.value (.int .i64 ((lx.length : Nat) : Int))) w := by
  obtain ⟨lh, l', hK, h1, h2⟩ := Ctx.mpvOpen h hi e
  have := Ctx.mpLen (dst := dst) (ty := ty) (pos := pos) (after := after) (g := g) h2 (i := 0) rfl rfl ht hx
  have hl : lh.length = lx.length := by have := congrArg List.length hK; simpa using this
  rwa [hl] at this
theorem Ctx.mpvSet (K : KeyL P kt κ ek) {c : List Value} {yv : β} (h : Ctx w (U.r c yv :: MpV ek vf U b lx :: l)) (ht : P.underlying t = some (.map kt et)) (hx : ρ x = .map (some b)) (hy : ρ y = ek k) (hz : ρ z = vf c) :
    ∃ w', (execOp ρ ⟨dst, .mapUpdate t x y z, ty, pos, after, g⟩).run P w = .ok .skip w' ∧ Ctx w' (MpV ek vf U b (mset lx k yv) :: l) := by
  obtain ⟨lh, hK, h1⟩ := Ctx.mpVF h.swap
  have hlen : c.length = m := by
    obtain ⟨R, S, hp, _⟩ := h.get
    exact U.len hp
  have hone : ∀ v ∈ c, v.oneCell' = true := by
    obtain ⟨R, S, hp, _⟩ := h.get
    exact U.one hp
  have h2 : Ctx w (Hold (pAny m) c c :: Mp ek (HV vf (pAny m)) b lh :: Big (VK U) lh lx :: U.r c yv :: l) := h1.add _ fun _ _ _ => ⟨rfl, rfl, hlen, hone⟩
  obtain ⟨w', hr, h3⟩ := Ctx.mpSet (dst := dst) (ty := ty) (pos := pos) (after := after) (g := g) K h2 (i := 0) rfl rfl ht hx hy hz
  refine ⟨w', hr, ?_⟩
  have h4 : Ctx w' (U.r c yv :: Big (VK U) lh lx :: Mp ek (HV vf (pAny m)) b (mset lh k c) :: l) := h3.perm ((List.Perm.swap _ _ _).trans (((List.Perm.swap _ _ _).cons _).trans (List.Perm.swap _ _ _)) |>.trans (List.Perm.refl _))
  exact Ctx.mpVB (Ctx.bigSet h4).swap
theorem Ctx.mpvDel (K : KeyL P kt κ ek) (h : Ctx w (MpV ek vf U b lx :: l)) (ht : P.underlying t = some (.map kt et)) (hx : ρ x = .map (some b)) (hy : ρ y = ek k) :
    ∃ v w', (execOp ρ ⟨dst, .call ⟨.builtin .delete, #[x, y], #[t, kt]⟩, ty, pos, after, g⟩).run P w = .ok (.value v) w' ∧ Ctx w' (MpV ek vf U b (mdel lx k) :: l) := by
  obtain ⟨lh, hK, h1⟩ := Ctx.mpVF h
  obtain ⟨v, w', hr, h3⟩ := Ctx.mpDel (dst := dst) (ty := ty) (pos := pos) (after := after) (g := g) K h1 (i := 0) rfl rfl ht hx hy
  exact ⟨v, w', hr, Ctx.mpVB (Ctx.bigDel h3.swap).swap⟩
theorem Ctx.mpvClear (h : Ctx w (MpV ek vf U b lx :: l)) (ht : P.underlying t = some (.map kt et)) (hx : ρ x = .map (some b)) :
    ∃ v w', (execOp ρ ⟨dst, .call ⟨.builtin .clear, #[x], #[t]⟩, ty, pos, after, g⟩).run P w = .ok (.value v) w' ∧ Ctx w' (MpV ek vf U b [] :: l) := by
  obtain ⟨lh, hK, h1⟩ := Ctx.mpVF h
  obtain ⟨v, w', hr, h3⟩ := Ctx.mpClear (dst := dst) (ty := ty) (pos := pos) (after := after) (g := g) h1 (i := 0) rfl rfl ht hx
  exact ⟨v, w', hr, Ctx.mpVB (Ctx.bigNil _ h3.swap.drop).swap⟩
theorem Ctx.mpvMake (ek : κ → Value) (vf : List Value → Value) (U : VP β m) (h : Ctx w l) : ∃ v w', (execOp ρ ⟨dst, .makeMap t none, ty, pos, after, g⟩).run P w = .ok (.value v) w' ∧ ∃ b, v = .map (some b) ∧ Ctx w' (MpV ek vf U b [] :: l) := by
  obtain ⟨v, w', hr, b, hv, h1⟩ := Ctx.mpMake (P := P) (ρ := ρ) (dst := dst) (ty := ty) (pos := pos) (after := after) (g := g) (t := t) ek (HV vf (pAny m)) h
  exact ⟨v, w', hr, b, hv, Ctx.mpVB (Ctx.bigNil _ h1).swap⟩
/-- 'range m': the map's own cells apart. -/
theorem Ctx.itvMake (h : Ctx w (MpV ek vf U b lx :: l)) (ht : P.underlying t = some (.map kt et)) (hx : ρ x = .map (some b)) (hn : (lx.map Prod.fst).Nodup) :
    ∃ v w', (execOp ρ ⟨dst, .range t x, ty, pos, after, g⟩).run P w = .ok (.value v) w' ∧ ∃ r lh, v = .pointer (some ⟨r, 0, none⟩) ∧ lh.map (·.1) = lx.map (·.1) ∧ Ctx w' (MpI ek (HV vf (pAny m)) b r lh [] none :: Big (VK U) lh lx :: l) := by
  obtain ⟨lh, hK, h1⟩ := Ctx.mpVF h
  obtain ⟨v, w', hr, r, hv, h2⟩ := Ctx.itMake (dst := dst) (ty := ty) (pos := pos) (after := after) (g := g) h1 (i := 0) rfl rfl ht hx (by have := hK; rw [show lh.map Prod.fst = lx.map Prod.fst from hK]; exact hn)
  exact ⟨v, w', hr, r, lh, hv, hK, h2⟩
/-- A step: what came stands apart. -/
theorem Ctx.itvNext {r : Nat} {lh : List (κ × List Value)} {seen : List κ} {cur : Option (κ × Value)} (h : Ctx w (MpI ek (HV vf (pAny m)) b r lh seen cur :: Big (VK U) lh lx :: l)) (hx : ρ x = .pointer (some ⟨r, 0, none⟩)) (hK : lh.map (·.1) = lx.map (·.1)) :
    ∃ v w', (execOp ρ ⟨dst, .next x false, ty, pos, after, g⟩).run P w = .ok (.value v) w' ∧
      ((remK lx seen = [] ∧ v = .tuple #[.bool false] ∧ Ctx w' (MpV ek vf U b lx :: l)) ∨
       ∃ k xx c, k ∈ remK lx seen ∧ mget lx k = some xx ∧ mget lh k = some c ∧ v = .tuple #[.bool true, ek k, vf c] ∧ Ctx w' (U.r c xx :: Big (VK U) (mdel lh k) (mdel lx k) :: MpI ek (HV vf (pAny m)) b r lh (k :: seen) (some (k, vf c)) :: l)) := by
  obtain ⟨v, w', hr, h1⟩ := Ctx.itNext (dst := dst) (ty := ty) (pos := pos) (after := after) (g := g) h (i := 0) rfl rfl hx
  refine ⟨v, w', hr, ?_⟩
  rcases h1 with ⟨h2, h3, h4⟩ | ⟨k, xx, cs, h2, h3, h4, h5⟩
  · exact .inl ⟨by rw [← remK_keys hK]; exact h2, h3, Ctx.mpVB (Ctx.itEnd h4 (i := 0) rfl rfl rfl)⟩
  · obtain ⟨rfl, h6⟩ := Ctx.anyF h5
    have h7 : Ctx w' (Big (VK U) lh lx :: MpI ek (HV vf (pAny m)) b r lh (k :: seen) (some (k, vf cs)) :: l) := Ctx.swap h6
    rcases Ctx.bigGet k h7 with ⟨_, g2⟩ | ⟨y, c, g1, g2, g3⟩
    · rw [g2] at h3; cases h3
    · rw [g2] at h3
      injection h3 with h3
      subst h3
      exact .inr ⟨k, y, c, by rw [← remK_keys hK]; exact h2, g1, g2, h4, g3⟩
end
end
end Go.Hp
namespace Go.Hp
open Go Go.RowKit
theorem bind_of {α β : Type} {x : Option α} {f : α → Option β} {r : β} {a : α} (h : x.bind f = some r) (e : x = some a) : f a = some r := by subst e; exact h
end Go.Hp
namespace Go.Hp
open Go Go.RowKit
theorem f3c {P : Program} {n : Nat} {l : Fm} {b : Nat → Value} {w : World} {fn : Func} {R : Ending → World → Prop} {r s q T m : Nat} {a : Addr} {cs : List Value} {u z : Value} (hr : fn.results = #[.cell r T, .tmp s, .tmp q]) (hn : fn.ntmps = n) (hv : ev n l b (.tmp r) = .pointer (some a)) (hT : ∀ w, (isAgg T).run P w = .ok true w) (hs : ∀ w, (sizeOf T).run P w = .ok m w) (hm : cs.length = m) (hc : ∀ j v, cs[j]? = some v → w.cell? (a.add j) = some v)
    (hu : ev n l b (.tmp s) = u) (hz : ev n l b (.tmp q) = z) (h : R (.returned (.tuple #[.agg cs.toArray, u, z])) w) : postQ P fn R .ret l b w := by
  subst hn hm hu hz
  refine ⟨_, ?_, h⟩
  have e : (act fn.ntmps l b).tmps.getD r undef = .pointer (some a) := (congrFun (act_eval fn.ntmps l b) (.tmp r)).trans hv
  have e2 : (act fn.ntmps l b).tmps.getD s undef = ev fn.ntmps l b (.tmp s) := congrFun (act_eval fn.ntmps l b) (.tmp s)
  have e3 : (act fn.ntmps l b).tmps.getD q undef = ev fn.ntmps l b (.tmp q) := congrFun (act_eval fn.ntmps l b) (.tmp q)
  have hl := run_loadCells_list (P := P) (w := w) a cs hc
  simp only [Array.getD_eq_getD_getElem?] at e e2 e3
  simp [results, hr, e, e2, e3, asAddr, loadVar, hT, hs, hl]
end Go.Hp
