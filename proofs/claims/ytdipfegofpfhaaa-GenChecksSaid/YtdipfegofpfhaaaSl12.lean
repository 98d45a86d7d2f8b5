/- Single operations on words, bits, strings, structs: small laws over any program. -/
import Derived.Test.YtdipfegofpfhaaaSl11
import Derived.Test.YtdipfegofpfhaaaDraw2
namespace Go.Hp
open Go Go.RowKit
set_option linter.unusedVariables false
set_option linter.unusedSimpArgs false
set_option linter.unusedSectionVars false
section
variable {P : Program} {ρ : Operand → Value} {w : World} {dst : Option Nat} {ty : TypeId} {pos : String} {after : Array Edge} {g : Option (Nat × Bool)} {x y c : Operand} {T U : TypeId}
theorem guard_agg {op : BinOp} {a b : Array Value} (hg : P.eqGuardType P.depth T = false) : (eqGuard op T x y (.agg a) (.agg b)).run P w = .ok () w := by
  unfold eqGuard
  cases op <;> simp [hg]
theorem eqs {a b : Array Value} {t : Bool} (hx : ρ x = .agg a) (hy : ρ y = .agg b) (hg : P.eqGuardType P.depth T = false) (h : ∀ w, (Op.equal T (.agg a) (.agg b)).run P w = .ok t w) :
    (execOp ρ ⟨dst, .binOp .eql T x y U, ty, pos, after, g⟩).run P w = .ok (.value (.bool t)) w := bin_gen hx hy (guard_agg hg) (by simp [binOp, h])
theorem nes {a b : Array Value} {t : Bool} (hx : ρ x = .agg a) (hy : ρ y = .agg b) (hg : P.eqGuardType P.depth T = false) (h : ∀ w, (Op.equal T (.agg a) (.agg b)).run P w = .ok t w) :
    (execOp ρ ⟨dst, .binOp .neq T x y U, ty, pos, after, g⟩).run P w = .ok (.value (.bool (!t))) w := bin_gen hx hy (guard_agg hg) (by simp [binOp, h])
-- bits
section
variable {k k2 : IntKind} {a b : Int}
theorem neg_ {T : TypeId} (h : ρ x = .int k a) : (execOp ρ ⟨dst, .unOp .neg T x, ty, pos, after, g⟩).run P w = .ok (.value (.int k (k.wrap (0 - a)))) w := by simp [execOp, h, Op.unary, Op.intArith]
/-- Bits of numbers. -/
def iand (k : IntKind) (a b : Int) : Int := k.wrap (BitVec.ofInt k.bits a &&& BitVec.ofInt k.bits b).toNat
def ior (k : IntKind) (a b : Int) : Int := k.wrap (BitVec.ofInt k.bits a ||| BitVec.ofInt k.bits b).toNat
def ixor (k : IntKind) (a b : Int) : Int := k.wrap (BitVec.ofInt k.bits a ^^^ BitVec.ofInt k.bits b).toNat
def iandn (k : IntKind) (a b : Int) : Int := k.wrap (BitVec.ofInt k.bits a &&& ~~~ BitVec.ofInt k.bits b).toNat
def ishl (k : IntKind) (a b : Int) : Int := k.wrap (a * 2 ^ min b.toNat k.bits)
def ishr (k : IntKind) (a b : Int) : Int := a.fdiv (2 ^ min b.toNat k.bits)
theorem and_ (hx : ρ x = .int k a) (hy : ρ y = .int k b) : (execOp ρ ⟨dst, .binOp .and T x y U, ty, pos, after, g⟩).run P w = .ok (.value (.int k (iand k a b))) w := bin_ints hx hy (by simp [binOp, Op.intBits, iand])
theorem or_ (hx : ρ x = .int k a) (hy : ρ y = .int k b) : (execOp ρ ⟨dst, .binOp .or T x y U, ty, pos, after, g⟩).run P w = .ok (.value (.int k (ior k a b))) w := bin_ints hx hy (by simp [binOp, Op.intBits, ior])
theorem xor_ (hx : ρ x = .int k a) (hy : ρ y = .int k b) : (execOp ρ ⟨dst, .binOp .xor T x y U, ty, pos, after, g⟩).run P w = .ok (.value (.int k (ixor k a b))) w := bin_ints hx hy (by simp [binOp, Op.intBits, ixor])
theorem andn_ (hx : ρ x = .int k a) (hy : ρ y = .int k b) : (execOp ρ ⟨dst, .binOp .andNot T x y U, ty, pos, after, g⟩).run P w = .ok (.value (.int k (iandn k a b))) w := bin_ints hx hy (by simp [binOp, Op.intBits, iandn])
theorem bin_ints2 {op : BinOp} {v : Value} (hx : ρ x = .int k a) (hy : ρ y = .int k2 b) (hop : op = .shl ∨ op = .shr) (h : (Op.shift op k a k2 b).run P w = .ok v w) :
    (execOp ρ ⟨dst, .binOp op T x y U, ty, pos, after, g⟩).run P w = .ok (.value v) w := by
  have hg : (eqGuard op T x y (.int k a) (.int k2 b)).run P w = .ok () w := by unfold eqGuard; rcases hop with rfl | rfl <;> rfl
  refine bin_gen hx hy hg ?_
  rcases hop with rfl | rfl <;> exact h
theorem shl_ (hx : ρ x = .int k a) (hy : ρ y = .int k2 b) (h0 : 0 ≤ b) : (execOp ρ ⟨dst, .binOp .shl T x y U, ty, pos, after, g⟩).run P w = .ok (.value (.int k (ishl k a b))) w :=
  bin_ints2 hx hy (.inl rfl) (by simp [Op.shift, Int.not_lt.2 h0, ishl])
theorem shr_ (hx : ρ x = .int k a) (hy : ρ y = .int k2 b) (h0 : 0 ≤ b) : (execOp ρ ⟨dst, .binOp .shr T x y U, ty, pos, after, g⟩).run P w = .ok (.value (.int k (ishr k a b))) w :=
  bin_ints2 hx hy (.inr rfl) (by simp [Op.shift, Int.not_lt.2 h0, ishr])
end
-- strings
theorem bytes_loop (b : ByteArray) : ∀ (n i : Nat) (r : List UInt8), b.size - i = n → ByteArray.toList.loop b i r = r.reverse ++ b.data.toList.drop i
  | 0, i, r, h => by
    unfold ByteArray.toList.loop
    rw [if_neg (by omega), List.drop_of_length_le (by have : b.data.toList.length = b.size := rfl; omega), List.append_nil]
  | n + 1, i, r, h => by
    unfold ByteArray.toList.loop
    have hi : i < b.data.toList.length := by have : b.data.toList.length = b.size := rfl; omega
    rw [if_pos (by omega), bytes_loop b n (i + 1) _ (by omega), List.drop_eq_getElem_cons hi]
    have hg : b.get! i = b.data.toList[i] := by
      simp only [ByteArray.get!, Array.getElem_toList]
      exact getElem!_pos _ _ _
    simp [hg]
theorem bytes_toList (b : ByteArray) : b.toList = b.data.toList := by unfold ByteArray.toList; rw [bytes_loop b _ 0 [] rfl]; simp
theorem bytes_eq (a b : ByteArray) : (a.toList == b.toList) = decide (a = b) := by
  rw [bytes_toList, bytes_toList]
  by_cases h : a = b
  · subst h; simp
  · rw [decide_eq_false h, beq_eq_false_iff_ne]
    intro e
    exact h (by cases a; cases b; simp only [ByteArray.mk.injEq]; exact Array.toList_inj.1 e)
theorem guard_strs (op : BinOp) (T : TypeId) (x y : Operand) (a b : ByteArray) : (eqGuard op T x y (.string a) (.string b)).run P w = .ok () w := by unfold eqGuard; cases op <;> rfl
theorem eqstr {a b : ByteArray} (hx : ρ x = .string a) (hy : ρ y = .string b) : (execOp ρ ⟨dst, .binOp .eql T x y U, ty, pos, after, g⟩).run P w = .ok (.value (.bool (decide (a = b)))) w :=
  bin_gen hx hy (guard_strs _ _ _ _ _ _) (by simp [binOp, Op.stringOp, bytes_eq])
theorem nestr {a b : ByteArray} (hx : ρ x = .string a) (hy : ρ y = .string b) : (execOp ρ ⟨dst, .binOp .neq T x y U, ty, pos, after, g⟩).run P w = .ok (.value (.bool (decide (¬ a = b)))) w :=
  bin_gen hx hy (guard_strs _ _ _ _ _ _) (by simp [binOp, Op.stringOp, bytes_eq])
end
end Go.Hp
namespace Go.Hp
open Go Go.RowKit
set_option linter.unusedVariables false
section
variable {κ β : Type} [DecidableEq κ] {ek : κ → Value} {P : Program} {w : World} {hs : List HP} {i b : Nat} {t kt et : TypeId} {l : List (κ × β)} {m : Nat} {vf : List Value → Value} {E : PR β m}
/-- What a look-up comes to, wherever it stands. -/
theorem Ctx.mpFact (ok : Bool) (K : KeyL P kt κ ek) (h : Ctx w hs) (hi : ltP hs i = true) (e : nthP hs i = Mp ek (HV vf E) b l) (k : κ) (ht : P.underlying t = some (.map kt et)) {zv : Value} {zcs : List Value} {x0 : β} (hz : ∀ w, (zeroValue et).run P w = .ok zv w) (hzv : zv = vf zcs) (hz0 : ∀ (w : World) R, E.r w R zcs x0) :
    ∃ cs, Ctx w (Hold E cs ((mget l k).getD x0) :: hs) ∧ ∀ {ρ : Operand → Value} {dst : Option Nat} {ty : TypeId} {pos : String} {after : Array Edge} {g : Option (Nat × Bool)} {x y : Operand}, ρ x = .map (some b) → ρ y = ek k →
      (execOp ρ ⟨dst, .lookup t x y ok, ty, pos, after, g⟩).run P w = .ok (.value (if ok then .tuple #[vf cs, .bool (mget l k).isSome] else vf cs)) w := by
  obtain ⟨R, Ss0, hc⟩ := h
  obtain ⟨S, hS⟩ := CtxAt.nth hc.all hi
  rw [e] at hS
  obtain ⟨es, clock, Ss, hb, hE, _, _, _⟩ := hS
  have hf := K.find k es.toList (l.map (·.1)) w hE.keys
  have hg : (getObj b).run P w = .ok (.map es clock) w := by simp [getObj, Sem.run, hb]
  rcases hE.find k 0 with ⟨h1, h2, _, _⟩ | ⟨j, en, xx, S', h1, _, _, h4, _, h6, _, _⟩
  · rw [h1] at hf
    refine ⟨zcs, ?_, fun hx hy => ?_⟩
    · rw [h2]; exact ⟨R, [] :: Ss0, hc.hold (hz0 w R)⟩
    · simp [execOp, Instr.lookup, run_underlying ht, hx, hy, hg, K.chk, hf, hz, hzv, h2]
  · rw [h1] at hf
    obtain ⟨_, cs, hv, hr⟩ := h6
    refine ⟨cs, ?_, fun hx hy => ?_⟩
    · rw [h4]; exact ⟨R, [] :: Ss0, hc.hold hr⟩
    · simp [execOp, Instr.lookup, run_underlying ht, hx, hy, hg, K.chk, hf, hv, h4]
end
end Go.Hp
namespace Go.Hp
open Go Go.RowKit
set_option linter.unusedVariables false
section
variable {κ β : Type} [DecidableEq κ] {ek : κ → Value} {V : Value → β → HP} {P : Program} {w : World} {hs : List HP} {i b : Nat} {t kt et : TypeId} {l : List (κ × β)} {m : Nat} {vf : List Value → Value} {E : PR β m} {o : Obj}
/-- A map whose block's text is known. -/
def MpO (ek : κ → Value) (V : Value → β → HP) (b : Nat) (o : Obj) (l : List (κ × β)) : HP := ⟨fun w R S => w.heap[b]? = some o ∧ (Mp ek V b l).p w R S, fun ⟨h1, h2⟩ hk hR => ⟨by
  have h3 := h2
  obtain ⟨es, clock, Ss, _, _, h4, _⟩ := h3
  rw [hk.block b (.inl (by simp [h4]))]; exact h1, (Mp ek V b l).st h2 hk hR⟩⟩
theorem Ctx.mpoF (h : Ctx w hs) (hi : ltP hs i = true) (e : nthP hs i = Mp ek V b l) : ∃ o, Ctx w (setP hs i (MpO ek V b o l)) := by
  have h0 := h
  obtain ⟨R, S, hS, _⟩ := h.at hi e
  obtain ⟨es, clock, Ss, hb, _⟩ := hS
  exact ⟨_, h0.conv hi _ (fun R S hp => by rw [e] at hp; exact ⟨hb, hp⟩) rfl⟩
theorem Ctx.mpoB (h : Ctx w hs) (hi : ltP hs i = true) (e : nthP hs i = MpO ek V b o l) {hs' : List HP} (el : setP hs i (Mp ek V b l) = hs') : Ctx w hs' := h.conv hi _ (fun R S hp => by rw [e] at hp; exact hp.2) el
theorem Ctx.mpoPin (h : Ctx w hs) (hi : ltP hs i = true) (e : nthP hs i = MpO ek V b o l) : w.heap[b]? = some o := by
  obtain ⟨R, S, hS, _⟩ := h.at hi e
  exact hS.1
theorem Ctx.mpoFact (ok : Bool) (K : KeyL P kt κ ek) (h : Ctx w hs) (hi : ltP hs i = true) (e : nthP hs i = MpO ek (HV vf E) b o l) (k : κ) (ht : P.underlying t = some (.map kt et)) {zv : Value} {zcs : List Value} {x0 : β} (hz : ∀ w, (zeroValue et).run P w = .ok zv w) (hzv : zv = vf zcs) (hz0 : ∀ (w : World) R, E.r w R zcs x0) :
    ∃ cs, Ctx w (Hold E cs ((mget l k).getD x0) :: hs) ∧ ∀ {w' : World}, w'.heap[b]? = some o → ∀ {ρ : Operand → Value} {dst : Option Nat} {ty : TypeId} {pos : String} {after : Array Edge} {g : Option (Nat × Bool)} {x y : Operand}, ρ x = .map (some b) → ρ y = ek k →
      (execOp ρ ⟨dst, .lookup t x y ok, ty, pos, after, g⟩).run P w' = .ok (.value (if ok then .tuple #[vf cs, .bool (mget l k).isSome] else vf cs)) w' := by
  obtain ⟨R, Ss0, hc⟩ := h
  obtain ⟨S, hS⟩ := CtxAt.nth hc.all hi
  rw [e] at hS
  obtain ⟨ho, es, clock, Ss, hb, hE, _, _, _⟩ := hS
  rw [hb] at ho
  injection ho with ho
  subst ho
  have hf := fun w' => K.find k es.toList (l.map (·.1)) w' hE.keys
  rcases hE.find k 0 with ⟨h1, h2, _, _⟩ | ⟨j, en, xx, S', h1, _, _, h4, _, h6, _, _⟩
  · rw [h1] at hf
    refine ⟨zcs, ?_, fun {w'} hw' {ρ dst ty pos after g x y} hx hy => ?_⟩
    · rw [h2]; exact ⟨R, [] :: Ss0, hc.hold (hz0 w R)⟩
    · have hg : (getObj b).run P w' = .ok (.map es clock) w' := by simp [getObj, Sem.run, hw']
      simp [execOp, Instr.lookup, run_underlying ht, hx, hy, hg, K.chk, hf, hz, hzv, h2]
  · rw [h1] at hf
    obtain ⟨_, cs, hv, hr⟩ := h6
    refine ⟨cs, ?_, fun {w'} hw' {ρ dst ty pos after g x y} hx hy => ?_⟩
    · rw [h4]; exact ⟨R, [] :: Ss0, hc.hold hr⟩
    · have hg : (getObj b).run P w' = .ok (.map es clock) w' := by simp [getObj, Sem.run, hw']
      simp [execOp, Instr.lookup, run_underlying ht, hx, hy, hg, K.chk, hf, hv, h4]
end
end Go.Hp
