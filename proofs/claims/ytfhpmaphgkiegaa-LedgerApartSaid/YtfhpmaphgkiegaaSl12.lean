/- Single operations on words, bits, strings, structs: small laws over any program. -/
import Derived.Test.YtfhpmaphgkiegaaSl11
namespace Go.Hp
open Go Go.RowKit
set_option linter.unusedVariables false
set_option linter.unusedSimpArgs false
set_option linter.unusedSectionVars false
section
variable {P : Program} {ρ : Operand → Value} {w : World} {dst : Option Nat} {ty : TypeId} {pos : String} {after : Array Edge} {g : Option (Nat × Bool)} {x y c : Operand} {T U : TypeId}
theorem guard_agg {op : BinOp} {a b : Array Value} (hg : P.eqGuardType P.depth T = false) : (eqGuard op T x y (.agg a) (.agg b)).run P w = .ok () w := by
  unfold eqGuard
  cases op <;> simp [hg]
theorem eqs {a b : Array Value} {t : Bool} (hx : ρ x = .agg a) (hy : ρ y = .agg b) (hg : P.eqGuardType P.depth T = false) (h : ∀ w, (Op.equal T (.agg a) (.agg b)).run P w = .ok t w) :
    (execOp ρ ⟨dst, .binOp .eql T x y U, ty, pos, after, g⟩).run P w = .ok (.value (.bool t)) w := bin_gen hx hy (guard_agg hg) (by simp [binOp, h])
theorem nes {a b : Array Value} {t : Bool} (hx : ρ x = .agg a) (hy : ρ y = .agg b) (hg : P.eqGuardType P.depth T = false) (h : ∀ w, (Op.equal T (.agg a) (.agg b)).run P w = .ok t w) :
    (execOp ρ ⟨dst, .binOp .neq T x y U, ty, pos, after, g⟩).run P w = .ok (.value (.bool (!t))) w := bin_gen hx hy (guard_agg hg) (by simp [binOp, h])
-- bits
section
variable {k k2 : IntKind} {a b : Int}
theorem neg_ {T : TypeId} (h : ρ x = .int k a) : (execOp ρ ⟨dst, .unOp .neg T x, ty, pos, after, g⟩).run P w = .ok (.value (.int k (k.wrap (0 - a)))) w := by simp [execOp, h, Op.unary, Op.intArith]
/-- Bits of numbers. -/
def iand (k : IntKind) (a b : Int) : Int := k.wrap (BitVec.ofInt k.bits a &&& BitVec.ofInt k.bits b).toNat
def ior (k : IntKind) (a b : Int) : Int := k.wrap (BitVec.ofInt k.bits a ||| BitVec.ofInt k.bits b).toNat
def ixor (k : IntKind) (a b : Int) : Int := k.wrap (BitVec.ofInt k.bits a ^^^ BitVec.ofInt k.bits b).toNat
def iandn (k : IntKind) (a b : Int) : Int := k.wrap (BitVec.ofInt k.bits a &&& ~~~ BitVec.ofInt k.bits b).toNat
def ishl (k : IntKind) (a b : Int) : Int := k.wrap (a * 2 ^ min b.toNat k.bits)
def ishr (k : IntKind) (a b : Int) : Int := a.fdiv (2 ^ min b.toNat k.bits)
theorem and_ (hx : ρ x = .int k a) (hy : ρ y = .int k b) : (execOp ρ ⟨dst, .binOp .and T x y U, ty, pos, after, g⟩).run P w = .ok (.value (.int k (iand k a b))) w := bin_ints hx hy (by simp [binOp, Op.intBits, iand])
theorem or_ (hx : ρ x = .int k a) (hy : ρ y = .int k b) : (execOp ρ ⟨dst, .binOp .or T x y U, ty, pos, after, g⟩).run P w = .ok (.value (.int k (ior k a b))) w := bin_ints hx hy (by simp [binOp, Op.intBits, ior])
theorem xor_ (hx : ρ x = .int k a) (hy : ρ y = .int k b) : (execOp ρ ⟨dst, .binOp .xor T x y U, ty, pos, after, g⟩).run P w = .ok (.value (.int k (ixor k a b))) w := bin_ints hx hy (by simp [binOp, Op.intBits, ixor])
theorem andn_ (hx : ρ x = .int k a) (hy : ρ y = .int k b) : (execOp ρ ⟨dst, .binOp .andNot T x y U, ty, pos, after, g⟩).run P w = .ok (.value (.int k (iandn k a b))) w := bin_ints hx hy (by simp [binOp, Op.intBits, iandn])
theorem bin_ints2 {op : BinOp} {v : Value} (hx : ρ x = .int k a) (hy : ρ y = .int k2 b) (hop : op = .shl ∨ op = .shr) (h : (Op.shift op k a k2 b).run P w = .ok v w) :
    (execOp ρ ⟨dst, .binOp op T x y U, ty, pos, after, g⟩).run P w = .ok (.value v) w := by
  have hg : (eqGuard op T x y (.int k a) (.int k2 b)).run P w = .ok () w := by unfold eqGuard; rcases hop with rfl | rfl <;> rfl
  refine bin_gen hx hy hg ?_
  rcases hop with rfl | rfl <;> exact h
theorem shl_ (hx : ρ x = .int k a) (hy : ρ y = .int k2 b) (h0 : 0 ≤ b) : (execOp ρ ⟨dst, .binOp .shl T x y U, ty, pos, after, g⟩).run P w = .ok (.value (.int k (ishl k a b))) w :=
  bin_ints2 hx hy (.inl rfl) (by simp [Op.shift, Int.not_lt.2 h0, ishl])
theorem shr_ (hx : ρ x = .int k a) (hy : ρ y = .int k2 b) (h0 : 0 ≤ b) : (execOp ρ ⟨dst, .binOp .shr T x y U, ty, pos, after, g⟩).run P w = .ok (.value (.int k (ishr k a b))) w :=
  bin_ints2 hx hy (.inr rfl) (by simp [Op.shift, Int.not_lt.2 h0, ishr])
end
-- strings
theorem bytes_loop (b : ByteArray) : ∀ (n i : Nat) (r : List UInt8), b.size - i = n → ByteArray.toList.loop b i r = r.reverse ++ b.data.toList.drop i
  | 0, i, r, h => by
    unfold ByteArray.toList.loop
    rw [if_neg (by omega), List.drop_of_length_le (by have : b.data.toList.length = b.size := rfl; omega), List.append_nil]
  | n + 1, i, r, h => by
    unfold ByteArray.toList.loop
    have hi : i < b.data.toList.length := by have : b.data.toList.length = b.size := rfl; omega
    rw [if_pos (by omega), bytes_loop b n (i + 1) _ (by omega), List.drop_eq_getElem_cons hi]
    have hg : b.get! i = b.data.toList[i] := by
      simp only [ByteArray.get!, Array.getElem_toList]
      exact getElem!_pos _ _ _
    simp [hg]
theorem bytes_toList (b : ByteArray) : b.toList = b.data.toList := by unfold ByteArray.toList; rw [bytes_loop b _ 0 [] rfl]; simp
theorem bytes_eq (a b : ByteArray) : (a.toList == b.toList) = decide (a = b) := by
  rw [bytes_toList, bytes_toList]
  by_cases h : a = b
  · subst h; simp
  · rw [decide_eq_false h, beq_eq_false_iff_ne]
    intro e
    exact h (by cases a; cases b; simp only [ByteArray.mk.injEq]; exact Array.toList_inj.1 e)
theorem guard_strs (op : BinOp) (T : TypeId) (x y : Operand) (a b : ByteArray) : (eqGuard op T x y (.string a) (.string b)).run P w = .ok () w := by unfold eqGuard; cases op <;> rfl
theorem eqstr {a b : ByteArray} (hx : ρ x = .string a) (hy : ρ y = .string b) : (execOp ρ ⟨dst, .binOp .eql T x y U, ty, pos, after, g⟩).run P w = .ok (.value (.bool (decide (a = b)))) w :=
  bin_gen hx hy (guard_strs _ _ _ _ _ _) (by simp [binOp, Op.stringOp, bytes_eq])
theorem nestr {a b : ByteArray} (hx : ρ x = .string a) (hy : ρ y = .string b) : (execOp ρ ⟨dst, .binOp .neq T x y U, ty, pos, after, g⟩).run P w = .ok (.value (.bool (decide (¬ a = b)))) w :=
  bin_gen hx hy (guard_strs _ _ _ _ _ _) (by simp [binOp, Op.stringOp, bytes_eq])
end
end Go.Hp
