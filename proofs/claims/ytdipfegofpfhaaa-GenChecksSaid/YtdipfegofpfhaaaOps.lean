/- What single operations come to: small laws over any program. -/
import Derived.Test.YtdipfegofpfhaaaCore
import Derived.WalkSpells
namespace Go.Hp
open Go Go.RowKit
section
variable {P : Program} {ρ : Operand → Value} {w : World} {dst : Option Nat} {ty : TypeId} {pos : String} {after : Array Edge} {g : Option (Nat × Bool)} {x y c : Operand}
-- moves, by the value's form
theorem mv {v : Value} (h : ρ x = v) : (execOp ρ ⟨dst, .move x, ty, pos, after, g⟩).run P w = .ok (.value v) w := by subst h; rfl
theorem av {v : Value} (h : ρ x = v) : (execOp ρ ⟨dst, .assign x, ty, pos, after, g⟩).run P w = .ok (.value v) w := by subst h; rfl
theorem mi {k : IntKind} {a : Int} (h : ρ x = .int k a) : (execOp ρ ⟨dst, .move x, ty, pos, after, g⟩).run P w = .ok (.value (.int k a)) w := mv h
theorem ai {k : IntKind} {a : Int} (h : ρ x = .int k a) : (execOp ρ ⟨dst, .assign x, ty, pos, after, g⟩).run P w = .ok (.value (.int k a)) w := av h
theorem mb {a : Bool} (h : ρ x = .bool a) : (execOp ρ ⟨dst, .move x, ty, pos, after, g⟩).run P w = .ok (.value (.bool a)) w := mv h
theorem ab {a : Bool} (h : ρ x = .bool a) : (execOp ρ ⟨dst, .assign x, ty, pos, after, g⟩).run P w = .ok (.value (.bool a)) w := av h
theorem mp {a : Option Addr} (h : ρ x = .pointer a) : (execOp ρ ⟨dst, .move x, ty, pos, after, g⟩).run P w = .ok (.value (.pointer a)) w := mv h
theorem ap {a : Option Addr} (h : ρ x = .pointer a) : (execOp ρ ⟨dst, .assign x, ty, pos, after, g⟩).run P w = .ok (.value (.pointer a)) w := av h
theorem ms {a : Option Addr} {m k : Nat} (h : ρ x = .slice a m k) : (execOp ρ ⟨dst, .move x, ty, pos, after, g⟩).run P w = .ok (.value (.slice a m k)) w := mv h
theorem asl {a : Option Addr} {m k : Nat} (h : ρ x = .slice a m k) : (execOp ρ ⟨dst, .assign x, ty, pos, after, g⟩).run P w = .ok (.value (.slice a m k)) w := av h
theorem mg {a : Array Value} (h : ρ x = .agg a) : (execOp ρ ⟨dst, .move x, ty, pos, after, g⟩).run P w = .ok (.value (.agg a)) w := mv h
theorem ag {a : Array Value} (h : ρ x = .agg a) : (execOp ρ ⟨dst, .assign x, ty, pos, after, g⟩).run P w = .ok (.value (.agg a)) w := av h
theorem mf {f : Fn} {a c : Array Value} (h : ρ x = .func f a c) : (execOp ρ ⟨dst, .move x, ty, pos, after, g⟩).run P w = .ok (.value (.func f a c)) w := mv h
theorem af {f : Fn} {a c : Array Value} (h : ρ x = .func f a c) : (execOp ρ ⟨dst, .assign x, ty, pos, after, g⟩).run P w = .ok (.value (.func f a c)) w := av h
theorem mm {a : Option Nat} (h : ρ x = .map a) : (execOp ρ ⟨dst, .move x, ty, pos, after, g⟩).run P w = .ok (.value (.map a)) w := mv h
theorem am {a : Option Nat} (h : ρ x = .map a) : (execOp ρ ⟨dst, .assign x, ty, pos, after, g⟩).run P w = .ok (.value (.map a)) w := av h
theorem mt {a : ByteArray} (h : ρ x = .string a) : (execOp ρ ⟨dst, .move x, ty, pos, after, g⟩).run P w = .ok (.value (.string a)) w := mv h
theorem at_ {a : ByteArray} (h : ρ x = .string a) : (execOp ρ ⟨dst, .assign x, ty, pos, after, g⟩).run P w = .ok (.value (.string a)) w := av h
theorem mtu {a : Array Value} (h : ρ x = .tuple a) : (execOp ρ ⟨dst, .move x, ty, pos, after, g⟩).run P w = .ok (.value (.tuple a)) w := mv h
theorem atu {a : Array Value} (h : ρ x = .tuple a) : (execOp ρ ⟨dst, .assign x, ty, pos, after, g⟩).run P w = .ok (.value (.tuple a)) w := av h
theorem pkt {v : Value} (hc : ρ c = .bool true) (h : ρ x = v) : (execOp ρ ⟨dst, .pick c x y, ty, pos, after, g⟩).run P w = .ok (.value v) w := by subst h; simp [execOp, hc, asBool]
theorem pkf {v : Value} (hc : ρ c = .bool false) (h : ρ y = v) : (execOp ρ ⟨dst, .pick c x y, ty, pos, after, g⟩).run P w = .ok (.value v) w := by subst h; simp [execOp, hc, asBool]
theorem pbt {a : Bool} (hc : ρ c = .bool true) (h : ρ x = .bool a) : (execOp ρ ⟨dst, .pick c x y, ty, pos, after, g⟩).run P w = .ok (.value (.bool a)) w := pkt hc h
theorem pbf {a : Bool} (hc : ρ c = .bool false) (h : ρ y = .bool a) : (execOp ρ ⟨dst, .pick c x y, ty, pos, after, g⟩).run P w = .ok (.value (.bool a)) w := pkf hc h
theorem nl {a : Addr} (h : ρ x = .pointer (some a)) : (execOp ρ ⟨dst, .nilCheck x, ty, pos, after, g⟩).run P w = .ok (.value (.pointer (some a))) w := by simp [execOp, h]
theorem nt {a : Bool} {T : TypeId} (h : ρ x = .bool a) : (execOp ρ ⟨dst, .unOp .not T x, ty, pos, after, g⟩).run P w = .ok (.value (.bool (!a))) w := by simp [execOp, h, Op.unary]
theorem ntt {T : TypeId} (h : ρ x = .bool true) : (execOp ρ ⟨dst, .unOp .not T x, ty, pos, after, g⟩).run P w = .ok (.value (.bool false)) w := nt h
theorem ntf {T : TypeId} (h : ρ x = .bool false) : (execOp ρ ⟨dst, .unOp .not T x, ty, pos, after, g⟩).run P w = .ok (.value (.bool true)) w := nt h
-- integers
section
variable {k : IntKind} {T U : TypeId} {a b : Int}
theorem eqGuard_ints (op : BinOp) (T : TypeId) (x y : Operand) (a b : Int) : (eqGuard op T x y (.int k a) (.int k b)).run P w = .ok () w := by
  unfold eqGuard; cases op <;> rfl
theorem bin_ints {op : BinOp} {v : Value} (hx : ρ x = .int k a) (hy : ρ y = .int k b) (h : (binOp op T (.int k a) (.int k b)).run P w = .ok v w) :
    (execOp ρ ⟨dst, .binOp op T x y U, ty, pos, after, g⟩).run P w = .ok (.value v) w := by
  simp [execOp, hx, hy, eqGuard_ints, h]
theorem adw (hx : ρ x = .int k a) (hy : ρ y = .int k b) : (execOp ρ ⟨dst, .binOp .add T x y U, ty, pos, after, g⟩).run P w = .ok (.value (.int k (k.wrap (a + b)))) w := bin_ints hx hy (by simp [binOp, Op.intArith])
theorem sbw (hx : ρ x = .int k a) (hy : ρ y = .int k b) : (execOp ρ ⟨dst, .binOp .sub T x y U, ty, pos, after, g⟩).run P w = .ok (.value (.int k (k.wrap (a - b)))) w := bin_ints hx hy (by simp [binOp, Op.intArith])
theorem mlw (hx : ρ x = .int k a) (hy : ρ y = .int k b) : (execOp ρ ⟨dst, .binOp .mul T x y U, ty, pos, after, g⟩).run P w = .ok (.value (.int k (k.wrap (a * b)))) w := bin_ints hx hy (by simp [binOp, Op.intArith])
theorem wrap_in {a : Int} (h : -9223372036854775808 ≤ a ∧ a ≤ 9223372036854775807) : IntKind.i64.wrap a = a := IntWalk.i64_in a h
theorem ad {c : Int} (hx : ρ x = .int .i64 a) (hy : ρ y = .int .i64 b) (hc : a + b = c) (h : -9223372036854775808 ≤ c ∧ c ≤ 9223372036854775807) : (execOp ρ ⟨dst, .binOp .add T x y U, ty, pos, after, g⟩).run P w = .ok (.value (.int .i64 c)) w := by
  subst hc; have := adw (P := P) (w := w) (dst := dst) (ty := ty) (pos := pos) (after := after) (g := g) (T := T) (U := U) hx hy; rw [wrap_in h] at this; exact this
theorem sb {c : Int} (hx : ρ x = .int .i64 a) (hy : ρ y = .int .i64 b) (hc : a - b = c) (h : -9223372036854775808 ≤ c ∧ c ≤ 9223372036854775807) : (execOp ρ ⟨dst, .binOp .sub T x y U, ty, pos, after, g⟩).run P w = .ok (.value (.int .i64 c)) w := by
  subst hc; have := sbw (P := P) (w := w) (dst := dst) (ty := ty) (pos := pos) (after := after) (g := g) (T := T) (U := U) hx hy; rw [wrap_in h] at this; exact this
theorem ml {c : Int} (hx : ρ x = .int .i64 a) (hy : ρ y = .int .i64 b) (hc : a * b = c) (h : -9223372036854775808 ≤ c ∧ c ≤ 9223372036854775807) : (execOp ρ ⟨dst, .binOp .mul T x y U, ty, pos, after, g⟩).run P w = .ok (.value (.int .i64 c)) w := by
  subst hc; have := mlw (P := P) (w := w) (dst := dst) (ty := ty) (pos := pos) (after := after) (g := g) (T := T) (U := U) hx hy; rw [wrap_in h] at this; exact this
theorem rm (hx : ρ x = .int k a) (hy : ρ y = .int k b) (hb : b ≠ 0) : (execOp ρ ⟨dst, .binOp .rem T x y U, ty, pos, after, g⟩).run P w = .ok (.value (.int k (a.tmod b))) w := bin_ints hx hy (by simp [binOp, Op.intDiv, hb])
theorem quw (hx : ρ x = .int k a) (hy : ρ y = .int k b) (hb : b ≠ 0) : (execOp ρ ⟨dst, .binOp .quo T x y U, ty, pos, after, g⟩).run P w = .ok (.value (.int k (k.wrap (a.tdiv b)))) w := bin_ints hx hy (by simp [binOp, Op.intDiv, hb])
-- comparisons: the test decided, or named
theorem cmp (op : BinOp) {t : Bool} (hx : ρ x = .int k a) (hy : ρ y = .int k b) (h : (Op.intCmp op a b).run P w = .ok (.bool t) w) (hop : (binOp op T (.int k a) (.int k b)) = Op.intCmp op a b) :
    (execOp ρ ⟨dst, .binOp op T x y U, ty, pos, after, g⟩).run P w = .ok (.value (.bool t)) w := bin_ints hx hy (by rw [hop]; exact h)
theorem lt' (hx : ρ x = .int k a) (hy : ρ y = .int k b) : (execOp ρ ⟨dst, .binOp .lss T x y U, ty, pos, after, g⟩).run P w = .ok (.value (.bool (decide (a < b)))) w := cmp .lss hx hy rfl (by simp [binOp])
theorem le' (hx : ρ x = .int k a) (hy : ρ y = .int k b) : (execOp ρ ⟨dst, .binOp .leq T x y U, ty, pos, after, g⟩).run P w = .ok (.value (.bool (decide (a ≤ b)))) w := cmp .leq hx hy rfl (by simp [binOp])
theorem gt' (hx : ρ x = .int k a) (hy : ρ y = .int k b) : (execOp ρ ⟨dst, .binOp .gtr T x y U, ty, pos, after, g⟩).run P w = .ok (.value (.bool (decide (a > b)))) w := cmp .gtr hx hy rfl (by simp [binOp])
theorem ge' (hx : ρ x = .int k a) (hy : ρ y = .int k b) : (execOp ρ ⟨dst, .binOp .geq T x y U, ty, pos, after, g⟩).run P w = .ok (.value (.bool (decide (a ≥ b)))) w := cmp .geq hx hy rfl (by simp [binOp])
theorem eq' (hx : ρ x = .int k a) (hy : ρ y = .int k b) : (execOp ρ ⟨dst, .binOp .eql T x y U, ty, pos, after, g⟩).run P w = .ok (.value (.bool (a == b))) w := cmp .eql hx hy rfl (by simp [binOp])
theorem ne' (hx : ρ x = .int k a) (hy : ρ y = .int k b) : (execOp ρ ⟨dst, .binOp .neq T x y U, ty, pos, after, g⟩).run P w = .ok (.value (.bool (a != b))) w := cmp .neq hx hy rfl (by simp [binOp])
theorem eqd (hx : ρ x = .int k a) (hy : ρ y = .int k b) : (execOp ρ ⟨dst, .binOp .eql T x y U, ty, pos, after, g⟩).run P w = .ok (.value (.bool (decide (a = b)))) w := eq' hx hy
theorem ned (hx : ρ x = .int k a) (hy : ρ y = .int k b) : (execOp ρ ⟨dst, .binOp .neq T x y U, ty, pos, after, g⟩).run P w = .ok (.value (.bool (decide (¬ a = b)))) w := by
  have := ne' (P := P) (w := w) (dst := dst) (ty := ty) (pos := pos) (after := after) (g := g) (T := T) (U := U) hx hy
  rwa [show (a != b) = decide (¬ a = b) by by_cases h : a = b <;> simp [h, bne]] at this
theorem ltt (hx : ρ x = .int k a) (hy : ρ y = .int k b) (h : a < b) : (execOp ρ ⟨dst, .binOp .lss T x y U, ty, pos, after, g⟩).run P w = .ok (.value (.bool true)) w := by have := lt' (P := P) (w := w) (dst := dst) (ty := ty) (pos := pos) (after := after) (g := g) (T := T) (U := U) hx hy; rwa [decide_eq_true h] at this
theorem ltf (hx : ρ x = .int k a) (hy : ρ y = .int k b) (h : ¬ a < b) : (execOp ρ ⟨dst, .binOp .lss T x y U, ty, pos, after, g⟩).run P w = .ok (.value (.bool false)) w := by have := lt' (P := P) (w := w) (dst := dst) (ty := ty) (pos := pos) (after := after) (g := g) (T := T) (U := U) hx hy; rwa [decide_eq_false h] at this
theorem let_ (hx : ρ x = .int k a) (hy : ρ y = .int k b) (h : a ≤ b) : (execOp ρ ⟨dst, .binOp .leq T x y U, ty, pos, after, g⟩).run P w = .ok (.value (.bool true)) w := by have := le' (P := P) (w := w) (dst := dst) (ty := ty) (pos := pos) (after := after) (g := g) (T := T) (U := U) hx hy; rwa [decide_eq_true h] at this
theorem lef (hx : ρ x = .int k a) (hy : ρ y = .int k b) (h : ¬ a ≤ b) : (execOp ρ ⟨dst, .binOp .leq T x y U, ty, pos, after, g⟩).run P w = .ok (.value (.bool false)) w := by have := le' (P := P) (w := w) (dst := dst) (ty := ty) (pos := pos) (after := after) (g := g) (T := T) (U := U) hx hy; rwa [decide_eq_false h] at this
theorem gtt (hx : ρ x = .int k a) (hy : ρ y = .int k b) (h : a > b) : (execOp ρ ⟨dst, .binOp .gtr T x y U, ty, pos, after, g⟩).run P w = .ok (.value (.bool true)) w := by have := gt' (P := P) (w := w) (dst := dst) (ty := ty) (pos := pos) (after := after) (g := g) (T := T) (U := U) hx hy; rwa [decide_eq_true h] at this
theorem gtf (hx : ρ x = .int k a) (hy : ρ y = .int k b) (h : ¬ a > b) : (execOp ρ ⟨dst, .binOp .gtr T x y U, ty, pos, after, g⟩).run P w = .ok (.value (.bool false)) w := by have := gt' (P := P) (w := w) (dst := dst) (ty := ty) (pos := pos) (after := after) (g := g) (T := T) (U := U) hx hy; rwa [decide_eq_false h] at this
theorem get_ (hx : ρ x = .int k a) (hy : ρ y = .int k b) (h : a ≥ b) : (execOp ρ ⟨dst, .binOp .geq T x y U, ty, pos, after, g⟩).run P w = .ok (.value (.bool true)) w := by have := ge' (P := P) (w := w) (dst := dst) (ty := ty) (pos := pos) (after := after) (g := g) (T := T) (U := U) hx hy; rwa [decide_eq_true h] at this
theorem gef (hx : ρ x = .int k a) (hy : ρ y = .int k b) (h : ¬ a ≥ b) : (execOp ρ ⟨dst, .binOp .geq T x y U, ty, pos, after, g⟩).run P w = .ok (.value (.bool false)) w := by have := ge' (P := P) (w := w) (dst := dst) (ty := ty) (pos := pos) (after := after) (g := g) (T := T) (U := U) hx hy; rwa [decide_eq_false h] at this
theorem eqt (hx : ρ x = .int k a) (hy : ρ y = .int k b) (h : a = b) : (execOp ρ ⟨dst, .binOp .eql T x y U, ty, pos, after, g⟩).run P w = .ok (.value (.bool true)) w := by have := eq' (P := P) (w := w) (dst := dst) (ty := ty) (pos := pos) (after := after) (g := g) (T := T) (U := U) hx hy; rwa [beq_iff_eq.2 h] at this
theorem eqf (hx : ρ x = .int k a) (hy : ρ y = .int k b) (h : ¬ a = b) : (execOp ρ ⟨dst, .binOp .eql T x y U, ty, pos, after, g⟩).run P w = .ok (.value (.bool false)) w := by have := eq' (P := P) (w := w) (dst := dst) (ty := ty) (pos := pos) (after := after) (g := g) (T := T) (U := U) hx hy; rwa [beq_eq_false_iff_ne.2 h] at this
theorem net (hx : ρ x = .int k a) (hy : ρ y = .int k b) (h : ¬ a = b) : (execOp ρ ⟨dst, .binOp .neq T x y U, ty, pos, after, g⟩).run P w = .ok (.value (.bool true)) w := by have := ne' (P := P) (w := w) (dst := dst) (ty := ty) (pos := pos) (after := after) (g := g) (T := T) (U := U) hx hy; rwa [show (a != b) = true by simp [bne_iff_ne, h]] at this
theorem nef (hx : ρ x = .int k a) (hy : ρ y = .int k b) (h : a = b) : (execOp ρ ⟨dst, .binOp .neq T x y U, ty, pos, after, g⟩).run P w = .ok (.value (.bool false)) w := by have := ne' (P := P) (w := w) (dst := dst) (ty := ty) (pos := pos) (after := after) (g := g) (T := T) (U := U) hx hy; rwa [show (a != b) = false by simp [h]] at this
end
-- bools, pointers against nil
theorem bin_gen {op : BinOp} {T U : TypeId} {a b v : Value} (hx : ρ x = a) (hy : ρ y = b) (hg : (eqGuard op T x y a b).run P w = .ok () w) (h : (binOp op T a b).run P w = .ok v w) :
    (execOp ρ ⟨dst, .binOp op T x y U, ty, pos, after, g⟩).run P w = .ok (.value v) w := by
  simp only [execOp, hx, hy]
  simp [hg, h]
theorem guard_bools (op : BinOp) (T : TypeId) (x y : Operand) (a b : Bool) : (eqGuard op T x y (.bool a) (.bool b)).run P w = .ok () w := by unfold eqGuard; cases op <;> rfl
theorem guard_ptrs (op : BinOp) (T : TypeId) (x y : Operand) (a b : Option Addr) : (eqGuard op T x y (.pointer a) (.pointer b)).run P w = .ok () w := by unfold eqGuard; cases op <;> rfl
theorem run_neq (T : TypeId) (a b : Value) (h : binOp .neq T a b = (do pure (.bool (!(← Op.equal T a b))))) {t : Bool} (he : (Op.equal T a b).run P w = .ok t w) : (binOp .neq T a b).run P w = .ok (.bool (!t)) w := by
  rw [h]; simp [he]
theorem eqb {T U : TypeId} {a b : Bool} (hT : P.underlying T = some .bool) (hx : ρ x = .bool a) (hy : ρ y = .bool b) : (execOp ρ ⟨dst, .binOp .eql T x y U, ty, pos, after, g⟩).run P w = .ok (.value (.bool (a == b))) w :=
  bin_gen hx hy (guard_bools _ _ _ _ _ _) (run_eql_bool w T a b hT)
theorem neb {T U : TypeId} {a b : Bool} (hT : P.underlying T = some .bool) (hx : ρ x = .bool a) (hy : ρ y = .bool b) : (execOp ρ ⟨dst, .binOp .neq T x y U, ty, pos, after, g⟩).run P w = .ok (.value (.bool (!(a == b)))) w :=
  bin_gen hx hy (guard_bools _ _ _ _ _ _) (run_neq T _ _ rfl (run_equal_bool w T a b hT))
theorem eqbt {T U : TypeId} {a b : Bool} (hT : P.underlying T = some .bool) (hx : ρ x = .bool a) (hy : ρ y = .bool b) (h : a = b) : (execOp ρ ⟨dst, .binOp .eql T x y U, ty, pos, after, g⟩).run P w = .ok (.value (.bool true)) w := by
  have := eqb (P := P) (w := w) (dst := dst) (ty := ty) (pos := pos) (after := after) (g := g) (U := U) hT hx hy; rwa [show (a == b) = true by simpa using h] at this
theorem eqbf {T U : TypeId} {a b : Bool} (hT : P.underlying T = some .bool) (hx : ρ x = .bool a) (hy : ρ y = .bool b) (h : ¬ a = b) : (execOp ρ ⟨dst, .binOp .eql T x y U, ty, pos, after, g⟩).run P w = .ok (.value (.bool false)) w := by
  have := eqb (P := P) (w := w) (dst := dst) (ty := ty) (pos := pos) (after := after) (g := g) (U := U) hT hx hy; rwa [show (a == b) = false by simpa using h] at this
theorem nebt {T U : TypeId} {a b : Bool} (hT : P.underlying T = some .bool) (hx : ρ x = .bool a) (hy : ρ y = .bool b) (h : ¬ a = b) : (execOp ρ ⟨dst, .binOp .neq T x y U, ty, pos, after, g⟩).run P w = .ok (.value (.bool true)) w := by
  have := neb (P := P) (w := w) (dst := dst) (ty := ty) (pos := pos) (after := after) (g := g) (U := U) hT hx hy; rwa [show (!(a == b)) = true by simpa using h] at this
theorem nebf {T U : TypeId} {a b : Bool} (hT : P.underlying T = some .bool) (hx : ρ x = .bool a) (hy : ρ y = .bool b) (h : a = b) : (execOp ρ ⟨dst, .binOp .neq T x y U, ty, pos, after, g⟩).run P w = .ok (.value (.bool false)) w := by
  have := neb (P := P) (w := w) (dst := dst) (ty := ty) (pos := pos) (after := after) (g := g) (U := U) hT hx hy; rwa [show (!(a == b)) = false by simpa using h] at this
theorem equal_ptr_nil {T e : TypeId} {a : Option Addr} (hT : P.underlying T = some (.pointer e)) : (Op.equal T (.pointer a) (.pointer none)).run P w = .ok a.isNone w := by
  have key : ∀ d, (Op.equalIn (d + 1) T (.pointer a) (.pointer none)).run P w = .ok a.isNone w := by
    intro d
    cases a <;> simp [Op.equalIn, run_underlying hT]
  exact key 9999
theorem epn {T U e : TypeId} {a : Option Addr} (hT : P.underlying T = some (.pointer e)) (hx : ρ x = .pointer a) (hy : ρ y = .pointer none) : (execOp ρ ⟨dst, .binOp .eql T x y U, ty, pos, after, g⟩).run P w = .ok (.value (.bool a.isNone)) w :=
  bin_gen hx hy (guard_ptrs _ _ _ _ _ _) (by have := equal_ptr_nil (w := w) (a := a) hT; simp only [binOp]; simp [this])
theorem epf {T U e : TypeId} {a : Addr} (hT : P.underlying T = some (.pointer e)) (hx : ρ x = .pointer (some a)) (hy : ρ y = .pointer none) : (execOp ρ ⟨dst, .binOp .eql T x y U, ty, pos, after, g⟩).run P w = .ok (.value (.bool false)) w := epn hT hx hy
theorem ept {T U e : TypeId} (hT : P.underlying T = some (.pointer e)) (hx : ρ x = .pointer none) (hy : ρ y = .pointer none) : (execOp ρ ⟨dst, .binOp .eql T x y U, ty, pos, after, g⟩).run P w = .ok (.value (.bool true)) w := epn hT hx hy
theorem npf {T U e : TypeId} {a : Addr} (hT : P.underlying T = some (.pointer e)) (hx : ρ x = .pointer (some a)) (hy : ρ y = .pointer none) : (execOp ρ ⟨dst, .binOp .neq T x y U, ty, pos, after, g⟩).run P w = .ok (.value (.bool true)) w :=
  bin_gen hx hy (guard_ptrs _ _ _ _ _ _) (run_neq T _ _ rfl (equal_ptr_nil (a := some a) hT))
theorem npt {T U e : TypeId} (hT : P.underlying T = some (.pointer e)) (hx : ρ x = .pointer none) (hy : ρ y = .pointer none) : (execOp ρ ⟨dst, .binOp .neq T x y U, ty, pos, after, g⟩).run P w = .ok (.value (.bool false)) w :=
  bin_gen hx hy (guard_ptrs _ _ _ _ _ _) (run_neq T _ _ rfl (equal_ptr_nil (a := none) hT))
-- memory
theorem ld {T : TypeId} {a : Addr} {v : Value} (hx : ρ x = .pointer (some a)) (hT : ∀ w, (isAgg T).run P w = .ok false w) (hc : w.cell? a = some v) : (execOp ρ ⟨dst, .load T x, ty, pos, after, g⟩).run P w = .ok (.value v) w := by
  simp [execOp, hx, Instr.loadAt, Instr.sureAddr, loadVar, hT, load, Sem.run, hc]
theorem ldg {T : TypeId} {a : Addr} {m : Nat} {cs : List Value} (hx : ρ x = .pointer (some a)) (hT : ∀ w, (isAgg T).run P w = .ok true w) (hs : ∀ w, (sizeOf T).run P w = .ok m w) (hm : cs.length = m) (hc : ∀ j v, cs[j]? = some v → w.cell? (a.add j) = some v) :
    (execOp ρ ⟨dst, .load T x, ty, pos, after, g⟩).run P w = .ok (.value (.agg cs.toArray)) w := by
  subst hm
  have := run_loadCells_list (P := P) (w := w) a cs hc
  simp [execOp, hx, Instr.loadAt, Instr.sureAddr, loadVar, hT, hs, this]
theorem st {T : TypeId} {a : Addr} {v u : Value} (hx : ρ x = .pointer (some a)) (hy : ρ y = v) (hv : v.oneCell' = true) (hs : ∀ w, (sizeOf T).run P w = .ok 1 w) (hc : w.cell? a = some u) (hf : w.frozen? a = false) :
    (execOp ρ ⟨dst, .store T x y, ty, pos, after, g⟩).run P w = .ok .skip (w.setCell a v) := by
  have h1 : v.cells = #[v] := by cases v <;> first | rfl | simp [Value.oneCell'] at hv
  have h := run_store P w a v .plain hv
  rw [hc] at h
  simp only [hf, Bool.false_eq_true, if_false] at h
  have ha : a.add 0 = a := by simp [Addr.add]
  simp [execOp, hx, hy, Instr.storeAt, Instr.sureAddr, storeVar, h1, hs, storeCells, ha, h]
theorem sti {T : TypeId} {k : IntKind} {a : Addr} {v : Int} {u : Value} (hx : ρ x = .pointer (some a)) (hy : ρ y = .int k v) (hs : ∀ w, (sizeOf T).run P w = .ok 1 w) (hc : w.cell? a = some u) (hf : w.frozen? a = false) :
    (execOp ρ ⟨dst, .store T x y, ty, pos, after, g⟩).run P w = .ok .skip (w.setCell a (.int k v)) := st hx hy rfl hs hc hf
theorem stb {T : TypeId} {a : Addr} {v : Bool} {u : Value} (hx : ρ x = .pointer (some a)) (hy : ρ y = .bool v) (hs : ∀ w, (sizeOf T).run P w = .ok 1 w) (hc : w.cell? a = some u) (hf : w.frozen? a = false) :
    (execOp ρ ⟨dst, .store T x y, ty, pos, after, g⟩).run P w = .ok .skip (w.setCell a (.bool v)) := st hx hy rfl hs hc hf
theorem sts {T : TypeId} {a : Addr} {s : Option Addr} {m k : Nat} {u : Value} (hx : ρ x = .pointer (some a)) (hy : ρ y = .slice s m k) (hs : ∀ w, (sizeOf T).run P w = .ok 1 w) (hc : w.cell? a = some u) (hf : w.frozen? a = false) :
    (execOp ρ ⟨dst, .store T x y, ty, pos, after, g⟩).run P w = .ok .skip (w.setCell a (.slice s m k)) := st hx hy rfl hs hc hf
theorem stp {T : TypeId} {a : Addr} {s : Option Addr} {u : Value} (hx : ρ x = .pointer (some a)) (hy : ρ y = .pointer s) (hs : ∀ w, (sizeOf T).run P w = .ok 1 w) (hc : w.cell? a = some u) (hf : w.frozen? a = false) :
    (execOp ρ ⟨dst, .store T x y, ty, pos, after, g⟩).run P w = .ok .skip (w.setCell a (.pointer s)) := st hx hy rfl hs hc hf
theorem stm {T : TypeId} {a : Addr} {s : Option Nat} {u : Value} (hx : ρ x = .pointer (some a)) (hy : ρ y = .map s) (hs : ∀ w, (sizeOf T).run P w = .ok 1 w) (hc : w.cell? a = some u) (hf : w.frozen? a = false) :
    (execOp ρ ⟨dst, .store T x y, ty, pos, after, g⟩).run P w = .ok .skip (w.setCell a (.map s)) := st hx hy rfl hs hc hf

/-- What a block holds behind a row of cells that is laid over it from o on. -/
def laid (cs vs : List Value) (o : Nat) : List Value := cs.take o ++ vs ++ cs.drop (o + vs.length)
theorem Blk.setRow {w : World} {b : Nat} {cs : List Value} {T : TypeId} (h : Blk w b cs T) (vs : List Value) : Blk (w.setRow b vs.toArray) b vs T := setRow_heap w b _ _ T _ h
theorem Blk.setRowOther {w : World} {b b' : Nat} {cs : List Value} {T : TypeId} (h : Blk w b cs T) (hb : b' ≠ b) (vs : Array Value) : Blk (w.setRow b' vs) b cs T := by
  unfold Blk at *
  rw [← h]
  simp only [World.setRow, Array.getElem?_modify]
  rw [if_neg hb]
theorem Only.setRow {S : List Nat} {a w : World} (h : Only S a w) {b : Nat} (hp : b ∈ S ∨ a.heap.size ≤ b) (vs : Array Value) : Only S a (w.setRow b vs) :=
  h.trans (S' := [b]) ⟨rfl, rfl, rfl, by simp [World.setRow], fun k hk hn => by
    simp only [World.setRow, Array.getElem?_modify]
    rw [if_neg (fun e => hn (by simp [e]))]⟩ (by simpa using hp)
theorem stg {T E : TypeId} {bb o : Nat} {cs vs : List Value} (hx : ρ x = .pointer (some ⟨bb, o, none⟩)) (hy : ρ y = .agg vs.toArray) (hs : ∀ w, (sizeOf T).run P w = .ok vs.length w) (hB : Blk w bb cs E) (hfit : o + vs.length ≤ cs.length) (h1 : ∀ v ∈ vs, v.oneCell' = true) :
    (execOp ρ ⟨dst, .store T x y, ty, pos, after, g⟩).run P w = .ok .skip (w.setRow bb (laid cs vs o).toArray) := by
  have h := run_storeCells_at P bb o E vs 0 cs.toArray w hB (by simpa using hfit) h1
  simp only [Nat.add_zero, List.append_assoc] at h
  have h' : (storeCells ⟨bb, o, none⟩ vs).run P w = .ok () (w.setRow bb (laid cs vs o).toArray) := by rw [laid, List.append_assoc]; exact h
  simp [execOp, hx, hy, Instr.storeAt, Instr.sureAddr, storeVar, Value.cells, hs, h']
theorem fa {T : TypeId} {fs : Array Field} {f : Nat} {fd : Field} {bb o m : Nat} (off : Nat) (hx : ρ x = .pointer (some ⟨bb, o, none⟩)) (hu : P.underlying T = some (.struct fs)) (hf : fs[f]? = some fd) (hs : ∀ w, (sizeOf fd.type).run P w = .ok m w) (hm : Nat.beq m 0 = false) (ho : fd.offset = off) :
    (execOp ρ ⟨dst, .fieldAddr T x f, ty, pos, after, g⟩).run P w = .ok (.value (.pointer (some ⟨bb, o + off, none⟩))) w := by
  subst ho
  have hm' : ¬ m = 0 := by rw [← Nat.beq_eq, hm]; simp
  simp [execOp, hx, Instr.fieldAt, run_underlying hu, hf, Instr.sureAddr, fieldPlace, hs, hm', Addr.add_lit]
theorem fa0 {T : TypeId} {fs : Array Field} {f : Nat} {fd : Field} {bb m : Nat} (off : Nat) (hx : ρ x = .pointer (some ⟨bb, 0, none⟩)) (hu : P.underlying T = some (.struct fs)) (hf : fs[f]? = some fd) (hs : ∀ w, (sizeOf fd.type).run P w = .ok m w) (hm : Nat.beq m 0 = false) (ho : fd.offset = off) :
    (execOp ρ ⟨dst, .fieldAddr T x f, ty, pos, after, g⟩).run P w = .ok (.value (.pointer (some ⟨bb, off, none⟩))) w := by
  have := fa (P := P) (w := w) (dst := dst) (ty := ty) (pos := pos) (after := after) (g := g) off hx hu hf hs hm ho
  rwa [Nat.zero_add] at this
section
variable {T E : TypeId} {bb o len cap m j : Nat} {k : IntKind}
theorem ix {i : Int} (hx : ρ x = .slice (some ⟨bb, o, none⟩) len cap) (hy : ρ y = .int k i) (hu : P.underlying T = some (.slice E)) (hs : ∀ w, (sizeOf E).run P w = .ok m w) (h0 : 0 ≤ i) (h1 : i < len) {o' : Nat} (ho : o + i.toNat * m = o') :
    (execOp ρ ⟨dst, .indexAddr T x y, ty, pos, after, g⟩).run P w = .ok (.value (.pointer (some ⟨bb, o', none⟩))) w := by
  subst ho
  simp [execOp, hx, hy, Instr.indexAt, asIntOf, run_underlying hu, h0, h1, hs, Addr.add_lit]
theorem ix01 (hx : ρ x = .slice (some ⟨bb, 0, none⟩) len cap) (hy : ρ y = .int k (j : Int)) (hu : P.underlying T = some (.slice E)) (hs : ∀ w, (sizeOf E).run P w = .ok 1 w) (h1 : j < len) :
    (execOp ρ ⟨dst, .indexAddr T x y, ty, pos, after, g⟩).run P w = .ok (.value (.pointer (some ⟨bb, j, none⟩))) w := ix hx hy hu hs (by omega) (by omega) (by simp)
theorem ix0m (hx : ρ x = .slice (some ⟨bb, 0, none⟩) len cap) (hy : ρ y = .int k (j : Int)) (hu : P.underlying T = some (.slice E)) (hs : ∀ w, (sizeOf E).run P w = .ok m w) (h1 : j < len) :
    (execOp ρ ⟨dst, .indexAddr T x y, ty, pos, after, g⟩).run P w = .ok (.value (.pointer (some ⟨bb, j * m, none⟩))) w := ix hx hy hu hs (by omega) (by omega) (by simp)
theorem ixo1 (hx : ρ x = .slice (some ⟨bb, o, none⟩) len cap) (hy : ρ y = .int k (j : Int)) (hu : P.underlying T = some (.slice E)) (hs : ∀ w, (sizeOf E).run P w = .ok 1 w) (h1 : j < len) :
    (execOp ρ ⟨dst, .indexAddr T x y, ty, pos, after, g⟩).run P w = .ok (.value (.pointer (some ⟨bb, o + j, none⟩))) w := ix hx hy hu hs (by omega) (by omega) (by simp)
theorem ixom (hx : ρ x = .slice (some ⟨bb, o, none⟩) len cap) (hy : ρ y = .int k (j : Int)) (hu : P.underlying T = some (.slice E)) (hs : ∀ w, (sizeOf E).run P w = .ok m w) (h1 : j < len) :
    (execOp ρ ⟨dst, .indexAddr T x y, ty, pos, after, g⟩).run P w = .ok (.value (.pointer (some ⟨bb, o + j * m, none⟩))) w := ix hx hy hu hs (by omega) (by omega) (by simp)
end
theorem ln {T E : TypeId} {a : Option Addr} {m k : Nat} (hx : ρ x = .slice a m k) (hu : P.underlying T = some (.slice E)) :
    (execOp ρ ⟨dst, .call ⟨.builtin .len, #[x], #[T]⟩, ty, pos, after, g⟩).run P w = .ok (.value (.int .i64 (m : Int))) w := by
  simp [execOp, resolve, invoke, builtin, Builtin.len_, hx, run_underlying hu, goInt]
theorem cl {f : FuncId} {args : Array Operand} {ats : Array TypeId} {vs : List Value} (hc : ∀ (a : Array Value) (w : World), (callFunc f a).run P w = .ok (.enter f a) w) (ha : args.toList.map ρ = vs) (hf : ρ x = .func (.func f) #[] #[]) :
    (execOp ρ ⟨dst, .call ⟨.value x, args, ats⟩, ty, pos, after, g⟩).run P w = .ok (.enter f vs.toArray) w := by
  subst ha
  have : args.map ρ = (args.toList.map ρ).toArray := by apply Array.ext' ; simp
  simp [execOp, resolve, hf, Deferred.ofValue, invoke, hc, this]
theorem cv {f : FuncId} {args : Array Operand} {ats : Array TypeId} {vs fi ca : List Value} (hc : ∀ (a : Array Value) (w : World), (callFunc f a).run P w = .ok (.enter f a) w) (hf : ρ x = .func (.func f) fi.toArray ca.toArray) (ha : fi ++ args.toList.map ρ ++ ca = vs) :
    (execOp ρ ⟨dst, .call ⟨.value x, args, ats⟩, ty, pos, after, g⟩).run P w = .ok (.enter f vs.toArray) w := by
  subst ha
  have : args.map ρ = (args.toList.map ρ).toArray := by apply Array.ext' ; simp
  simp [execOp, resolve, hf, Deferred.ofValue, invoke, hc, this]
theorem bo {T : TypeId} {v : Value} (hx : ρ x = v) : (execOp ρ ⟨dst, .box T x, ty, pos, after, g⟩).run P w = .ok (.value (.pointer (some ⟨w.heap.size, 0, none⟩))) (w.alloc (.cells v.cells T)) := by
  subst hx
  simp [execOp, Instr.box, newVar, newRow, newObj, Sem.run]
theorem al {T : TypeId} {v : Value} (hz : ∀ w, (zeroValue T).run P w = .ok v w) : (execOp ρ ⟨dst, .alloc T, ty, pos, after, g⟩).run P w = .ok (.value (.pointer (some ⟨w.heap.size, 0, none⟩))) (w.alloc (.cells v.cells T)) := by
  simp [execOp, Instr.alloc, hz, newVar, newRow, newObj, Sem.run]
theorem mkf {fn : Fn} {fi ca : Array Operand} {fv cv : List Value} (h1 : fi.toList.map ρ = fv) (h2 : ca.toList.map ρ = cv) : (execOp ρ ⟨dst, .makeFunc fn fi ca, ty, pos, after, g⟩).run P w = .ok (.value (.func fn fv.toArray cv.toArray)) w := by
  subst h1 h2
  have e1 : fi.map ρ = (fi.toList.map ρ).toArray := by apply Array.ext' ; simp
  have e2 : ca.map ρ = (ca.toList.map ρ).toArray := by apply Array.ext' ; simp
  simp [execOp, Instr.makeFunc, e1, e2]
theorem ext {i : Nat} {vs : List Value} {v : Value} (hx : ρ x = .tuple vs.toArray) (h : vs[i]? = some v) : (execOp ρ ⟨dst, .extract x i, ty, pos, after, g⟩).run P w = .ok (.value v) w := by
  simp [execOp, Instr.extract, hx, h]
end
end Go.Hp
