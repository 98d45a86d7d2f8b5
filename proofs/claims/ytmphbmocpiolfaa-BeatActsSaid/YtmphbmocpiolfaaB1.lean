/- Contracts of Go functions, each by one walk. Written by a program of this session out of its own annotations. -/
import Derived.Test.YtmphbmocpiolfaaChecked
import Derived.Test.YtmphbmocpiolfaaOps2
namespace Go.Proofs.Ytmphbmocpiolfaa
open Go Go.RowKit Go.Hp
set_option linter.unusedVariables false
set_option linter.unusedSimpArgs false
set_option maxRecDepth 100000

structure One where
  ready : Bool
  life : Int
  since : Int
  deriving DecidableEq
def One.c (o : One) : List Value := [.bool o.ready, .int .i64 o.life, .int .i64 o.since]
theorem One.c_len (o : One) : o.c.length = 3 := rfl
theorem flat_one (l : List One) (k : Nat) (h : k < l.length) : (flat One.c l)[k * 3]? = some (.bool l[k].ready) ∧ (flat One.c l)[k * 3 + 1]? = some (.int .i64 l[k].life) ∧ (flat One.c l)[k * 3 + 2]? = some (.int .i64 l[k].since) := by
  refine ⟨?_, ?_, ?_⟩
  · have := flat_get One.c 3 One.c_len l k 0 (by omega); simpa [List.getElem?_eq_getElem h, One.c] using this
  · have := flat_get One.c 3 One.c_len l k 1 (by omega); simpa [List.getElem?_eq_getElem h, One.c] using this
  · have := flat_get One.c 3 One.c_len l k 2 (by omega); simpa [List.getElem?_eq_getElem h, One.c] using this
def WatchAt (w : World) (b bl : Nat) (pat ep : Int) (l : List One) : Prop :=
  Blk w b [.int .i64 pat, .int .i64 ep, .slice (some ⟨bl, 0, none⟩) l.length l.length] 50 ∧ Blk w bl (flat One.c l) 52 ∧ b ≠ bl ∧ l.length ≤ 64
theorem WatchAt.kept {S : List Nat} {w w' : World} {b bl : Nat} {pat ep : Int} {l : List One} (h : WatchAt w b bl pat ep l) (ho : Only S w w') (hb : b ∉ S) (hl : bl ∉ S) : WatchAt w' b bl pat ep l :=
  ⟨h.1.kept ho hb, h.2.1.kept ho hl, h.2.2⟩
theorem WatchAt.drew {w : World} {b bl : Nat} {pat ep : Int} {l : List One} (h : WatchAt w b bl pat ep l) : WatchAt w.drew b bl pat ep l := h
def inc (o : One) : One := { o with since := IntKind.i64.wrap (o.since + 1) }
def incs (k : Nat) (l : List One) : List One := (l.take k).map inc ++ l.drop k
theorem incs_len (k : Nat) (l : List One) : (incs k l).length = l.length := by simp [incs]; omega
theorem incs_set (k : Nat) (l : List One) (h : k < l.length) : (incs k l).set k (inc l[k]) = incs (k + 1) l := by
  apply List.ext_getElem?
  intro i
  rw [List.getElem?_set, incs_len]
  simp only [incs, List.getElem?_append, List.length_map, List.length_take, List.getElem?_map, List.getElem?_take, List.getElem?_drop]
  by_cases e : k = i
  · subst e
    rw [if_pos rfl, if_pos h, if_pos (by omega), if_pos (by omega), List.getElem?_eq_getElem h]; rfl
  · rw [if_neg e]
    by_cases h1 : i < k
    · rw [if_pos (by omega), if_pos (by omega), if_pos (by omega), if_pos (by omega)]
    · by_cases h2 : i < l.length
      · rw [if_neg (by omega), if_neg (by omega), show k + (i - min k l.length) = i by omega, show k + 1 + (i - min (k + 1) l.length) = i by omega]
      · rw [if_neg (by omega), if_neg (by omega), List.getElem?_eq_none (by omega), List.getElem?_eq_none (by omega)]
theorem incs_get (k : Nat) (l : List One) (h : k < l.length) : (incs k l)[k]'(by rw [incs_len]; exact h) = l[k] := by
  simp only [incs]
  rw [List.getElem_append_right (by simp; omega)]
  simp [Nat.min_eq_left (Nat.le_of_lt h)]
theorem incs_all (l : List One) : incs l.length l = l.map inc := by simp [incs]
def inN (worker : Int) (n : Nat) : Bool := decide (0 ≤ worker ∧ worker < n)
def idx (p : One → Bool) : List One → Nat → List Int
  | [], _ => []
  | o :: l, i => if p o then (i : Int) :: idx p l (i + 1) else idx p l (i + 1)
theorem idx_app (p : One → Bool) (o : One) : ∀ (l : List One) (i : Nat), idx p (l ++ [o]) i = idx p l i ++ if p o then [((i + l.length : Nat) : Int)] else []
  | [], i => by simp [idx]
  | x :: l, i => by
    have := idx_app p o l (i + 1)
    simp only [List.cons_append, idx, this, List.length_cons, show i + 1 + l.length = i + (l.length + 1) by omega]
    split <;> simp
theorem idx_snoc (p : One → Bool) (l : List One) (k : Nat) (h : k < l.length) : idx p (l.take (k + 1)) 0 = idx p (l.take k) 0 ++ if p l[k] then [(k : Int)] else [] := by
  rw [List.take_succ_eq_append_getElem h, idx_app]
  simp [Nat.min_eq_left (Nat.le_of_lt h)]
theorem idx_len (p : One → Bool) : ∀ (l : List One) (i : Nat), (idx p l i).length ≤ l.length
  | [], _ => by simp [idx]
  | o :: l, i => by have := idx_len p l (i + 1); simp only [idx]; split <;> simp <;> omega
structure St where
  ep : Int
  l : List One
  deriving DecidableEq
def St.bump (s : St) : St := ⟨IntKind.i64.wrap (s.ep + 1), List.replicate s.l.length ⟨false, 0, 0⟩⟩
def lateB (pat : Int) (o : One) : Bool := o.ready && decide (pat ≤ o.since)
def missB (o : One) : Bool := !o.ready
def St.tick (pat : Int) (s : St) : Bool × St :=
  if (idx missB (s.l.map inc) 0).length = 0 ∧ ¬ (idx (lateB pat) (s.l.map inc) 0).length = 0 then (true, St.bump ⟨s.ep, s.l.map inc⟩) else (false, ⟨s.ep, s.l.map inc⟩)
def St.heard (s : St) (k : Nat) (o : One) (life : Int) (now : Bool) : Bool × St :=
  if life > o.life then (true, s.bump) else if now = true then (if life = o.life then (false, ⟨s.ep, s.l.set k { o with since := 0 }⟩) else (false, s)) else (false, s)
def St.hear (s : St) (rdy : Bool) (worker epoch life : Int) : Bool × St :=
  match (if 0 ≤ worker then s.l[worker.toNat]? else none) with
  | none => (false, s)
  | some o =>
    if rdy = true then (if epoch = s.ep then (if o.ready = true then s.heard worker.toNat o life true else (false, ⟨s.ep, s.l.set worker.toNat ⟨true, life, 0⟩⟩)) else (false, s))
    else if o.ready = true then s.heard worker.toNat o life (decide (epoch = s.ep)) else (false, s)
theorem hear_out (s : St) (rdy : Bool) (worker epoch life : Int) (h : ¬ (0 ≤ worker ∧ worker < s.l.length)) : s.hear rdy worker epoch life = (false, s) := by
  have : (if 0 ≤ worker then s.l[worker.toNat]? else none) = none := by
    split
    · exact List.getElem?_eq_none (by omega)
    · rfl
  simp only [St.hear, this]
theorem hear_in (s : St) (rdy : Bool) (k : Nat) (epoch life : Int) (h : k < s.l.length) : s.hear rdy k epoch life =
    if rdy = true then (if epoch = s.ep then (if s.l[k].ready = true then s.heard k s.l[k] life true else (false, ⟨s.ep, s.l.set k ⟨true, life, 0⟩⟩)) else (false, s))
    else if s.l[k].ready = true then s.heard k s.l[k] life (decide (epoch = s.ep)) else (false, s) := by
  have : (if (0 : Int) ≤ (k : Int) then s.l[(k : Int).toNat]? else none) = some s.l[k] := by
    rw [if_pos (by omega), Int.toNat_natCast, List.getElem?_eq_getElem h]
  unfold St.hear
  rw [this]
  simp only [Int.toNat_natCast]
theorem flat_one_set (l : List One) (k j : Nat) (hj : j < 3) (v : Value) (o' : One) (hk : k < l.length) (h : l[k].c.set j v = o'.c) : (flat One.c l).set (k * 3 + j) v = flat One.c (l.set k o') :=
  flat_set One.c 3 One.c_len o' j hj v l k (fun o ho => by rw [List.getElem?_eq_getElem hk] at ho; cases ho; exact h)
theorem flat_one_row (l : List One) (k : Nat) (o' : One) (hk : k < l.length) : laid (flat One.c l) o'.c (k * 3) = flat One.c (l.set k o') := by
  have e : ∀ (l : List One) (k : Nat), k < l.length → laid (flat One.c l) o'.c (k * 3) = flat One.c (l.set k o') := by
    intro l
    induction l with
    | nil => intro k h; simp at h
    | cons o l ih =>
      intro k h
      unfold flat laid at *
      cases k with
      | zero => simp [One.c]
      | succ k =>
        have hk : k < l.length := by simpa using h
        have hc : (o.c).length = 3 := rfl
        rw [List.set_cons_succ, List.flatMap_cons, List.flatMap_cons, ← ih k hk, List.take_append, List.drop_append, hc,
          List.take_of_length_le (by rw [hc]; omega), List.drop_of_length_le (by rw [hc, One.c_len]; omega), show (k + 1) * 3 - 3 = k * 3 by omega,
          show (k + 1) * 3 + o'.c.length - 3 = k * 3 + o'.c.length by rw [One.c_len]; omega]
        simp
  exact e l k hk
theorem inN_true {worker : Int} {n : Nat} (h : inN worker n = true) : ∃ k : Nat, worker = k ∧ k < n := by
  have := of_decide_eq_true h
  exact ⟨worker.toNat, by omega, by omega⟩
theorem inN_false {worker : Int} {n : Nat} (h : inN worker n = false) : ¬ (0 ≤ worker ∧ worker < n) := of_decide_eq_false h
theorem wrap64_k (x : Int) : IntKind.i64.wrap x = wrap64 x := by rw [IntKind.wrap_i64]; unfold wrap64; rfl

set_option maxHeartbeats 1000000 in
theorem epoch_any (b bl : Nat) (pat ep : Int) (l : List One) (w : World) (h : WatchAt w b bl pat ep l) :
  Calls Try.prog 17 #[.pointer (some ⟨b, 0, none⟩)] w (Ret fun v w' => v = .int .i64 ep ∧ w = w') := by
  have hB := h.1
  refine Center (args := [.pointer (some ⟨b, 0, none⟩)]) (l := [(0, .pointer (some ⟨b, 0, none⟩))]) Try.func17 Try.ntmps17 rfl rfl rfl ?_
  refine Wseq ?_
  refine Wreg ?_
  refine rs (ai rfl) rfl ?_
  refine rn ?_
  refine qn ?_
  refine Wseq ?_
  refine Wreg ?_
  refine rs (mp rfl) rfl ?_
  refine rs (nl rfl) rfl ?_
  refine rs (by first | exact fa0 1 rfl Try.underlying50 rfl Try.sizeOf3 rfl rfl | exact fa 1 rfl Try.underlying50 rfl Try.sizeOf3 rfl rfl) rfl ?_
  refine rs (ld rfl Try.isAgg3 (by first | exact hB.cell rfl | assumption)) rfl ?_
  refine rs (ai rfl) rfl ?_
  refine rn ?_
  refine qn ?_
  refine Wret ?_
  refine f1i Try.results17 Try.ntmps17 rfl ?_
  exact ⟨_, rfl, rfl, rfl⟩

set_option maxHeartbeats 1000000 in
theorem there_any (b bl : Nat) (pat ep : Int) (l : List One) (worker : Int) (w : World) (h : WatchAt w b bl pat ep l) :
  Calls Try.prog 22 #[.pointer (some ⟨b, 0, none⟩), .int .i64 worker] w (Ret fun v w' => v = .bool (inN worker l.length) ∧ w = w') := by
  have hB := h.1
  refine Center (args := [.pointer (some ⟨b, 0, none⟩), .int .i64 worker]) (l := [(0, .pointer (some ⟨b, 0, none⟩)), (1, .int .i64 worker)]) Try.func22 Try.ntmps22 rfl rfl rfl ?_
  refine Wseq ?_
  refine Wreg ?_
  refine rs (ab rfl) rfl ?_
  refine rn ?_
  refine qn ?_
  refine Wseq ?_
  refine Wreg ?_
  refine rs (mi rfl) rfl ?_
  refine rsc (ge' rfl rfl) rfl (fun c1 => ?_) (fun c1 => ?_)
  · refine rs (mb rfl) rfl ?_
    refine rs (mi rfl) rfl ?_
    refine rs (mp rfl) rfl ?_
    refine rs (nl rfl) rfl ?_
    refine rs (by first | exact fa0 2 rfl Try.underlying50 rfl Try.sizeOf48 rfl rfl | exact fa 2 rfl Try.underlying50 rfl Try.sizeOf48 rfl rfl) rfl ?_
    refine rs (ld rfl Try.isAgg48 (by first | exact hB.cell rfl | assumption)) rfl ?_
    refine rs (ln rfl Try.underlying48) rfl ?_
    refine rsc (lt' rfl rfl) rfl (fun c2 => ?_) (fun c2 => ?_)
    · refine rs (pbt rfl rfl) rfl ?_
      refine rs (ab rfl) rfl ?_
      refine rn ?_
      refine qn ?_
      refine Wret ?_
      refine f1b Try.results22 Try.ntmps22 rfl ?_
      exact ⟨_, rfl, by first | rw [inN, decide_eq_true (by omega)] | rw [inN, decide_eq_false (by omega)], rfl⟩
    · refine rs (pbt rfl rfl) rfl ?_
      refine rs (ab rfl) rfl ?_
      refine rn ?_
      refine qn ?_
      refine Wret ?_
      refine f1b Try.results22 Try.ntmps22 rfl ?_
      exact ⟨_, rfl, by first | rw [inN, decide_eq_true (by omega)] | rw [inN, decide_eq_false (by omega)], rfl⟩
  · refine rs (mb rfl) rfl ?_
    refine r0 rfl ?_
    refine r0 rfl ?_
    refine r0 rfl ?_
    refine r0 rfl ?_
    refine r0 rfl ?_
    refine r0 rfl ?_
    refine r0 rfl ?_
    refine rs (pbf rfl rfl) rfl ?_
    refine rs (ab rfl) rfl ?_
    refine rn ?_
    refine qn ?_
    refine Wret ?_
    refine f1b Try.results22 Try.ntmps22 rfl ?_
    exact ⟨_, rfl, by first | rw [inN, decide_eq_true (by omega)] | rw [inN, decide_eq_false (by omega)], rfl⟩

set_option maxHeartbeats 1000000 in
theorem missing_any (o : One) (w : World) :
  Calls Try.prog 25 #[.agg #[.bool o.ready, .int .i64 o.life, .int .i64 o.since]] w (Ret fun v w' => v = .bool (missB o) ∧ Only [] w w') := by
  refine Center (args := [.agg #[.bool o.ready, .int .i64 o.life, .int .i64 o.since]]) (l := [(0, .agg #[.bool o.ready, .int .i64 o.life, .int .i64 o.since])]) Try.func25 Try.ntmps25 rfl rfl rfl ?_
  refine Wseq ?_
  refine Wreg ?_
  refine rs (bo rfl) rfl ?_
  refine rs (ab rfl) rfl ?_
  refine rn ?_
  refine qn ?_
  refine Wseq ?_
  refine Wreg ?_
  refine rs (by first | exact fa0 0 rfl Try.underlying52 rfl Try.sizeOf4 rfl rfl | exact fa 0 rfl Try.underlying52 rfl Try.sizeOf4 rfl rfl) rfl ?_
  refine rs (ld rfl Try.isAgg4 (by first | exact (Blk.new _ _ _).cell rfl | assumption)) rfl ?_
  refine rs (nt rfl) rfl ?_
  refine rs (ab rfl) rfl ?_
  refine rn ?_
  refine qn ?_
  refine Wret ?_
  refine f1b Try.results25 Try.ntmps25 rfl ?_
  exact ⟨_, rfl, rfl, (Only.refl _ _).alloc _⟩

set_option maxHeartbeats 1000000 in
theorem late_any (b bl : Nat) (pat ep : Int) (l : List One) (bw : Nat) (o : One) (w : World) (h : WatchAt w b bl pat ep l) (hb : Blk w bw [.pointer (some ⟨b, 0, none⟩)] 24) :
  Calls Try.prog 26 #[.agg #[.bool o.ready, .int .i64 o.life, .int .i64 o.since], .pointer (some ⟨bw, 0, none⟩)] w (Ret fun v w' => v = .bool (lateB pat o) ∧ Only [] w w') := by
  have hB := h.1
  refine Center (args := [.agg #[.bool o.ready, .int .i64 o.life, .int .i64 o.since], .pointer (some ⟨bw, 0, none⟩)]) (l := [(0, .agg #[.bool o.ready, .int .i64 o.life, .int .i64 o.since]), (1, .pointer (some ⟨bw, 0, none⟩))]) Try.func26 Try.ntmps26 rfl rfl rfl ?_
  refine Wseq ?_
  refine Wreg ?_
  refine rs (bo rfl) rfl ?_
  refine rs (ab rfl) rfl ?_
  refine rn ?_
  refine qn ?_
  refine Wseq ?_
  refine Wdrw (fun w' => w' = World.drew _) [0, 1, 3, 7, 15, 7, 39, 103, 231, 511, 1023, 2047] 0 rfl (by kernel_rfl) (rfl) ?_
  refine ds (fun w' hF => by first | exact fa0 0 rfl Try.underlying52 rfl Try.sizeOf4 rfl rfl | exact fa 0 rfl Try.underlying52 rfl Try.sizeOf4 rfl rfl) rfl ?_
  refine ds (fun w' hF => ld rfl Try.isAgg4 (by subst hF; first | exact ((Blk.new _ _ _).drew).cell rfl | exact ((hb.alloc _).drew).cell rfl | exact ((hB.alloc _).drew).cell rfl | assumption)) rfl ?_
  cases sb1 : o.ready
  · refine ds (fun w' hF => mb rfl) rfl ?_
    refine d0 rfl ?_
    refine d0 rfl ?_
    refine d0 rfl ?_
    refine d0 rfl ?_
    refine d0 rfl ?_
    refine d0 rfl ?_
    refine d0 rfl ?_
    refine ds (fun w' hF => pbf rfl rfl) rfl ?_
    refine ds (fun w' hF => ab rfl) rfl ?_
    refine dn ?_
    refine qn ?_
    refine Wret ?_
    refine f1b Try.results26 Try.ntmps26 rfl ?_
    exact ⟨_, rfl, by simp [lateB, *], ((Only.refl _ _).alloc _).drew⟩
  · refine ds (fun w' hF => mb rfl) rfl ?_
    refine ds (fun w' hF => by first | exact fa0 2 rfl Try.underlying52 rfl Try.sizeOf3 rfl rfl | exact fa 2 rfl Try.underlying52 rfl Try.sizeOf3 rfl rfl) rfl ?_
    refine ds (fun w' hF => ld rfl Try.isAgg3 (by subst hF; first | exact ((Blk.new _ _ _).drew).cell rfl | exact ((hb.alloc _).drew).cell rfl | exact ((hB.alloc _).drew).cell rfl | assumption)) rfl ?_
    refine ds (fun w' hF => ld rfl Try.isAgg24 (by subst hF; first | exact ((Blk.new _ _ _).drew).cell rfl | exact ((hb.alloc _).drew).cell rfl | exact ((hB.alloc _).drew).cell rfl | assumption)) rfl ?_
    refine ds (fun w' hF => nl rfl) rfl ?_
    refine ds (fun w' hF => by first | exact fa0 0 rfl Try.underlying50 rfl Try.sizeOf3 rfl rfl | exact fa 0 rfl Try.underlying50 rfl Try.sizeOf3 rfl rfl) rfl ?_
    refine ds (fun w' hF => ld rfl Try.isAgg3 (by subst hF; first | exact ((Blk.new _ _ _).drew).cell rfl | exact ((hb.alloc _).drew).cell rfl | exact ((hB.alloc _).drew).cell rfl | assumption)) rfl ?_
    refine dsc (fun w' hF => ge' rfl rfl) rfl (fun c2 => ?_) (fun c2 => ?_)
    · refine ds (fun w' hF => pbt rfl rfl) rfl ?_
      refine ds (fun w' hF => ab rfl) rfl ?_
      refine dn ?_
      refine qn ?_
      refine Wret ?_
      refine f1b Try.results26 Try.ntmps26 rfl ?_
      exact ⟨_, rfl, by simp [lateB, *], ((Only.refl _ _).alloc _).drew⟩
    · refine ds (fun w' hF => pbt rfl rfl) rfl ?_
      refine ds (fun w' hF => ab rfl) rfl ?_
      refine dn ?_
      refine qn ?_
      refine Wret ?_
      refine f1b Try.results26 Try.ntmps26 rfl ?_
      exact ⟨_, rfl, by simp [lateB, *], ((Only.refl _ _).alloc _).drew⟩

theorem cells_one {w : World} {bl : Nat} {l : List One} {T : TypeId} (h : Blk w bl (flat One.c l) T) (k : Nat) (hk : k < l.length) : ∀ j v, [Value.bool l[k].ready, .int .i64 l[k].life, .int .i64 l[k].since][j]? = some v → w.cell? ((⟨bl, k * 3, none⟩ : Addr).add j) = some v := by
  intro j v hj
  have hj3 : j < 3 := by have := (List.getElem?_eq_some_iff.1 hj).1; simpa using this
  rw [Addr.add_lit]
  refine h.cell ?_
  rw [flat_get One.c 3 One.c_len l k j hj3, List.getElem?_eq_getElem hk]
  exact hj
theorem cells_row {w : World} {b : Nat} {cs : List Value} {T : TypeId} (h : Blk w b cs T) : ∀ j v, cs[j]? = some v → w.cell? ((⟨b, 0, none⟩ : Addr).add j) = some v := by
  intro j v hj
  rw [Addr.add_lit, Nat.zero_add]
  exact h.cell hj
theorem ints_row {w : World} {base : Nat} {v : Value} {xs : List Int} {k : Nat} (h : w.ownsRow base 3 1 v k (xs.map (Value.int .i64))) : k = xs.length ∧ ∃ a c, v = .slice a k c := by
  refine ⟨by have := h.1; simpa using this.symm, ?_⟩
  rcases h.2 with ⟨rfl, rfl⟩ | ⟨g, cap, cur, rfl, _⟩
  · exact ⟨none, 0, rfl⟩
  · exact ⟨_, _, rfl⟩
/-- A list of ints in memory of the call's own. -/
def Ints (w : World) (base : Nat) (v : Value) (xs : List Int) : Prop := w.ownsRow base 3 1 v xs.length (xs.map (Value.int .i64))
theorem Ints.slice {w : World} {base : Nat} {v : Value} {xs : List Int} (h : Ints w base v xs) : ∃ a c, v = .slice a xs.length c := (ints_row h).2
theorem Ints.kept {w w' : World} {base : Nat} {v : Value} {xs : List Int} {S : List Nat} (h : Ints w base v xs) (ho : Only S w w') (hS : ∀ x ∈ S, x < base) : Ints w' base v xs := by
  obtain ⟨h1, h2⟩ := h
  refine ⟨h1, ?_⟩
  rcases h2 with hn | ⟨g, cap, cur, hv, hb, hg, rest⟩
  · exact .inl hn
  · refine .inr ⟨g, cap, cur, hv, hb, ?_, rest⟩
    rw [ho.block g (lt_of_block hg) (fun hm => by have := hS g hm; omega), hg]

set_option maxHeartbeats 1000000 in
theorem where_any (b bl : Nat) (pat ep : Int) (l : List One) (p : One → Bool) (f : Nat) (ca : List Value) (w : World) (h : WatchAt w b bl pat ep l)
    (hc : ∀ (a : Array Value) (w : World), (callFunc f a).run Try.prog w = .ok (.enter f a) w)
    (hp : ∀ (o : One) (w1 : World), Only [] w w1 → Calls Try.prog f (.agg #[.bool o.ready, .int .i64 o.life, .int .i64 o.since] :: ca).toArray w1 (Ret fun v w' => v = .bool (p o) ∧ Only [] w1 w')) :
  Calls Try.prog 24 #[.pointer (some ⟨b, 0, none⟩), .func (.func f) #[] ca.toArray] w (Ret fun v w' => Ints w' w.heap.size v (idx p l 0) ∧ Only [] w w') := by
  have hB := h.1
  have hL := h.2.1
  have hn := h.2.2.2
  refine Center (args := [.pointer (some ⟨b, 0, none⟩), .func (.func f) #[] ca.toArray]) (l := [(0, .pointer (some ⟨b, 0, none⟩)), (1, .func (.func f) #[] ca.toArray)]) Try.func24 Try.ntmps24 rfl rfl rfl ?_
  refine Wseq ?_
  refine Wreg ?_
  refine rs (asl rfl) rfl ?_
  refine rn ?_
  refine qn ?_
  refine Wseq ?_
  refine Wreg ?_
  refine rs (asl rfl) rfl ?_
  refine rn ?_
  refine qn ?_
  refine Wseq ?_
  refine Wseq ?_
  refine Wreg ?_
  refine rs (mp rfl) rfl ?_
  refine rs (nl rfl) rfl ?_
  refine rs (by first | exact fa0 2 rfl Try.underlying50 rfl Try.sizeOf48 rfl rfl | exact fa 2 rfl Try.underlying50 rfl Try.sizeOf48 rfl rfl) rfl ?_
  refine rs (ld rfl Try.isAgg48 (by first | exact hB.cell rfl | assumption)) rfl ?_
  refine rs (ln rfl Try.underlying48) rfl ?_
  refine rs (mi rfl) rfl ?_
  refine rn ?_
  refine qn ?_
  refine Wblk ?_
  refine Wloop [5, 6, 7, 13, 14, 15, 16, 17, 18, 19, 20, 21, 22, 23, 24, 25] [13, 5] (fun m vs wr => ∃ (k : Nat) (v : Value), k ≤ l.length ∧ m = l.length - k ∧ vs = [.int .i64 k, v] ∧ Ints wr w.heap.size v (idx p (l.take k) 0) ∧ Only [] w wr) (l.length) ?_ ?_
  · exact ⟨0, _, by omega, by omega, rfl, World.ownsRow_nil _ _ _ _, Only.refl _ _⟩
  · intro m vs u wr hJ
    obtain ⟨k, v, hk, rfl, rfl, hv, ho⟩ := hJ
    have hBr := hB.kept ho (by simp)
    have hLr := hL.kept ho (by simp)
    refine Wseq ?_
    refine Wreg ?_
    refine rsc (lt' rfl rfl) rfl (fun c1 => ?_) (fun c1 => ?_)
    · refine rn ?_
      refine qn ?_
      refine Wseq ?_
      refine Wct rfl ?_
      refine Wskip ?_
      refine qn ?_
      refine Wseq ?_
      refine Wblk ?_
      refine Wseq ?_
      refine Wreg ?_
      refine rs (mi rfl) rfl ?_
      refine rs (ix0m rfl rfl Try.underlying48 Try.sizeOf52 (by omega)) rfl ?_
      refine rs (ldg rfl Try.isAgg52 Try.sizeOf52 rfl ((cells_one hLr k (by omega)))) rfl ?_
      refine rs (al Try.zeroValue52) rfl ?_
      refine rs (ai rfl) rfl ?_
      refine ru (stg rfl rfl Try.sizeOf52 (by first | exact Blk.new _ _ _ | assumption) (by simp [Value.cells]) (by simp [Value.oneCell'])) rfl ?_
      refine rgen (fun w2 => Blk w2 wr.heap.size [.bool l[k].ready, .int .i64 l[k].life, .int .i64 l[k].since] 52 ∧ Only [] wr w2) ⟨Blk.setRow (Blk.new _ _ _) _, ((Only.refl _ _).alloc _).setRow (.inr (Nat.le_refl _)) _⟩ ?_
      rintro w2 ⟨hN, ho2⟩
      refine rn ?_
      refine qn ?_
      refine Wseq ?_
      refine Wreg ?_
      refine rs (mf rfl) rfl ?_
      refine rs (ldg rfl Try.isAgg52 Try.sizeOf52 rfl ((cells_row hN))) rfl ?_
      refine rc (cv hc rfl rfl) rfl ?_
      refine cmono (hp l[k] w2 (ho.trans ho2 (by simp))) ?_
      rintro _ w3 ⟨rfl, ho3⟩
      have hv3 := (hv.kept ho2 (by simp)).kept ho3 (by simp)
      have ho4 : Only [] w w3 := (ho.trans ho2 (by simp)).trans ho3 (by simp)
      have hkl : k < l.length := by omega
      have hs := idx_snoc p l k hkl
      have hle := idx_len p (l.take k) 0
      rw [List.length_take] at hle
      cases sb2 : p l[k]
      · refine rn ?_
        refine qn ?_
        refine Wcf rfl ?_
        refine Wskip ?_
        refine bn ?_
        refine qn ?_
        refine Wreg ?_
        refine rs (ad rfl rfl (rfl : (k : Int) + 1 = ((k + 1 : Nat) : Int)) (by omega)) rfl ?_
        refine rs (mi rfl) rfl ?_
        refine rn ?_
        refine qn ?_
        refine ⟨l.length - (k + 1), by omega, ⟨k + 1, _, by omega, rfl, rfl, ?_, ?_⟩, (kl rfl k0)⟩
        · first
          | exact hx
          | (rw [hs, if_neg (by simp [*]), List.append_nil]; exact hv3)
        · first
          | exact ho5
          | exact ho4
      · refine rn ?_
        refine qn ?_
        refine Wct rfl ?_
        refine Wreg ?_
        refine rs (mv rfl) rfl ?_
        refine rs (mi rfl) rfl ?_
        refine rs (bs1 rfl rfl Try.underlying36 Try.sizeOf3 Try.zeroValue3) rfl ?_
        refine rap1 w.heap.size Try.underlying36 (i := Try.t3) (bytes := 8) rfl rfl rfl rfl rfl rfl (hv3.alloc _) rfl (Blk.new _ _ _) rfl (by omega) (by omega) (by have := ho4.size; simp; omega) rfl ?_
        intro v' w4 hv4 hg4 _
        have ho5 : Only [] w w4 := (ho4.alloc _).grown hg4 (fun g hg => .inr (hv3.lt g hg).1)
        have hx : Ints w4 w.heap.size v' (idx p (l.take (k + 1)) 0) := by
          unfold Ints
          rw [hs, if_pos ‹_›, List.map_append, List.length_append]
          exact hv4
        refine rs (av rfl) rfl ?_
        refine rn ?_
        refine bn ?_
        refine qn ?_
        refine Wreg ?_
        refine rs (ad rfl rfl (rfl : (k : Int) + 1 = ((k + 1 : Nat) : Int)) (by omega)) rfl ?_
        refine rs (mi rfl) rfl ?_
        refine rn ?_
        refine qn ?_
        refine ⟨l.length - (k + 1), by omega, ⟨k + 1, _, by omega, rfl, rfl, ?_, ?_⟩, (kl rfl k0)⟩
        · first
          | exact hx
          | (rw [hs, if_neg (by simp [*]), List.append_nil]; exact hv3)
        · first
          | exact ho5
          | exact ho4
    · refine rn ?_
      refine qn ?_
      refine Wseq ?_
      refine Wcf rfl ?_
      refine Wexit ?_
      refine qx ?_
      refine qx ?_
      refine be ?_
      refine qn ?_
      refine Wseq ?_
      refine Wreg ?_
      refine rs (mv rfl) rfl ?_
      refine rs (av rfl) rfl ?_
      refine rn ?_
      refine qn ?_
      refine Wret ?_
      refine f1 Try.results24 Try.ntmps24 rfl ?_
      have hke : k = l.length := by omega
      subst hke
      rw [List.take_length] at hv
      exact ⟨_, rfl, hv, ho⟩

theorem Ints.mono {w : World} {base base' : Nat} {v : Value} {xs : List Int} (h : Ints w base v xs) (hb : base' ≤ base) : Ints w base' v xs := by
  obtain ⟨h1, h2⟩ := h
  refine ⟨h1, ?_⟩
  rcases h2 with hn | ⟨g, cap, cur, hv, hg, rest⟩
  · exact .inl hn
  · exact .inr ⟨g, cap, cur, hv, by omega, rest⟩
theorem WatchAt.alloc {w : World} {b bl : Nat} {pat ep : Int} {l : List One} (h : WatchAt w b bl pat ep l) (o : Obj) : WatchAt (w.alloc o) b bl pat ep l := h.kept ((Only.refl [] w).alloc o) (by simp) (by simp)

set_option maxHeartbeats 1000000 in
theorem missing_list (b bl : Nat) (pat ep : Int) (l : List One) (w : World) (h : WatchAt w b bl pat ep l) :
  Calls Try.prog 20 #[.pointer (some ⟨b, 0, none⟩)] w (Ret fun v w' => Ints w' w.heap.size v (idx missB l 0) ∧ Only [] w w') := by
  refine Center (args := [.pointer (some ⟨b, 0, none⟩)]) (l := [(0, .pointer (some ⟨b, 0, none⟩))]) Try.func20 Try.ntmps20 rfl rfl rfl ?_
  refine Wseq ?_
  refine Wreg ?_
  refine rs (asl rfl) rfl ?_
  refine rn ?_
  refine qn ?_
  refine Wseq ?_
  refine Wreg ?_
  refine rs (mp rfl) rfl ?_
  refine rc (cl Try.call24 rfl rfl) rfl ?_
  refine cmono (where_any b bl pat ep l missB 25 [] _ h Try.call25 (fun o w1 _ => missing_any o w1)) ?_
  rintro v w1 ⟨hv, ho⟩
  refine rs (av rfl) rfl ?_
  refine rn ?_
  refine qn ?_
  refine Wret ?_
  refine f1 Try.results20 Try.ntmps20 rfl ?_
  exact ⟨_, rfl, hv, ho⟩

set_option maxHeartbeats 1000000 in
theorem late_list (b bl : Nat) (pat ep : Int) (l : List One) (w : World) (h : WatchAt w b bl pat ep l) :
  Calls Try.prog 21 #[.pointer (some ⟨b, 0, none⟩)] w (Ret fun v w' => Ints w' w.heap.size v (idx (lateB pat) l 0) ∧ Only [] w w') := by
  refine Center (args := [.pointer (some ⟨b, 0, none⟩)]) (l := [(0, .pointer (some ⟨b, 0, none⟩))]) Try.func21 Try.ntmps21 rfl rfl rfl ?_
  refine Wseq ?_
  refine Wreg ?_
  refine rs (bo rfl) rfl ?_
  refine rs (asl rfl) rfl ?_
  refine rn ?_
  refine qn ?_
  refine Wseq ?_
  refine Wreg ?_
  refine rs (ld rfl Try.isAgg24 (by first | exact (Blk.new _ _ _).cell rfl | assumption)) rfl ?_
  refine rs (mkf rfl rfl) rfl ?_
  refine rc (cl Try.call24 rfl rfl) rfl ?_
  have hb := Blk.new w #[.pointer (some ⟨b, 0, none⟩)] 24
  refine cmono (where_any b bl pat ep l (lateB pat) 26 [.pointer (some ⟨w.heap.size, 0, none⟩)] _ (h.alloc _) Try.call26 (fun o w1 ho => late_any b bl pat ep l w.heap.size o w1 ((h.alloc _).kept ho (by simp) (by simp)) (hb.kept ho (by simp)))) ?_
  rintro v w1 ⟨hv, ho⟩
  refine rs (av rfl) rfl ?_
  refine rn ?_
  refine qn ?_
  refine Wret ?_
  refine f1 Try.results21 Try.ntmps21 rfl ?_
  exact ⟨_, rfl, hv.mono (by simp), ((Only.refl _ _).alloc _).trans ho (by simp)⟩

set_option maxHeartbeats 1000000 in
theorem whole_any (b bl : Nat) (pat ep : Int) (l : List One) (w : World) (h : WatchAt w b bl pat ep l) :
  Calls Try.prog 18 #[.pointer (some ⟨b, 0, none⟩)] w (Ret fun v w' => v = .bool (decide ((idx missB l 0).length = 0)) ∧ Only [] w w') := by
  refine Center (args := [.pointer (some ⟨b, 0, none⟩)]) (l := [(0, .pointer (some ⟨b, 0, none⟩))]) Try.func18 Try.ntmps18 rfl rfl rfl ?_
  refine Wseq ?_
  refine Wreg ?_
  refine rs (ab rfl) rfl ?_
  refine rn ?_
  refine qn ?_
  refine Wseq ?_
  refine Wreg ?_
  refine rs (mp rfl) rfl ?_
  refine rc (cl Try.call20 rfl rfl) rfl ?_
  refine cmono (missing_list b bl pat ep l _ h) ?_
  rintro v w1 ⟨hv, ho⟩
  obtain ⟨a, c, rfl⟩ := hv.slice
  refine rs (ln rfl Try.underlying36) rfl ?_
  refine rs (eqd rfl rfl) rfl ?_
  refine rs (ab rfl) rfl ?_
  refine rn ?_
  refine qn ?_
  refine Wret ?_
  refine f1b Try.results18 Try.ntmps18 rfl ?_
  exact ⟨_, rfl, by simp, ho⟩

set_option maxHeartbeats 1000000 in
theorem bump_any (b bl : Nat) (pat ep : Int) (l : List One) (w : World) (h : WatchAt w b bl pat ep l) :
  Calls Try.prog 15 #[.pointer (some ⟨b, 0, none⟩)] w (Ret fun v w' => v = .int .i64 (St.bump ⟨ep, l⟩).ep ∧ WatchAt w' b bl pat (St.bump ⟨ep, l⟩).ep (St.bump ⟨ep, l⟩).l ∧ Only [b, bl] w w') := by
  have hB := h.1
  have hL := h.2.1
  have hn := h.2.2.2
  refine Center (args := [.pointer (some ⟨b, 0, none⟩)]) (l := [(0, .pointer (some ⟨b, 0, none⟩))]) Try.func15 Try.ntmps15 rfl rfl rfl ?_
  refine Wseq ?_
  refine Wreg ?_
  refine rs (ai rfl) rfl ?_
  refine rn ?_
  refine qn ?_
  refine Wseq ?_
  refine Wreg ?_
  refine rs (mp rfl) rfl ?_
  refine rs (nl rfl) rfl ?_
  refine rs (by first | exact fa0 1 rfl Try.underlying50 rfl Try.sizeOf3 rfl rfl | exact fa 1 rfl Try.underlying50 rfl Try.sizeOf3 rfl rfl) rfl ?_
  refine rs (ld rfl Try.isAgg3 (by first | exact hB3.cell rfl | exact hB2.cell rfl | exact hB.cell rfl | assumption)) rfl ?_
  refine rs (adw rfl rfl) rfl ?_
  refine rs (nl rfl) rfl ?_
  refine rs (by first | exact fa0 1 rfl Try.underlying50 rfl Try.sizeOf3 rfl rfl | exact fa 1 rfl Try.underlying50 rfl Try.sizeOf3 rfl rfl) rfl ?_
  refine ru (sti rfl rfl Try.sizeOf3 (by first | exact hB3.cell rfl | exact hB2.cell rfl | exact hB.cell rfl | assumption) (by first | exact hB.free _ | assumption)) rfl ?_
  refine rgen (fun w2 => WatchAt w2 b bl pat (St.bump ⟨ep, l⟩).ep l ∧ Only [b, bl] w w2) ⟨⟨hB.set 1 _, hL.other (fun e => h.2.2.1 e.symm) _, h.2.2⟩, (Only.refl _ _).setCell (.inl (by simp)) _⟩ ?_
  rintro w2 ⟨h2, ho2⟩
  have hB2 := h2.1
  have hL2 := h2.2.1
  refine rn ?_
  refine qn ?_
  refine Wseq ?_
  refine Wreg ?_
  refine rs (mp rfl) rfl ?_
  refine rs (nl rfl) rfl ?_
  refine rs (by first | exact fa0 2 rfl Try.underlying50 rfl Try.sizeOf48 rfl rfl | exact fa 2 rfl Try.underlying50 rfl Try.sizeOf48 rfl rfl) rfl ?_
  refine rs (ld rfl Try.isAgg48 (by first | exact hB3.cell rfl | exact hB2.cell rfl | exact hB.cell rfl | assumption)) rfl ?_
  refine rclr Try.underlying48 Try.zeroValue52 rfl (by simp [Value.oneCell', Value.cells]) rfl hL2 (flat_length One.c 3 One.c_len l).symm rfl ?_
  intro w3 hL3 ho3
  have hB3 := hB2.kept ho3 (by simpa using h.2.2.1)
  rw [zeroCells_flat _ 3 rfl (by omega)] at hL3
  have hL4 : Blk w3 bl (flat One.c (St.bump ⟨ep, l⟩).l) 52 := by
    rw [show flat One.c (St.bump ⟨ep, l⟩).l = _ from flat_const One.c (fun _ : Unit => [Value.bool false, .int .i64 0, .int .i64 0]) (⟨false, 0, 0⟩ : One) () rfl l.length]
    exact hL3
  have hW3 : WatchAt w3 b bl pat (St.bump ⟨ep, l⟩).ep (St.bump ⟨ep, l⟩).l := ⟨by simpa [St.bump] using hB3, hL4, h.2.2.1, by simpa [St.bump] using hn⟩
  refine rn ?_
  refine qn ?_
  refine Wseq ?_
  refine Wreg ?_
  refine rs (mp rfl) rfl ?_
  refine rs (nl rfl) rfl ?_
  refine rs (by first | exact fa0 1 rfl Try.underlying50 rfl Try.sizeOf3 rfl rfl | exact fa 1 rfl Try.underlying50 rfl Try.sizeOf3 rfl rfl) rfl ?_
  refine rs (ld rfl Try.isAgg3 (by first | exact hB3.cell rfl | exact hB2.cell rfl | exact hB.cell rfl | assumption)) rfl ?_
  refine rs (ai rfl) rfl ?_
  refine rn ?_
  refine qn ?_
  refine Wret ?_
  refine f1i Try.results15 Try.ntmps15 rfl ?_
  exact ⟨_, rfl, rfl, hW3, ho2.trans ho3 (by simp)⟩

set_option maxHeartbeats 1000000 in
theorem heard_any (b bl : Nat) (pat ep : Int) (l : List One) (k : Nat) (life : Int) (now : Bool) (w : World) (h : WatchAt w b bl pat ep l) (hk : k < l.length) :
  Calls Try.prog 23 #[.pointer (some ⟨b, 0, none⟩), .int .i64 (k : Int), .int .i64 life, .bool now] w (Ret fun v w' => v = .bool (St.heard ⟨ep, l⟩ k l[k] life now).1 ∧ WatchAt w' b bl pat (St.heard ⟨ep, l⟩ k l[k] life now).2.ep (St.heard ⟨ep, l⟩ k l[k] life now).2.l ∧ Only [b, bl] w w') := by
  have hB := h.1
  have hL := h.2.1
  have hf := flat_one l k hk
  cases now
  · refine Center (args := [.pointer (some ⟨b, 0, none⟩), .int .i64 (k : Int), .int .i64 life, .bool false]) (l := [(0, .pointer (some ⟨b, 0, none⟩)), (1, .int .i64 (k : Int)), (2, .int .i64 life), (3, .bool false)]) Try.func23 Try.ntmps23 rfl rfl rfl ?_
    refine Wseq ?_
    refine Wreg ?_
    refine rs (ab rfl) rfl ?_
    refine rn ?_
    refine qn ?_
    refine Wseq ?_
    refine Wreg ?_
    refine rs (mp rfl) rfl ?_
    refine rs (nl rfl) rfl ?_
    refine rs (by first | exact fa0 2 rfl Try.underlying50 rfl Try.sizeOf48 rfl rfl | exact fa 2 rfl Try.underlying50 rfl Try.sizeOf48 rfl rfl) rfl ?_
    refine rs (ld rfl Try.isAgg48 (by first | exact hB.cell rfl | exact hL.cell hf.2.1 | exact hL.cell hf.2.2 | assumption)) rfl ?_
    refine rs (mi rfl) rfl ?_
    refine rs (by first | exact ix0m rfl rfl Try.underlying48 Try.sizeOf52 (by omega) | exact ixom rfl rfl Try.underlying48 Try.sizeOf52 (by omega)) rfl ?_
    refine rs (ap rfl) rfl ?_
    refine rn ?_
    refine qn ?_
    refine Wseq ?_
    refine Wseq ?_
    refine Wreg ?_
    refine rs (mi rfl) rfl ?_
    refine rs (mp rfl) rfl ?_
    refine rs (nl rfl) rfl ?_
    refine rs (by first | exact fa0 1 rfl Try.underlying52 rfl Try.sizeOf3 rfl rfl | exact fa 1 rfl Try.underlying52 rfl Try.sizeOf3 rfl rfl) rfl ?_
    refine rs (ld rfl Try.isAgg3 (by first | exact hB.cell rfl | exact hL.cell hf.2.1 | exact hL.cell hf.2.2 | assumption)) rfl ?_
    refine rsc (gt' rfl rfl) rfl (fun c1 => ?_) (fun c1 => ?_)
    · refine rn ?_
      refine qn ?_
      refine Wct rfl ?_
      refine Wseq ?_
      refine Wreg ?_
      refine rs (mp rfl) rfl ?_
      refine rc (cl Try.call15 rfl rfl) rfl ?_
      refine cmono (bump_any b bl pat ep l _ h) ?_
      rintro v w1 ⟨rfl, hw1, ho1⟩
      refine rn ?_
      refine qn ?_
      refine Wseq ?_
      refine Wreg ?_
      refine rs (ab rfl) rfl ?_
      refine rn ?_
      refine qn ?_
      refine Wret ?_
      refine qr ?_
      refine f1b Try.results23 Try.ntmps23 rfl ?_
      rw [show St.heard ⟨ep, l⟩ k l[k] life _ = (true, St.bump ⟨ep, l⟩) from if_pos (by omega)]
      exact ⟨_, rfl, rfl, hw1, ho1⟩
    · refine rn ?_
      refine qn ?_
      refine Wcf rfl ?_
      refine Wskip ?_
      refine qn ?_
      refine Wseq ?_
      refine Wseq ?_
      refine Wreg ?_
      refine rs (mb rfl) rfl ?_
      refine rs (mb rfl) rfl ?_
      refine r0 rfl ?_
      refine r0 rfl ?_
      refine r0 rfl ?_
      refine r0 rfl ?_
      refine r0 rfl ?_
      refine r0 rfl ?_
      refine rs (pbf rfl rfl) rfl ?_
      refine rn ?_
      refine qn ?_
      refine Wcf rfl ?_
      refine Wskip ?_
      refine qn ?_
      refine Wseq ?_
      refine Wreg ?_
      refine rs (ab rfl) rfl ?_
      refine rn ?_
      refine qn ?_
      refine Wret ?_
      refine f1b Try.results23 Try.ntmps23 rfl ?_
      first
      | (rw [show St.heard ⟨ep, l⟩ k l[k] life true = (false, ⟨ep, l.set k { l[k] with since := 0 }⟩) by unfold St.heard; rw [if_neg (by omega), if_pos rfl, if_pos (by omega)]]; exact ⟨_, rfl, rfl, h2, ho2⟩)
      | (rw [show St.heard ⟨ep, l⟩ k l[k] life _ = (false, ⟨ep, l⟩) by unfold St.heard; rw [if_neg (by omega)]; first | rw [if_pos rfl, if_neg (by omega)] | rw [if_neg (by simp)]]; exact ⟨_, rfl, rfl, h, Only.refl _ _⟩)
  · refine Center (args := [.pointer (some ⟨b, 0, none⟩), .int .i64 (k : Int), .int .i64 life, .bool true]) (l := [(0, .pointer (some ⟨b, 0, none⟩)), (1, .int .i64 (k : Int)), (2, .int .i64 life), (3, .bool true)]) Try.func23 Try.ntmps23 rfl rfl rfl ?_
    refine Wseq ?_
    refine Wreg ?_
    refine rs (ab rfl) rfl ?_
    refine rn ?_
    refine qn ?_
    refine Wseq ?_
    refine Wreg ?_
    refine rs (mp rfl) rfl ?_
    refine rs (nl rfl) rfl ?_
    refine rs (by first | exact fa0 2 rfl Try.underlying50 rfl Try.sizeOf48 rfl rfl | exact fa 2 rfl Try.underlying50 rfl Try.sizeOf48 rfl rfl) rfl ?_
    refine rs (ld rfl Try.isAgg48 (by first | exact hB.cell rfl | exact hL.cell hf.2.1 | exact hL.cell hf.2.2 | assumption)) rfl ?_
    refine rs (mi rfl) rfl ?_
    refine rs (by first | exact ix0m rfl rfl Try.underlying48 Try.sizeOf52 (by omega) | exact ixom rfl rfl Try.underlying48 Try.sizeOf52 (by omega)) rfl ?_
    refine rs (ap rfl) rfl ?_
    refine rn ?_
    refine qn ?_
    refine Wseq ?_
    refine Wseq ?_
    refine Wreg ?_
    refine rs (mi rfl) rfl ?_
    refine rs (mp rfl) rfl ?_
    refine rs (nl rfl) rfl ?_
    refine rs (by first | exact fa0 1 rfl Try.underlying52 rfl Try.sizeOf3 rfl rfl | exact fa 1 rfl Try.underlying52 rfl Try.sizeOf3 rfl rfl) rfl ?_
    refine rs (ld rfl Try.isAgg3 (by first | exact hB.cell rfl | exact hL.cell hf.2.1 | exact hL.cell hf.2.2 | assumption)) rfl ?_
    refine rsc (gt' rfl rfl) rfl (fun c2 => ?_) (fun c2 => ?_)
    · refine rn ?_
      refine qn ?_
      refine Wct rfl ?_
      refine Wseq ?_
      refine Wreg ?_
      refine rs (mp rfl) rfl ?_
      refine rc (cl Try.call15 rfl rfl) rfl ?_
      refine cmono (bump_any b bl pat ep l _ h) ?_
      rintro v w1 ⟨rfl, hw1, ho1⟩
      refine rn ?_
      refine qn ?_
      refine Wseq ?_
      refine Wreg ?_
      refine rs (ab rfl) rfl ?_
      refine rn ?_
      refine qn ?_
      refine Wret ?_
      refine qr ?_
      refine f1b Try.results23 Try.ntmps23 rfl ?_
      rw [show St.heard ⟨ep, l⟩ k l[k] life _ = (true, St.bump ⟨ep, l⟩) from if_pos (by omega)]
      exact ⟨_, rfl, rfl, hw1, ho1⟩
    · refine rn ?_
      refine qn ?_
      refine Wcf rfl ?_
      refine Wskip ?_
      refine qn ?_
      refine Wseq ?_
      refine Wseq ?_
      refine Wreg ?_
      refine rs (mb rfl) rfl ?_
      refine rs (mb rfl) rfl ?_
      refine rs (mi rfl) rfl ?_
      refine rs (mp rfl) rfl ?_
      refine rs (nl rfl) rfl ?_
      refine rs (by first | exact fa0 1 rfl Try.underlying52 rfl Try.sizeOf3 rfl rfl | exact fa 1 rfl Try.underlying52 rfl Try.sizeOf3 rfl rfl) rfl ?_
      refine rs (ld rfl Try.isAgg3 (by first | exact hB.cell rfl | exact hL.cell hf.2.1 | exact hL.cell hf.2.2 | assumption)) rfl ?_
      refine rsc (eqd rfl rfl) rfl (fun c3 => ?_) (fun c3 => ?_)
      · refine rs (pbt rfl rfl) rfl ?_
        refine rn ?_
        refine qn ?_
        refine Wct rfl ?_
        refine Wreg ?_
        refine rs (mp rfl) rfl ?_
        refine rs (nl rfl) rfl ?_
        refine rs (by first | exact fa0 2 rfl Try.underlying52 rfl Try.sizeOf3 rfl rfl | exact fa 2 rfl Try.underlying52 rfl Try.sizeOf3 rfl rfl) rfl ?_
        refine ru (sti rfl rfl Try.sizeOf3 (by first | exact hB.cell rfl | exact hL.cell hf.2.1 | exact hL.cell hf.2.2 | assumption) (by first | exact hB.free _ | exact hL.free _ | exact hL.free _ | assumption)) rfl ?_
        refine rgen (fun w2 => WatchAt w2 b bl pat ep (l.set k { l[k] with since := 0 }) ∧ Only [b, bl] w w2) ⟨⟨by simpa using hB.other (a := ⟨bl, k * 3 + 2, none⟩) h.2.2.1 _, by rw [← flat_one_set l k 2 (by omega) (.int .i64 0) { l[k] with since := 0 } hk rfl]; exact hL.set _ _, h.2.2.1, by simpa using h.2.2.2⟩, (Only.refl _ _).setCell (.inl (by simp)) _⟩ ?_
        rintro w2 ⟨h2, ho2⟩
        refine rn ?_
        refine qn ?_
        refine Wseq ?_
        refine Wreg ?_
        refine rs (ab rfl) rfl ?_
        refine rn ?_
        refine qn ?_
        refine Wret ?_
        refine f1b Try.results23 Try.ntmps23 rfl ?_
        first
        | (rw [show St.heard ⟨ep, l⟩ k l[k] life true = (false, ⟨ep, l.set k { l[k] with since := 0 }⟩) by unfold St.heard; rw [if_neg (by omega), if_pos rfl, if_pos (by omega)]]; exact ⟨_, rfl, rfl, h2, ho2⟩)
        | (rw [show St.heard ⟨ep, l⟩ k l[k] life _ = (false, ⟨ep, l⟩) by unfold St.heard; rw [if_neg (by omega)]; first | rw [if_pos rfl, if_neg (by omega)] | rw [if_neg (by simp)]]; exact ⟨_, rfl, rfl, h, Only.refl _ _⟩)
      · refine rs (pbt rfl rfl) rfl ?_
        refine rn ?_
        refine qn ?_
        refine Wcf rfl ?_
        refine Wskip ?_
        refine qn ?_
        refine Wseq ?_
        refine Wreg ?_
        refine rs (ab rfl) rfl ?_
        refine rn ?_
        refine qn ?_
        refine Wret ?_
        refine f1b Try.results23 Try.ntmps23 rfl ?_
        first
        | (rw [show St.heard ⟨ep, l⟩ k l[k] life true = (false, ⟨ep, l.set k { l[k] with since := 0 }⟩) by unfold St.heard; rw [if_neg (by omega), if_pos rfl, if_pos (by omega)]]; exact ⟨_, rfl, rfl, h2, ho2⟩)
        | (rw [show St.heard ⟨ep, l⟩ k l[k] life _ = (false, ⟨ep, l⟩) by unfold St.heard; rw [if_neg (by omega)]; first | rw [if_pos rfl, if_neg (by omega)] | rw [if_neg (by simp)]]; exact ⟨_, rfl, rfl, h, Only.refl _ _⟩)

set_option maxHeartbeats 1000000 in
theorem beat_any (b bl : Nat) (pat ep : Int) (l : List One) (worker epoch life : Int) (w : World) (h : WatchAt w b bl pat ep l) :
  Calls Try.prog 11 #[.pointer (some ⟨b, 0, none⟩), .int .i64 worker, .int .i64 epoch, .int .i64 life] w (Ret fun v w' => v = .bool (St.hear ⟨ep, l⟩ false worker epoch life).1 ∧ WatchAt w' b bl pat (St.hear ⟨ep, l⟩ false worker epoch life).2.ep (St.hear ⟨ep, l⟩ false worker epoch life).2.l ∧ Only [b, bl] w w') := by
  have hB := h.1
  have hL := h.2.1
  refine Center (args := [.pointer (some ⟨b, 0, none⟩), .int .i64 worker, .int .i64 epoch, .int .i64 life]) (l := [(0, .pointer (some ⟨b, 0, none⟩)), (1, .int .i64 worker), (2, .int .i64 epoch), (3, .int .i64 life)]) Try.func11 Try.ntmps11 rfl rfl rfl ?_
  refine Wseq ?_
  refine Wreg ?_
  refine rs (ab rfl) rfl ?_
  refine rn ?_
  refine qn ?_
  refine Wseq ?_
  refine Wseq ?_
  refine Wreg ?_
  refine rs (mp rfl) rfl ?_
  refine rs (mi rfl) rfl ?_
  refine rc (cl Try.call22 rfl rfl) rfl ?_
  refine cmono (there_any b bl pat ep l worker _ h) ?_
  rintro _ _ ⟨rfl, rfl⟩
  cases hin : inN worker l.length
  · refine rs (ntf rfl) rfl ?_
    refine rs (mb rfl) rfl ?_
    refine r0 rfl ?_
    refine r0 rfl ?_
    refine r0 rfl ?_
    refine r0 rfl ?_
    refine r0 rfl ?_
    refine r0 rfl ?_
    refine r0 rfl ?_
    refine r0 rfl ?_
    refine r0 rfl ?_
    refine rs (pbt rfl rfl) rfl ?_
    refine rn ?_
    refine qn ?_
    refine Wct rfl ?_
    refine Wseq ?_
    refine Wreg ?_
    refine rs (ab rfl) rfl ?_
    refine rn ?_
    refine qn ?_
    refine Wret ?_
    refine qr ?_
    refine f1b Try.results11 Try.ntmps11 rfl ?_
    first
    | (rw [hear_out ⟨ep, l⟩ false worker epoch life (inN_false hin)]; exact ⟨_, rfl, rfl, h, Only.refl _ _⟩)
    | (rw [hear_in ⟨ep, l⟩ false k epoch life hk, if_neg (by simp), if_neg (by simp [hr])]; exact ⟨_, rfl, rfl, h, Only.refl _ _⟩)
  · obtain ⟨k, rfl, hk⟩ := inN_true hin
    have hf := flat_one l k hk
    refine rs (ntt rfl) rfl ?_
    refine rs (mb rfl) rfl ?_
    refine rs (mp rfl) rfl ?_
    refine rs (nl rfl) rfl ?_
    refine rs (by first | exact fa0 2 rfl Try.underlying50 rfl Try.sizeOf48 rfl rfl | exact fa 2 rfl Try.underlying50 rfl Try.sizeOf48 rfl rfl) rfl ?_
    refine rs (ld rfl Try.isAgg48 (by first | exact hB.cell rfl | exact hL.cell hf.1 | assumption)) rfl ?_
    refine rs (mi rfl) rfl ?_
    refine rs (by first | exact ix0m rfl rfl Try.underlying48 Try.sizeOf52 (by omega) | exact ixom rfl rfl Try.underlying48 Try.sizeOf52 (by omega)) rfl ?_
    refine rs (by first | exact fa0 0 rfl Try.underlying52 rfl Try.sizeOf4 rfl rfl | exact fa 0 rfl Try.underlying52 rfl Try.sizeOf4 rfl rfl) rfl ?_
    refine rs (ld rfl Try.isAgg4 (by first | exact hB.cell rfl | exact hL.cell hf.1 | assumption)) rfl ?_
    cases hr : l[k].ready
    · refine rs (ntf rfl) rfl ?_
      refine rs (pbf rfl rfl) rfl ?_
      refine rn ?_
      refine qn ?_
      refine Wct rfl ?_
      refine Wseq ?_
      refine Wreg ?_
      refine rs (ab rfl) rfl ?_
      refine rn ?_
      refine qn ?_
      refine Wret ?_
      refine qr ?_
      refine f1b Try.results11 Try.ntmps11 rfl ?_
      first
      | (rw [hear_out ⟨ep, l⟩ false worker epoch life (inN_false hin)]; exact ⟨_, rfl, rfl, h, Only.refl _ _⟩)
      | (rw [hear_in ⟨ep, l⟩ false k epoch life hk, if_neg (by simp), if_neg (by simp [hr])]; exact ⟨_, rfl, rfl, h, Only.refl _ _⟩)
    · refine rs (ntt rfl) rfl ?_
      refine rs (pbf rfl rfl) rfl ?_
      refine rn ?_
      refine qn ?_
      refine Wcf rfl ?_
      refine Wskip ?_
      refine qn ?_
      refine Wseq ?_
      refine Wreg ?_
      refine rs (mp rfl) rfl ?_
      refine rs (mi rfl) rfl ?_
      refine rs (mi rfl) rfl ?_
      refine rs (mi rfl) rfl ?_
      refine rs (mp rfl) rfl ?_
      refine rs (nl rfl) rfl ?_
      refine rs (by first | exact fa0 1 rfl Try.underlying50 rfl Try.sizeOf3 rfl rfl | exact fa 1 rfl Try.underlying50 rfl Try.sizeOf3 rfl rfl) rfl ?_
      refine rs (ld rfl Try.isAgg3 (by first | exact hB.cell rfl | exact hL.cell hf.1 | assumption)) rfl ?_
      refine rs (eqd rfl rfl) rfl ?_
      refine rc (cl Try.call23 rfl rfl) rfl ?_
      refine cmono (heard_any b bl pat ep l k life (decide (epoch = ep)) _ h hk) ?_
      rintro v w1 ⟨rfl, hw1, ho1⟩
      refine rs (ab rfl) rfl ?_
      refine rn ?_
      refine qn ?_
      refine Wret ?_
      refine f1b Try.results11 Try.ntmps11 rfl ?_
      rw [hear_in ⟨ep, l⟩ false k epoch life hk, if_neg (by simp), if_pos hr]
      exact ⟨_, rfl, rfl, hw1, ho1⟩

theorem bd_52_0_1 {ρ : Operand → Value} {w : World} {dst : Option Nat} {ty : TypeId} {pos : String} {after : Array Edge} {g : Option (Nat × Bool)} {x0 x1 : Operand} {a0 : Bool} {k1 : IntKind} {a1 : Int} (h0 : ρ x0 = (.bool a0)) (h1 : ρ x1 = (.int k1 a1)) :
    (execOp ρ ⟨dst, .build 52 #[(0, x0), (1, x1)], ty, pos, after, g⟩).run Try.prog w = .ok (.value (.agg #[(.bool a0), (.int k1 a1), (.int .i64 0)])) w := by
  simp [execOp, Instr.build, Instr.fill, Try.zeroValue52, Try.runUnderlying52, Try.sizeOf3, Try.sizeOf4, h0, h1, Value.cells]

set_option maxHeartbeats 1000000 in
theorem ready_any (b bl : Nat) (pat ep : Int) (l : List One) (worker epoch life : Int) (w : World) (h : WatchAt w b bl pat ep l) :
  Calls Try.prog 13 #[.pointer (some ⟨b, 0, none⟩), .int .i64 worker, .int .i64 epoch, .int .i64 life] w (Ret fun v w' => v = .bool (St.hear ⟨ep, l⟩ true worker epoch life).1 ∧ WatchAt w' b bl pat (St.hear ⟨ep, l⟩ true worker epoch life).2.ep (St.hear ⟨ep, l⟩ true worker epoch life).2.l ∧ Only [b, bl] w w') := by
  have hB := h.1
  have hL := h.2.1
  refine Center (args := [.pointer (some ⟨b, 0, none⟩), .int .i64 worker, .int .i64 epoch, .int .i64 life]) (l := [(0, .pointer (some ⟨b, 0, none⟩)), (1, .int .i64 worker), (2, .int .i64 epoch), (3, .int .i64 life)]) Try.func13 Try.ntmps13 rfl rfl rfl ?_
  refine Wseq ?_
  refine Wreg ?_
  refine rs (ab rfl) rfl ?_
  refine rn ?_
  refine qn ?_
  refine Wseq ?_
  refine Wseq ?_
  refine Wreg ?_
  refine rs (mp rfl) rfl ?_
  refine rs (mi rfl) rfl ?_
  refine rc (cl Try.call22 rfl rfl) rfl ?_
  refine cmono (there_any b bl pat ep l worker _ h) ?_
  rintro _ _ ⟨rfl, rfl⟩
  cases hin : inN worker l.length
  · refine rs (ntf rfl) rfl ?_
    refine rs (mb rfl) rfl ?_
    refine r0 rfl ?_
    refine r0 rfl ?_
    refine r0 rfl ?_
    refine r0 rfl ?_
    refine r0 rfl ?_
    refine r0 rfl ?_
    refine rs (pbt rfl rfl) rfl ?_
    refine rn ?_
    refine qn ?_
    refine Wct rfl ?_
    refine Wseq ?_
    refine Wreg ?_
    refine rs (ab rfl) rfl ?_
    refine rn ?_
    refine qn ?_
    refine Wret ?_
    refine qr ?_
    refine f1b Try.results13 Try.ntmps13 rfl ?_
    first
    | (rw [hear_out ⟨ep, l⟩ true worker epoch life (inN_false hin)]; exact ⟨_, rfl, rfl, h, Only.refl _ _⟩)
    | (rw [hear_in ⟨ep, l⟩ true k epoch life hk, if_pos rfl, if_neg (by assumption)]; exact ⟨_, rfl, rfl, h, Only.refl _ _⟩)
  · obtain ⟨k, rfl, hk⟩ := inN_true hin
    have hf := flat_one l k hk
    refine rs (ntt rfl) rfl ?_
    refine rs (mb rfl) rfl ?_
    refine rs (mi rfl) rfl ?_
    refine rs (mp rfl) rfl ?_
    refine rs (nl rfl) rfl ?_
    refine rs (by first | exact fa0 1 rfl Try.underlying50 rfl Try.sizeOf3 rfl rfl | exact fa 1 rfl Try.underlying50 rfl Try.sizeOf3 rfl rfl) rfl ?_
    refine rs (ld rfl Try.isAgg3 (by first | exact hB.cell rfl | exact hL.cell hf.1 | assumption)) rfl ?_
    refine rsc (ned rfl rfl) rfl (fun c2 => ?_) (fun c2 => ?_)
    · refine rs (pbf rfl rfl) rfl ?_
      refine rn ?_
      refine qn ?_
      refine Wct rfl ?_
      refine Wseq ?_
      refine Wreg ?_
      refine rs (ab rfl) rfl ?_
      refine rn ?_
      refine qn ?_
      refine Wret ?_
      refine qr ?_
      refine f1b Try.results13 Try.ntmps13 rfl ?_
      first
      | (rw [hear_out ⟨ep, l⟩ true worker epoch life (inN_false hin)]; exact ⟨_, rfl, rfl, h, Only.refl _ _⟩)
      | (rw [hear_in ⟨ep, l⟩ true k epoch life hk, if_pos rfl, if_neg (by assumption)]; exact ⟨_, rfl, rfl, h, Only.refl _ _⟩)
    · refine rs (pbf rfl rfl) rfl ?_
      refine rn ?_
      refine qn ?_
      refine Wcf rfl ?_
      refine Wskip ?_
      refine qn ?_
      refine Wseq ?_
      refine Wseq ?_
      refine Wreg ?_
      refine rs (mp rfl) rfl ?_
      refine rs (nl rfl) rfl ?_
      refine rs (by first | exact fa0 2 rfl Try.underlying50 rfl Try.sizeOf48 rfl rfl | exact fa 2 rfl Try.underlying50 rfl Try.sizeOf48 rfl rfl) rfl ?_
      refine rs (ld rfl Try.isAgg48 (by first | exact hB.cell rfl | exact hL.cell hf.1 | assumption)) rfl ?_
      refine rs (mi rfl) rfl ?_
      refine rs (by first | exact ix0m rfl rfl Try.underlying48 Try.sizeOf52 (by omega) | exact ixom rfl rfl Try.underlying48 Try.sizeOf52 (by omega)) rfl ?_
      refine rs (by first | exact fa0 0 rfl Try.underlying52 rfl Try.sizeOf4 rfl rfl | exact fa 0 rfl Try.underlying52 rfl Try.sizeOf4 rfl rfl) rfl ?_
      refine rs (ld rfl Try.isAgg4 (by first | exact hB.cell rfl | exact hL.cell hf.1 | assumption)) rfl ?_
      cases hr : l[k].ready
      · refine rn ?_
        refine qn ?_
        refine Wcf rfl ?_
        refine Wskip ?_
        refine qn ?_
        refine Wseq ?_
        refine Wreg ?_
        refine rs (mp rfl) rfl ?_
        refine rs (nl rfl) rfl ?_
        refine rs (by first | exact fa0 2 rfl Try.underlying50 rfl Try.sizeOf48 rfl rfl | exact fa 2 rfl Try.underlying50 rfl Try.sizeOf48 rfl rfl) rfl ?_
        refine rs (ld rfl Try.isAgg48 (by first | exact hB.cell rfl | exact hL.cell hf.1 | assumption)) rfl ?_
        refine rs (mi rfl) rfl ?_
        refine rs (mi rfl) rfl ?_
        refine rs (bd_52_0_1 rfl rfl) rfl ?_
        refine rs (by first | exact ix0m rfl rfl Try.underlying48 Try.sizeOf52 (by omega) | exact ixom rfl rfl Try.underlying48 Try.sizeOf52 (by omega)) rfl ?_
        refine ru (stg rfl rfl Try.sizeOf52 (by first | exact hL | assumption) (by rw [flat_length One.c 3 One.c_len]; simp; omega) (by simp [Value.oneCell'])) rfl ?_
        refine rgen (fun w2 => WatchAt w2 b bl pat ep (l.set k ⟨true, life, 0⟩) ∧ Only [b, bl] w w2) ⟨⟨by simpa using hB.setRowOther (fun e => h.2.2.1 e.symm) _, by rw [← flat_one_row l k ⟨true, life, 0⟩ hk]; exact hL.setRow _, h.2.2.1, by simpa using h.2.2.2⟩, (Only.refl _ _).setRow (.inl (by simp)) _⟩ ?_
        rintro w2 ⟨h2, ho2⟩
        refine rn ?_
        refine qn ?_
        refine Wseq ?_
        refine Wreg ?_
        refine rs (ab rfl) rfl ?_
        refine rn ?_
        refine qn ?_
        refine Wret ?_
        refine f1b Try.results13 Try.ntmps13 rfl ?_
        rw [hear_in ⟨ep, l⟩ true k epoch life hk, if_pos rfl, if_pos (by dsimp only; omega), if_neg (by simp [hr])]
        exact ⟨_, rfl, rfl, h2, ho2⟩
      · refine rn ?_
        refine qn ?_
        refine Wct rfl ?_
        refine Wseq ?_
        refine Wreg ?_
        refine rs (mp rfl) rfl ?_
        refine rs (mi rfl) rfl ?_
        refine rs (mi rfl) rfl ?_
        refine rc (cl Try.call23 rfl rfl) rfl ?_
        refine cmono (heard_any b bl pat ep l k life true _ h hk) ?_
        rintro v w1 ⟨rfl, hw1, ho1⟩
        refine rs (ab rfl) rfl ?_
        refine rn ?_
        refine qn ?_
        refine Wret ?_
        refine qr ?_
        refine f1b Try.results13 Try.ntmps13 rfl ?_
        rw [hear_in ⟨ep, l⟩ true k epoch life hk, if_pos rfl, if_pos (by dsimp only; omega), if_pos hr]
        exact ⟨_, rfl, rfl, hw1, ho1⟩

set_option maxHeartbeats 1000000 in
theorem tick_any (b bl : Nat) (pat ep : Int) (l : List One) (w : World) (h : WatchAt w b bl pat ep l) :
  Calls Try.prog 9 #[.pointer (some ⟨b, 0, none⟩)] w (Ret fun v w' => v = .bool (St.tick pat ⟨ep, l⟩).1 ∧ WatchAt w' b bl pat (St.tick pat ⟨ep, l⟩).2.ep (St.tick pat ⟨ep, l⟩).2.l ∧ Only [b, bl] w w') := by
  have hB := h.1
  have hn := h.2.2.2
  refine Center (args := [.pointer (some ⟨b, 0, none⟩)]) (l := [(0, .pointer (some ⟨b, 0, none⟩))]) Try.func9 Try.ntmps9 rfl rfl rfl ?_
  refine Wseq ?_
  refine Wreg ?_
  refine rs (ab rfl) rfl ?_
  refine rn ?_
  refine qn ?_
  refine Wseq ?_
  refine Wseq ?_
  refine Wreg ?_
  refine rs (mp rfl) rfl ?_
  refine rs (nl rfl) rfl ?_
  refine rs (by first | exact fa0 2 rfl Try.underlying50 rfl Try.sizeOf48 rfl rfl | exact fa 2 rfl Try.underlying50 rfl Try.sizeOf48 rfl rfl) rfl ?_
  refine rs (ld rfl Try.isAgg48 (by first | exact hB.cell rfl | assumption)) rfl ?_
  refine rs (ln rfl Try.underlying48) rfl ?_
  refine rs (mi rfl) rfl ?_
  refine rn ?_
  refine qn ?_
  refine Wblk ?_
  refine Wloop [3, 9, 10, 11, 12, 13, 14, 15, 16, 17, 18, 19, 20, 21, 22, 23] [9] (fun m vs wr => ∃ k : Nat, k ≤ l.length ∧ m = l.length - k ∧ vs = [.int .i64 k] ∧ WatchAt wr b bl pat ep (incs k l) ∧ Only [b, bl] w wr) (l.length) ?_ ?_
  · exact ⟨0, by omega, by omega, rfl, by simpa [incs] using h, Only.refl _ _⟩
  · intro m vs u wr hJ
    obtain ⟨k, hk, rfl, rfl, hw, ho⟩ := hJ
    have hBr := hw.1
    have hLr := hw.2.1
    rw [incs_len] at hBr
    refine Wseq ?_
    refine Wreg ?_
    refine rsc (lt' rfl rfl) rfl (fun c1 => ?_) (fun c1 => ?_)
    · have hkl : k < l.length := by omega
      have hf := flat_one (incs k l) k (by rw [incs_len]; exact hkl)
      rw [incs_get k l hkl] at hf
      refine rn ?_
      refine qn ?_
      refine Wseq ?_
      refine Wct rfl ?_
      refine Wskip ?_
      refine qn ?_
      refine Wseq ?_
      refine Wblk ?_
      refine Wseq ?_
      refine Wreg ?_
      refine rs (mi rfl) rfl ?_
      refine rs (ai rfl) rfl ?_
      refine rn ?_
      refine qn ?_
      refine Wreg ?_
      refine rs (mp rfl) rfl ?_
      refine rs (nl rfl) rfl ?_
      refine rs (by first | exact fa0 2 rfl Try.underlying50 rfl Try.sizeOf48 rfl rfl | exact fa 2 rfl Try.underlying50 rfl Try.sizeOf48 rfl rfl) rfl ?_
      refine rs (ld rfl Try.isAgg48 (by exact hBr.cell rfl)) rfl ?_
      refine rs (mi rfl) rfl ?_
      refine rs (by first | exact ix0m rfl rfl Try.underlying48 Try.sizeOf52 (by omega) | exact ixom rfl rfl Try.underlying48 Try.sizeOf52 (by omega)) rfl ?_
      refine rs (by first | exact fa0 2 rfl Try.underlying52 rfl Try.sizeOf3 rfl rfl | exact fa 2 rfl Try.underlying52 rfl Try.sizeOf3 rfl rfl) rfl ?_
      refine rs (ld rfl Try.isAgg3 (by exact hLr.cell hf.2.2)) rfl ?_
      refine rs (adw rfl rfl) rfl ?_
      refine rs (by first | exact ix0m rfl rfl Try.underlying48 Try.sizeOf52 (by omega) | exact ixom rfl rfl Try.underlying48 Try.sizeOf52 (by omega)) rfl ?_
      refine rs (by first | exact fa0 2 rfl Try.underlying52 rfl Try.sizeOf3 rfl rfl | exact fa 2 rfl Try.underlying52 rfl Try.sizeOf3 rfl rfl) rfl ?_
      refine ru (sti rfl rfl Try.sizeOf3 (by exact hLr.cell hf.2.2) (by first | exact hLr.free _ | assumption)) rfl ?_
      refine rgen (fun w2 => WatchAt w2 b bl pat ep (incs (k + 1) l) ∧ Only [b, bl] w w2) ⟨⟨by have := hBr.other (a := ⟨bl, k * 3 + 2, none⟩) h.2.2.1 (.int .i64 (IntKind.i64.wrap (l[k].since + 1))); rwa [incs_len], by
        rw [← incs_set k l hkl, ← flat_one_set (incs k l) k 2 (by omega) (.int .i64 (IntKind.i64.wrap (l[k].since + 1))) (inc l[k]) (by rw [incs_len]; exact hkl) (by rw [incs_get k l hkl]; rfl)]
        exact hLr.set _ _, h.2.2.1, by rw [incs_len]; exact hn⟩, ho.setCell (.inl (by simp)) _⟩ ?_
      rintro w2 ⟨hw2, ho2⟩
      refine rn ?_
      refine bn ?_
      refine qn ?_
      refine Wreg ?_
      refine rs (ad rfl rfl (rfl : (k : Int) + 1 = ((k + 1 : Nat) : Int)) (by omega)) rfl ?_
      refine rs (mi rfl) rfl ?_
      refine rn ?_
      refine qn ?_
      exact ⟨l.length - (k + 1), by omega, ⟨k + 1, by omega, rfl, rfl, hw2, ho2⟩, (kl rfl k0)⟩
    · refine rn ?_
      refine qn ?_
      refine Wseq ?_
      refine Wcf rfl ?_
      refine Wexit ?_
      refine qx ?_
      refine qx ?_
      refine be ?_
      refine qn ?_
      refine Wseq ?_
      refine Wseq ?_
      obtain rfl : k = l.length := by omega
      rw [incs_all] at hw
      refine Wreg ?_
      refine rs (mp rfl) rfl ?_
      refine rc (cl Try.call18 rfl rfl) rfl ?_
      refine cmono (whole_any b bl pat ep _ _ hw) ?_
      rintro _ w2 ⟨rfl, ho2⟩
      have hw2 := hw.kept ho2 (by simp) (by simp)
      cases h1 : decide ((idx missB (l.map inc) 0).length = 0)
      · refine rs (ntf rfl) rfl ?_
        refine rs (mb rfl) rfl ?_
        refine r0 rfl ?_
        refine r0 rfl ?_
        refine r0 rfl ?_
        refine r0 rfl ?_
        refine rs (pbt rfl rfl) rfl ?_
        refine rn ?_
        refine qn ?_
        refine Wct rfl ?_
        refine Wseq ?_
        refine Wreg ?_
        refine rs (ab rfl) rfl ?_
        refine rn ?_
        refine qn ?_
        refine Wret ?_
        refine qr ?_
        refine f1b Try.results9 Try.ntmps9 rfl ?_
        first
        | (rw [show St.tick pat ⟨ep, l⟩ = (false, ⟨ep, l.map inc⟩) from if_neg (by rintro ⟨h2, _⟩; exact (of_decide_eq_false h1) h2)]; exact ⟨_, rfl, rfl, hw2, ho.trans ho2 (by simp)⟩)
        | (rw [show St.tick pat ⟨ep, l⟩ = (false, ⟨ep, l.map inc⟩) from if_neg (by rintro ⟨_, h2⟩; exact h2 (by dsimp only; omega))]; exact ⟨_, rfl, rfl, hw3, (ho.trans ho2 (by simp)).trans ho3 (by simp)⟩)
      · refine rs (ntt rfl) rfl ?_
        refine rs (mb rfl) rfl ?_
        refine rs (mp rfl) rfl ?_
        refine rc (cl Try.call21 rfl rfl) rfl ?_
        refine cmono (late_list b bl pat ep _ _ hw2) ?_
        rintro v w3 ⟨hv, ho3⟩
        have hw3 := hw2.kept ho3 (by simp) (by simp)
        obtain ⟨a, c, rfl⟩ := hv.slice
        refine rs (ln rfl Try.underlying36) rfl ?_
        refine rsc (eqd rfl rfl) rfl (fun c3 => ?_) (fun c3 => ?_)
        · refine rs (pbf rfl rfl) rfl ?_
          refine rn ?_
          refine qn ?_
          refine Wct rfl ?_
          refine Wseq ?_
          refine Wreg ?_
          refine rs (ab rfl) rfl ?_
          refine rn ?_
          refine qn ?_
          refine Wret ?_
          refine qr ?_
          refine f1b Try.results9 Try.ntmps9 rfl ?_
          first
          | (rw [show St.tick pat ⟨ep, l⟩ = (false, ⟨ep, l.map inc⟩) from if_neg (by rintro ⟨h2, _⟩; exact (of_decide_eq_false h1) h2)]; exact ⟨_, rfl, rfl, hw2, ho.trans ho2 (by simp)⟩)
          | (rw [show St.tick pat ⟨ep, l⟩ = (false, ⟨ep, l.map inc⟩) from if_neg (by rintro ⟨_, h2⟩; exact h2 (by dsimp only; omega))]; exact ⟨_, rfl, rfl, hw3, (ho.trans ho2 (by simp)).trans ho3 (by simp)⟩)
        · refine rs (pbf rfl rfl) rfl ?_
          refine rn ?_
          refine qn ?_
          refine Wcf rfl ?_
          refine Wskip ?_
          refine qn ?_
          refine Wseq ?_
          refine Wreg ?_
          refine rs (mp rfl) rfl ?_
          refine rc (cl Try.call15 rfl rfl) rfl ?_
          refine cmono (bump_any b bl pat ep _ _ hw3) ?_
          rintro _ w4 ⟨rfl, hw4, ho4⟩
          refine rn ?_
          refine qn ?_
          refine Wseq ?_
          refine Wreg ?_
          refine rs (ab rfl) rfl ?_
          refine rn ?_
          refine qn ?_
          refine Wret ?_
          refine f1b Try.results9 Try.ntmps9 rfl ?_
          rw [show St.tick pat ⟨ep, l⟩ = (true, St.bump ⟨ep, l.map inc⟩) from if_pos ⟨of_decide_eq_true h1, by dsimp only; omega⟩]
          exact ⟨_, rfl, rfl, hw4, ((ho.trans ho2 (by simp)).trans ho3 (by simp)).trans ho4 (by simp)⟩

theorem made_ones (w : World) (k : Nat) : Blk (w.alloc (.cells (madeCells (Value.agg #[.bool false, .int .i64 0, .int .i64 0]).cells (k * 3)) 52)) w.heap.size (flat One.c (List.replicate k ⟨false, 0, 0⟩)) 52 := by
  have h := Blk.new w (madeCells (Value.agg #[.bool false, .int .i64 0, .int .i64 0]).cells (k * 3)) 52
  rw [madeCells_flat _ 3 rfl (by omega)] at h
  rw [flat_const One.c (fun _ : Unit => [Value.bool false, .int .i64 0, .int .i64 0]) (⟨false, 0, 0⟩ : One) () rfl k]
  exact h

theorem bd_50_0_1_2 {ρ : Operand → Value} {w : World} {dst : Option Nat} {ty : TypeId} {pos : String} {after : Array Edge} {g : Option (Nat × Bool)} {x0 x1 x2 : Operand} {k0 : IntKind} {a0 : Int} {k1 : IntKind} {a1 : Int} {a2 : Option Addr} {l2 c2 : Nat} (h0 : ρ x0 = (.int k0 a0)) (h1 : ρ x1 = (.int k1 a1)) (h2 : ρ x2 = (.slice a2 l2 c2)) :
    (execOp ρ ⟨dst, .build 50 #[(0, x0), (1, x1), (2, x2)], ty, pos, after, g⟩).run Try.prog w = .ok (.value (.agg #[(.int k0 a0), (.int k1 a1), (.slice a2 l2 c2)])) w := by
  simp [execOp, Instr.build, Instr.fill, Try.zeroValue50, Try.runUnderlying50, Try.sizeOf3, Try.sizeOf48, h0, h1, h2, Value.cells]

set_option maxHeartbeats 1000000 in
theorem new_any (wn pt : Int) (w : World) :
  Calls Try.prog 7 #[.int .i64 wn, .int .i64 pt] w (Ret fun v w' => (if 1 ≤ wn ∧ wn ≤ 64 ∧ 1 ≤ pt ∧ pt ≤ 10000 then ∃ b bl, w.heap.size ≤ b ∧ w.heap.size ≤ bl ∧ v = .tuple #[.pointer (some ⟨b, 0, none⟩), .int .i64 0] ∧ WatchAt w' b bl pt 1 (List.replicate wn.toNat ⟨false, 0, 0⟩) else v = .tuple #[.pointer none, .int .i64 2]) ∧ Only [] w w') := by
  refine Center (args := [.int .i64 wn, .int .i64 pt]) (l := [(0, .int .i64 wn), (1, .int .i64 pt)]) Try.func7 Try.ntmps7 rfl rfl rfl ?_
  refine Wseq ?_
  refine Wreg ?_
  refine rs (ap rfl) rfl ?_
  refine rs (ai rfl) rfl ?_
  refine rn ?_
  refine qn ?_
  refine Wseq ?_
  refine Wseq ?_
  refine Wreg ?_
  refine rs (mi rfl) rfl ?_
  refine rsc (lt' rfl rfl) rfl (fun c1 => ?_) (fun c1 => ?_)
  · refine rs (mb rfl) rfl ?_
    refine r0 rfl ?_
    refine r0 rfl ?_
    refine rs (pbt rfl rfl) rfl ?_
    refine rs (mb rfl) rfl ?_
    refine r0 rfl ?_
    refine r0 rfl ?_
    refine rs (pbt rfl rfl) rfl ?_
    refine rs (mb rfl) rfl ?_
    refine r0 rfl ?_
    refine r0 rfl ?_
    refine rs (pbt rfl rfl) rfl ?_
    refine rn ?_
    refine qn ?_
    refine Wct rfl ?_
    refine Wseq ?_
    refine Wreg ?_
    refine rs (ap rfl) rfl ?_
    refine rs (ai rfl) rfl ?_
    refine rn ?_
    refine qn ?_
    refine Wret ?_
    refine qr ?_
    refine f2 Try.results7 Try.ntmps7 rfl rfl ?_
    refine ⟨_, rfl, ?_, Only.refl _ _⟩
    rw [if_neg (by omega)]
    rfl
  · refine rs (mb rfl) rfl ?_
    refine rs (mi rfl) rfl ?_
    refine rsc (gt' rfl rfl) rfl (fun c2 => ?_) (fun c2 => ?_)
    · refine rs (pbf rfl rfl) rfl ?_
      refine rs (mb rfl) rfl ?_
      refine r0 rfl ?_
      refine r0 rfl ?_
      refine rs (pbt rfl rfl) rfl ?_
      refine rs (mb rfl) rfl ?_
      refine r0 rfl ?_
      refine r0 rfl ?_
      refine rs (pbt rfl rfl) rfl ?_
      refine rn ?_
      refine qn ?_
      refine Wct rfl ?_
      refine Wseq ?_
      refine Wreg ?_
      refine rs (ap rfl) rfl ?_
      refine rs (ai rfl) rfl ?_
      refine rn ?_
      refine qn ?_
      refine Wret ?_
      refine qr ?_
      refine f2 Try.results7 Try.ntmps7 rfl rfl ?_
      refine ⟨_, rfl, ?_, Only.refl _ _⟩
      rw [if_neg (by omega)]
      rfl
    · refine rs (pbf rfl rfl) rfl ?_
      refine rs (mb rfl) rfl ?_
      refine rs (mi rfl) rfl ?_
      refine rsc (lt' rfl rfl) rfl (fun c3 => ?_) (fun c3 => ?_)
      · refine rs (pbf rfl rfl) rfl ?_
        refine rs (mb rfl) rfl ?_
        refine r0 rfl ?_
        refine r0 rfl ?_
        refine rs (pbt rfl rfl) rfl ?_
        refine rn ?_
        refine qn ?_
        refine Wct rfl ?_
        refine Wseq ?_
        refine Wreg ?_
        refine rs (ap rfl) rfl ?_
        refine rs (ai rfl) rfl ?_
        refine rn ?_
        refine qn ?_
        refine Wret ?_
        refine qr ?_
        refine f2 Try.results7 Try.ntmps7 rfl rfl ?_
        refine ⟨_, rfl, ?_, Only.refl _ _⟩
        rw [if_neg (by omega)]
        rfl
      · refine rs (pbf rfl rfl) rfl ?_
        refine rs (mb rfl) rfl ?_
        refine rs (mi rfl) rfl ?_
        refine rsc (gt' rfl rfl) rfl (fun c4 => ?_) (fun c4 => ?_)
        · refine rs (pbf rfl rfl) rfl ?_
          refine rn ?_
          refine qn ?_
          refine Wct rfl ?_
          refine Wseq ?_
          refine Wreg ?_
          refine rs (ap rfl) rfl ?_
          refine rs (ai rfl) rfl ?_
          refine rn ?_
          refine qn ?_
          refine Wret ?_
          refine qr ?_
          refine f2 Try.results7 Try.ntmps7 rfl rfl ?_
          refine ⟨_, rfl, ?_, Only.refl _ _⟩
          rw [if_neg (by omega)]
          rfl
        · refine rs (pbf rfl rfl) rfl ?_
          refine rn ?_
          refine qn ?_
          refine Wcf rfl ?_
          refine Wskip ?_
          refine qn ?_
          refine Wseq ?_
          obtain ⟨k, rfl⟩ := Int.eq_ofNat_of_zero_le (by omega : 0 ≤ wn)
          refine Wreg ?_
          refine rs (mi rfl) rfl ?_
          refine rs (mi rfl) rfl ?_
          refine rs (mk rfl rfl Try.underlying48 (i := Try.t52) rfl rfl (by first | decide | (simp [Try.t52]; omega)) (by omega)) rfl ?_
          refine rs (bd_50_0_1_2 rfl rfl rfl) rfl ?_
          refine rs (bo rfl) rfl ?_
          refine rs (ap rfl) rfl ?_
          refine rs (ai rfl) rfl ?_
          refine rn ?_
          refine qn ?_
          refine Wret ?_
          refine f2 Try.results7 Try.ntmps7 rfl rfl ?_
          refine ⟨_, rfl, ?_, ((Only.refl _ _).alloc _).alloc _⟩
          rw [if_pos (by omega)]
          refine ⟨w.heap.size + 1, w.heap.size, by omega, by omega, ?_, ?_⟩
          · rw [← World.size_alloc]; rfl
          · have h1 := made_ones w k
            have h2 := Blk.new (w.alloc (.cells (madeCells (Value.agg #[.bool false, .int .i64 0, .int .i64 0]).cells (k * 3)) 52)) #[.int .i64 pt, .int .i64 1, .slice (some ⟨w.heap.size, 0, none⟩) k k] 50
            rw [World.size_alloc] at h2
            have hk : (List.replicate (Int.toNat (Int.ofNat k)) (⟨false, 0, 0⟩ : One)) = List.replicate k ⟨false, 0, 0⟩ := rfl
            refine ⟨?_, h1.alloc _, by omega, by simp; omega⟩
            have hk2 : (List.replicate (Int.toNat (Int.ofNat k)) (⟨false, 0, 0⟩ : One)).length = k := by rw [hk]; simp
            rw [show ((↑k : Int).toNat) = (Int.toNat (Int.ofNat k)) from rfl, hk2]
            exact h2

end Go.Proofs.Ytmphbmocpiolfaa
