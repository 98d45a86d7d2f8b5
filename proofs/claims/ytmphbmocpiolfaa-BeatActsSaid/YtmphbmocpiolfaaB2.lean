/- Contracts of Go functions, each by one walk. Written by a program of this session out of its own annotations. -/
import Derived.Test.YtmphbmocpiolfaaB1
namespace Go.Proofs.Ytmphbmocpiolfaa
open Go Go.RowKit Go.Hp
set_option linter.unusedVariables false
set_option linter.unusedSimpArgs false
set_option maxRecDepth 100000

def RefAt (w : World) (b b1 b2 b3 : Nat) (pat ep : Int) (l : List One) : Prop :=
  Blk w b [.int .i64 pat, .int .i64 ep, .slice (some ⟨b1, 0, none⟩) l.length l.length, .slice (some ⟨b2, 0, none⟩) l.length l.length, .slice (some ⟨b3, 0, none⟩) l.length l.length] 38 ∧
  Blk w b1 (l.map fun o => .bool o.ready) 4 ∧ Blk w b2 (l.map fun o => .int .i64 o.life) 3 ∧ Blk w b3 (l.map fun o => .int .i64 o.since) 3 ∧
  (b ≠ b1 ∧ b ≠ b2 ∧ b ≠ b3 ∧ b1 ≠ b2 ∧ b1 ≠ b3 ∧ b2 ≠ b3) ∧ l.length ≤ 64
theorem RefAt.kept {S : List Nat} {w w' : World} {b b1 b2 b3 : Nat} {pat ep : Int} {l : List One} (h : RefAt w b b1 b2 b3 pat ep l) (ho : Only S w w') (hb : b ∉ S) (h1 : b1 ∉ S) (h2 : b2 ∉ S) (h3 : b3 ∉ S) : RefAt w' b b1 b2 b3 pat ep l :=
  ⟨h.1.kept ho hb, h.2.1.kept ho h1, h.2.2.1.kept ho h2, h.2.2.2.1.kept ho h3, h.2.2.2.2⟩
theorem RefAt.drew {w : World} {b b1 b2 b3 : Nat} {pat ep : Int} {l : List One} (h : RefAt w b b1 b2 b3 pat ep l) : RefAt w.drew b b1 b2 b3 pat ep l := h
theorem map_get {α β : Type} (f : α → β) (l : List α) (k : Nat) (h : k < l.length) : (l.map f)[k]? = some (f l[k]) := by simp [h]
theorem map_upd {α β : Type} (f : α → β) (l : List α) (k : Nat) (o' : α) (v : β) (hv : v = f o') : (l.map f).set k v = (l.set k o').map f := by rw [List.map_set, hv]
theorem map_same {α β : Type} (f : α → β) (l : List α) (k : Nat) (o' : α) (h : k < l.length) (hv : f o' = f l[k]) : (l.set k o').map f = l.map f := by
  rw [List.map_set, hv]
  apply List.ext_getElem?
  intro i
  rw [List.getElem?_set]
  split
  · rename_i e; subst e; simp [h]
  · rfl
theorem heard_set (s : St) (k : Nat) (o : One) (life : Int) (now : Bool) (h1 : ¬ life > o.life) (h2 : now = true) (h3 : life = o.life) : s.heard k o life now = (false, ⟨s.ep, s.l.set k { o with since := 0 }⟩) := by
  unfold St.heard; rw [if_neg h1, if_pos h2, if_pos h3]
theorem heard_not (s : St) (k : Nat) (o : One) (life : Int) (now : Bool) (h1 : ¬ life > o.life) (h2 : ¬ (now = true ∧ life = o.life)) : s.heard k o life now = (false, s) := by
  unfold St.heard; rw [if_neg h1]
  split
  · rw [if_neg (fun e => h2 ⟨‹_›, e⟩)]
  · rfl
def zs (k : Nat) (l : List One) : List One := List.replicate k ⟨false, 0, 0⟩ ++ l.drop k
theorem zs_len (k : Nat) (l : List One) (h : k ≤ l.length) : (zs k l).length = l.length := by simp [zs]; omega
theorem zs_set (k : Nat) (l : List One) (h : k < l.length) : (zs k l).set k ⟨false, 0, 0⟩ = zs (k + 1) l := by
  unfold zs
  rw [List.set_append_right _ _ (by simp), List.length_replicate, Nat.sub_self, List.drop_eq_getElem_cons h, List.set_cons_zero, List.replicate_succ', List.append_assoc]
  rfl
theorem zs_all (l : List One) : zs l.length l = List.replicate l.length ⟨false, 0, 0⟩ := by simp [zs]

set_option maxHeartbeats 1000000 in
theorem rbump_any (b b1 b2 b3 : Nat) (pat ep : Int) (l : List One) (w : World) (h : RefAt w b b1 b2 b3 pat ep l) :
  Calls Try.prog 14 #[.pointer (some ⟨b, 0, none⟩)] w (Ret fun v w' => RefAt w' b b1 b2 b3 pat (St.bump ⟨ep, l⟩).ep (St.bump ⟨ep, l⟩).l ∧ Only [b, b1, b2, b3] w w') := by
  obtain ⟨hB, h1, h2, h3, ⟨n01, n02, n03, n12, n13, n23⟩, hn⟩ := id h
  refine Center (args := [.pointer (some ⟨b, 0, none⟩)]) (l := [(0, .pointer (some ⟨b, 0, none⟩))]) Try.func14 Try.ntmps14 rfl rfl rfl ?_
  refine Wseq ?_
  refine Wreg ?_
  refine rs (mp rfl) rfl ?_
  refine rs (mp rfl) rfl ?_
  refine rs (nl rfl) rfl ?_
  refine rs (by first | exact fa0 1 rfl Try.underlying38 rfl Try.sizeOf3 rfl rfl | exact fa 1 rfl Try.underlying38 rfl Try.sizeOf3 rfl rfl) rfl ?_
  refine rs (ld rfl Try.isAgg3 (by first | exact hB.cell rfl | exact hBr.cell rfl | exact (hBr.other n01 _).cell rfl | exact ((hBr.other n01 _).other n02 _).cell rfl | exact g1.cell hg1 | exact (g2.other (fun e => n12 e.symm) _).cell hg2 | exact ((g3.other (fun e => n13 e.symm) _).other (fun e => n23 e.symm) _).cell hg3 | assumption)) rfl ?_
  refine rs (adw rfl rfl) rfl ?_
  refine rs (nl rfl) rfl ?_
  refine rs (by first | exact fa0 1 rfl Try.underlying38 rfl Try.sizeOf3 rfl rfl | exact fa 1 rfl Try.underlying38 rfl Try.sizeOf3 rfl rfl) rfl ?_
  refine ru (sti rfl rfl Try.sizeOf3 (by first | exact hB.cell rfl | exact hBr.cell rfl | exact (hBr.other n01 _).cell rfl | exact ((hBr.other n01 _).other n02 _).cell rfl | exact g1.cell hg1 | exact (g2.other (fun e => n12 e.symm) _).cell hg2 | exact ((g3.other (fun e => n13 e.symm) _).other (fun e => n23 e.symm) _).cell hg3 | assumption) (by first | exact hB.free _ | exact g1.free _ | exact (g2.other (fun e => n12 e.symm) _).free _ | exact ((g3.other (fun e => n13 e.symm) _).other (fun e => n23 e.symm) _).free _ | assumption)) rfl ?_
  refine rgen (fun w2 => RefAt w2 b b1 b2 b3 pat (St.bump ⟨ep, l⟩).ep l ∧ Only [b, b1, b2, b3] w w2) ⟨⟨hB.set 1 _, h1.other (fun e => n01 e.symm) _, h2.other (fun e => n02 e.symm) _, h3.other (fun e => n03 e.symm) _, ⟨n01, n02, n03, n12, n13, n23⟩, hn⟩, (Only.refl _ _).setCell (.inl (by simp)) _⟩ ?_
  rintro w2 ⟨hq, ho2⟩
  refine rn ?_
  refine qn ?_
  refine Wseq ?_
  refine Wreg ?_
  refine rs (ai rfl) rfl ?_
  refine rn ?_
  refine qn ?_
  refine Wblk ?_
  refine Wloop [2, 11, 12, 13, 14, 15, 16, 17, 18, 19, 20, 21, 22, 23, 24, 25, 26, 27, 28, 29, 30, 31, 32, 33, 34, 35, 36, 37] [2] (fun m vs wr => ∃ k : Nat, k ≤ l.length ∧ m = l.length - k ∧ vs = [.int .i64 k] ∧ RefAt wr b b1 b2 b3 pat (St.bump ⟨ep, l⟩).ep (zs k l) ∧ Only [b, b1, b2, b3] w wr) (l.length) ?_ ?_
  · exact ⟨0, by omega, by omega, rfl, by simpa [zs] using hq, ho2⟩
  · intro m vs u wr hJ
    obtain ⟨k, hk, rfl, rfl, hw, ho⟩ := hJ
    obtain ⟨hBr, g1, g2, g3, _, _⟩ := id hw
    rw [zs_len k l hk] at hBr
    refine Wseq ?_
    refine Wseq ?_
    refine Wreg ?_
    refine rs (mi rfl) rfl ?_
    refine rs (mp rfl) rfl ?_
    refine rs (nl rfl) rfl ?_
    refine rs (by first | exact fa0 2 rfl Try.underlying38 rfl Try.sizeOf35 rfl rfl | exact fa 2 rfl Try.underlying38 rfl Try.sizeOf35 rfl rfl) rfl ?_
    refine rs (ld rfl Try.isAgg35 (by first | exact hB.cell rfl | exact hBr.cell rfl | exact (hBr.other n01 _).cell rfl | exact ((hBr.other n01 _).other n02 _).cell rfl | exact g1.cell hg1 | exact (g2.other (fun e => n12 e.symm) _).cell hg2 | exact ((g3.other (fun e => n13 e.symm) _).other (fun e => n23 e.symm) _).cell hg3 | assumption)) rfl ?_
    refine rs (ln rfl Try.underlying35) rfl ?_
    refine rsc (lt' rfl rfl) rfl (fun c1 => ?_) (fun c1 => ?_)
    · have hkl : k < l.length := by omega
      have hzl := zs_len k l hk
      have hg1 := map_get (fun o : One => Value.bool o.ready) (zs k l) k (by omega)
      have hg2 := map_get (fun o : One => Value.int .i64 o.life) (zs k l) k (by omega)
      have hg3 := map_get (fun o : One => Value.int .i64 o.since) (zs k l) k (by omega)
      refine rn ?_
      refine qn ?_
      refine Wct rfl ?_
      refine Wskip ?_
      refine qn ?_
      refine Wseq ?_
      refine Wblk ?_
      refine Wseq ?_
      refine Wreg ?_
      refine rs (mp rfl) rfl ?_
      refine rs (nl rfl) rfl ?_
      refine rs (by first | exact fa0 2 rfl Try.underlying38 rfl Try.sizeOf35 rfl rfl | exact fa 2 rfl Try.underlying38 rfl Try.sizeOf35 rfl rfl) rfl ?_
      refine rs (ld rfl Try.isAgg35 (by first | exact hB.cell rfl | exact hBr.cell rfl | exact (hBr.other n01 _).cell rfl | exact ((hBr.other n01 _).other n02 _).cell rfl | exact g1.cell hg1 | exact (g2.other (fun e => n12 e.symm) _).cell hg2 | exact ((g3.other (fun e => n13 e.symm) _).other (fun e => n23 e.symm) _).cell hg3 | assumption)) rfl ?_
      refine rs (mi rfl) rfl ?_
      refine rs (by first | exact ix01 rfl rfl Try.underlying35 Try.sizeOf4 (by omega) | exact ixo1 rfl rfl Try.underlying35 Try.sizeOf4 (by omega)) rfl ?_
      refine ru (stb rfl rfl Try.sizeOf4 (by first | exact hB.cell rfl | exact hBr.cell rfl | exact (hBr.other n01 _).cell rfl | exact ((hBr.other n01 _).other n02 _).cell rfl | exact g1.cell hg1 | exact (g2.other (fun e => n12 e.symm) _).cell hg2 | exact ((g3.other (fun e => n13 e.symm) _).other (fun e => n23 e.symm) _).cell hg3 | assumption) (by first | exact hB.free _ | exact g1.free _ | exact (g2.other (fun e => n12 e.symm) _).free _ | exact ((g3.other (fun e => n13 e.symm) _).other (fun e => n23 e.symm) _).free _ | assumption)) rfl ?_
      refine rn ?_
      refine qn ?_
      refine Wseq ?_
      refine Wreg ?_
      refine rs (mp rfl) rfl ?_
      refine rs (nl rfl) rfl ?_
      refine rs (by first | exact fa0 3 rfl Try.underlying38 rfl Try.sizeOf36 rfl rfl | exact fa 3 rfl Try.underlying38 rfl Try.sizeOf36 rfl rfl) rfl ?_
      refine rs (ld rfl Try.isAgg36 (by first | exact hB.cell rfl | exact hBr.cell rfl | exact (hBr.other n01 _).cell rfl | exact ((hBr.other n01 _).other n02 _).cell rfl | exact g1.cell hg1 | exact (g2.other (fun e => n12 e.symm) _).cell hg2 | exact ((g3.other (fun e => n13 e.symm) _).other (fun e => n23 e.symm) _).cell hg3 | assumption)) rfl ?_
      refine rs (mi rfl) rfl ?_
      refine rs (by first | exact ix01 rfl rfl Try.underlying36 Try.sizeOf3 (by omega) | exact ixo1 rfl rfl Try.underlying36 Try.sizeOf3 (by omega)) rfl ?_
      refine ru (sti rfl rfl Try.sizeOf3 (by first | exact hB.cell rfl | exact hBr.cell rfl | exact (hBr.other n01 _).cell rfl | exact ((hBr.other n01 _).other n02 _).cell rfl | exact g1.cell hg1 | exact (g2.other (fun e => n12 e.symm) _).cell hg2 | exact ((g3.other (fun e => n13 e.symm) _).other (fun e => n23 e.symm) _).cell hg3 | assumption) (by first | exact hB.free _ | exact g1.free _ | exact (g2.other (fun e => n12 e.symm) _).free _ | exact ((g3.other (fun e => n13 e.symm) _).other (fun e => n23 e.symm) _).free _ | assumption)) rfl ?_
      refine rn ?_
      refine qn ?_
      refine Wreg ?_
      refine rs (mp rfl) rfl ?_
      refine rs (nl rfl) rfl ?_
      refine rs (by first | exact fa0 4 rfl Try.underlying38 rfl Try.sizeOf36 rfl rfl | exact fa 4 rfl Try.underlying38 rfl Try.sizeOf36 rfl rfl) rfl ?_
      refine rs (ld rfl Try.isAgg36 (by first | exact hB.cell rfl | exact hBr.cell rfl | exact (hBr.other n01 _).cell rfl | exact ((hBr.other n01 _).other n02 _).cell rfl | exact g1.cell hg1 | exact (g2.other (fun e => n12 e.symm) _).cell hg2 | exact ((g3.other (fun e => n13 e.symm) _).other (fun e => n23 e.symm) _).cell hg3 | assumption)) rfl ?_
      refine rs (mi rfl) rfl ?_
      refine rs (by first | exact ix01 rfl rfl Try.underlying36 Try.sizeOf3 (by omega) | exact ixo1 rfl rfl Try.underlying36 Try.sizeOf3 (by omega)) rfl ?_
      refine ru (sti rfl rfl Try.sizeOf3 (by first | exact hB.cell rfl | exact hBr.cell rfl | exact (hBr.other n01 _).cell rfl | exact ((hBr.other n01 _).other n02 _).cell rfl | exact g1.cell hg1 | exact (g2.other (fun e => n12 e.symm) _).cell hg2 | exact ((g3.other (fun e => n13 e.symm) _).other (fun e => n23 e.symm) _).cell hg3 | assumption) (by first | exact hB.free _ | exact g1.free _ | exact (g2.other (fun e => n12 e.symm) _).free _ | exact ((g3.other (fun e => n13 e.symm) _).other (fun e => n23 e.symm) _).free _ | assumption)) rfl ?_
      refine rgen (fun w2 => RefAt w2 b b1 b2 b3 pat (St.bump ⟨ep, l⟩).ep (zs (k + 1) l) ∧ Only [b, b1, b2, b3] w w2) ⟨⟨by rw [zs_len (k + 1) l hkl]; exact ((hBr.other n01 _).other n02 _).other n03 _, ?_, ?_, ?_, ⟨n01, n02, n03, n12, n13, n23⟩, by rw [zs_len (k + 1) l hkl]; exact hn⟩, ((ho.setCell (.inl (by simp)) _).setCell (.inl (by simp)) _).setCell (.inl (by simp)) _⟩ ?_
      · rw [← zs_set k l hkl, ← map_upd _ _ _ _ (.bool false) rfl]; exact ((g1.set k _).other n12 _).other n13 _
      · rw [← zs_set k l hkl, ← map_upd _ _ _ _ (.int .i64 0) rfl]; exact ((g2.other (fun e => n12 e.symm) _).set k _).other n23 _
      · rw [← zs_set k l hkl, ← map_upd _ _ _ _ (.int .i64 0) rfl]; exact ((g3.other (fun e => n13 e.symm) _).other (fun e => n23 e.symm) _).set k _
      rintro w3 ⟨hq3, ho3⟩
      refine rn ?_
      refine bn ?_
      refine qn ?_
      refine Wreg ?_
      refine rs (mi rfl) rfl ?_
      refine rs (ad rfl rfl (rfl : (k : Int) + 1 = ((k + 1 : Nat) : Int)) (by omega)) rfl ?_
      refine rs (ai rfl) rfl ?_
      refine rn ?_
      refine qn ?_
      exact ⟨l.length - (k + 1), by omega, ⟨k + 1, by omega, rfl, rfl, hq3, ho3⟩, (kl rfl k0)⟩
    · refine rn ?_
      refine qn ?_
      refine Wcf rfl ?_
      refine Wexit ?_
      refine qx ?_
      refine qx ?_
      refine be ?_
      refine f0n Try.results14 ?_
      obtain rfl : k = l.length := by omega
      rw [zs_all] at hw
      exact ⟨_, rfl, hw, ho⟩

/-- Two lists of the call's own do not share their block. -/
def Apart2 (v1 v2 : Value) : Prop := v1.ownBlock = none ∨ v2.ownBlock = none ∨ v1.ownBlock ≠ v2.ownBlock
theorem Apart2.app {w w' : World} {base : Nat} {v1 v2 v' : Value} {xs : List Int} (h : Apart2 v1 v2) (h2 : Ints w base v2 xs) (ho : v'.ownBlock = v1.ownBlock ∨ v'.ownBlock = some w.heap.size) : Apart2 v' v2 := by
  rcases ho with ho | ho
  · unfold Apart2; rw [ho]; exact h
  · unfold Apart2
    cases hb : v2.ownBlock with
    | none => exact .inr (.inl rfl)
    | some g =>
      refine .inr (.inr ?_)
      rw [ho]
      intro e
      have := h2.lt g hb
      injection e with e
      omega
theorem Apart2.symm {v1 v2 : Value} (h : Apart2 v1 v2) : Apart2 v2 v1 := by
  rcases h with h | h | h
  · exact .inr (.inl h)
  · exact .inl h
  · exact .inr (.inr (fun e => h e.symm))
theorem Ints.grown {w w' : World} {base : Nat} {v1 v2 : Value} {xs : List Int} (h2 : Ints w base v2 xs) (h : Apart2 v1 v2) (hg : w.grownBy w' v1.ownBlock) : Ints w' base v2 xs := by
  refine World.ownsRow.kept h2 hg ?_
  rcases h with h | h | h
  · by_cases e : v2.ownBlock = none
    · exact .inl e
    · exact .inr (by rw [h]; exact e)
  · exact .inl h
  · exact .inr (fun e => h e.symm)
theorem Ints.drew {w : World} {base : Nat} {v : Value} {xs : List Int} (h : Ints w base v xs) : Ints w.drew base v xs := h
theorem Ints.alloc {w : World} {base : Nat} {v : Value} {xs : List Int} (h : Ints w base v xs) (o : Obj) : Ints (w.alloc o) base v xs := World.ownsRow.alloc h o

set_option maxHeartbeats 1000000 in
theorem lists_any (b b1 b2 b3 : Nat) (pat ep : Int) (l : List One) (w : World) (h : RefAt w b b1 b2 b3 pat ep l) :
  Calls Try.prog 16 #[.pointer (some ⟨b, 0, none⟩)] w (Ret fun v w' => (∃ v1 v2, v = .tuple #[v1, v2] ∧ Ints w' w.heap.size v1 (idx missB l 0) ∧ Ints w' w.heap.size v2 (idx (lateB pat) l 0)) ∧ Only [] w w') := by
  obtain ⟨hB, h1, h2, h3, ⟨n01, n02, n03, n12, n13, n23⟩, hn⟩ := id h
  refine Center (args := [.pointer (some ⟨b, 0, none⟩)]) (l := [(0, .pointer (some ⟨b, 0, none⟩))]) Try.func16 Try.ntmps16 rfl rfl rfl ?_
  refine Wseq ?_
  refine Wreg ?_
  refine rs (asl rfl) rfl ?_
  refine rs (asl rfl) rfl ?_
  refine rn ?_
  refine qn ?_
  refine Wseq ?_
  refine Wreg ?_
  refine rs (asl rfl) rfl ?_
  refine rs (asl rfl) rfl ?_
  refine rn ?_
  refine qn ?_
  refine Wseq ?_
  refine Wseq ?_
  refine Wreg ?_
  refine rs (ai rfl) rfl ?_
  refine rn ?_
  refine qn ?_
  refine Wblk ?_
  refine Wloop [4, 5, 6, 7, 8, 9, 10, 11, 12, 13, 14, 15, 16, 17, 18, 19, 20, 21, 22, 23, 24, 25, 26, 27, 28, 29, 30, 31, 32, 33, 34, 35, 36, 37, 38, 39, 40, 41, 42, 43] [6, 4, 5] (fun m vs wr => ∃ (k : Nat) (v1 v2 : Value), k ≤ l.length ∧ m = l.length - k ∧ vs = [.int .i64 k, v1, v2] ∧ Ints wr w.heap.size v1 (idx missB (l.take k) 0) ∧ Ints wr w.heap.size v2 (idx (lateB pat) (l.take k) 0) ∧ Apart2 v1 v2 ∧ Only [] w wr) (l.length) ?_ ?_
  · exact ⟨0, _, _, by omega, by omega, rfl, World.ownsRow_nil _ _ _ _, World.ownsRow_nil _ _ _ _, .inl rfl, Only.refl _ _⟩
  · intro m vs u wr hJ
    obtain ⟨k, v1, v2, hk, rfl, rfl, hv1, hv2, hap, ho⟩ := hJ
    obtain ⟨hBr, g1, g2, g3, _, _⟩ := h.kept ho (by simp) (by simp) (by simp) (by simp)
    refine Wseq ?_
    refine Wseq ?_
    refine Wreg ?_
    refine rs (mi rfl) rfl ?_
    refine rs (mp rfl) rfl ?_
    refine rs (nl rfl) rfl ?_
    refine rs (by first | exact fa0 2 rfl Try.underlying38 rfl Try.sizeOf35 rfl rfl | exact fa 2 rfl Try.underlying38 rfl Try.sizeOf35 rfl rfl) rfl ?_
    refine rs (ld rfl Try.isAgg35 (by first | exact hBr.cell rfl | exact g1.cell hg1 | exact (hBr.drew).cell rfl | exact (g3.drew).cell hg3 | assumption)) rfl ?_
    refine rs (ln rfl Try.underlying35) rfl ?_
    refine rsc (lt' rfl rfl) rfl (fun c1 => ?_) (fun c1 => ?_)
    · have hkl : k < l.length := by omega
      have hg1 := map_get (fun o : One => Value.bool o.ready) l k hkl
      have hg3 := map_get (fun o : One => Value.int .i64 o.since) l k hkl
      have hs1 := idx_snoc missB l k hkl
      have hs2 := idx_snoc (lateB pat) l k hkl
      have hle1 := idx_len missB (l.take k) 0
      have hle2 := idx_len (lateB pat) (l.take k) 0
      rw [List.length_take] at hle1 hle2
      refine rn ?_
      refine qn ?_
      refine Wct rfl ?_
      refine Wskip ?_
      refine qn ?_
      refine Wseq ?_
      refine Wblk ?_
      refine Wseq ?_
      refine Wreg ?_
      refine rs (mp rfl) rfl ?_
      refine rs (nl rfl) rfl ?_
      refine rs (by first | exact fa0 2 rfl Try.underlying38 rfl Try.sizeOf35 rfl rfl | exact fa 2 rfl Try.underlying38 rfl Try.sizeOf35 rfl rfl) rfl ?_
      refine rs (ld rfl Try.isAgg35 (by first | exact hBr.cell rfl | exact g1.cell hg1 | exact (hBr.drew).cell rfl | exact (g3.drew).cell hg3 | assumption)) rfl ?_
      refine rs (mi rfl) rfl ?_
      refine rs (by first | exact ix01 rfl rfl Try.underlying35 Try.sizeOf4 (by omega) | exact ixo1 rfl rfl Try.underlying35 Try.sizeOf4 (by omega)) rfl ?_
      refine rs (ld rfl Try.isAgg4 (by first | exact hBr.cell rfl | exact g1.cell hg1 | exact (hBr.drew).cell rfl | exact (g3.drew).cell hg3 | assumption)) rfl ?_
      cases hr : l[k].ready
      · refine rs (ntf rfl) rfl ?_
        refine rn ?_
        refine qn ?_
        refine Wct rfl ?_
        refine Wreg ?_
        refine rs (mv rfl) rfl ?_
        refine rs (mi rfl) rfl ?_
        refine rs (bs1 rfl rfl Try.underlying36 Try.sizeOf3 Try.zeroValue3) rfl ?_
        refine rap1 w.heap.size Try.underlying36 (i := Try.t3) (bytes := 8) rfl rfl rfl rfl rfl rfl (hv1.alloc _) rfl (Blk.new _ _ _) rfl (by omega) (by omega) (by have := ho.size; simp; omega) rfl ?_
        intro v' w4 hv4 hg4 hb4
        have ho5 : Only [] w w4 := (ho.alloc _).grown hg4 (fun g hg => .inr (hv1.lt g hg).1)
        have hx1 : Ints w4 w.heap.size v' (idx missB (l.take (k + 1)) 0) := by
          unfold Ints
          rw [hs1, if_pos (by simp [missB, hr]), List.map_append, List.length_append]
          exact hv4
        have hx2 : Ints w4 w.heap.size v2 (idx (lateB pat) (l.take (k + 1)) 0) := by
          rw [hs2, if_neg (by simp [lateB, hr]), List.append_nil]
          exact (hv2.alloc _).grown hap hg4
        have hap4 := hap.app (w' := w4) (hv2.alloc _) hb4
        refine rs (av rfl) rfl ?_
        refine rn ?_
        refine bn ?_
        refine qn ?_
        refine Wreg ?_
        refine rs (mi rfl) rfl ?_
        refine rs (ad rfl rfl (rfl : (k : Int) + 1 = ((k + 1 : Nat) : Int)) (by omega)) rfl ?_
        refine rs (ai rfl) rfl ?_
        refine rn ?_
        refine qn ?_
        first
        | exact ⟨l.length - (k + 1), by omega, ⟨k + 1, _, _, by omega, rfl, rfl, hx1, hx2, hap4, ho5⟩, (kl rfl k0)⟩
        | (refine ⟨l.length - (k + 1), by omega, ⟨k + 1, _, _, by omega, rfl, rfl, ?_, ?_, hap, ho.drew⟩, (kl rfl k0)⟩
           · rw [hs1, if_neg (by simp [missB, hr]), List.append_nil]; exact Ints.drew hv1
           · rw [hs2, if_neg (by simp only [lateB, hr, Bool.true_and]; rw [decide_eq_false (by omega)]; simp), List.append_nil]; exact Ints.drew hv2)
      · refine rs (ntt rfl) rfl ?_
        refine rn ?_
        refine qn ?_
        refine Wcf rfl ?_
        refine Wseq ?_
        refine Wdrw (fun w' => w' = World.drew _) [0, 1, 3, 7, 0, 31, 63, 0, 128, 384, 896, 2047] 0 rfl (by kernel_rfl) (rfl) ?_
        refine ds (fun w' hF => mp rfl) rfl ?_
        refine ds (fun w' hF => nl rfl) rfl ?_
        refine ds (fun w' hF => by first | exact fa0 4 rfl Try.underlying38 rfl Try.sizeOf36 rfl rfl | exact fa 4 rfl Try.underlying38 rfl Try.sizeOf36 rfl rfl) rfl ?_
        refine ds (fun w' hF => ld rfl Try.isAgg36 (by subst hF; first | exact hBr.cell rfl | exact g1.cell hg1 | exact (hBr.drew).cell rfl | exact (g3.drew).cell hg3 | assumption)) rfl ?_
        refine ds (fun w' hF => mi rfl) rfl ?_
        refine ds (fun w' hF => by first | exact ix01 rfl rfl Try.underlying36 Try.sizeOf3 (by omega) | exact ixo1 rfl rfl Try.underlying36 Try.sizeOf3 (by omega)) rfl ?_
        refine ds (fun w' hF => ld rfl Try.isAgg3 (by subst hF; first | exact hBr.cell rfl | exact g1.cell hg1 | exact (hBr.drew).cell rfl | exact (g3.drew).cell hg3 | assumption)) rfl ?_
        refine ds (fun w' hF => mp rfl) rfl ?_
        refine ds (fun w' hF => nl rfl) rfl ?_
        refine ds (fun w' hF => by first | exact fa0 0 rfl Try.underlying38 rfl Try.sizeOf3 rfl rfl | exact fa 0 rfl Try.underlying38 rfl Try.sizeOf3 rfl rfl) rfl ?_
        refine ds (fun w' hF => ld rfl Try.isAgg3 (by subst hF; first | exact hBr.cell rfl | exact g1.cell hg1 | exact (hBr.drew).cell rfl | exact (g3.drew).cell hg3 | assumption)) rfl ?_
        refine dsc (fun w' hF => ge' rfl rfl) rfl (fun c3 => ?_) (fun c3 => ?_)
        · refine dn ?_
          refine qn ?_
          refine Wct rfl ?_
          refine Wreg ?_
          refine rs (mv rfl) rfl ?_
          refine rs (mi rfl) rfl ?_
          refine rs (bs1 rfl rfl Try.underlying36 Try.sizeOf3 Try.zeroValue3) rfl ?_
          refine rap1 w.heap.size Try.underlying36 (i := Try.t3) (bytes := 8) rfl rfl rfl rfl rfl rfl ((Ints.drew hv2).alloc _) rfl (Blk.new _ _ _) rfl (by omega) (by omega) (by have := ho.size; simp; omega) rfl ?_
          intro v' w4 hv4 hg4 hb4
          have ho5 : Only [] w w4 := (ho.drew.alloc _).grown hg4 (fun g hg => .inr (hv2.lt g hg).1)
          have hx2 : Ints w4 w.heap.size v' (idx (lateB pat) (l.take (k + 1)) 0) := by
            unfold Ints
            rw [hs2, if_pos (by simp only [lateB, hr, Bool.true_and]; exact decide_eq_true (by omega)), List.map_append, List.length_append]
            exact hv4
          have hx1 : Ints w4 w.heap.size v1 (idx missB (l.take (k + 1)) 0) := by
            rw [hs1, if_neg (by simp [missB, hr]), List.append_nil]
            exact ((Ints.drew hv1).alloc _).grown hap.symm hg4
          have hap4 := (hap.symm.app (w' := w4) ((Ints.drew hv1).alloc _) hb4).symm
          refine rs (av rfl) rfl ?_
          refine rn ?_
          refine bn ?_
          refine qn ?_
          refine Wreg ?_
          refine rs (mi rfl) rfl ?_
          refine rs (ad rfl rfl (rfl : (k : Int) + 1 = ((k + 1 : Nat) : Int)) (by omega)) rfl ?_
          refine rs (ai rfl) rfl ?_
          refine rn ?_
          refine qn ?_
          first
          | exact ⟨l.length - (k + 1), by omega, ⟨k + 1, _, _, by omega, rfl, rfl, hx1, hx2, hap4, ho5⟩, (kl rfl k0)⟩
          | (refine ⟨l.length - (k + 1), by omega, ⟨k + 1, _, _, by omega, rfl, rfl, ?_, ?_, hap, ho.drew⟩, (kl rfl k0)⟩
             · rw [hs1, if_neg (by simp [missB, hr]), List.append_nil]; exact Ints.drew hv1
             · rw [hs2, if_neg (by simp only [lateB, hr, Bool.true_and]; rw [decide_eq_false (by omega)]; simp), List.append_nil]; exact Ints.drew hv2)
        · refine dn ?_
          refine qn ?_
          refine Wcf rfl ?_
          refine Wskip ?_
          refine bn ?_
          refine qn ?_
          refine Wreg ?_
          refine rs (mi rfl) rfl ?_
          refine rs (ad rfl rfl (rfl : (k : Int) + 1 = ((k + 1 : Nat) : Int)) (by omega)) rfl ?_
          refine rs (ai rfl) rfl ?_
          refine rn ?_
          refine qn ?_
          first
          | exact ⟨l.length - (k + 1), by omega, ⟨k + 1, _, _, by omega, rfl, rfl, hx1, hx2, hap4, ho5⟩, (kl rfl k0)⟩
          | (refine ⟨l.length - (k + 1), by omega, ⟨k + 1, _, _, by omega, rfl, rfl, ?_, ?_, hap, ho.drew⟩, (kl rfl k0)⟩
             · rw [hs1, if_neg (by simp [missB, hr]), List.append_nil]; exact Ints.drew hv1
             · rw [hs2, if_neg (by simp only [lateB, hr, Bool.true_and]; rw [decide_eq_false (by omega)]; simp), List.append_nil]; exact Ints.drew hv2)
    · refine rn ?_
      refine qn ?_
      refine Wcf rfl ?_
      refine Wexit ?_
      refine qx ?_
      refine qx ?_
      refine be ?_
      refine qn ?_
      refine Wseq ?_
      refine Wreg ?_
      refine rs (mv rfl) rfl ?_
      refine rs (mv rfl) rfl ?_
      refine rs (av rfl) rfl ?_
      refine rs (av rfl) rfl ?_
      refine rn ?_
      refine qn ?_
      refine Wret ?_
      refine f2 Try.results16 Try.ntmps16 rfl rfl ?_
      obtain rfl : k = l.length := by omega
      rw [List.take_length] at hv1 hv2
      exact ⟨_, rfl, ⟨_, _, rfl, hv1, hv2⟩, ho⟩

set_option maxHeartbeats 1000000 in
theorem rhear_any (b b1 b2 b3 : Nat) (pat ep : Int) (l : List One) (rdy : Bool) (worker epoch life : Int) (w : World) (h : RefAt w b b1 b2 b3 pat ep l) :
  Calls Try.prog 12 #[.pointer (some ⟨b, 0, none⟩), .bool rdy, .int .i64 worker, .int .i64 epoch, .int .i64 life] w (Ret fun v w' => v = .bool (St.hear ⟨ep, l⟩ rdy worker epoch life).1 ∧ RefAt w' b b1 b2 b3 pat (St.hear ⟨ep, l⟩ rdy worker epoch life).2.ep (St.hear ⟨ep, l⟩ rdy worker epoch life).2.l ∧ Only [b, b1, b2, b3] w w') := by
  obtain ⟨hB, h1, h2, h3, ⟨n01, n02, n03, n12, n13, n23⟩, hn⟩ := id h
  cases rdy
  · refine Center (args := [.pointer (some ⟨b, 0, none⟩), .bool false, .int .i64 worker, .int .i64 epoch, .int .i64 life]) (l := [(0, .pointer (some ⟨b, 0, none⟩)), (1, .bool false), (2, .int .i64 worker), (3, .int .i64 epoch), (4, .int .i64 life)]) Try.func12 Try.ntmps12 rfl rfl rfl ?_
    refine Wseq ?_
    refine Wreg ?_
    refine rs (ab rfl) rfl ?_
    refine rn ?_
    refine qn ?_
    refine Wseq ?_
    refine Wseq ?_
    refine Wreg ?_
    refine rs (mi rfl) rfl ?_
    refine rsc (lt' rfl rfl) rfl (fun c1 => ?_) (fun c1 => ?_)
    · have hout : ¬ (0 ≤ worker ∧ worker < l.length) := by omega
      refine rs (mb rfl) rfl ?_
      refine r0 rfl ?_
      refine r0 rfl ?_
      refine r0 rfl ?_
      refine r0 rfl ?_
      refine r0 rfl ?_
      refine r0 rfl ?_
      refine r0 rfl ?_
      refine rs (pbt rfl rfl) rfl ?_
      refine rs (mb rfl) rfl ?_
      refine r0 rfl ?_
      refine r0 rfl ?_
      refine r0 rfl ?_
      refine r0 rfl ?_
      refine r0 rfl ?_
      refine r0 rfl ?_
      refine r0 rfl ?_
      refine r0 rfl ?_
      refine r0 rfl ?_
      refine rs (pbt rfl rfl) rfl ?_
      refine rs (mb rfl) rfl ?_
      refine r0 rfl ?_
      refine r0 rfl ?_
      refine r0 rfl ?_
      refine r0 rfl ?_
      refine r0 rfl ?_
      refine r0 rfl ?_
      refine r0 rfl ?_
      refine r0 rfl ?_
      refine r0 rfl ?_
      refine r0 rfl ?_
      refine r0 rfl ?_
      refine r0 rfl ?_
      refine rs (pbt rfl rfl) rfl ?_
      refine rn ?_
      refine qn ?_
      refine Wct rfl ?_
      refine Wseq ?_
      refine Wreg ?_
      refine rs (ab rfl) rfl ?_
      refine rn ?_
      refine qn ?_
      refine Wret ?_
      refine qr ?_
      refine f1b Try.results12 Try.ntmps12 rfl ?_
      first
      | (rw [hear_out ⟨ep, l⟩ _ worker epoch life hout]; exact ⟨_, rfl, rfl, h, Only.refl _ _⟩)
      | (rw [hear_in ⟨ep, l⟩ true k epoch life hk, if_pos rfl, if_neg (by assumption)]; exact ⟨_, rfl, rfl, h, Only.refl _ _⟩)
      | (rw [hear_in ⟨ep, l⟩ false k epoch life hk, if_neg (by simp), if_neg (by simp [hr])]; exact ⟨_, rfl, rfl, h, Only.refl _ _⟩)
    · refine rs (mb rfl) rfl ?_
      refine rs (mi rfl) rfl ?_
      refine rs (mp rfl) rfl ?_
      refine rs (nl rfl) rfl ?_
      refine rs (by first | exact fa0 2 rfl Try.underlying38 rfl Try.sizeOf35 rfl rfl | exact fa 2 rfl Try.underlying38 rfl Try.sizeOf35 rfl rfl) rfl ?_
      refine rs (ld rfl Try.isAgg35 (by first | exact hB.cell rfl | exact (hB.other n01 _).cell rfl | exact ((hB.other n01 _).other n02 _).cell rfl | exact h1.cell hg1 | exact h2.cell hg2 | exact h3.cell hg3 | exact (h2.other (fun e => n12 e.symm) _).cell hg2 | exact ((h3.other (fun e => n13 e.symm) _).other (fun e => n23 e.symm) _).cell hg3 | assumption)) rfl ?_
      refine rs (ln rfl Try.underlying35) rfl ?_
      refine rsc (ge' rfl rfl) rfl (fun c2 => ?_) (fun c2 => ?_)
      · have hout : ¬ (0 ≤ worker ∧ worker < l.length) := by omega
        refine rs (pbf rfl rfl) rfl ?_
        refine rs (mb rfl) rfl ?_
        refine r0 rfl ?_
        refine r0 rfl ?_
        refine r0 rfl ?_
        refine r0 rfl ?_
        refine r0 rfl ?_
        refine r0 rfl ?_
        refine r0 rfl ?_
        refine r0 rfl ?_
        refine r0 rfl ?_
        refine rs (pbt rfl rfl) rfl ?_
        refine rs (mb rfl) rfl ?_
        refine r0 rfl ?_
        refine r0 rfl ?_
        refine r0 rfl ?_
        refine r0 rfl ?_
        refine r0 rfl ?_
        refine r0 rfl ?_
        refine r0 rfl ?_
        refine r0 rfl ?_
        refine r0 rfl ?_
        refine r0 rfl ?_
        refine r0 rfl ?_
        refine r0 rfl ?_
        refine rs (pbt rfl rfl) rfl ?_
        refine rn ?_
        refine qn ?_
        refine Wct rfl ?_
        refine Wseq ?_
        refine Wreg ?_
        refine rs (ab rfl) rfl ?_
        refine rn ?_
        refine qn ?_
        refine Wret ?_
        refine qr ?_
        refine f1b Try.results12 Try.ntmps12 rfl ?_
        first
        | (rw [hear_out ⟨ep, l⟩ _ worker epoch life hout]; exact ⟨_, rfl, rfl, h, Only.refl _ _⟩)
        | (rw [hear_in ⟨ep, l⟩ true k epoch life hk, if_pos rfl, if_neg (by assumption)]; exact ⟨_, rfl, rfl, h, Only.refl _ _⟩)
        | (rw [hear_in ⟨ep, l⟩ false k epoch life hk, if_neg (by simp), if_neg (by simp [hr])]; exact ⟨_, rfl, rfl, h, Only.refl _ _⟩)
      · obtain ⟨k, rfl⟩ := Int.eq_ofNat_of_zero_le (by omega : 0 ≤ worker)
        have hk : k < l.length := by have := c2; simp only [ge_iff_le, Int.ofNat_eq_natCast] at this; omega
        have hg1 := map_get (fun o : One => Value.bool o.ready) l k hk
        have hg2 := map_get (fun o : One => Value.int .i64 o.life) l k hk
        have hg3 := map_get (fun o : One => Value.int .i64 o.since) l k hk
        refine rs (pbf rfl rfl) rfl ?_
        refine rs (mb rfl) rfl ?_
        refine rs (mb rfl) rfl ?_
        refine rs (mb rfl) rfl ?_
        refine r0 rfl ?_
        refine r0 rfl ?_
        refine r0 rfl ?_
        refine r0 rfl ?_
        refine r0 rfl ?_
        refine r0 rfl ?_
        refine rs (pbf rfl rfl) rfl ?_
        refine rs (pbf rfl rfl) rfl ?_
        refine rs (mb rfl) rfl ?_
        refine rs (mb rfl) rfl ?_
        refine rs (ntf rfl) rfl ?_
        refine rs (mb rfl) rfl ?_
        refine rs (mp rfl) rfl ?_
        refine rs (nl rfl) rfl ?_
        refine rs (by first | exact fa0 2 rfl Try.underlying38 rfl Try.sizeOf35 rfl rfl | exact fa 2 rfl Try.underlying38 rfl Try.sizeOf35 rfl rfl) rfl ?_
        refine rs (ld rfl Try.isAgg35 (by first | exact hB.cell rfl | exact (hB.other n01 _).cell rfl | exact ((hB.other n01 _).other n02 _).cell rfl | exact h1.cell hg1 | exact h2.cell hg2 | exact h3.cell hg3 | exact (h2.other (fun e => n12 e.symm) _).cell hg2 | exact ((h3.other (fun e => n13 e.symm) _).other (fun e => n23 e.symm) _).cell hg3 | assumption)) rfl ?_
        refine rs (mi rfl) rfl ?_
        refine rs (by first | exact ix01 rfl rfl Try.underlying35 Try.sizeOf4 (by omega) | exact ixo1 rfl rfl Try.underlying35 Try.sizeOf4 (by omega)) rfl ?_
        refine rs (ld rfl Try.isAgg4 (by first | exact hB.cell rfl | exact (hB.other n01 _).cell rfl | exact ((hB.other n01 _).other n02 _).cell rfl | exact h1.cell hg1 | exact h2.cell hg2 | exact h3.cell hg3 | exact (h2.other (fun e => n12 e.symm) _).cell hg2 | exact ((h3.other (fun e => n13 e.symm) _).other (fun e => n23 e.symm) _).cell hg3 | assumption)) rfl ?_
        cases hr : l[k].ready
        · refine rs (ntf rfl) rfl ?_
          refine rs (pbt rfl rfl) rfl ?_
          refine rs (pbf rfl rfl) rfl ?_
          refine rn ?_
          refine qn ?_
          refine Wct rfl ?_
          refine Wseq ?_
          refine Wreg ?_
          refine rs (ab rfl) rfl ?_
          refine rn ?_
          refine qn ?_
          refine Wret ?_
          refine qr ?_
          refine f1b Try.results12 Try.ntmps12 rfl ?_
          first
          | (rw [hear_out ⟨ep, l⟩ _ worker epoch life hout]; exact ⟨_, rfl, rfl, h, Only.refl _ _⟩)
          | (rw [hear_in ⟨ep, l⟩ true k epoch life hk, if_pos rfl, if_neg (by assumption)]; exact ⟨_, rfl, rfl, h, Only.refl _ _⟩)
          | (rw [hear_in ⟨ep, l⟩ false k epoch life hk, if_neg (by simp), if_neg (by simp [hr])]; exact ⟨_, rfl, rfl, h, Only.refl _ _⟩)
        · refine rs (ntt rfl) rfl ?_
          refine rs (pbt rfl rfl) rfl ?_
          refine rs (pbf rfl rfl) rfl ?_
          refine rn ?_
          refine qn ?_
          refine Wcf rfl ?_
          refine Wskip ?_
          refine qn ?_
          refine Wseq ?_
          refine Wseq ?_
          refine Wreg ?_
          refine rs (mp rfl) rfl ?_
          refine rs (nl rfl) rfl ?_
          refine rs (by first | exact fa0 2 rfl Try.underlying38 rfl Try.sizeOf35 rfl rfl | exact fa 2 rfl Try.underlying38 rfl Try.sizeOf35 rfl rfl) rfl ?_
          refine rs (ld rfl Try.isAgg35 (by first | exact hB.cell rfl | exact (hB.other n01 _).cell rfl | exact ((hB.other n01 _).other n02 _).cell rfl | exact h1.cell hg1 | exact h2.cell hg2 | exact h3.cell hg3 | exact (h2.other (fun e => n12 e.symm) _).cell hg2 | exact ((h3.other (fun e => n13 e.symm) _).other (fun e => n23 e.symm) _).cell hg3 | assumption)) rfl ?_
          refine rs (mi rfl) rfl ?_
          refine rs (by first | exact ix01 rfl rfl Try.underlying35 Try.sizeOf4 (by omega) | exact ixo1 rfl rfl Try.underlying35 Try.sizeOf4 (by omega)) rfl ?_
          refine rs (ld rfl Try.isAgg4 (by first | exact hB.cell rfl | exact (hB.other n01 _).cell rfl | exact ((hB.other n01 _).other n02 _).cell rfl | exact h1.cell hg1 | exact h2.cell hg2 | exact h3.cell hg3 | exact (h2.other (fun e => n12 e.symm) _).cell hg2 | exact ((h3.other (fun e => n13 e.symm) _).other (fun e => n23 e.symm) _).cell hg3 | assumption)) rfl ?_
          cases hr2 : l[k].ready
          · refine rs (ntf rfl) rfl ?_
            refine rn ?_
            refine qn ?_
            refine Wct rfl ?_
            refine Wseq ?_
            refine Wreg ?_
            refine rs (mp rfl) rfl ?_
            refine rs (nl rfl) rfl ?_
            refine rs (by first | exact fa0 2 rfl Try.underlying38 rfl Try.sizeOf35 rfl rfl | exact fa 2 rfl Try.underlying38 rfl Try.sizeOf35 rfl rfl) rfl ?_
            refine rs (ld rfl Try.isAgg35 (by first | exact hB.cell rfl | exact (hB.other n01 _).cell rfl | exact ((hB.other n01 _).other n02 _).cell rfl | exact h1.cell hg1 | exact h2.cell hg2 | exact h3.cell hg3 | exact (h2.other (fun e => n12 e.symm) _).cell hg2 | exact ((h3.other (fun e => n13 e.symm) _).other (fun e => n23 e.symm) _).cell hg3 | assumption)) rfl ?_
            refine rs (mi rfl) rfl ?_
            refine rs (by first | exact ix01 rfl rfl Try.underlying35 Try.sizeOf4 (by omega) | exact ixo1 rfl rfl Try.underlying35 Try.sizeOf4 (by omega)) rfl ?_
            refine ru (stb rfl rfl Try.sizeOf4 (by first | exact hB.cell rfl | exact (hB.other n01 _).cell rfl | exact ((hB.other n01 _).other n02 _).cell rfl | exact h1.cell hg1 | exact h2.cell hg2 | exact h3.cell hg3 | exact (h2.other (fun e => n12 e.symm) _).cell hg2 | exact ((h3.other (fun e => n13 e.symm) _).other (fun e => n23 e.symm) _).cell hg3 | assumption) (by first | exact h1.free _ | exact h3.free _ | exact (h2.other (fun e => n12 e.symm) _).free _ | exact ((h3.other (fun e => n13 e.symm) _).other (fun e => n23 e.symm) _).free _ | assumption)) rfl ?_
            refine rn ?_
            refine qn ?_
            refine Wseq ?_
            refine Wreg ?_
            refine rs (mp rfl) rfl ?_
            refine rs (nl rfl) rfl ?_
            refine rs (by first | exact fa0 3 rfl Try.underlying38 rfl Try.sizeOf36 rfl rfl | exact fa 3 rfl Try.underlying38 rfl Try.sizeOf36 rfl rfl) rfl ?_
            refine rs (ld rfl Try.isAgg36 (by first | exact hB.cell rfl | exact (hB.other n01 _).cell rfl | exact ((hB.other n01 _).other n02 _).cell rfl | exact h1.cell hg1 | exact h2.cell hg2 | exact h3.cell hg3 | exact (h2.other (fun e => n12 e.symm) _).cell hg2 | exact ((h3.other (fun e => n13 e.symm) _).other (fun e => n23 e.symm) _).cell hg3 | assumption)) rfl ?_
            refine rs (mi rfl) rfl ?_
            refine rs (mi rfl) rfl ?_
            refine rs (by first | exact ix01 rfl rfl Try.underlying36 Try.sizeOf3 (by omega) | exact ixo1 rfl rfl Try.underlying36 Try.sizeOf3 (by omega)) rfl ?_
            refine ru (sti rfl rfl Try.sizeOf3 (by first | exact hB.cell rfl | exact (hB.other n01 _).cell rfl | exact ((hB.other n01 _).other n02 _).cell rfl | exact h1.cell hg1 | exact h2.cell hg2 | exact h3.cell hg3 | exact (h2.other (fun e => n12 e.symm) _).cell hg2 | exact ((h3.other (fun e => n13 e.symm) _).other (fun e => n23 e.symm) _).cell hg3 | assumption) (by first | exact h1.free _ | exact h3.free _ | exact (h2.other (fun e => n12 e.symm) _).free _ | exact ((h3.other (fun e => n13 e.symm) _).other (fun e => n23 e.symm) _).free _ | assumption)) rfl ?_
            refine rn ?_
            refine qn ?_
            refine Wseq ?_
            refine Wreg ?_
            refine rs (mp rfl) rfl ?_
            refine rs (nl rfl) rfl ?_
            refine rs (by first | exact fa0 4 rfl Try.underlying38 rfl Try.sizeOf36 rfl rfl | exact fa 4 rfl Try.underlying38 rfl Try.sizeOf36 rfl rfl) rfl ?_
            refine rs (ld rfl Try.isAgg36 (by first | exact hB.cell rfl | exact (hB.other n01 _).cell rfl | exact ((hB.other n01 _).other n02 _).cell rfl | exact h1.cell hg1 | exact h2.cell hg2 | exact h3.cell hg3 | exact (h2.other (fun e => n12 e.symm) _).cell hg2 | exact ((h3.other (fun e => n13 e.symm) _).other (fun e => n23 e.symm) _).cell hg3 | assumption)) rfl ?_
            refine rs (mi rfl) rfl ?_
            refine rs (by first | exact ix01 rfl rfl Try.underlying36 Try.sizeOf3 (by omega) | exact ixo1 rfl rfl Try.underlying36 Try.sizeOf3 (by omega)) rfl ?_
            refine ru (sti rfl rfl Try.sizeOf3 (by first | exact hB.cell rfl | exact (hB.other n01 _).cell rfl | exact ((hB.other n01 _).other n02 _).cell rfl | exact h1.cell hg1 | exact h2.cell hg2 | exact h3.cell hg3 | exact (h2.other (fun e => n12 e.symm) _).cell hg2 | exact ((h3.other (fun e => n13 e.symm) _).other (fun e => n23 e.symm) _).cell hg3 | assumption) (by first | exact h1.free _ | exact h3.free _ | exact (h2.other (fun e => n12 e.symm) _).free _ | exact ((h3.other (fun e => n13 e.symm) _).other (fun e => n23 e.symm) _).free _ | assumption)) rfl ?_
            refine rgen (fun w2 => RefAt w2 b b1 b2 b3 pat ep (l.set k ⟨true, life, 0⟩) ∧ Only [b, b1, b2, b3] w w2) ⟨⟨by rw [List.length_set]; exact ((hB.other n01 _).other n02 _).other n03 _, ?_, ?_, ?_, ⟨n01, n02, n03, n12, n13, n23⟩, by rw [List.length_set]; exact hn⟩, (((Only.refl _ _).setCell (.inl (by simp)) _).setCell (.inl (by simp)) _).setCell (.inl (by simp)) _⟩ ?_
            · rw [← map_upd _ _ _ _ (.bool true) rfl]; exact ((h1.set k _).other n12 _).other n13 _
            · rw [← map_upd _ _ _ _ (.int .i64 life) rfl]; exact ((h2.other (fun e => n12 e.symm) _).set k _).other n23 _
            · rw [← map_upd _ _ _ _ (.int .i64 0) rfl]; exact ((h3.other (fun e => n13 e.symm) _).other (fun e => n23 e.symm) _).set k _
            rintro w2 ⟨hq2, ho2⟩
            refine rn ?_
            refine qn ?_
            refine Wseq ?_
            refine Wreg ?_
            refine rs (ab rfl) rfl ?_
            refine rn ?_
            refine qn ?_
            refine Wret ?_
            refine qr ?_
            refine f1b Try.results12 Try.ntmps12 rfl ?_
            first
            | (rw [hear_in ⟨ep, l⟩ true k epoch life hk, if_pos rfl, if_pos (by dsimp only; omega), if_neg (by simp [hr2])]; exact ⟨_, rfl, rfl, hq2, ho2⟩)
            | (exfalso; rw [hr] at hr2; cases hr2)
          · refine rs (ntt rfl) rfl ?_
            refine rn ?_
            refine qn ?_
            refine Wcf rfl ?_
            refine Wskip ?_
            refine qn ?_
            refine Wseq ?_
            refine Wseq ?_
            refine Wreg ?_
            refine rs (mi rfl) rfl ?_
            refine rs (mp rfl) rfl ?_
            refine rs (nl rfl) rfl ?_
            refine rs (by first | exact fa0 3 rfl Try.underlying38 rfl Try.sizeOf36 rfl rfl | exact fa 3 rfl Try.underlying38 rfl Try.sizeOf36 rfl rfl) rfl ?_
            refine rs (ld rfl Try.isAgg36 (by first | exact hB.cell rfl | exact (hB.other n01 _).cell rfl | exact ((hB.other n01 _).other n02 _).cell rfl | exact h1.cell hg1 | exact h2.cell hg2 | exact h3.cell hg3 | exact (h2.other (fun e => n12 e.symm) _).cell hg2 | exact ((h3.other (fun e => n13 e.symm) _).other (fun e => n23 e.symm) _).cell hg3 | assumption)) rfl ?_
            refine rs (mi rfl) rfl ?_
            refine rs (by first | exact ix01 rfl rfl Try.underlying36 Try.sizeOf3 (by omega) | exact ixo1 rfl rfl Try.underlying36 Try.sizeOf3 (by omega)) rfl ?_
            refine rs (ld rfl Try.isAgg3 (by first | exact hB.cell rfl | exact (hB.other n01 _).cell rfl | exact ((hB.other n01 _).other n02 _).cell rfl | exact h1.cell hg1 | exact h2.cell hg2 | exact h3.cell hg3 | exact (h2.other (fun e => n12 e.symm) _).cell hg2 | exact ((h3.other (fun e => n13 e.symm) _).other (fun e => n23 e.symm) _).cell hg3 | assumption)) rfl ?_
            refine rsc (gt' rfl rfl) rfl (fun c5 => ?_) (fun c5 => ?_)
            · refine rn ?_
              refine qn ?_
              refine Wct rfl ?_
              refine Wseq ?_
              refine Wreg ?_
              refine rs (mp rfl) rfl ?_
              refine rc (cl Try.call14 rfl rfl) rfl ?_
              refine cmono (rbump_any b b1 b2 b3 pat ep l _ h) ?_
              rintro _ w1 ⟨hq1, ho1⟩
              refine rn ?_
              refine qn ?_
              refine Wseq ?_
              refine Wreg ?_
              refine rs (ab rfl) rfl ?_
              refine rn ?_
              refine qn ?_
              refine Wret ?_
              refine qr ?_
              refine f1b Try.results12 Try.ntmps12 rfl ?_
              first
              | (rw [hear_in ⟨ep, l⟩ true k epoch life hk, if_pos rfl, if_pos (by dsimp only; omega), if_pos hr2]; rw [show St.heard ⟨ep, l⟩ k l[k] life _ = (true, St.bump ⟨ep, l⟩) from if_pos (by omega)]; exact ⟨_, rfl, rfl, hq1, ho1⟩)
              | (rw [hear_in ⟨ep, l⟩ false k epoch life hk, if_neg (by simp), if_pos hr2]; rw [show St.heard ⟨ep, l⟩ k l[k] life _ = (true, St.bump ⟨ep, l⟩) from if_pos (by omega)]; exact ⟨_, rfl, rfl, hq1, ho1⟩)
            · refine rn ?_
              refine qn ?_
              refine Wcf rfl ?_
              refine Wskip ?_
              refine qn ?_
              refine Wseq ?_
              refine Wseq ?_
              refine Wreg ?_
              refine rs (mi rfl) rfl ?_
              refine rs (mp rfl) rfl ?_
              refine rs (nl rfl) rfl ?_
              refine rs (by first | exact fa0 1 rfl Try.underlying38 rfl Try.sizeOf3 rfl rfl | exact fa 1 rfl Try.underlying38 rfl Try.sizeOf3 rfl rfl) rfl ?_
              refine rs (ld rfl Try.isAgg3 (by first | exact hB.cell rfl | exact (hB.other n01 _).cell rfl | exact ((hB.other n01 _).other n02 _).cell rfl | exact h1.cell hg1 | exact h2.cell hg2 | exact h3.cell hg3 | exact (h2.other (fun e => n12 e.symm) _).cell hg2 | exact ((h3.other (fun e => n13 e.symm) _).other (fun e => n23 e.symm) _).cell hg3 | assumption)) rfl ?_
              refine rsc (eqd rfl rfl) rfl (fun c6 => ?_) (fun c6 => ?_)
              · refine rs (mb rfl) rfl ?_
                refine rs (mi rfl) rfl ?_
                refine rs (mp rfl) rfl ?_
                refine rs (nl rfl) rfl ?_
                refine rs (by first | exact fa0 3 rfl Try.underlying38 rfl Try.sizeOf36 rfl rfl | exact fa 3 rfl Try.underlying38 rfl Try.sizeOf36 rfl rfl) rfl ?_
                refine rs (ld rfl Try.isAgg36 (by first | exact hB.cell rfl | exact (hB.other n01 _).cell rfl | exact ((hB.other n01 _).other n02 _).cell rfl | exact h1.cell hg1 | exact h2.cell hg2 | exact h3.cell hg3 | exact (h2.other (fun e => n12 e.symm) _).cell hg2 | exact ((h3.other (fun e => n13 e.symm) _).other (fun e => n23 e.symm) _).cell hg3 | assumption)) rfl ?_
                refine rs (mi rfl) rfl ?_
                refine rs (by first | exact ix01 rfl rfl Try.underlying36 Try.sizeOf3 (by omega) | exact ixo1 rfl rfl Try.underlying36 Try.sizeOf3 (by omega)) rfl ?_
                refine rs (ld rfl Try.isAgg3 (by first | exact hB.cell rfl | exact (hB.other n01 _).cell rfl | exact ((hB.other n01 _).other n02 _).cell rfl | exact h1.cell hg1 | exact h2.cell hg2 | exact h3.cell hg3 | exact (h2.other (fun e => n12 e.symm) _).cell hg2 | exact ((h3.other (fun e => n13 e.symm) _).other (fun e => n23 e.symm) _).cell hg3 | assumption)) rfl ?_
                refine rsc (eqd rfl rfl) rfl (fun c7 => ?_) (fun c7 => ?_)
                · refine rs (pbt rfl rfl) rfl ?_
                  refine rn ?_
                  refine qn ?_
                  refine Wct rfl ?_
                  refine Wreg ?_
                  refine rs (mp rfl) rfl ?_
                  refine rs (nl rfl) rfl ?_
                  refine rs (by first | exact fa0 4 rfl Try.underlying38 rfl Try.sizeOf36 rfl rfl | exact fa 4 rfl Try.underlying38 rfl Try.sizeOf36 rfl rfl) rfl ?_
                  refine rs (ld rfl Try.isAgg36 (by first | exact hB.cell rfl | exact (hB.other n01 _).cell rfl | exact ((hB.other n01 _).other n02 _).cell rfl | exact h1.cell hg1 | exact h2.cell hg2 | exact h3.cell hg3 | exact (h2.other (fun e => n12 e.symm) _).cell hg2 | exact ((h3.other (fun e => n13 e.symm) _).other (fun e => n23 e.symm) _).cell hg3 | assumption)) rfl ?_
                  refine rs (mi rfl) rfl ?_
                  refine rs (by first | exact ix01 rfl rfl Try.underlying36 Try.sizeOf3 (by omega) | exact ixo1 rfl rfl Try.underlying36 Try.sizeOf3 (by omega)) rfl ?_
                  refine ru (sti rfl rfl Try.sizeOf3 (by first | exact hB.cell rfl | exact (hB.other n01 _).cell rfl | exact ((hB.other n01 _).other n02 _).cell rfl | exact h1.cell hg1 | exact h2.cell hg2 | exact h3.cell hg3 | exact (h2.other (fun e => n12 e.symm) _).cell hg2 | exact ((h3.other (fun e => n13 e.symm) _).other (fun e => n23 e.symm) _).cell hg3 | assumption) (by first | exact h1.free _ | exact h3.free _ | exact (h2.other (fun e => n12 e.symm) _).free _ | exact ((h3.other (fun e => n13 e.symm) _).other (fun e => n23 e.symm) _).free _ | assumption)) rfl ?_
                  refine rgen (fun w2 => RefAt w2 b b1 b2 b3 pat ep (l.set k { l[k] with since := 0 }) ∧ Only [b, b1, b2, b3] w w2) ⟨⟨by rw [List.length_set]; exact hB.other n03 _, ?_, ?_, ?_, ⟨n01, n02, n03, n12, n13, n23⟩, by rw [List.length_set]; exact hn⟩, (Only.refl _ _).setCell (.inl (by simp)) _⟩ ?_
                  · rw [map_same _ l k { l[k] with since := 0 } hk rfl]; exact h1.other n13 _
                  · rw [map_same _ l k { l[k] with since := 0 } hk rfl]; exact h2.other n23 _
                  · rw [← map_upd _ _ _ _ (.int .i64 0) rfl]; exact h3.set k _
                  rintro w2 ⟨hq2, ho2⟩
                  refine rn ?_
                  refine qn ?_
                  refine Wseq ?_
                  refine Wreg ?_
                  refine rs (ab rfl) rfl ?_
                  refine rn ?_
                  refine qn ?_
                  refine Wret ?_
                  refine f1b Try.results12 Try.ntmps12 rfl ?_
                  first
                  | (rw [hear_in ⟨ep, l⟩ true k epoch life hk, if_pos rfl, if_pos (by dsimp only; omega), if_pos hr2, heard_set ⟨ep, l⟩ k l[k] life true (by omega) rfl (by omega)]; exact ⟨_, rfl, rfl, hq2, ho2⟩)
                  | (rw [hear_in ⟨ep, l⟩ true k epoch life hk, if_pos rfl, if_pos (by dsimp only; omega), if_pos hr2, heard_not ⟨ep, l⟩ k l[k] life true (by omega) (by simp only [true_and]; omega)]; exact ⟨_, rfl, rfl, h, Only.refl _ _⟩)
                  | (rw [hear_in ⟨ep, l⟩ false k epoch life hk, if_neg (by simp), if_pos hr2, heard_set ⟨ep, l⟩ k l[k] life _ (by omega) (decide_eq_true (by assumption)) (by omega)]; exact ⟨_, rfl, rfl, hq2, ho2⟩)
                  | (rw [hear_in ⟨ep, l⟩ false k epoch life hk, if_neg (by simp), if_pos hr2, heard_not ⟨ep, l⟩ k l[k] life _ (by omega) (by simp only [decide_eq_true_eq]; omega)]; exact ⟨_, rfl, rfl, h, Only.refl _ _⟩)
                · refine rs (pbt rfl rfl) rfl ?_
                  refine rn ?_
                  refine qn ?_
                  refine Wcf rfl ?_
                  refine Wskip ?_
                  refine qn ?_
                  refine Wseq ?_
                  refine Wreg ?_
                  refine rs (ab rfl) rfl ?_
                  refine rn ?_
                  refine qn ?_
                  refine Wret ?_
                  refine f1b Try.results12 Try.ntmps12 rfl ?_
                  first
                  | (rw [hear_in ⟨ep, l⟩ true k epoch life hk, if_pos rfl, if_pos (by dsimp only; omega), if_pos hr2, heard_set ⟨ep, l⟩ k l[k] life true (by omega) rfl (by omega)]; exact ⟨_, rfl, rfl, hq2, ho2⟩)
                  | (rw [hear_in ⟨ep, l⟩ true k epoch life hk, if_pos rfl, if_pos (by dsimp only; omega), if_pos hr2, heard_not ⟨ep, l⟩ k l[k] life true (by omega) (by simp only [true_and]; omega)]; exact ⟨_, rfl, rfl, h, Only.refl _ _⟩)
                  | (rw [hear_in ⟨ep, l⟩ false k epoch life hk, if_neg (by simp), if_pos hr2, heard_set ⟨ep, l⟩ k l[k] life _ (by omega) (decide_eq_true (by assumption)) (by omega)]; exact ⟨_, rfl, rfl, hq2, ho2⟩)
                  | (rw [hear_in ⟨ep, l⟩ false k epoch life hk, if_neg (by simp), if_pos hr2, heard_not ⟨ep, l⟩ k l[k] life _ (by omega) (by simp only [decide_eq_true_eq]; omega)]; exact ⟨_, rfl, rfl, h, Only.refl _ _⟩)
              · refine rs (mb rfl) rfl ?_
                refine r0 rfl ?_
                refine r0 rfl ?_
                refine r0 rfl ?_
                refine r0 rfl ?_
                refine r0 rfl ?_
                refine r0 rfl ?_
                refine r0 rfl ?_
                refine r0 rfl ?_
                refine r0 rfl ?_
                refine rs (pbf rfl rfl) rfl ?_
                refine rn ?_
                refine qn ?_
                refine Wcf rfl ?_
                refine Wskip ?_
                refine qn ?_
                refine Wseq ?_
                refine Wreg ?_
                refine rs (ab rfl) rfl ?_
                refine rn ?_
                refine qn ?_
                refine Wret ?_
                refine f1b Try.results12 Try.ntmps12 rfl ?_
                first
                | (rw [hear_in ⟨ep, l⟩ true k epoch life hk, if_pos rfl, if_pos (by dsimp only; omega), if_pos hr2, heard_set ⟨ep, l⟩ k l[k] life true (by omega) rfl (by omega)]; exact ⟨_, rfl, rfl, hq2, ho2⟩)
                | (rw [hear_in ⟨ep, l⟩ true k epoch life hk, if_pos rfl, if_pos (by dsimp only; omega), if_pos hr2, heard_not ⟨ep, l⟩ k l[k] life true (by omega) (by simp only [true_and]; omega)]; exact ⟨_, rfl, rfl, h, Only.refl _ _⟩)
                | (rw [hear_in ⟨ep, l⟩ false k epoch life hk, if_neg (by simp), if_pos hr2, heard_set ⟨ep, l⟩ k l[k] life _ (by omega) (decide_eq_true (by assumption)) (by omega)]; exact ⟨_, rfl, rfl, hq2, ho2⟩)
                | (rw [hear_in ⟨ep, l⟩ false k epoch life hk, if_neg (by simp), if_pos hr2, heard_not ⟨ep, l⟩ k l[k] life _ (by omega) (by simp only [decide_eq_true_eq]; omega)]; exact ⟨_, rfl, rfl, h, Only.refl _ _⟩)
  · refine Center (args := [.pointer (some ⟨b, 0, none⟩), .bool true, .int .i64 worker, .int .i64 epoch, .int .i64 life]) (l := [(0, .pointer (some ⟨b, 0, none⟩)), (1, .bool true), (2, .int .i64 worker), (3, .int .i64 epoch), (4, .int .i64 life)]) Try.func12 Try.ntmps12 rfl rfl rfl ?_
    refine Wseq ?_
    refine Wreg ?_
    refine rs (ab rfl) rfl ?_
    refine rn ?_
    refine qn ?_
    refine Wseq ?_
    refine Wseq ?_
    refine Wreg ?_
    refine rs (mi rfl) rfl ?_
    refine rsc (lt' rfl rfl) rfl (fun c8 => ?_) (fun c8 => ?_)
    · have hout : ¬ (0 ≤ worker ∧ worker < l.length) := by omega
      refine rs (mb rfl) rfl ?_
      refine r0 rfl ?_
      refine r0 rfl ?_
      refine r0 rfl ?_
      refine r0 rfl ?_
      refine r0 rfl ?_
      refine r0 rfl ?_
      refine r0 rfl ?_
      refine rs (pbt rfl rfl) rfl ?_
      refine rs (mb rfl) rfl ?_
      refine r0 rfl ?_
      refine r0 rfl ?_
      refine r0 rfl ?_
      refine r0 rfl ?_
      refine r0 rfl ?_
      refine r0 rfl ?_
      refine r0 rfl ?_
      refine r0 rfl ?_
      refine r0 rfl ?_
      refine rs (pbt rfl rfl) rfl ?_
      refine rs (mb rfl) rfl ?_
      refine r0 rfl ?_
      refine r0 rfl ?_
      refine r0 rfl ?_
      refine r0 rfl ?_
      refine r0 rfl ?_
      refine r0 rfl ?_
      refine r0 rfl ?_
      refine r0 rfl ?_
      refine r0 rfl ?_
      refine r0 rfl ?_
      refine r0 rfl ?_
      refine r0 rfl ?_
      refine rs (pbt rfl rfl) rfl ?_
      refine rn ?_
      refine qn ?_
      refine Wct rfl ?_
      refine Wseq ?_
      refine Wreg ?_
      refine rs (ab rfl) rfl ?_
      refine rn ?_
      refine qn ?_
      refine Wret ?_
      refine qr ?_
      refine f1b Try.results12 Try.ntmps12 rfl ?_
      first
      | (rw [hear_out ⟨ep, l⟩ _ worker epoch life hout]; exact ⟨_, rfl, rfl, h, Only.refl _ _⟩)
      | (rw [hear_in ⟨ep, l⟩ true k epoch life hk, if_pos rfl, if_neg (by assumption)]; exact ⟨_, rfl, rfl, h, Only.refl _ _⟩)
      | (rw [hear_in ⟨ep, l⟩ false k epoch life hk, if_neg (by simp), if_neg (by simp [hr])]; exact ⟨_, rfl, rfl, h, Only.refl _ _⟩)
    · refine rs (mb rfl) rfl ?_
      refine rs (mi rfl) rfl ?_
      refine rs (mp rfl) rfl ?_
      refine rs (nl rfl) rfl ?_
      refine rs (by first | exact fa0 2 rfl Try.underlying38 rfl Try.sizeOf35 rfl rfl | exact fa 2 rfl Try.underlying38 rfl Try.sizeOf35 rfl rfl) rfl ?_
      refine rs (ld rfl Try.isAgg35 (by first | exact hB.cell rfl | exact (hB.other n01 _).cell rfl | exact ((hB.other n01 _).other n02 _).cell rfl | exact h1.cell hg1 | exact h2.cell hg2 | exact h3.cell hg3 | exact (h2.other (fun e => n12 e.symm) _).cell hg2 | exact ((h3.other (fun e => n13 e.symm) _).other (fun e => n23 e.symm) _).cell hg3 | assumption)) rfl ?_
      refine rs (ln rfl Try.underlying35) rfl ?_
      refine rsc (ge' rfl rfl) rfl (fun c9 => ?_) (fun c9 => ?_)
      · have hout : ¬ (0 ≤ worker ∧ worker < l.length) := by omega
        refine rs (pbf rfl rfl) rfl ?_
        refine rs (mb rfl) rfl ?_
        refine r0 rfl ?_
        refine r0 rfl ?_
        refine r0 rfl ?_
        refine r0 rfl ?_
        refine r0 rfl ?_
        refine r0 rfl ?_
        refine r0 rfl ?_
        refine r0 rfl ?_
        refine r0 rfl ?_
        refine rs (pbt rfl rfl) rfl ?_
        refine rs (mb rfl) rfl ?_
        refine r0 rfl ?_
        refine r0 rfl ?_
        refine r0 rfl ?_
        refine r0 rfl ?_
        refine r0 rfl ?_
        refine r0 rfl ?_
        refine r0 rfl ?_
        refine r0 rfl ?_
        refine r0 rfl ?_
        refine r0 rfl ?_
        refine r0 rfl ?_
        refine r0 rfl ?_
        refine rs (pbt rfl rfl) rfl ?_
        refine rn ?_
        refine qn ?_
        refine Wct rfl ?_
        refine Wseq ?_
        refine Wreg ?_
        refine rs (ab rfl) rfl ?_
        refine rn ?_
        refine qn ?_
        refine Wret ?_
        refine qr ?_
        refine f1b Try.results12 Try.ntmps12 rfl ?_
        first
        | (rw [hear_out ⟨ep, l⟩ _ worker epoch life hout]; exact ⟨_, rfl, rfl, h, Only.refl _ _⟩)
        | (rw [hear_in ⟨ep, l⟩ true k epoch life hk, if_pos rfl, if_neg (by assumption)]; exact ⟨_, rfl, rfl, h, Only.refl _ _⟩)
        | (rw [hear_in ⟨ep, l⟩ false k epoch life hk, if_neg (by simp), if_neg (by simp [hr])]; exact ⟨_, rfl, rfl, h, Only.refl _ _⟩)
      · obtain ⟨k, rfl⟩ := Int.eq_ofNat_of_zero_le (by omega : 0 ≤ worker)
        have hk : k < l.length := by have := c9; simp only [ge_iff_le, Int.ofNat_eq_natCast] at this; omega
        have hg1 := map_get (fun o : One => Value.bool o.ready) l k hk
        have hg2 := map_get (fun o : One => Value.int .i64 o.life) l k hk
        have hg3 := map_get (fun o : One => Value.int .i64 o.since) l k hk
        refine rs (pbf rfl rfl) rfl ?_
        refine rs (mb rfl) rfl ?_
        refine rs (mb rfl) rfl ?_
        refine rs (mb rfl) rfl ?_
        refine rs (mi rfl) rfl ?_
        refine rs (mp rfl) rfl ?_
        refine rs (nl rfl) rfl ?_
        refine rs (by first | exact fa0 1 rfl Try.underlying38 rfl Try.sizeOf3 rfl rfl | exact fa 1 rfl Try.underlying38 rfl Try.sizeOf3 rfl rfl) rfl ?_
        refine rs (ld rfl Try.isAgg3 (by first | exact hB.cell rfl | exact (hB.other n01 _).cell rfl | exact ((hB.other n01 _).other n02 _).cell rfl | exact h1.cell hg1 | exact h2.cell hg2 | exact h3.cell hg3 | exact (h2.other (fun e => n12 e.symm) _).cell hg2 | exact ((h3.other (fun e => n13 e.symm) _).other (fun e => n23 e.symm) _).cell hg3 | assumption)) rfl ?_
        refine rsc (ned rfl rfl) rfl (fun c10 => ?_) (fun c10 => ?_)
        · refine rs (pbt rfl rfl) rfl ?_
          refine rs (pbf rfl rfl) rfl ?_
          refine rs (mb rfl) rfl ?_
          refine r0 rfl ?_
          refine r0 rfl ?_
          refine r0 rfl ?_
          refine r0 rfl ?_
          refine r0 rfl ?_
          refine r0 rfl ?_
          refine r0 rfl ?_
          refine r0 rfl ?_
          refine r0 rfl ?_
          refine r0 rfl ?_
          refine r0 rfl ?_
          refine r0 rfl ?_
          refine rs (pbt rfl rfl) rfl ?_
          refine rn ?_
          refine qn ?_
          refine Wct rfl ?_
          refine Wseq ?_
          refine Wreg ?_
          refine rs (ab rfl) rfl ?_
          refine rn ?_
          refine qn ?_
          refine Wret ?_
          refine qr ?_
          refine f1b Try.results12 Try.ntmps12 rfl ?_
          first
          | (rw [hear_out ⟨ep, l⟩ _ worker epoch life hout]; exact ⟨_, rfl, rfl, h, Only.refl _ _⟩)
          | (rw [hear_in ⟨ep, l⟩ true k epoch life hk, if_pos rfl, if_neg (by assumption)]; exact ⟨_, rfl, rfl, h, Only.refl _ _⟩)
          | (rw [hear_in ⟨ep, l⟩ false k epoch life hk, if_neg (by simp), if_neg (by simp [hr])]; exact ⟨_, rfl, rfl, h, Only.refl _ _⟩)
        · refine rs (pbt rfl rfl) rfl ?_
          refine rs (pbf rfl rfl) rfl ?_
          refine rs (mb rfl) rfl ?_
          refine rs (mb rfl) rfl ?_
          refine rs (ntt rfl) rfl ?_
          refine rs (mb rfl) rfl ?_
          refine r0 rfl ?_
          refine r0 rfl ?_
          refine r0 rfl ?_
          refine r0 rfl ?_
          refine r0 rfl ?_
          refine r0 rfl ?_
          refine r0 rfl ?_
          refine r0 rfl ?_
          refine rs (pbf rfl rfl) rfl ?_
          refine rs (pbf rfl rfl) rfl ?_
          refine rn ?_
          refine qn ?_
          refine Wcf rfl ?_
          refine Wskip ?_
          refine qn ?_
          refine Wseq ?_
          refine Wseq ?_
          refine Wreg ?_
          refine rs (mp rfl) rfl ?_
          refine rs (nl rfl) rfl ?_
          refine rs (by first | exact fa0 2 rfl Try.underlying38 rfl Try.sizeOf35 rfl rfl | exact fa 2 rfl Try.underlying38 rfl Try.sizeOf35 rfl rfl) rfl ?_
          refine rs (ld rfl Try.isAgg35 (by first | exact hB.cell rfl | exact (hB.other n01 _).cell rfl | exact ((hB.other n01 _).other n02 _).cell rfl | exact h1.cell hg1 | exact h2.cell hg2 | exact h3.cell hg3 | exact (h2.other (fun e => n12 e.symm) _).cell hg2 | exact ((h3.other (fun e => n13 e.symm) _).other (fun e => n23 e.symm) _).cell hg3 | assumption)) rfl ?_
          refine rs (mi rfl) rfl ?_
          refine rs (by first | exact ix01 rfl rfl Try.underlying35 Try.sizeOf4 (by omega) | exact ixo1 rfl rfl Try.underlying35 Try.sizeOf4 (by omega)) rfl ?_
          refine rs (ld rfl Try.isAgg4 (by first | exact hB.cell rfl | exact (hB.other n01 _).cell rfl | exact ((hB.other n01 _).other n02 _).cell rfl | exact h1.cell hg1 | exact h2.cell hg2 | exact h3.cell hg3 | exact (h2.other (fun e => n12 e.symm) _).cell hg2 | exact ((h3.other (fun e => n13 e.symm) _).other (fun e => n23 e.symm) _).cell hg3 | assumption)) rfl ?_
          cases hr2 : l[k].ready
          · refine rs (ntf rfl) rfl ?_
            refine rn ?_
            refine qn ?_
            refine Wct rfl ?_
            refine Wseq ?_
            refine Wreg ?_
            refine rs (mp rfl) rfl ?_
            refine rs (nl rfl) rfl ?_
            refine rs (by first | exact fa0 2 rfl Try.underlying38 rfl Try.sizeOf35 rfl rfl | exact fa 2 rfl Try.underlying38 rfl Try.sizeOf35 rfl rfl) rfl ?_
            refine rs (ld rfl Try.isAgg35 (by first | exact hB.cell rfl | exact (hB.other n01 _).cell rfl | exact ((hB.other n01 _).other n02 _).cell rfl | exact h1.cell hg1 | exact h2.cell hg2 | exact h3.cell hg3 | exact (h2.other (fun e => n12 e.symm) _).cell hg2 | exact ((h3.other (fun e => n13 e.symm) _).other (fun e => n23 e.symm) _).cell hg3 | assumption)) rfl ?_
            refine rs (mi rfl) rfl ?_
            refine rs (by first | exact ix01 rfl rfl Try.underlying35 Try.sizeOf4 (by omega) | exact ixo1 rfl rfl Try.underlying35 Try.sizeOf4 (by omega)) rfl ?_
            refine ru (stb rfl rfl Try.sizeOf4 (by first | exact hB.cell rfl | exact (hB.other n01 _).cell rfl | exact ((hB.other n01 _).other n02 _).cell rfl | exact h1.cell hg1 | exact h2.cell hg2 | exact h3.cell hg3 | exact (h2.other (fun e => n12 e.symm) _).cell hg2 | exact ((h3.other (fun e => n13 e.symm) _).other (fun e => n23 e.symm) _).cell hg3 | assumption) (by first | exact h1.free _ | exact h3.free _ | exact (h2.other (fun e => n12 e.symm) _).free _ | exact ((h3.other (fun e => n13 e.symm) _).other (fun e => n23 e.symm) _).free _ | assumption)) rfl ?_
            refine rn ?_
            refine qn ?_
            refine Wseq ?_
            refine Wreg ?_
            refine rs (mp rfl) rfl ?_
            refine rs (nl rfl) rfl ?_
            refine rs (by first | exact fa0 3 rfl Try.underlying38 rfl Try.sizeOf36 rfl rfl | exact fa 3 rfl Try.underlying38 rfl Try.sizeOf36 rfl rfl) rfl ?_
            refine rs (ld rfl Try.isAgg36 (by first | exact hB.cell rfl | exact (hB.other n01 _).cell rfl | exact ((hB.other n01 _).other n02 _).cell rfl | exact h1.cell hg1 | exact h2.cell hg2 | exact h3.cell hg3 | exact (h2.other (fun e => n12 e.symm) _).cell hg2 | exact ((h3.other (fun e => n13 e.symm) _).other (fun e => n23 e.symm) _).cell hg3 | assumption)) rfl ?_
            refine rs (mi rfl) rfl ?_
            refine rs (mi rfl) rfl ?_
            refine rs (by first | exact ix01 rfl rfl Try.underlying36 Try.sizeOf3 (by omega) | exact ixo1 rfl rfl Try.underlying36 Try.sizeOf3 (by omega)) rfl ?_
            refine ru (sti rfl rfl Try.sizeOf3 (by first | exact hB.cell rfl | exact (hB.other n01 _).cell rfl | exact ((hB.other n01 _).other n02 _).cell rfl | exact h1.cell hg1 | exact h2.cell hg2 | exact h3.cell hg3 | exact (h2.other (fun e => n12 e.symm) _).cell hg2 | exact ((h3.other (fun e => n13 e.symm) _).other (fun e => n23 e.symm) _).cell hg3 | assumption) (by first | exact h1.free _ | exact h3.free _ | exact (h2.other (fun e => n12 e.symm) _).free _ | exact ((h3.other (fun e => n13 e.symm) _).other (fun e => n23 e.symm) _).free _ | assumption)) rfl ?_
            refine rn ?_
            refine qn ?_
            refine Wseq ?_
            refine Wreg ?_
            refine rs (mp rfl) rfl ?_
            refine rs (nl rfl) rfl ?_
            refine rs (by first | exact fa0 4 rfl Try.underlying38 rfl Try.sizeOf36 rfl rfl | exact fa 4 rfl Try.underlying38 rfl Try.sizeOf36 rfl rfl) rfl ?_
            refine rs (ld rfl Try.isAgg36 (by first | exact hB.cell rfl | exact (hB.other n01 _).cell rfl | exact ((hB.other n01 _).other n02 _).cell rfl | exact h1.cell hg1 | exact h2.cell hg2 | exact h3.cell hg3 | exact (h2.other (fun e => n12 e.symm) _).cell hg2 | exact ((h3.other (fun e => n13 e.symm) _).other (fun e => n23 e.symm) _).cell hg3 | assumption)) rfl ?_
            refine rs (mi rfl) rfl ?_
            refine rs (by first | exact ix01 rfl rfl Try.underlying36 Try.sizeOf3 (by omega) | exact ixo1 rfl rfl Try.underlying36 Try.sizeOf3 (by omega)) rfl ?_
            refine ru (sti rfl rfl Try.sizeOf3 (by first | exact hB.cell rfl | exact (hB.other n01 _).cell rfl | exact ((hB.other n01 _).other n02 _).cell rfl | exact h1.cell hg1 | exact h2.cell hg2 | exact h3.cell hg3 | exact (h2.other (fun e => n12 e.symm) _).cell hg2 | exact ((h3.other (fun e => n13 e.symm) _).other (fun e => n23 e.symm) _).cell hg3 | assumption) (by first | exact h1.free _ | exact h3.free _ | exact (h2.other (fun e => n12 e.symm) _).free _ | exact ((h3.other (fun e => n13 e.symm) _).other (fun e => n23 e.symm) _).free _ | assumption)) rfl ?_
            refine rgen (fun w2 => RefAt w2 b b1 b2 b3 pat ep (l.set k ⟨true, life, 0⟩) ∧ Only [b, b1, b2, b3] w w2) ⟨⟨by rw [List.length_set]; exact ((hB.other n01 _).other n02 _).other n03 _, ?_, ?_, ?_, ⟨n01, n02, n03, n12, n13, n23⟩, by rw [List.length_set]; exact hn⟩, (((Only.refl _ _).setCell (.inl (by simp)) _).setCell (.inl (by simp)) _).setCell (.inl (by simp)) _⟩ ?_
            · rw [← map_upd _ _ _ _ (.bool true) rfl]; exact ((h1.set k _).other n12 _).other n13 _
            · rw [← map_upd _ _ _ _ (.int .i64 life) rfl]; exact ((h2.other (fun e => n12 e.symm) _).set k _).other n23 _
            · rw [← map_upd _ _ _ _ (.int .i64 0) rfl]; exact ((h3.other (fun e => n13 e.symm) _).other (fun e => n23 e.symm) _).set k _
            rintro w2 ⟨hq2, ho2⟩
            refine rn ?_
            refine qn ?_
            refine Wseq ?_
            refine Wreg ?_
            refine rs (ab rfl) rfl ?_
            refine rn ?_
            refine qn ?_
            refine Wret ?_
            refine qr ?_
            refine f1b Try.results12 Try.ntmps12 rfl ?_
            first
            | (rw [hear_in ⟨ep, l⟩ true k epoch life hk, if_pos rfl, if_pos (by dsimp only; omega), if_neg (by simp [hr2])]; exact ⟨_, rfl, rfl, hq2, ho2⟩)
            | (exfalso; rw [hr] at hr2; cases hr2)
          · refine rs (ntt rfl) rfl ?_
            refine rn ?_
            refine qn ?_
            refine Wcf rfl ?_
            refine Wskip ?_
            refine qn ?_
            refine Wseq ?_
            refine Wseq ?_
            refine Wreg ?_
            refine rs (mi rfl) rfl ?_
            refine rs (mp rfl) rfl ?_
            refine rs (nl rfl) rfl ?_
            refine rs (by first | exact fa0 3 rfl Try.underlying38 rfl Try.sizeOf36 rfl rfl | exact fa 3 rfl Try.underlying38 rfl Try.sizeOf36 rfl rfl) rfl ?_
            refine rs (ld rfl Try.isAgg36 (by first | exact hB.cell rfl | exact (hB.other n01 _).cell rfl | exact ((hB.other n01 _).other n02 _).cell rfl | exact h1.cell hg1 | exact h2.cell hg2 | exact h3.cell hg3 | exact (h2.other (fun e => n12 e.symm) _).cell hg2 | exact ((h3.other (fun e => n13 e.symm) _).other (fun e => n23 e.symm) _).cell hg3 | assumption)) rfl ?_
            refine rs (mi rfl) rfl ?_
            refine rs (by first | exact ix01 rfl rfl Try.underlying36 Try.sizeOf3 (by omega) | exact ixo1 rfl rfl Try.underlying36 Try.sizeOf3 (by omega)) rfl ?_
            refine rs (ld rfl Try.isAgg3 (by first | exact hB.cell rfl | exact (hB.other n01 _).cell rfl | exact ((hB.other n01 _).other n02 _).cell rfl | exact h1.cell hg1 | exact h2.cell hg2 | exact h3.cell hg3 | exact (h2.other (fun e => n12 e.symm) _).cell hg2 | exact ((h3.other (fun e => n13 e.symm) _).other (fun e => n23 e.symm) _).cell hg3 | assumption)) rfl ?_
            refine rsc (gt' rfl rfl) rfl (fun c12 => ?_) (fun c12 => ?_)
            · refine rn ?_
              refine qn ?_
              refine Wct rfl ?_
              refine Wseq ?_
              refine Wreg ?_
              refine rs (mp rfl) rfl ?_
              refine rc (cl Try.call14 rfl rfl) rfl ?_
              refine cmono (rbump_any b b1 b2 b3 pat ep l _ h) ?_
              rintro _ w1 ⟨hq1, ho1⟩
              refine rn ?_
              refine qn ?_
              refine Wseq ?_
              refine Wreg ?_
              refine rs (ab rfl) rfl ?_
              refine rn ?_
              refine qn ?_
              refine Wret ?_
              refine qr ?_
              refine f1b Try.results12 Try.ntmps12 rfl ?_
              first
              | (rw [hear_in ⟨ep, l⟩ true k epoch life hk, if_pos rfl, if_pos (by dsimp only; omega), if_pos hr2]; rw [show St.heard ⟨ep, l⟩ k l[k] life _ = (true, St.bump ⟨ep, l⟩) from if_pos (by omega)]; exact ⟨_, rfl, rfl, hq1, ho1⟩)
              | (rw [hear_in ⟨ep, l⟩ false k epoch life hk, if_neg (by simp), if_pos hr2]; rw [show St.heard ⟨ep, l⟩ k l[k] life _ = (true, St.bump ⟨ep, l⟩) from if_pos (by omega)]; exact ⟨_, rfl, rfl, hq1, ho1⟩)
            · refine rn ?_
              refine qn ?_
              refine Wcf rfl ?_
              refine Wskip ?_
              refine qn ?_
              refine Wseq ?_
              refine Wseq ?_
              refine Wreg ?_
              refine rs (mi rfl) rfl ?_
              refine rs (mp rfl) rfl ?_
              refine rs (nl rfl) rfl ?_
              refine rs (by first | exact fa0 1 rfl Try.underlying38 rfl Try.sizeOf3 rfl rfl | exact fa 1 rfl Try.underlying38 rfl Try.sizeOf3 rfl rfl) rfl ?_
              refine rs (ld rfl Try.isAgg3 (by first | exact hB.cell rfl | exact (hB.other n01 _).cell rfl | exact ((hB.other n01 _).other n02 _).cell rfl | exact h1.cell hg1 | exact h2.cell hg2 | exact h3.cell hg3 | exact (h2.other (fun e => n12 e.symm) _).cell hg2 | exact ((h3.other (fun e => n13 e.symm) _).other (fun e => n23 e.symm) _).cell hg3 | assumption)) rfl ?_
              refine rsc (eqd rfl rfl) rfl (fun c13 => ?_) (fun c13 => ?_)
              · refine rs (mb rfl) rfl ?_
                refine rs (mi rfl) rfl ?_
                refine rs (mp rfl) rfl ?_
                refine rs (nl rfl) rfl ?_
                refine rs (by first | exact fa0 3 rfl Try.underlying38 rfl Try.sizeOf36 rfl rfl | exact fa 3 rfl Try.underlying38 rfl Try.sizeOf36 rfl rfl) rfl ?_
                refine rs (ld rfl Try.isAgg36 (by first | exact hB.cell rfl | exact (hB.other n01 _).cell rfl | exact ((hB.other n01 _).other n02 _).cell rfl | exact h1.cell hg1 | exact h2.cell hg2 | exact h3.cell hg3 | exact (h2.other (fun e => n12 e.symm) _).cell hg2 | exact ((h3.other (fun e => n13 e.symm) _).other (fun e => n23 e.symm) _).cell hg3 | assumption)) rfl ?_
                refine rs (mi rfl) rfl ?_
                refine rs (by first | exact ix01 rfl rfl Try.underlying36 Try.sizeOf3 (by omega) | exact ixo1 rfl rfl Try.underlying36 Try.sizeOf3 (by omega)) rfl ?_
                refine rs (ld rfl Try.isAgg3 (by first | exact hB.cell rfl | exact (hB.other n01 _).cell rfl | exact ((hB.other n01 _).other n02 _).cell rfl | exact h1.cell hg1 | exact h2.cell hg2 | exact h3.cell hg3 | exact (h2.other (fun e => n12 e.symm) _).cell hg2 | exact ((h3.other (fun e => n13 e.symm) _).other (fun e => n23 e.symm) _).cell hg3 | assumption)) rfl ?_
                refine rsc (eqd rfl rfl) rfl (fun c14 => ?_) (fun c14 => ?_)
                · refine rs (pbt rfl rfl) rfl ?_
                  refine rn ?_
                  refine qn ?_
                  refine Wct rfl ?_
                  refine Wreg ?_
                  refine rs (mp rfl) rfl ?_
                  refine rs (nl rfl) rfl ?_
                  refine rs (by first | exact fa0 4 rfl Try.underlying38 rfl Try.sizeOf36 rfl rfl | exact fa 4 rfl Try.underlying38 rfl Try.sizeOf36 rfl rfl) rfl ?_
                  refine rs (ld rfl Try.isAgg36 (by first | exact hB.cell rfl | exact (hB.other n01 _).cell rfl | exact ((hB.other n01 _).other n02 _).cell rfl | exact h1.cell hg1 | exact h2.cell hg2 | exact h3.cell hg3 | exact (h2.other (fun e => n12 e.symm) _).cell hg2 | exact ((h3.other (fun e => n13 e.symm) _).other (fun e => n23 e.symm) _).cell hg3 | assumption)) rfl ?_
                  refine rs (mi rfl) rfl ?_
                  refine rs (by first | exact ix01 rfl rfl Try.underlying36 Try.sizeOf3 (by omega) | exact ixo1 rfl rfl Try.underlying36 Try.sizeOf3 (by omega)) rfl ?_
                  refine ru (sti rfl rfl Try.sizeOf3 (by first | exact hB.cell rfl | exact (hB.other n01 _).cell rfl | exact ((hB.other n01 _).other n02 _).cell rfl | exact h1.cell hg1 | exact h2.cell hg2 | exact h3.cell hg3 | exact (h2.other (fun e => n12 e.symm) _).cell hg2 | exact ((h3.other (fun e => n13 e.symm) _).other (fun e => n23 e.symm) _).cell hg3 | assumption) (by first | exact h1.free _ | exact h3.free _ | exact (h2.other (fun e => n12 e.symm) _).free _ | exact ((h3.other (fun e => n13 e.symm) _).other (fun e => n23 e.symm) _).free _ | assumption)) rfl ?_
                  refine rgen (fun w2 => RefAt w2 b b1 b2 b3 pat ep (l.set k { l[k] with since := 0 }) ∧ Only [b, b1, b2, b3] w w2) ⟨⟨by rw [List.length_set]; exact hB.other n03 _, ?_, ?_, ?_, ⟨n01, n02, n03, n12, n13, n23⟩, by rw [List.length_set]; exact hn⟩, (Only.refl _ _).setCell (.inl (by simp)) _⟩ ?_
                  · rw [map_same _ l k { l[k] with since := 0 } hk rfl]; exact h1.other n13 _
                  · rw [map_same _ l k { l[k] with since := 0 } hk rfl]; exact h2.other n23 _
                  · rw [← map_upd _ _ _ _ (.int .i64 0) rfl]; exact h3.set k _
                  rintro w2 ⟨hq2, ho2⟩
                  refine rn ?_
                  refine qn ?_
                  refine Wseq ?_
                  refine Wreg ?_
                  refine rs (ab rfl) rfl ?_
                  refine rn ?_
                  refine qn ?_
                  refine Wret ?_
                  refine f1b Try.results12 Try.ntmps12 rfl ?_
                  first
                  | (rw [hear_in ⟨ep, l⟩ true k epoch life hk, if_pos rfl, if_pos (by dsimp only; omega), if_pos hr2, heard_set ⟨ep, l⟩ k l[k] life true (by omega) rfl (by omega)]; exact ⟨_, rfl, rfl, hq2, ho2⟩)
                  | (rw [hear_in ⟨ep, l⟩ true k epoch life hk, if_pos rfl, if_pos (by dsimp only; omega), if_pos hr2, heard_not ⟨ep, l⟩ k l[k] life true (by omega) (by simp only [true_and]; omega)]; exact ⟨_, rfl, rfl, h, Only.refl _ _⟩)
                  | (rw [hear_in ⟨ep, l⟩ false k epoch life hk, if_neg (by simp), if_pos hr2, heard_set ⟨ep, l⟩ k l[k] life _ (by omega) (decide_eq_true (by assumption)) (by omega)]; exact ⟨_, rfl, rfl, hq2, ho2⟩)
                  | (rw [hear_in ⟨ep, l⟩ false k epoch life hk, if_neg (by simp), if_pos hr2, heard_not ⟨ep, l⟩ k l[k] life _ (by omega) (by simp only [decide_eq_true_eq]; omega)]; exact ⟨_, rfl, rfl, h, Only.refl _ _⟩)
                · refine rs (pbt rfl rfl) rfl ?_
                  refine rn ?_
                  refine qn ?_
                  refine Wcf rfl ?_
                  refine Wskip ?_
                  refine qn ?_
                  refine Wseq ?_
                  refine Wreg ?_
                  refine rs (ab rfl) rfl ?_
                  refine rn ?_
                  refine qn ?_
                  refine Wret ?_
                  refine f1b Try.results12 Try.ntmps12 rfl ?_
                  first
                  | (rw [hear_in ⟨ep, l⟩ true k epoch life hk, if_pos rfl, if_pos (by dsimp only; omega), if_pos hr2, heard_set ⟨ep, l⟩ k l[k] life true (by omega) rfl (by omega)]; exact ⟨_, rfl, rfl, hq2, ho2⟩)
                  | (rw [hear_in ⟨ep, l⟩ true k epoch life hk, if_pos rfl, if_pos (by dsimp only; omega), if_pos hr2, heard_not ⟨ep, l⟩ k l[k] life true (by omega) (by simp only [true_and]; omega)]; exact ⟨_, rfl, rfl, h, Only.refl _ _⟩)
                  | (rw [hear_in ⟨ep, l⟩ false k epoch life hk, if_neg (by simp), if_pos hr2, heard_set ⟨ep, l⟩ k l[k] life _ (by omega) (decide_eq_true (by assumption)) (by omega)]; exact ⟨_, rfl, rfl, hq2, ho2⟩)
                  | (rw [hear_in ⟨ep, l⟩ false k epoch life hk, if_neg (by simp), if_pos hr2, heard_not ⟨ep, l⟩ k l[k] life _ (by omega) (by simp only [decide_eq_true_eq]; omega)]; exact ⟨_, rfl, rfl, h, Only.refl _ _⟩)
              · refine rs (mb rfl) rfl ?_
                refine r0 rfl ?_
                refine r0 rfl ?_
                refine r0 rfl ?_
                refine r0 rfl ?_
                refine r0 rfl ?_
                refine r0 rfl ?_
                refine r0 rfl ?_
                refine r0 rfl ?_
                refine r0 rfl ?_
                refine rs (pbf rfl rfl) rfl ?_
                refine rn ?_
                refine qn ?_
                refine Wcf rfl ?_
                refine Wskip ?_
                refine qn ?_
                refine Wseq ?_
                refine Wreg ?_
                refine rs (ab rfl) rfl ?_
                refine rn ?_
                refine qn ?_
                refine Wret ?_
                refine f1b Try.results12 Try.ntmps12 rfl ?_
                first
                | (rw [hear_in ⟨ep, l⟩ true k epoch life hk, if_pos rfl, if_pos (by dsimp only; omega), if_pos hr2, heard_set ⟨ep, l⟩ k l[k] life true (by omega) rfl (by omega)]; exact ⟨_, rfl, rfl, hq2, ho2⟩)
                | (rw [hear_in ⟨ep, l⟩ true k epoch life hk, if_pos rfl, if_pos (by dsimp only; omega), if_pos hr2, heard_not ⟨ep, l⟩ k l[k] life true (by omega) (by simp only [true_and]; omega)]; exact ⟨_, rfl, rfl, h, Only.refl _ _⟩)
                | (rw [hear_in ⟨ep, l⟩ false k epoch life hk, if_neg (by simp), if_pos hr2, heard_set ⟨ep, l⟩ k l[k] life _ (by omega) (decide_eq_true (by assumption)) (by omega)]; exact ⟨_, rfl, rfl, hq2, ho2⟩)
                | (rw [hear_in ⟨ep, l⟩ false k epoch life hk, if_neg (by simp), if_pos hr2, heard_not ⟨ep, l⟩ k l[k] life _ (by omega) (by simp only [decide_eq_true_eq]; omega)]; exact ⟨_, rfl, rfl, h, Only.refl _ _⟩)

set_option maxHeartbeats 1000000 in
theorem rtick_any (b b1 b2 b3 : Nat) (pat ep : Int) (l : List One) (w : World) (h : RefAt w b b1 b2 b3 pat ep l) :
  Calls Try.prog 10 #[.pointer (some ⟨b, 0, none⟩)] w (Ret fun v w' => v = .bool (St.tick pat ⟨ep, l⟩).1 ∧ RefAt w' b b1 b2 b3 pat (St.tick pat ⟨ep, l⟩).2.ep (St.tick pat ⟨ep, l⟩).2.l ∧ Only [b, b1, b2, b3] w w') := by
  obtain ⟨hB, h1, h2, h3, ⟨n01, n02, n03, n12, n13, n23⟩, hn⟩ := id h
  refine Center (args := [.pointer (some ⟨b, 0, none⟩)]) (l := [(0, .pointer (some ⟨b, 0, none⟩))]) Try.func10 Try.ntmps10 rfl rfl rfl ?_
  refine Wseq ?_
  refine Wreg ?_
  refine rs (ab rfl) rfl ?_
  refine rn ?_
  refine qn ?_
  refine Wseq ?_
  refine Wseq ?_
  refine Wreg ?_
  refine rs (ai rfl) rfl ?_
  refine rn ?_
  refine qn ?_
  refine Wblk ?_
  refine Wloop [3, 6, 7, 8, 9, 10, 11, 12, 13, 14, 15, 16, 17, 18, 19, 20, 21, 22, 23, 24, 25, 26, 27, 28] [3] (fun m vs wr => ∃ k : Nat, k ≤ l.length ∧ m = l.length - k ∧ vs = [.int .i64 k] ∧ RefAt wr b b1 b2 b3 pat ep (incs k l) ∧ Only [b, b1, b2, b3] w wr) (l.length) ?_ ?_
  · exact ⟨0, by omega, by omega, rfl, by simpa [incs] using h, Only.refl _ _⟩
  · intro m vs u wr hJ
    obtain ⟨k, hk, rfl, rfl, hw, ho⟩ := hJ
    obtain ⟨hBr, g1, g2, g3, _, _⟩ := id hw
    rw [incs_len] at hBr
    refine Wseq ?_
    refine Wseq ?_
    refine Wreg ?_
    refine rs (mi rfl) rfl ?_
    refine rs (mp rfl) rfl ?_
    refine rs (nl rfl) rfl ?_
    refine rs (by first | exact fa0 4 rfl Try.underlying38 rfl Try.sizeOf36 rfl rfl | exact fa 4 rfl Try.underlying38 rfl Try.sizeOf36 rfl rfl) rfl ?_
    refine rs (ld rfl Try.isAgg36 (by first | exact hBr.cell rfl | assumption)) rfl ?_
    refine rs (ln rfl Try.underlying36) rfl ?_
    refine rsc (lt' rfl rfl) rfl (fun c1 => ?_) (fun c1 => ?_)
    · have hkl : k < l.length := by omega
      have hg3 := map_get (fun o : One => Value.int .i64 o.since) (incs k l) k (by rw [incs_len]; exact hkl)
      rw [incs_get k l hkl] at hg3
      refine rn ?_
      refine qn ?_
      refine Wct rfl ?_
      refine Wskip ?_
      refine qn ?_
      refine Wseq ?_
      refine Wblk ?_
      refine Wdrw (fun w' => Blk w' b [.int .i64 pat, .int .i64 ep, .slice (some ⟨b1, 0, none⟩) l.length l.length, .slice (some ⟨b2, 0, none⟩) l.length l.length, .slice (some ⟨b3, 0, none⟩) l.length l.length] 38) [0, 1, 3, 7, 0, 0, 32, 96, 224, 0, 992, 2016, 4064, 8191, 16383] 2048 rfl (by kernel_rfl) (hBr) ?_
      refine ds (fun w' hF => mp rfl) rfl ?_
      refine ds (fun w' hF => nl rfl) rfl ?_
      refine ds (fun w' hF => by first | exact fa0 4 rfl Try.underlying38 rfl Try.sizeOf36 rfl rfl | exact fa 4 rfl Try.underlying38 rfl Try.sizeOf36 rfl rfl) rfl ?_
      refine ds (fun w' hF => ld rfl Try.isAgg36 (by first | exact hF.cell rfl | assumption)) rfl ?_
      refine ds (fun w' hF => mi rfl) rfl ?_
      refine ds (fun w' hF => mp rfl) rfl ?_
      refine ds (fun w' hF => nl rfl) rfl ?_
      refine ds (fun w' hF => by first | exact fa0 4 rfl Try.underlying38 rfl Try.sizeOf36 rfl rfl | exact fa 4 rfl Try.underlying38 rfl Try.sizeOf36 rfl rfl) rfl ?_
      refine ds (fun w' hF => ld rfl Try.isAgg36 (by first | exact hF.cell rfl | assumption)) rfl ?_
      refine ds (fun w' hF => mi rfl) rfl ?_
      refine ds (fun w' hF => by first | exact ix01 rfl rfl Try.underlying36 Try.sizeOf3 (by omega) | exact ixo1 rfl rfl Try.underlying36 Try.sizeOf3 (by omega)) rfl ?_
      refine dx (ld rfl Try.isAgg3 (by first | exact (g3.drew).cell hg3 | assumption)) rfl rfl ?_
      refine ds (fun w' hF => adw rfl rfl) rfl ?_
      refine ds (fun w' hF => by first | exact ix01 rfl rfl Try.underlying36 Try.sizeOf3 (by omega) | exact ixo1 rfl rfl Try.underlying36 Try.sizeOf3 (by omega)) rfl ?_
      refine du (sti rfl rfl Try.sizeOf3 (by exact (g3.drew).cell hg3) (by first | exact (g3.drew).free _ | assumption)) rfl rfl ((hBr.drew).other n03 _) ?_
      refine dgen (fun w2 => RefAt w2 b b1 b2 b3 pat ep (incs (k + 1) l) ∧ Only [b, b1, b2, b3] w w2) ⟨⟨by rw [incs_len]; exact (hBr.drew).other n03 _, ?_, ?_, ?_, ⟨n01, n02, n03, n12, n13, n23⟩, by rw [incs_len]; exact hn⟩, (ho.drew).setCell (.inl (by simp)) _⟩ ?_
      · rw [← incs_set k l hkl, map_same (fun o : One => Value.bool o.ready) (incs k l) k (inc l[k]) (by rw [incs_len]; exact hkl) (by rw [incs_get k l hkl]; rfl)]; exact (g1.drew).other n13 _
      · rw [← incs_set k l hkl, map_same (fun o : One => Value.int .i64 o.life) (incs k l) k (inc l[k]) (by rw [incs_len]; exact hkl) (by rw [incs_get k l hkl]; rfl)]; exact (g2.drew).other n23 _
      · rw [← incs_set k l hkl, ← map_upd _ _ _ _ (.int .i64 (IntKind.i64.wrap (l[k].since + 1))) rfl]; exact (g3.drew).set k _
      rintro w2 ⟨hw2, ho2⟩
      refine dn ?_
      refine bn ?_
      refine qn ?_
      refine Wreg ?_
      refine rs (mi rfl) rfl ?_
      refine rs (ad rfl rfl (rfl : (k : Int) + 1 = ((k + 1 : Nat) : Int)) (by omega)) rfl ?_
      refine rs (ai rfl) rfl ?_
      refine rn ?_
      refine qn ?_
      exact ⟨l.length - (k + 1), by omega, ⟨k + 1, by omega, rfl, rfl, hw2, ho2⟩, (kl rfl k0)⟩
    · refine rn ?_
      refine qn ?_
      refine Wcf rfl ?_
      refine Wexit ?_
      refine qx ?_
      refine qx ?_
      refine be ?_
      refine qn ?_
      refine Wseq ?_
      obtain rfl : k = l.length := by omega
      rw [incs_all] at hw
      refine Wreg ?_
      refine rs (mp rfl) rfl ?_
      refine rc (cl Try.call16 rfl rfl) rfl ?_
      refine cmono (lists_any b b1 b2 b3 pat ep _ _ hw) ?_
      rintro _ w2 ⟨⟨v1, v2, rfl, hv1, hv2⟩, ho2⟩
      have hw2 := hw.kept ho2 (by simp) (by simp) (by simp) (by simp)
      obtain ⟨a1, c1, rfl⟩ := hv1.slice
      obtain ⟨a2, c2, rfl⟩ := hv2.slice
      refine rs (mtu rfl) rfl ?_
      refine rs (ext rfl rfl) rfl ?_
      refine rs (ext rfl rfl) rfl ?_
      refine rs (asl rfl) rfl ?_
      refine rs (asl rfl) rfl ?_
      refine rn ?_
      refine qn ?_
      refine Wseq ?_
      refine Wseq ?_
      refine Wreg ?_
      refine rs (ms rfl) rfl ?_
      refine rs (ln rfl Try.underlying36) rfl ?_
      refine rsc (gt' rfl rfl) rfl (fun c2 => ?_) (fun c2 => ?_)
      · refine rs (mb rfl) rfl ?_
        refine r0 rfl ?_
        refine r0 rfl ?_
        refine r0 rfl ?_
        refine rs (pbt rfl rfl) rfl ?_
        refine rn ?_
        refine qn ?_
        refine Wct rfl ?_
        refine Wseq ?_
        refine Wreg ?_
        refine rs (ab rfl) rfl ?_
        refine rn ?_
        refine qn ?_
        refine Wret ?_
        refine qr ?_
        refine f1b Try.results10 Try.ntmps10 rfl ?_
        first
        | (rw [show St.tick pat ⟨ep, l⟩ = (false, ⟨ep, l.map inc⟩) from if_neg (by rintro ⟨h2, _⟩; dsimp only at h2; omega)]; exact ⟨_, rfl, rfl, hw2, ho.trans ho2 (by simp)⟩)
        | (rw [show St.tick pat ⟨ep, l⟩ = (false, ⟨ep, l.map inc⟩) from if_neg (by rintro ⟨_, h2⟩; exact h2 (by dsimp only; omega))]; exact ⟨_, rfl, rfl, hw2, ho.trans ho2 (by simp)⟩)
      · refine rs (mb rfl) rfl ?_
        refine rs (ms rfl) rfl ?_
        refine rs (ln rfl Try.underlying36) rfl ?_
        refine rsc (eqd rfl rfl) rfl (fun c3 => ?_) (fun c3 => ?_)
        · refine rs (pbf rfl rfl) rfl ?_
          refine rn ?_
          refine qn ?_
          refine Wct rfl ?_
          refine Wseq ?_
          refine Wreg ?_
          refine rs (ab rfl) rfl ?_
          refine rn ?_
          refine qn ?_
          refine Wret ?_
          refine qr ?_
          refine f1b Try.results10 Try.ntmps10 rfl ?_
          first
          | (rw [show St.tick pat ⟨ep, l⟩ = (false, ⟨ep, l.map inc⟩) from if_neg (by rintro ⟨h2, _⟩; dsimp only at h2; omega)]; exact ⟨_, rfl, rfl, hw2, ho.trans ho2 (by simp)⟩)
          | (rw [show St.tick pat ⟨ep, l⟩ = (false, ⟨ep, l.map inc⟩) from if_neg (by rintro ⟨_, h2⟩; exact h2 (by dsimp only; omega))]; exact ⟨_, rfl, rfl, hw2, ho.trans ho2 (by simp)⟩)
        · refine rs (pbf rfl rfl) rfl ?_
          refine rn ?_
          refine qn ?_
          refine Wcf rfl ?_
          refine Wskip ?_
          refine qn ?_
          refine Wseq ?_
          refine Wreg ?_
          refine rs (mp rfl) rfl ?_
          refine rc (cl Try.call14 rfl rfl) rfl ?_
          refine cmono (rbump_any b b1 b2 b3 pat ep _ _ hw2) ?_
          rintro _ w3 ⟨hw3, ho3⟩
          refine rn ?_
          refine qn ?_
          refine Wseq ?_
          refine Wreg ?_
          refine rs (ab rfl) rfl ?_
          refine rn ?_
          refine qn ?_
          refine Wret ?_
          refine f1b Try.results10 Try.ntmps10 rfl ?_
          rw [show St.tick pat ⟨ep, l⟩ = (true, St.bump ⟨ep, l.map inc⟩) from if_pos ⟨by dsimp only; omega, by dsimp only; omega⟩]
          exact ⟨_, rfl, rfl, hw3, (ho.trans ho2 (by simp)).trans ho3 (by simp)⟩

theorem zmap {α : Type} (f : One → α) (z : α) (k : Nat) (h : f ⟨false, 0, 0⟩ = z) : List.replicate k z = (List.replicate k (⟨false, 0, 0⟩ : One)).map f := by rw [List.map_replicate, h]
theorem rep_flat (z : Value) : ∀ k, flat (fun _ : Unit => [z]) (List.replicate k ()) = List.replicate k z
  | 0 => rfl
  | k + 1 => by
    have := rep_flat z k
    unfold flat at *
    rw [List.replicate_succ, List.flatMap_cons, this, List.replicate_succ]; rfl
theorem made1 (w : World) (z : Value) (hz : z.cells = #[z]) (k : Nat) (T : TypeId) : Blk (w.alloc (.cells (madeCells z.cells (k * 1)) T)) w.heap.size (List.replicate k z) T := by
  have h := Blk.new w (madeCells z.cells (k * 1)) T
  rw [madeCells_flat z.cells 1 (by rw [hz]; rfl) (by omega) k, show (fun _ : Unit => z.cells.toList) = fun _ => [z] by rw [hz], rep_flat] at h
  exact h

theorem bd_38_0 {ρ : Operand → Value} {w : World} {dst : Option Nat} {ty : TypeId} {pos : String} {after : Array Edge} {g : Option (Nat × Bool)} {x0 : Operand} {k0 : IntKind} {a0 : Int} (h0 : ρ x0 = (.int k0 a0)) :
    (execOp ρ ⟨dst, .build 38 #[(0, x0)], ty, pos, after, g⟩).run Try.prog w = .ok (.value (.agg #[(.int k0 a0), (.int .i64 0), (.slice none 0 0), (.slice none 0 0), (.slice none 0 0)])) w := by
  simp [execOp, Instr.build, Instr.fill, Try.zeroValue38, Try.runUnderlying38, Try.sizeOf3, Try.sizeOf35, Try.sizeOf36, h0, Value.cells]

set_option maxHeartbeats 1000000 in
theorem rnew_any (k : Nat) (pt : Int) (w : World) (hk : k ≤ 64) :
  Calls Try.prog 8 #[.int .i64 (k : Int), .int .i64 pt] w (Ret fun v w' => (∃ b b1 b2 b3, (w.heap.size ≤ b ∧ w.heap.size ≤ b1 ∧ w.heap.size ≤ b2 ∧ w.heap.size ≤ b3) ∧ v = .pointer (some ⟨b, 0, none⟩) ∧ RefAt w' b b1 b2 b3 pt 1 (List.replicate k ⟨false, 0, 0⟩)) ∧ Only [] w w') := by
  refine Center (args := [.int .i64 (k : Int), .int .i64 pt]) (l := [(0, .int .i64 (k : Int)), (1, .int .i64 pt)]) Try.func8 Try.ntmps8 rfl rfl rfl ?_
  refine Wseq ?_
  refine Wreg ?_
  refine rs (ap rfl) rfl ?_
  refine rn ?_
  refine qn ?_
  refine Wseq ?_
  refine Wreg ?_
  refine rs (mi rfl) rfl ?_
  refine rs (bd_38_0 rfl) rfl ?_
  refine rs (bo rfl) rfl ?_
  refine rgen (fun w2 => Blk w2 w.heap.size [.int .i64 pt, .int .i64 0, .slice none 0 0, .slice none 0 0, .slice none 0 0] 38 ∧ Only [] w w2 ∧ w2.heap.size = w.heap.size + 1) ⟨Blk.new _ _ _, (Only.refl _ _).alloc _, by simp⟩ ?_
  rintro w2 ⟨hB, ho, hs⟩
  refine rs (ap rfl) rfl ?_
  refine rn ?_
  refine qn ?_
  refine Wseq ?_
  refine Wreg ?_
  refine rs (mp rfl) rfl ?_
  refine rs (mi rfl) rfl ?_
  refine rs (mk rfl rfl Try.underlying35 (i := Try.t4) rfl rfl (by first | decide | (simp [Try.t4]; omega)) (by omega)) rfl ?_
  refine rs (nl rfl) rfl ?_
  refine rs (by first | exact fa0 2 rfl Try.underlying38 rfl Try.sizeOf35 rfl rfl | exact fa 2 rfl Try.underlying38 rfl Try.sizeOf35 rfl rfl) rfl ?_
  refine ru (sts rfl rfl Try.sizeOf35 (by first | exact hB.cell rfl | exact (hB.alloc _).cell rfl | assumption) (by first | exact hB.free _ | exact (hB.alloc _).free _ | assumption)) rfl ?_
  refine rgen (fun w3 => Blk w3 w.heap.size [.int .i64 pt, .int .i64 0, .slice (some ⟨w2.heap.size, 0, none⟩) k k, .slice none 0 0, .slice none 0 0] 38 ∧ Blk w3 w2.heap.size (List.replicate k (.bool false)) 4 ∧ Only [] w w3 ∧ w3.heap.size = w2.heap.size + 1) ⟨(hB.alloc _).set 2 _, (made1 w2 (.bool false) rfl k 4).other (by simp; omega) _, (ho.alloc _).setCell (.inr (by simp)) _, by simp⟩ ?_
  rintro w3 ⟨hB, hb1, ho, hs3⟩
  refine rn ?_
  refine qn ?_
  refine Wseq ?_
  refine Wreg ?_
  refine rs (mp rfl) rfl ?_
  refine rs (mi rfl) rfl ?_
  refine rs (mk rfl rfl Try.underlying36 (i := Try.t3) rfl rfl (by first | decide | (simp [Try.t3]; omega)) (by omega)) rfl ?_
  refine rs (nl rfl) rfl ?_
  refine rs (by first | exact fa0 3 rfl Try.underlying38 rfl Try.sizeOf36 rfl rfl | exact fa 3 rfl Try.underlying38 rfl Try.sizeOf36 rfl rfl) rfl ?_
  refine ru (sts rfl rfl Try.sizeOf36 (by first | exact hB.cell rfl | exact (hB.alloc _).cell rfl | assumption) (by first | exact hB.free _ | exact (hB.alloc _).free _ | assumption)) rfl ?_
  refine rgen (fun w4 => Blk w4 w.heap.size [.int .i64 pt, .int .i64 0, .slice (some ⟨w2.heap.size, 0, none⟩) k k, .slice (some ⟨w3.heap.size, 0, none⟩) k k, .slice none 0 0] 38 ∧ Blk w4 w2.heap.size (List.replicate k (.bool false)) 4 ∧ Blk w4 w3.heap.size (List.replicate k (.int .i64 0)) 3 ∧ Only [] w w4 ∧ w4.heap.size = w3.heap.size + 1) ⟨(hB.alloc _).set 3 _, (hb1.alloc _).other (by simp; omega) _, (made1 w3 (.int .i64 0) rfl k 3).other (by simp; omega) _, (ho.alloc _).setCell (.inr (by simp)) _, by simp⟩ ?_
  rintro w4 ⟨hB, hb1, hb2, ho, hs4⟩
  refine rn ?_
  refine qn ?_
  refine Wseq ?_
  refine Wreg ?_
  refine rs (mp rfl) rfl ?_
  refine rs (mi rfl) rfl ?_
  refine rs (mk rfl rfl Try.underlying36 (i := Try.t3) rfl rfl (by first | decide | (simp [Try.t3]; omega)) (by omega)) rfl ?_
  refine rs (nl rfl) rfl ?_
  refine rs (by first | exact fa0 4 rfl Try.underlying38 rfl Try.sizeOf36 rfl rfl | exact fa 4 rfl Try.underlying38 rfl Try.sizeOf36 rfl rfl) rfl ?_
  refine ru (sts rfl rfl Try.sizeOf36 (by first | exact hB.cell rfl | exact (hB.alloc _).cell rfl | assumption) (by first | exact hB.free _ | exact (hB.alloc _).free _ | assumption)) rfl ?_
  refine rgen (fun w5 => Blk w5 w.heap.size [.int .i64 pt, .int .i64 0, .slice (some ⟨w2.heap.size, 0, none⟩) k k, .slice (some ⟨w3.heap.size, 0, none⟩) k k, .slice (some ⟨w4.heap.size, 0, none⟩) k k] 38 ∧ Blk w5 w2.heap.size (List.replicate k (.bool false)) 4 ∧ Blk w5 w3.heap.size (List.replicate k (.int .i64 0)) 3 ∧ Blk w5 w4.heap.size (List.replicate k (.int .i64 0)) 3 ∧ Only [] w w5) ⟨(hB.alloc _).set 4 _, (hb1.alloc _).other (by simp; omega) _, (hb2.alloc _).other (by simp; omega) _, (made1 w4 (.int .i64 0) rfl k 3).other (by simp; omega) _, (ho.alloc _).setCell (.inr (by simp)) _⟩ ?_
  rintro w5 ⟨hB, hb1, hb2, hb3, ho⟩
  refine rn ?_
  refine qn ?_
  refine Wseq ?_
  refine Wreg ?_
  refine rs (mp rfl) rfl ?_
  refine rs (nl rfl) rfl ?_
  refine rs (by first | exact fa0 1 rfl Try.underlying38 rfl Try.sizeOf3 rfl rfl | exact fa 1 rfl Try.underlying38 rfl Try.sizeOf3 rfl rfl) rfl ?_
  refine ru (sti rfl rfl Try.sizeOf3 (by first | exact hB.cell rfl | exact (hB.alloc _).cell rfl | assumption) (by first | exact hB.free _ | exact (hB.alloc _).free _ | assumption)) rfl ?_
  refine rn ?_
  refine qn ?_
  refine Wseq ?_
  refine Wreg ?_
  refine rs (mp rfl) rfl ?_
  refine rs (ap rfl) rfl ?_
  refine rn ?_
  refine qn ?_
  refine Wret ?_
  refine f1p Try.results8 Try.ntmps8 rfl ?_
  refine ⟨_, rfl, ⟨w.heap.size, w2.heap.size, w3.heap.size, w4.heap.size, by omega, rfl, ?_, ?_, ?_, ?_, by omega, by simpa using hk⟩, ho.setCell (.inr (by simp)) _⟩
  · simpa using hB.set 1 (.int .i64 1)
  · rw [← zmap _ (.bool false) k rfl]; exact hb1.other (by simp; omega) _
  · rw [← zmap _ (.int .i64 0) k rfl]; exact hb2.other (by simp; omega) _
  · rw [← zmap _ (.int .i64 0) k rfl]; exact hb3.other (by simp; omega) _

end Go.Proofs.Ytmphbmocpiolfaa
