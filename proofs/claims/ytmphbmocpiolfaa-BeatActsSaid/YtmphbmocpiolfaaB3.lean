/- Contracts of Go functions, each by one walk. Written by a program of this session out of its own annotations. -/
import Derived.Test.YtmphbmocpiolfaaB2
import Derived.Test.YtmphbmocpiolfaaOpen
namespace Go.Proofs.Ytmphbmocpiolfaa
open Go Go.RowKit Go.Hp
set_option linter.unusedVariables false
set_option linter.unusedSimpArgs false
set_option maxRecDepth 100000

/-- A slice that reads as a list of ints. -/
def ISl (w : World) (a : Option Addr) (xs : List Int) : Prop := ∀ k, (h : k < xs.length) → ∃ bb o, a = some ⟨bb, o, none⟩ ∧ ∀ i, (hi : i < xs.length) → w.cell? ⟨bb, o + i, none⟩ = some (.int .i64 xs[i])
theorem ISl.kept {w w' : World} {a : Option Addr} {xs : List Int} {S : List Nat} (h : ISl w a xs) (ho : Only S w w') (hs : ∀ bb o, a = some ⟨bb, o, none⟩ → bb ∉ S) : ISl w' a xs := by
  intro k hk
  obtain ⟨bb, o, rfl, hc⟩ := h k hk
  refine ⟨bb, o, rfl, fun i hi => ?_⟩
  have hlt := World.block_lt_of_cell? w _ (hc i hi)
  rw [← hc i hi]
  exact World.cell?_of_block (ho.block bb hlt (hs bb o rfl))
theorem take_step {α : Type} (xs ys : List α) (k : Nat) (h1 : k < xs.length) (h2 : k < ys.length) (h : xs.take k = ys.take k) (he : xs[k] = ys[k]) : xs.take (k + 1) = ys.take (k + 1) := by
  rw [List.take_succ_eq_append_getElem h1, List.take_succ_eq_append_getElem h2, h, he]

set_option maxHeartbeats 1000000 in
theorem ints_any (a1 a2 : Option Addr) (c1 c2 : Nat) (xs ys : List Int) (w : World) (h1 : ISl w a1 xs) (h2 : ISl w a2 ys) (hn : xs.length ≤ 9223372036854775807) :
  Calls Try.prog 19 #[.slice a1 xs.length c1, .slice a2 ys.length c2] w (Ret fun v w' => v = .bool (decide (xs = ys)) ∧ Only [] w w') := by
  refine Center (args := [.slice a1 xs.length c1, .slice a2 ys.length c2]) (l := [(0, .slice a1 xs.length c1), (1, .slice a2 ys.length c2)]) Try.func19 Try.ntmps19 rfl rfl rfl ?_
  refine Wseq ?_
  refine Wreg ?_
  refine rs (ab rfl) rfl ?_
  refine rn ?_
  refine qn ?_
  refine Wseq ?_
  refine Wseq ?_
  refine Wreg ?_
  refine rs (ms rfl) rfl ?_
  refine rs (ln rfl Try.underlying36) rfl ?_
  refine rs (ms rfl) rfl ?_
  refine rs (ln rfl Try.underlying36) rfl ?_
  refine rsc (ned rfl rfl) rfl (fun c1 => ?_) (fun c1 => ?_)
  · refine rn ?_
    refine qn ?_
    refine Wct rfl ?_
    refine Wseq ?_
    refine Wreg ?_
    refine rs (ab rfl) rfl ?_
    refine rn ?_
    refine qn ?_
    refine Wret ?_
    refine qr ?_
    refine f1b Try.results19 Try.ntmps19 rfl ?_
    exact ⟨_, rfl, by rw [decide_eq_false (fun e => by subst e; omega)], Only.refl _ _⟩
  · refine rn ?_
    refine qn ?_
    refine Wcf rfl ?_
    refine Wskip ?_
    refine qn ?_
    refine Wseq ?_
    refine Wseq ?_
    refine Wreg ?_
    refine rs (ai rfl) rfl ?_
    refine rn ?_
    refine qn ?_
    refine Wblk ?_
    refine Wloop [4, 5, 11, 12, 13, 14, 15, 16, 17, 18, 19, 20, 21, 22, 23, 24, 25] [5] (fun m vs wr => ∃ k : Nat, k ≤ xs.length ∧ m = xs.length - k ∧ vs = [.int .i64 k] ∧ xs.take k = ys.take k ∧ Only [] w wr) (xs.length) ?_ ?_
    · exact ⟨0, by omega, by omega, rfl, by simp, Only.refl _ _⟩
    · intro m vs u wr hJ
      obtain ⟨k, hk, rfl, rfl, ht, ho⟩ := hJ
      have g1 := h1.kept ho (by simp)
      have g2 := h2.kept ho (by simp)
      refine Wseq ?_
      refine Wseq ?_
      refine Wreg ?_
      refine rs (mi rfl) rfl ?_
      refine rs (ms rfl) rfl ?_
      refine rs (ln rfl Try.underlying36) rfl ?_
      refine rsc (lt' rfl rfl) rfl (fun c2 => ?_) (fun c2 => ?_)
      · have hkx : k < xs.length := by omega
        have hky : k < ys.length := by omega
        obtain ⟨bb1, o1, rfl, hc1⟩ := g1 k hkx
        obtain ⟨bb2, o2, rfl, hc2⟩ := g2 k hky
        refine rn ?_
        refine qn ?_
        refine Wct rfl ?_
        refine Wskip ?_
        refine qn ?_
        refine Wseq ?_
        refine Wblk ?_
        refine Wseq ?_
        refine Wdrw (fun w' => w' = World.drew _) [0, 0, 3, 7, 0, 0, 48, 112, 255] 0 rfl (by kernel_rfl) (rfl) ?_
        refine ds (fun w' hF => ms rfl) rfl ?_
        refine ds (fun w' hF => mi rfl) rfl ?_
        refine ds (fun w' hF => by first | exact ix01 rfl rfl Try.underlying36 Try.sizeOf3 (by omega) | exact ixo1 rfl rfl Try.underlying36 Try.sizeOf3 (by omega)) rfl ?_
        refine ds (fun w' hF => ld rfl Try.isAgg3 (by subst hF; exact hc1 k hkx)) rfl ?_
        refine ds (fun w' hF => ms rfl) rfl ?_
        refine ds (fun w' hF => mi rfl) rfl ?_
        refine ds (fun w' hF => by first | exact ix01 rfl rfl Try.underlying36 Try.sizeOf3 (by omega) | exact ixo1 rfl rfl Try.underlying36 Try.sizeOf3 (by omega)) rfl ?_
        refine ds (fun w' hF => ld rfl Try.isAgg3 (by subst hF; exact hc2 k hky)) rfl ?_
        refine dsc (fun w' hF => ned rfl rfl) rfl (fun c3 => ?_) (fun c3 => ?_)
        · refine dn ?_
          refine qn ?_
          refine Wct rfl ?_
          refine Wseq ?_
          refine Wreg ?_
          refine rs (ab rfl) rfl ?_
          refine rn ?_
          refine qn ?_
          refine Wret ?_
          refine br ?_
          refine qr ?_
          refine qr ?_
          refine br ?_
          refine qr ?_
          refine f1b Try.results19 Try.ntmps19 rfl ?_
          exact ⟨_, rfl, by rw [decide_eq_false (fun e => by subst e; omega)], ho.drew⟩
        · refine dn ?_
          refine qn ?_
          refine Wcf rfl ?_
          refine Wskip ?_
          refine bn ?_
          refine qn ?_
          refine Wreg ?_
          refine rs (mi rfl) rfl ?_
          refine rs (ad rfl rfl (rfl : (k : Int) + 1 = ((k + 1 : Nat) : Int)) (by omega)) rfl ?_
          refine rs (ai rfl) rfl ?_
          refine rn ?_
          refine qn ?_
          exact ⟨xs.length - (k + 1), by omega, ⟨k + 1, by omega, rfl, rfl, take_step xs ys k hkx hky ht (by omega), ho.drew⟩, (kl rfl k0)⟩
      · refine rn ?_
        refine qn ?_
        refine Wcf rfl ?_
        refine Wexit ?_
        refine qx ?_
        refine qx ?_
        refine be ?_
        refine qn ?_
        refine Wseq ?_
        refine Wreg ?_
        refine rs (ab rfl) rfl ?_
        refine rn ?_
        refine qn ?_
        refine Wret ?_
        refine f1b Try.results19 Try.ntmps19 rfl ?_
        obtain rfl : k = xs.length := by omega
        have hl : xs.length = ys.length := by omega
        rw [List.take_length, hl, List.take_length] at ht
        exact ⟨_, rfl, by rw [decide_eq_true ht], ho⟩

def ex0 : List One := List.replicate 2 ⟨false, 0, 0⟩
def ex1 : List One := [⟨true, 7, 0⟩, ⟨false, 0, 0⟩]
def ex2 : List One := [⟨true, 7, 0⟩, ⟨true, 7, 0⟩]
def ex3 : List One := [⟨true, 7, 1⟩, ⟨true, 7, 1⟩]
def ex4 : List One := [⟨true, 7, 2⟩, ⟨true, 7, 2⟩]
theorem exA : St.hear ⟨1, ex0⟩ true 0 1 7 = (false, ⟨1, ex1⟩) := rfl
theorem exB : St.hear ⟨1, ex1⟩ true 1 1 7 = (false, ⟨1, ex2⟩) := rfl
theorem exW : (idx missB ex2 0).length = 0 := rfl
theorem exC : St.tick 3 ⟨1, ex2⟩ = (false, ⟨1, ex3⟩) := by decide
theorem exD : St.tick 3 ⟨1, ex3⟩ = (false, ⟨1, ex4⟩) := by decide
theorem exE : St.tick 3 ⟨1, ex4⟩ = (true, ⟨2, ex0⟩) := by decide

set_option maxHeartbeats 1000000 in
theorem awake_any (w : World) :
  Calls Try.prog 6 #[] w (Ret fun v w' => v = .bool true ∧ Only [] w w') := by
  refine Center (args := []) (l := []) Try.func6 Try.ntmps6 rfl rfl rfl ?_
  refine Wseq ?_
  refine Wreg ?_
  refine rs (ab rfl) rfl ?_
  refine rn ?_
  refine qn ?_
  refine Wseq ?_
  refine Wreg ?_
  refine rc (cl Try.call7 rfl rfl) rfl ?_
  refine cmono (new_any 2 3 w) ?_
  rintro _ w1 ⟨hn, ho1⟩
  rw [if_pos (by omega)] at hn
  obtain ⟨b, bl, hb, hbl, rfl, h1⟩ := hn
  replace h1 : WatchAt w1 b bl 3 1 ex0 := h1
  have hbn : ∀ x ∈ [b, bl], x ∈ ([] : List Nat) ∨ w.heap.size ≤ x := by simp; omega
  refine rs (mtu rfl) rfl ?_
  refine rs (ext rfl rfl) rfl ?_
  refine rs (ext rfl rfl) rfl ?_
  refine rs (ap rfl) rfl ?_
  refine rs (ai rfl) rfl ?_
  refine rn ?_
  refine qn ?_
  refine Wseq ?_
  refine Wseq ?_
  refine Wreg ?_
  refine rs (mp rfl) rfl ?_
  refine rs (epf Try.underlying24 rfl rfl) rfl ?_
  refine rs (mb rfl) rfl ?_
  refine rs (mi rfl) rfl ?_
  refine rs (nef rfl rfl (by omega)) rfl ?_
  refine rs (pbf rfl rfl) rfl ?_
  refine rn ?_
  refine qn ?_
  refine Wcf rfl ?_
  refine Wskip ?_
  refine qn ?_
  refine Wseq ?_
  refine Wreg ?_
  refine rs (mp rfl) rfl ?_
  refine rc (cl Try.call13 rfl rfl) rfl ?_
  refine cmono (ready_any b bl 3 1 ex0 0 1 7 _ h1) ?_
  rintro _ w2 ⟨rfl, h2, ho2⟩
  rw [exA] at h2 ⊢
  refine rs (mp rfl) rfl ?_
  refine rc (cl Try.call13 rfl rfl) rfl ?_
  refine cmono (ready_any b bl 3 1 ex1 1 1 7 _ h2) ?_
  rintro _ w3 ⟨rfl, h3, ho3⟩
  rw [exB] at h3 ⊢
  refine rs (ab rfl) rfl ?_
  refine rs (ab rfl) rfl ?_
  refine rn ?_
  refine qn ?_
  refine Wseq ?_
  refine Wreg ?_
  refine rs (mp rfl) rfl ?_
  refine rc (cl Try.call18 rfl rfl) rfl ?_
  refine cmono (whole_any b bl 3 1 ex2 _ h3) ?_
  rintro _ w4 ⟨rfl, ho4⟩
  rw [decide_eq_true exW]
  have h4 := h3.kept ho4 (by simp) (by simp)
  refine rs (ab rfl) rfl ?_
  refine rn ?_
  refine qn ?_
  refine Wseq ?_
  refine Wreg ?_
  refine rs (mp rfl) rfl ?_
  refine rc (cl Try.call9 rfl rfl) rfl ?_
  refine cmono (tick_any b bl 3 1 ex2 _ h4) ?_
  rintro _ w5 ⟨rfl, h5, ho5⟩
  rw [exC] at h5 ⊢
  refine rs (mp rfl) rfl ?_
  refine rc (cl Try.call9 rfl rfl) rfl ?_
  refine cmono (tick_any b bl 3 1 ex3 _ h5) ?_
  rintro _ w6 ⟨rfl, h6, ho6⟩
  rw [exD] at h6 ⊢
  refine rs (mp rfl) rfl ?_
  refine rc (cl Try.call9 rfl rfl) rfl ?_
  refine cmono (tick_any b bl 3 1 ex4 _ h6) ?_
  rintro _ w7 ⟨rfl, h7, ho7⟩
  rw [exE] at h7 ⊢
  refine rs (ab rfl) rfl ?_
  refine rs (ab rfl) rfl ?_
  refine rs (ab rfl) rfl ?_
  refine rn ?_
  refine qn ?_
  refine Wseq ?_
  refine Wreg ?_
  refine rs (mb rfl) rfl ?_
  refine rs (ntf rfl) rfl ?_
  refine rs (mb rfl) rfl ?_
  refine rs (mb rfl) rfl ?_
  refine rs (ntf rfl) rfl ?_
  refine rs (pbt rfl rfl) rfl ?_
  refine rs (mb rfl) rfl ?_
  refine rs (mb rfl) rfl ?_
  refine rs (pbt rfl rfl) rfl ?_
  refine rs (mb rfl) rfl ?_
  refine rs (mb rfl) rfl ?_
  refine rs (ntf rfl) rfl ?_
  refine rs (pbt rfl rfl) rfl ?_
  refine rs (mb rfl) rfl ?_
  refine rs (mb rfl) rfl ?_
  refine rs (ntf rfl) rfl ?_
  refine rs (pbt rfl rfl) rfl ?_
  refine rs (mb rfl) rfl ?_
  refine rs (mb rfl) rfl ?_
  refine rs (pbt rfl rfl) rfl ?_
  refine rs (mb rfl) rfl ?_
  refine rs (mp rfl) rfl ?_
  refine rc (cl Try.call17 rfl rfl) rfl ?_
  refine cmono (epoch_any b bl 3 2 ex0 _ h7) ?_
  rintro _ w8 ⟨rfl, rfl⟩
  refine rs (eqt rfl rfl (by omega)) rfl ?_
  refine rs (pbt rfl rfl) rfl ?_
  refine rs (mb rfl) rfl ?_
  refine rs (mp rfl) rfl ?_
  refine rc (cl Try.call18 rfl rfl) rfl ?_
  refine cmono (whole_any b bl 3 2 ex0 _ h7) ?_
  rintro _ w8 ⟨rfl, ho8⟩
  rw [show decide ((idx missB ex0 0).length = 0) = false from rfl]
  refine rs (ntf rfl) rfl ?_
  refine rs (pbt rfl rfl) rfl ?_
  refine rs (ab rfl) rfl ?_
  refine rn ?_
  refine qn ?_
  refine Wret ?_
  refine f1b Try.results6 Try.ntmps6 rfl ?_
  exact ⟨_, rfl, rfl, ((((((ho1.trans ho2 hbn).trans ho3 hbn).trans ho4 (by simp)).trans ho5 hbn).trans ho6 hbn).trans ho7 hbn).trans ho8 (by simp)⟩

theorem Ints.isl {w : World} {base : Nat} {a : Option Addr} {c : Nat} {xs : List Int} (h : Ints w base (.slice a xs.length c) xs) : ISl w a xs := by
  intro k hk
  rcases h.2 with ⟨hv, h0⟩ | ⟨g, cap, cur, hv, _⟩
  · omega
  · injection hv with ha
    subst ha
    refine ⟨g, 0, rfl, fun i hi => ?_⟩
    have := World.ownsRow.cells h (g := g) rfl i (.int .i64 xs[i]) (by simp [hi])
    rwa [Addr.add_lit] at this
structure ActV where
  kd : Int
  wk : Int
  epo : Int
  li : Int
def ActV.c (a : ActV) : List Value := [.int .i64 a.kd, .int .i64 a.wk, .int .i64 a.epo, .int .i64 a.li]
def ActsAt (w : World) (a0 : Option Addr) (acts : List ActV) : Prop := RowsAt (fun a : ActV => [.int .i64 a.kd, .int .i64 a.wk, .int .i64 a.epo, .int .i64 a.li]) 4 w a0 acts

set_option maxHeartbeats 1000000 in
theorem acts_bad (workers patience : Int) (a0 : Option Addr) (cap : Nat) (acts : List ActV) (w : World) (hacts : ActsAt w a0 acts) (hlen : acts.length ≤ 9223372036854775807) (hg : ¬ (1 ≤ workers ∧ workers ≤ 64 ∧ 1 ≤ patience ∧ patience ≤ 10000)) :
  Calls Try.prog 3 #[.int .i64 workers, .int .i64 patience, .slice a0 acts.length cap] w (Ret fun v w' => v = .bool true ∧ Only [] w w') := by
  refine Center (args := [.int .i64 workers, .int .i64 patience, .slice a0 acts.length cap]) (l := [(0, .int .i64 workers), (1, .int .i64 patience), (2, .slice a0 acts.length cap)]) Try.func3 Try.ntmps3 rfl rfl rfl ?_
  refine Wseq ?_
  refine Wreg ?_
  refine rs (ab rfl) rfl ?_
  refine rn ?_
  refine qn ?_
  refine Wseq ?_
  refine Wseq ?_
  refine Wreg ?_
  refine rc (cl Try.call6 rfl rfl) rfl ?_
  refine cmono (awake_any _) ?_
  rintro _ w1 ⟨rfl, ho1⟩
  refine rs (ntt rfl) rfl ?_
  refine rs (mb rfl) rfl ?_
  refine rs (ms rfl) rfl ?_
  refine rs (ln rfl Try.underlying22) rfl ?_
  refine rsc (gt' rfl rfl) rfl (fun c1 => ?_) (fun c1 => ?_)
  · refine rs (pbf rfl rfl) rfl ?_
    refine rn ?_
    refine qn ?_
    refine Wct rfl ?_
    refine Wseq ?_
    refine Wreg ?_
    refine rc (cl Try.call6 rfl rfl) rfl ?_
    refine cmono (awake_any _) ?_
    rintro _ w2 ⟨rfl, ho2⟩
    refine rs (ab rfl) rfl ?_
    refine rn ?_
    refine qn ?_
    refine Wret ?_
    refine qr ?_
    refine f1b Try.results3 Try.ntmps3 rfl ?_
    exact ⟨_, rfl, rfl, ho1.trans ho2 (by simp)⟩
  · refine rs (pbf rfl rfl) rfl ?_
    refine rn ?_
    refine qn ?_
    refine Wcf rfl ?_
    refine Wskip ?_
    refine qn ?_
    refine Wseq ?_
    refine Wreg ?_
    refine rs (mi rfl) rfl ?_
    refine rs (mi rfl) rfl ?_
    refine rc (cl Try.call7 rfl rfl) rfl ?_
    refine cmono (new_any workers patience _) ?_
    rintro _ w2 ⟨hn, ho2⟩
    rw [if_neg hg] at hn
    subst hn
    refine rs (mtu rfl) rfl ?_
    refine rs (ext rfl rfl) rfl ?_
    refine rs (ext rfl rfl) rfl ?_
    refine rs (ap rfl) rfl ?_
    refine rs (ai rfl) rfl ?_
    refine rn ?_
    refine qn ?_
    refine Wseq ?_
    refine Wseq ?_
    refine Wreg ?_
    refine rs (mi rfl) rfl ?_
    refine rsc (lt' rfl rfl) rfl (fun c2 => ?_) (fun c2 => ?_)
    · refine rs (mb rfl) rfl ?_
      refine r0 rfl ?_
      refine r0 rfl ?_
      refine rs (pbt rfl rfl) rfl ?_
      refine rs (mb rfl) rfl ?_
      refine r0 rfl ?_
      refine r0 rfl ?_
      refine rs (pbt rfl rfl) rfl ?_
      refine rs (mb rfl) rfl ?_
      refine r0 rfl ?_
      refine r0 rfl ?_
      refine rs (pbt rfl rfl) rfl ?_
      refine rn ?_
      refine qn ?_
      refine Wct rfl ?_
      refine Wseq ?_
      refine Wreg ?_
      refine rs (mp rfl) rfl ?_
      refine rs (ept Try.underlying24 rfl rfl) rfl ?_
      refine rs (mb rfl) rfl ?_
      refine rs (mi rfl) rfl ?_
      refine rs (eqt rfl rfl (by rfl)) rfl ?_
      refine rs (pbt rfl rfl) rfl ?_
      refine rs (ab rfl) rfl ?_
      refine rn ?_
      refine qn ?_
      refine Wret ?_
      refine qr ?_
      refine f1b Try.results3 Try.ntmps3 rfl ?_
      exact ⟨_, rfl, rfl, ho1.trans ho2 (by simp)⟩
    · refine rs (mb rfl) rfl ?_
      refine rs (mi rfl) rfl ?_
      refine rsc (gt' rfl rfl) rfl (fun c3 => ?_) (fun c3 => ?_)
      · refine rs (pbf rfl rfl) rfl ?_
        refine rs (mb rfl) rfl ?_
        refine r0 rfl ?_
        refine r0 rfl ?_
        refine rs (pbt rfl rfl) rfl ?_
        refine rs (mb rfl) rfl ?_
        refine r0 rfl ?_
        refine r0 rfl ?_
        refine rs (pbt rfl rfl) rfl ?_
        refine rn ?_
        refine qn ?_
        refine Wct rfl ?_
        refine Wseq ?_
        refine Wreg ?_
        refine rs (mp rfl) rfl ?_
        refine rs (ept Try.underlying24 rfl rfl) rfl ?_
        refine rs (mb rfl) rfl ?_
        refine rs (mi rfl) rfl ?_
        refine rs (eqt rfl rfl (by rfl)) rfl ?_
        refine rs (pbt rfl rfl) rfl ?_
        refine rs (ab rfl) rfl ?_
        refine rn ?_
        refine qn ?_
        refine Wret ?_
        refine qr ?_
        refine f1b Try.results3 Try.ntmps3 rfl ?_
        exact ⟨_, rfl, rfl, ho1.trans ho2 (by simp)⟩
      · refine rs (pbf rfl rfl) rfl ?_
        refine rs (mb rfl) rfl ?_
        refine rs (mi rfl) rfl ?_
        refine rsc (lt' rfl rfl) rfl (fun c4 => ?_) (fun c4 => ?_)
        · refine rs (pbf rfl rfl) rfl ?_
          refine rs (mb rfl) rfl ?_
          refine r0 rfl ?_
          refine r0 rfl ?_
          refine rs (pbt rfl rfl) rfl ?_
          refine rn ?_
          refine qn ?_
          refine Wct rfl ?_
          refine Wseq ?_
          refine Wreg ?_
          refine rs (mp rfl) rfl ?_
          refine rs (ept Try.underlying24 rfl rfl) rfl ?_
          refine rs (mb rfl) rfl ?_
          refine rs (mi rfl) rfl ?_
          refine rs (eqt rfl rfl (by rfl)) rfl ?_
          refine rs (pbt rfl rfl) rfl ?_
          refine rs (ab rfl) rfl ?_
          refine rn ?_
          refine qn ?_
          refine Wret ?_
          refine qr ?_
          refine f1b Try.results3 Try.ntmps3 rfl ?_
          exact ⟨_, rfl, rfl, ho1.trans ho2 (by simp)⟩
        · refine rs (pbf rfl rfl) rfl ?_
          refine rs (mb rfl) rfl ?_
          refine rs (mi rfl) rfl ?_
          refine rsc (gt' rfl rfl) rfl (fun c5 => ?_) (fun c5 => ?_)
          · refine rs (pbf rfl rfl) rfl ?_
            refine rn ?_
            refine qn ?_
            refine Wct rfl ?_
            refine Wseq ?_
            refine Wreg ?_
            refine rs (mp rfl) rfl ?_
            refine rs (ept Try.underlying24 rfl rfl) rfl ?_
            refine rs (mb rfl) rfl ?_
            refine rs (mi rfl) rfl ?_
            refine rs (eqt rfl rfl (by rfl)) rfl ?_
            refine rs (pbt rfl rfl) rfl ?_
            refine rs (ab rfl) rfl ?_
            refine rn ?_
            refine qn ?_
            refine Wret ?_
            refine qr ?_
            refine f1b Try.results3 Try.ntmps3 rfl ?_
            exact ⟨_, rfl, rfl, ho1.trans ho2 (by simp)⟩
          · (exfalso; omega)

set_option maxHeartbeats 1000000 in
theorem acts_good (wn : Nat) (patience : Int) (a0 : Option Addr) (cap : Nat) (acts : List ActV) (w : World) (hacts : ActsAt w a0 acts) (hlen : acts.length ≤ 9223372036854775807) (hg : 1 ≤ wn ∧ wn ≤ 64 ∧ 1 ≤ patience ∧ patience ≤ 10000) :
  Calls Try.prog 3 #[.int .i64 (wn : Int), .int .i64 patience, .slice a0 acts.length cap] w (Ret fun v w' => v = .bool true ∧ Only [] w w') := by
  refine Center (args := [.int .i64 (wn : Int), .int .i64 patience, .slice a0 acts.length cap]) (l := [(0, .int .i64 (wn : Int)), (1, .int .i64 patience), (2, .slice a0 acts.length cap)]) Try.func3 Try.ntmps3 rfl rfl rfl ?_
  refine Wseq ?_
  refine Wreg ?_
  refine rs (ab rfl) rfl ?_
  refine rn ?_
  refine qn ?_
  refine Wseq ?_
  refine Wseq ?_
  refine Wreg ?_
  refine rc (cl Try.call6 rfl rfl) rfl ?_
  refine cmono (awake_any _) ?_
  rintro _ w1 ⟨rfl, ho1⟩
  refine rs (ntt rfl) rfl ?_
  refine rs (mb rfl) rfl ?_
  refine rs (ms rfl) rfl ?_
  refine rs (ln rfl Try.underlying22) rfl ?_
  refine rsc (gt' rfl rfl) rfl (fun c1 => ?_) (fun c1 => ?_)
  · refine rs (pbf rfl rfl) rfl ?_
    refine rn ?_
    refine qn ?_
    refine Wct rfl ?_
    refine Wseq ?_
    refine Wreg ?_
    refine rc (cl Try.call6 rfl rfl) rfl ?_
    refine cmono (awake_any _) ?_
    rintro _ w2 ⟨rfl, ho2⟩
    refine rs (ab rfl) rfl ?_
    refine rn ?_
    refine qn ?_
    refine Wret ?_
    refine qr ?_
    refine f1b Try.results3 Try.ntmps3 rfl ?_
    exact ⟨_, rfl, rfl, ho1.trans ho2 (by simp)⟩
  · refine rs (pbf rfl rfl) rfl ?_
    refine rn ?_
    refine qn ?_
    refine Wcf rfl ?_
    refine Wskip ?_
    refine qn ?_
    refine Wseq ?_
    refine Wreg ?_
    refine rs (mi rfl) rfl ?_
    refine rs (mi rfl) rfl ?_
    refine rc (cl Try.call7 rfl rfl) rfl ?_
    refine cmono (new_any wn patience _) ?_
    rintro _ w2 ⟨hn, ho2⟩
    rw [if_pos (by omega)] at hn
    obtain ⟨b, bl, hb, hbl, rfl, h2⟩ := hn
    have ho12 := ho1.trans ho2 (by simp)
    have s1 := ho1.size
    have s2 := ho2.size
    refine rs (mtu rfl) rfl ?_
    refine rs (ext rfl rfl) rfl ?_
    refine rs (ext rfl rfl) rfl ?_
    refine rs (ap rfl) rfl ?_
    refine rs (ai rfl) rfl ?_
    refine rn ?_
    refine qn ?_
    refine Wseq ?_
    refine Wseq ?_
    refine Wreg ?_
    refine rs (mi rfl) rfl ?_
    refine rs (ltf rfl rfl (by omega)) rfl ?_
    refine rs (mb rfl) rfl ?_
    refine rs (mi rfl) rfl ?_
    refine rs (gtf rfl rfl (by omega)) rfl ?_
    refine rs (pbf rfl rfl) rfl ?_
    refine rs (mb rfl) rfl ?_
    refine rs (mi rfl) rfl ?_
    refine rs (ltf rfl rfl (by omega)) rfl ?_
    refine rs (pbf rfl rfl) rfl ?_
    refine rs (mb rfl) rfl ?_
    refine rs (mi rfl) rfl ?_
    refine rs (gtf rfl rfl (by omega)) rfl ?_
    refine rs (pbf rfl rfl) rfl ?_
    refine rn ?_
    refine qn ?_
    refine Wcf rfl ?_
    refine Wskip ?_
    refine qn ?_
    refine Wseq ?_
    refine Wseq ?_
    refine Wreg ?_
    refine rs (mp rfl) rfl ?_
    refine rs (epf Try.underlying24 rfl rfl) rfl ?_
    refine rs (mb rfl) rfl ?_
    refine rs (mi rfl) rfl ?_
    refine rs (nef rfl rfl (by rfl)) rfl ?_
    refine rs (pbf rfl rfl) rfl ?_
    refine rn ?_
    refine qn ?_
    refine Wcf rfl ?_
    refine Wskip ?_
    refine qn ?_
    refine Wseq ?_
    refine Wreg ?_
    refine rs (mi rfl) rfl ?_
    refine rs (mi rfl) rfl ?_
    refine rc (cl Try.call8 rfl rfl) rfl ?_
    refine cmono (rnew_any wn patience _ (by omega)) ?_
    rintro _ w3 ⟨⟨q, q1, q2, q3, ⟨hq, hq1, hq2, hq3⟩, rfl, hQ3⟩, ho3'⟩
    have lb := h2.1.lt
    have lbl := h2.2.1.lt
    have h3 := h2.kept ho3' (by simp) (by simp)
    have ho3 := ho12.trans ho3' (by simp)
    refine rs (ap rfl) rfl ?_
    refine rn ?_
    refine qn ?_
    refine Wseq ?_
    refine Wseq ?_
    refine Wreg ?_
    refine rs (ai rfl) rfl ?_
    refine rn ?_
    refine qn ?_
    refine Wblk ?_
    refine Wloop [6, 10, 11, 12, 13, 14, 58, 59, 60, 61, 62, 63, 64, 65, 66, 67, 68, 69, 70, 71, 72, 73, 74, 75, 76, 77, 78, 79, 80, 81, 82, 83, 84, 85, 86, 87, 88, 89, 90, 91, 92, 93, 94, 95, 96, 97, 98, 99, 100, 101, 102, 103, 104, 105, 106, 107, 108, 109, 110, 111, 112, 113, 114, 115, 116, 117, 118, 119, 120, 121, 122, 123, 124, 125, 126, 127, 128, 129, 130, 131, 132, 133, 134, 135, 136, 137, 138, 139, 140, 141, 142, 143, 144, 145, 146, 147, 148, 149, 150, 151, 152, 153, 154, 155, 156, 157, 158, 159, 160, 161, 162, 163] [10] (fun m vs wr => ∃ (k : Nat) (ep : Int) (l : List One), k ≤ acts.length ∧ m = acts.length - k ∧ vs = [.int .i64 k] ∧ WatchAt wr b bl patience ep l ∧ RefAt wr q q1 q2 q3 patience ep l ∧ Only [] w wr) (acts.length) ?_ ?_
    · exact ⟨0, 1, List.replicate wn ⟨false, 0, 0⟩, by omega, by omega, rfl, h3, hQ3, ho3⟩
    · intro m vs u wr hJ
      obtain ⟨k, ep, l, hk, rfl, rfl, hW, hQ, ho⟩ := hJ
      refine Wseq ?_
      refine Wseq ?_
      refine Wreg ?_
      refine rs (mi rfl) rfl ?_
      refine rs (ms rfl) rfl ?_
      refine rs (ln rfl Try.underlying22) rfl ?_
      refine rsc (lt' rfl rfl) rfl (fun c2 => ?_) (fun c2 => ?_)
      · have hkn : k < acts.length := by omega
        obtain ⟨ba, oa, rfl, hba, hc⟩ := hacts k hkn
        refine rn ?_
        refine qn ?_
        refine Wct rfl ?_
        refine Wskip ?_
        refine qn ?_
        refine Wseq ?_
        refine Wblk ?_
        refine Wseq ?_
        refine Wreg ?_
        refine rs (ms rfl) rfl ?_
        refine rs (mi rfl) rfl ?_
        refine rs (ixom rfl rfl Try.underlying22 Try.sizeOf31 (by omega)) rfl ?_
        refine rs (ldg rfl Try.isAgg31 Try.sizeOf31 rfl (by exact fun j v hj => by rw [Addr.add_lit]; exact (ho.cell0 (x := ⟨ba, oa + k * 4 + j, none⟩) hba (by simp)).trans (hc k hkn j v hj))) rfl ?_
        refine rs (al Try.zeroValue31) rfl ?_
        refine ru (stg rfl rfl Try.sizeOf31 (by first | exact Blk.new _ _ _ | assumption) (by simp [Value.cells]) (by simp [Value.oneCell'])) rfl ?_
        refine rgen (fun w2 => Blk w2 wr.heap.size [.int .i64 acts[k].kd, .int .i64 acts[k].wk, .int .i64 acts[k].epo, .int .i64 acts[k].li] 31 ∧ Only [] wr w2) ⟨Blk.setRow (Blk.new _ _ _) _, ((Only.refl _ _).alloc _).setRow (.inr (Nat.le_refl _)) _⟩ ?_
        rintro wa ⟨hA, hoa⟩
        have lW := hW.1.lt
        have lWl := hW.2.1.lt
        have lQ := hQ.1.lt
        have lQ1 := hQ.2.1.lt
        have lQ2 := hQ.2.2.1.lt
        have lQ3 := hQ.2.2.2.1.lt
        have hWa := hW.kept hoa (by simp) (by simp)
        have hQa := hQ.kept hoa (by simp) (by simp) (by simp) (by simp)
        have hoa' := ho.trans hoa (by simp)
        have sa := hoa'.size
        refine rn ?_
        refine qn ?_
        refine Wseq ?_
        refine Wreg ?_
        refine rs (ab rfl) rfl ?_
        refine rn ?_
        refine qn ?_
        refine Wseqm [12, 68, 69, 70, 71, 72, 73, 74, 75, 76, 77, 78, 79, 80, 81, 82, 83, 84, 85, 86, 87, 88, 89, 90, 91, 92, 93, 94, 95, 96, 97, 98, 99, 100, 101, 102, 103, 104, 105, 106, 107, 108, 109, 110, 111, 112, 113, 114, 115, 116, 117, 118, 119, 120, 121, 122, 123, 124, 125] [12] (fun vs w' => vs = [.bool true] ∧ ∃ ep' l', WatchAt w' b bl patience ep' l' ∧ RefAt w' q q1 q2 q3 patience ep' l' ∧ Only [] w w') ?_ ?_
        · refine Wseq ?_
          refine Wreg ?_
          refine rs (by first | exact fa0 0 rfl Try.underlying31 rfl Try.sizeOf3 rfl rfl | exact fa 0 rfl Try.underlying31 rfl Try.sizeOf3 rfl rfl) rfl ?_
          refine rs (ld rfl Try.isAgg3 (by exact hA.cell rfl)) rfl ?_
          refine rn ?_
          refine qn ?_
          refine Wblk ?_
          refine Wseq ?_
          refine Wreg ?_
          refine rsc (eqd rfl rfl) rfl (fun c3 => ?_) (fun c3 => ?_)
          · refine rs (ab rfl) rfl ?_
            refine rn ?_
            refine qn ?_
            refine Wct rfl ?_
            refine Wreg ?_
            refine rs (mp rfl) rfl ?_
            refine rc (cl Try.call9 rfl rfl) rfl ?_
            refine cmono (tick_any b bl patience ep l _ hWa) ?_
            rintro _ w2 ⟨rfl, hW2, ho2'⟩
            refine rs (mp rfl) rfl ?_
            refine rc (cl Try.call10 rfl rfl) rfl ?_
            refine cmono (rtick_any q q1 q2 q3 patience ep l _ (hQa.kept ho2' (by simp; omega) (by simp; omega) (by simp; omega) (by simp; omega))) ?_
            rintro _ w3' ⟨rfl, hQ3', ho3''⟩
            refine rs (eqbt Try.underlying4 rfl rfl (by rfl)) rfl ?_
            refine rs (ab rfl) rfl ?_
            refine rn ?_
            refine bn ?_
            refine qn ?_
            exact ⟨⟨rfl, _, _, hW2.kept ho3'' (by simp; omega) (by simp; omega), hQ3', (hoa'.nil_trans ho2' (by simp; omega)).nil_trans ho3'' (by simp; omega)⟩, (kl rfl kb)⟩
          · refine rs (ab rfl) rfl ?_
            refine rn ?_
            refine qn ?_
            refine Wcf rfl ?_
            refine Wseq ?_
            refine Wreg ?_
            refine rsc (eqd rfl rfl) rfl (fun c4 => ?_) (fun c4 => ?_)
            · refine rs (ab rfl) rfl ?_
              refine rn ?_
              refine qn ?_
              refine Wct rfl ?_
              refine Wdrw (fun w' => Blk w' wr.heap.size [.int .i64 acts[k].kd, .int .i64 acts[k].wk, .int .i64 acts[k].epo, .int .i64 acts[k].li] 31) [0, 0, 2, 0, 8, 0, 32, 127, 0, 0, 512, 0, 2048, 0, 8192, 32767, 65535, 131071] 0 rfl (by kernel_rfl) (hA) ?_
              refine ds (fun w' hF => mp rfl) rfl ?_
              refine ds (fun w' hF => by first | exact fa0 1 rfl Try.underlying31 rfl Try.sizeOf3 rfl rfl | exact fa 1 rfl Try.underlying31 rfl Try.sizeOf3 rfl rfl) rfl ?_
              refine ds (fun w' hF => ld rfl Try.isAgg3 (by first | exact hF.cell rfl | assumption)) rfl ?_
              refine ds (fun w' hF => by first | exact fa0 2 rfl Try.underlying31 rfl Try.sizeOf3 rfl rfl | exact fa 2 rfl Try.underlying31 rfl Try.sizeOf3 rfl rfl) rfl ?_
              refine ds (fun w' hF => ld rfl Try.isAgg3 (by first | exact hF.cell rfl | assumption)) rfl ?_
              refine ds (fun w' hF => by first | exact fa0 3 rfl Try.underlying31 rfl Try.sizeOf3 rfl rfl | exact fa 3 rfl Try.underlying31 rfl Try.sizeOf3 rfl rfl) rfl ?_
              refine ds (fun w' hF => ld rfl Try.isAgg3 (by first | exact hF.cell rfl | assumption)) rfl ?_
              refine dc (cl Try.call11 rfl rfl) rfl rfl ?_
              refine cmono (beat_any b bl patience ep l acts[k].wk acts[k].epo acts[k].li _ hWa) ?_
              rintro _ w2 ⟨rfl, hW2, ho2⟩
              refine ⟨hA.drew.kept ho2 (by simp; omega), ?_⟩
              refine ds (fun w' hF => mp rfl) rfl ?_
              refine ds (fun w' hF => by first | exact fa0 1 rfl Try.underlying31 rfl Try.sizeOf3 rfl rfl | exact fa 1 rfl Try.underlying31 rfl Try.sizeOf3 rfl rfl) rfl ?_
              refine ds (fun w' hF => ld rfl Try.isAgg3 (by first | exact hF.cell rfl | assumption)) rfl ?_
              refine ds (fun w' hF => by first | exact fa0 2 rfl Try.underlying31 rfl Try.sizeOf3 rfl rfl | exact fa 2 rfl Try.underlying31 rfl Try.sizeOf3 rfl rfl) rfl ?_
              refine ds (fun w' hF => ld rfl Try.isAgg3 (by first | exact hF.cell rfl | assumption)) rfl ?_
              refine ds (fun w' hF => by first | exact fa0 3 rfl Try.underlying31 rfl Try.sizeOf3 rfl rfl | exact fa 3 rfl Try.underlying31 rfl Try.sizeOf3 rfl rfl) rfl ?_
              refine ds (fun w' hF => ld rfl Try.isAgg3 (by first | exact hF.cell rfl | assumption)) rfl ?_
              refine dc (cl Try.call12 rfl rfl) rfl rfl ?_
              refine cmono (rhear_any q q1 q2 q3 patience ep l false acts[k].wk acts[k].epo acts[k].li _ (hQa.drew.kept ho2 (by simp; omega) (by simp; omega) (by simp; omega) (by simp; omega))) ?_
              rintro _ w3 ⟨rfl, hQ3, ho3⟩
              refine ⟨(hA.drew.kept ho2 (by simp; omega)).kept ho3 (by simp; omega), ?_⟩
              refine ds (fun w' hF => eqbt Try.underlying4 rfl rfl (by rfl)) rfl ?_
              refine ds (fun w' hF => ab rfl) rfl ?_
              refine dn ?_
              refine bn ?_
              refine qn ?_
              exact ⟨⟨rfl, _, _, hW2.kept ho3 (by simp; omega) (by simp; omega), hQ3, (hoa'.drew.nil_trans ho2 (by simp; omega)).nil_trans ho3 (by simp; omega)⟩, (kl rfl kb)⟩
            · refine rs (ab rfl) rfl ?_
              refine rn ?_
              refine qn ?_
              refine Wcf rfl ?_
              refine Wseq ?_
              refine Wreg ?_
              refine rsc (eqd rfl rfl) rfl (fun c5 => ?_) (fun c5 => ?_)
              · refine rs (ab rfl) rfl ?_
                refine rn ?_
                refine qn ?_
                refine Wct rfl ?_
                refine Wdrw (fun w' => Blk w' wr.heap.size [.int .i64 acts[k].kd, .int .i64 acts[k].wk, .int .i64 acts[k].epo, .int .i64 acts[k].li] 31) [0, 0, 2, 0, 8, 0, 32, 127, 0, 0, 512, 0, 2048, 0, 8192, 32767, 65535, 131071] 0 rfl (by kernel_rfl) (hA) ?_
                refine ds (fun w' hF => mp rfl) rfl ?_
                refine ds (fun w' hF => by first | exact fa0 1 rfl Try.underlying31 rfl Try.sizeOf3 rfl rfl | exact fa 1 rfl Try.underlying31 rfl Try.sizeOf3 rfl rfl) rfl ?_
                refine ds (fun w' hF => ld rfl Try.isAgg3 (by first | exact hF.cell rfl | assumption)) rfl ?_
                refine ds (fun w' hF => by first | exact fa0 2 rfl Try.underlying31 rfl Try.sizeOf3 rfl rfl | exact fa 2 rfl Try.underlying31 rfl Try.sizeOf3 rfl rfl) rfl ?_
                refine ds (fun w' hF => ld rfl Try.isAgg3 (by first | exact hF.cell rfl | assumption)) rfl ?_
                refine ds (fun w' hF => by first | exact fa0 3 rfl Try.underlying31 rfl Try.sizeOf3 rfl rfl | exact fa 3 rfl Try.underlying31 rfl Try.sizeOf3 rfl rfl) rfl ?_
                refine ds (fun w' hF => ld rfl Try.isAgg3 (by first | exact hF.cell rfl | assumption)) rfl ?_
                refine dc (cl Try.call13 rfl rfl) rfl rfl ?_
                refine cmono (ready_any b bl patience ep l acts[k].wk acts[k].epo acts[k].li _ hWa) ?_
                rintro _ w2 ⟨rfl, hW2, ho2⟩
                refine ⟨hA.drew.kept ho2 (by simp; omega), ?_⟩
                refine ds (fun w' hF => mp rfl) rfl ?_
                refine ds (fun w' hF => by first | exact fa0 1 rfl Try.underlying31 rfl Try.sizeOf3 rfl rfl | exact fa 1 rfl Try.underlying31 rfl Try.sizeOf3 rfl rfl) rfl ?_
                refine ds (fun w' hF => ld rfl Try.isAgg3 (by first | exact hF.cell rfl | assumption)) rfl ?_
                refine ds (fun w' hF => by first | exact fa0 2 rfl Try.underlying31 rfl Try.sizeOf3 rfl rfl | exact fa 2 rfl Try.underlying31 rfl Try.sizeOf3 rfl rfl) rfl ?_
                refine ds (fun w' hF => ld rfl Try.isAgg3 (by first | exact hF.cell rfl | assumption)) rfl ?_
                refine ds (fun w' hF => by first | exact fa0 3 rfl Try.underlying31 rfl Try.sizeOf3 rfl rfl | exact fa 3 rfl Try.underlying31 rfl Try.sizeOf3 rfl rfl) rfl ?_
                refine ds (fun w' hF => ld rfl Try.isAgg3 (by first | exact hF.cell rfl | assumption)) rfl ?_
                refine dc (cl Try.call12 rfl rfl) rfl rfl ?_
                refine cmono (rhear_any q q1 q2 q3 patience ep l true acts[k].wk acts[k].epo acts[k].li _ (hQa.drew.kept ho2 (by simp; omega) (by simp; omega) (by simp; omega) (by simp; omega))) ?_
                rintro _ w3 ⟨rfl, hQ3, ho3⟩
                refine ⟨(hA.drew.kept ho2 (by simp; omega)).kept ho3 (by simp; omega), ?_⟩
                refine ds (fun w' hF => eqbt Try.underlying4 rfl rfl (by rfl)) rfl ?_
                refine ds (fun w' hF => ab rfl) rfl ?_
                refine dn ?_
                refine bn ?_
                refine qn ?_
                exact ⟨⟨rfl, _, _, hW2.kept ho3 (by simp; omega) (by simp; omega), hQ3, (hoa'.drew.nil_trans ho2 (by simp; omega)).nil_trans ho3 (by simp; omega)⟩, (kl rfl kb)⟩
              · refine rs (ab rfl) rfl ?_
                refine rn ?_
                refine qn ?_
                refine Wcf rfl ?_
                refine Wseq ?_
                refine Wreg ?_
                refine rsc (eqd rfl rfl) rfl (fun c6 => ?_) (fun c6 => ?_)
                · refine rs (ab rfl) rfl ?_
                  refine rn ?_
                  refine qn ?_
                  refine Wct rfl ?_
                  refine Wseq ?_
                  refine Wreg ?_
                  refine rs (mp rfl) rfl ?_
                  refine rc (cl Try.call14 rfl rfl) rfl ?_
                  refine cmono (rbump_any q q1 q2 q3 patience ep l _ hQa) ?_
                  rintro _ w2 ⟨hQ2, ho2'⟩
                  have hW2 := hWa.kept ho2' (by simp; omega) (by simp; omega)
                  refine rn ?_
                  refine qn ?_
                  refine Wdrw (fun w' => Blk w' q [.int .i64 patience, .int .i64 (St.bump ⟨ep, l⟩).ep, .slice (some ⟨q1, 0, none⟩) (St.bump ⟨ep, l⟩).l.length (St.bump ⟨ep, l⟩).l.length, .slice (some ⟨q2, 0, none⟩) (St.bump ⟨ep, l⟩).l.length (St.bump ⟨ep, l⟩).l.length, .slice (some ⟨q3, 0, none⟩) (St.bump ⟨ep, l⟩).l.length (St.bump ⟨ep, l⟩).l.length] 38) [0, 1, 0, 4, 12, 28, 63, 127] 0 rfl (by kernel_rfl) (hQ2.1) ?_
                  refine ds (fun w' hF => mp rfl) rfl ?_
                  refine dc (cl Try.call15 rfl rfl) rfl rfl ?_
                  refine cmono (bump_any b bl patience ep l _ hW2) ?_
                  rintro _ w3' ⟨rfl, hW3', ho3''⟩
                  refine ⟨Blk.kept (hQ2.1.drew) ho3'' (by simp; omega), ?_⟩
                  refine ds (fun w' hF => mp rfl) rfl ?_
                  refine ds (fun w' hF => nl rfl) rfl ?_
                  refine ds (fun w' hF => by first | exact fa0 1 rfl Try.underlying38 rfl Try.sizeOf3 rfl rfl | exact fa 1 rfl Try.underlying38 rfl Try.sizeOf3 rfl rfl) rfl ?_
                  refine ds (fun w' hF => ld rfl Try.isAgg3 (by first | exact hF.cell rfl | assumption)) rfl ?_
                  refine ds (fun w' hF => eqt rfl rfl (by rfl)) rfl ?_
                  refine ds (fun w' hF => ab rfl) rfl ?_
                  refine dn ?_
                  refine bn ?_
                  refine qn ?_
                  exact ⟨⟨rfl, _, _, hW3', RefAt.kept (w := World.drew _) hQ2 ho3'' (by simp; omega) (by simp; omega) (by simp; omega) (by simp; omega), ((hoa'.nil_trans ho2' (by simp; omega)).drew).nil_trans ho3'' (by simp; omega)⟩, (kl rfl kb)⟩
                · refine rs (ab rfl) rfl ?_
                  refine rn ?_
                  refine qn ?_
                  refine Wcf rfl ?_
                  refine Wskip ?_
                  refine bn ?_
                  refine qn ?_
                  exact ⟨⟨rfl, _, _, hWa, hQa, hoa'⟩, (kl rfl kb)⟩
        · intro vs u wc hJ
          obtain ⟨rfl, ep2, l2, hW, hQ, ho⟩ := hJ
          refine Wseq ?_
          refine Wreg ?_
          refine rs (mp rfl) rfl ?_
          refine rc (cl Try.call16 rfl rfl) rfl ?_
          refine cmono (lists_any q q1 q2 q3 patience ep2 l2 _ hQ) ?_
          rintro _ w5 ⟨⟨v1, v2, rfl, hv1, hv2⟩, ho5⟩
          have hW5 := hW.kept ho5 (by simp) (by simp)
          have hQ5 := hQ.kept ho5 (by simp) (by simp) (by simp) (by simp)
          have hoX := ho.trans ho5 (by simp)
          obtain ⟨a1, c1, rfl⟩ := hv1.slice
          obtain ⟨a2, c2, rfl⟩ := hv2.slice
          have hi1 := hv1.isl
          have hi2 := hv2.isl
          have hle1 := idx_len missB l2 0
          have hle2 := idx_len (lateB patience) l2 0
          have hl64 := hW.2.2.2
          refine rs (mtu rfl) rfl ?_
          refine rs (ext rfl rfl) rfl ?_
          refine rs (ext rfl rfl) rfl ?_
          refine rs (asl rfl) rfl ?_
          refine rs (asl rfl) rfl ?_
          refine rn ?_
          refine qn ?_
          refine Wseq ?_
          refine Wdrw (fun w' => Only [] w5 w') [0, 1, 3, 7, 15, 7, 39, 103, 231, 511, 1023, 2047, 4095, 8191, 4095, 20479, 53247, 131071, 262143, 524287, 1048575, 2097151, 1048575, 8388607, 16777215, 33554431, 67108863, 134217727, 268435455, 134217727, 1073741823, 2147483647, 4294967295] 0 rfl (by kernel_rfl) ((Only.refl _ _).drew) ?_
          refine ds (fun w' hF => mb rfl) rfl ?_
          refine ds (fun w' hF => ntt rfl) rfl ?_
          refine ds (fun w' hF => mb rfl) rfl ?_
          refine ds (fun w' hF => mp rfl) rfl ?_
          refine dc (cl Try.call17 rfl rfl) rfl rfl ?_
          refine cmono (epoch_any b bl patience ep2 l2 _ hW5.drew) ?_
          rintro _ _ ⟨rfl, rfl⟩
          refine ⟨(Only.refl _ _).drew, ?_⟩
          refine ds (fun w' hF => mp rfl) rfl ?_
          refine ds (fun w' hF => nl rfl) rfl ?_
          refine ds (fun w' hF => by first | exact fa0 1 rfl Try.underlying38 rfl Try.sizeOf3 rfl rfl | exact fa 1 rfl Try.underlying38 rfl Try.sizeOf3 rfl rfl) rfl ?_
          refine ds (fun w' hF => ld rfl Try.isAgg3 (by first | exact (hQ5.1.kept hF (by simp)).cell rfl | assumption)) rfl ?_
          refine ds (fun w' hF => nef rfl rfl (by rfl)) rfl ?_
          refine ds (fun w' hF => pbf rfl rfl) rfl ?_
          refine ds (fun w' hF => mb rfl) rfl ?_
          refine ds (fun w' hF => mp rfl) rfl ?_
          refine dc (cl Try.call18 rfl rfl) rfl rfl ?_
          refine cmono (whole_any b bl patience ep2 l2 _ hW5.drew) ?_
          rintro _ w6 ⟨rfl, ho6'⟩
          refine ⟨(Only.drew (Only.refl _ _)).trans ho6' (by simp), ?_⟩
          have ho6 : Only [] w5 w6 := (Only.drew (Only.refl _ _)).trans ho6' (by simp)
          refine ds (fun w' hF => ms rfl) rfl ?_
          refine ds (fun w' hF => ln rfl Try.underlying36) rfl ?_
          refine ds (fun w' hF => eqd rfl rfl) rfl ?_
          refine ds (fun w' hF => nebf Try.underlying4 rfl rfl (by simp)) rfl ?_
          refine ds (fun w' hF => pbf rfl rfl) rfl ?_
          refine ds (fun w' hF => mb rfl) rfl ?_
          refine ds (fun w' hF => mp rfl) rfl ?_
          refine dc (cl Try.call20 rfl rfl) rfl rfl ?_
          refine cmono (missing_list b bl patience ep2 l2 _ (hW5.kept ho6 (by simp) (by simp))) ?_
          rintro _ w7 ⟨hm1, ho7'⟩
          refine ⟨ho6.trans ho7' (by simp), ?_⟩
          have ho7 := ho6.trans ho7' (by simp)
          obtain ⟨a3, c3, rfl⟩ := hm1.slice
          refine ds (fun w' hF => ms rfl) rfl ?_
          refine dc (cl Try.call19 rfl rfl) rfl rfl ?_
          refine cmono (ints_any _ _ _ _ _ _ _ hm1.isl (hi1.kept ho7 (by simp)) (by omega)) ?_
          rintro _ w8 ⟨rfl, ho8'⟩
          refine ⟨ho7.trans ho8' (by simp), ?_⟩
          have ho8 := ho7.trans ho8' (by simp)
          rw [decide_eq_true rfl]
          refine ds (fun w' hF => ntt rfl) rfl ?_
          refine ds (fun w' hF => pbf rfl rfl) rfl ?_
          refine ds (fun w' hF => mb rfl) rfl ?_
          refine ds (fun w' hF => mp rfl) rfl ?_
          refine dc (cl Try.call21 rfl rfl) rfl rfl ?_
          refine cmono (late_list b bl patience ep2 l2 _ (hW5.kept ho8 (by simp) (by simp))) ?_
          rintro _ w9 ⟨hm2, ho9'⟩
          refine ⟨ho8.trans ho9' (by simp), ?_⟩
          have ho9 := ho8.trans ho9' (by simp)
          obtain ⟨a4, c4, rfl⟩ := hm2.slice
          refine ds (fun w' hF => ms rfl) rfl ?_
          refine dc (cl Try.call19 rfl rfl) rfl rfl ?_
          refine cmono (ints_any _ _ _ _ _ _ _ hm2.isl (hi2.kept ho9 (by simp)) (by omega)) ?_
          rintro _ wz ⟨rfl, hoz'⟩
          refine ⟨ho9.trans hoz' (by simp), ?_⟩
          have hoz := ho9.trans hoz' (by simp)
          rw [decide_eq_true rfl]
          refine ds (fun w' hF => ntt rfl) rfl ?_
          refine ds (fun w' hF => pbf rfl rfl) rfl ?_
          refine dn ?_
          refine qn ?_
          refine Wcf rfl ?_
          refine Wskip ?_
          refine bn ?_
          refine qn ?_
          refine Wreg ?_
          refine rs (mi rfl) rfl ?_
          refine rs (ad rfl rfl (rfl : (k : Int) + 1 = ((k + 1 : Nat) : Int)) (by omega)) rfl ?_
          refine rs (ai rfl) rfl ?_
          refine rn ?_
          refine qn ?_
          exact ⟨acts.length - (k + 1), by omega, ⟨k + 1, ep2, l2, by omega, rfl, rfl, hW5.kept hoz (by simp) (by simp), hQ5.kept hoz (by simp) (by simp) (by simp) (by simp), hoX.trans hoz (by simp)⟩, (kl rfl (km rfl (kl rfl k0)))⟩
      · refine rn ?_
        refine qn ?_
        refine Wcf rfl ?_
        refine Wexit ?_
        refine qx ?_
        refine qx ?_
        refine be ?_
        refine qn ?_
        refine Wseq ?_
        refine Wreg ?_
        refine rs (ab rfl) rfl ?_
        refine rn ?_
        refine qn ?_
        refine Wret ?_
        refine f1b Try.results3 Try.ntmps3 rfl ?_
        exact ⟨_, rfl, rfl, ho⟩

theorem beatActs_any (workers patience : Int) (a0 : Option Addr) (cap : Nat) (acts : List ActV) (w : World) (hacts : ActsAt w a0 acts) (hlen : acts.length ≤ 9223372036854775807) :
    Calls Try.prog 3 #[.int .i64 workers, .int .i64 patience, .slice a0 acts.length cap] w (Ret fun v w' => v = .bool true ∧ Only [] w w') := by
  by_cases hg : 1 ≤ workers ∧ workers ≤ 64 ∧ 1 ≤ patience ∧ patience ≤ 10000
  · obtain ⟨k, rfl⟩ := Int.eq_ofNat_of_zero_le (by omega : 0 ≤ workers)
    exact acts_good k patience a0 cap acts w hacts hlen (by omega)
  · exact acts_bad workers patience a0 cap acts w hacts hlen hg

end Go.Proofs.Ytmphbmocpiolfaa
