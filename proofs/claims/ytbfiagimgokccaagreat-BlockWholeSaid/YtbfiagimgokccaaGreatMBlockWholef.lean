/- What the law needs. -/
import Derived.Test.YtbfiagimgokccaaGreatMBlockWholea
import Derived.Test.YtbfiagimgokccaaGreatProg
section
namespace Go.Proofs.YtbfiagimgokccaaGreat
open Go Go.RowKit Go.Hp
set_option linter.unusedVariables false
set_option maxRecDepth 100000
theorem chunk_any {a : Option Addr} {n q : Nat} {wd : Int} (hw : 1 ≤ wd) {Fr : List HP} {w : World} {K : Value → World → Prop} (hc : Ctx w Fr)
    (k : ∀ b1 b2 w', Ctx w' (B b2 [.int .i64 wd] 3 :: B b1 [.slice a n q] 30 :: Fr) → K (.func (.func 100) #[] #[.pointer (some ⟨b1, 0, none⟩), .pointer (some ⟨b2, 0, none⟩)]) w') :
    Calls Tryz.prog 72 #[.slice a n q, .int .i64 wd] w (Ret K) := by
  refine Center (args := [.slice a n q, .int .i64 wd]) (l := [(0, .slice a n q), (1, .int .i64 wd)]) Tryz.func72 Tryz.ntmps72 rfl rfl rfl ?_
  refine Wseq (Wreg ?_); refine rsE (Ctx.boxOp (cs := [.slice a n q]) (v := .slice a n q) hc rfl rfl) rfl ?_; clear hc; rintro _ w1 ⟨b1, rfl, hc⟩
  refine rsE (Ctx.boxOp (cs := [.int .i64 wd]) (v := .int .i64 wd) hc rfl rfl) rfl ?_; clear hc; rintro _ w2 ⟨b2, rfl, hc⟩
  refine rA .nilFunc rfl rfl ?_; refine rn (qn (Wseq (Wseq (Wreg ?_)))); refine rs (ld rfl Tryz.isAgg3 (Ctx.cell hc (k := 0) rfl rfl (i := 0) rfl)) rfl ?_
  refine rs (ltf rfl rfl (by omega)) rfl ?_; refine rn (qn (Wcf rfl (Wskip (qn (Wseq (Wreg ?_)))))); refine rs (mkf rfl rfl) rfl ?_
  refine rA (.func (.func 100) #[] #[.pointer (some ⟨b1, 0, none⟩), .pointer (some ⟨b2, 0, none⟩)]) rfl rfl ?_; refine rn (qn (Wret ?_))
  refine f1 (v := .func (.func 100) #[] #[.pointer (some ⟨b1, 0, none⟩), .pointer (some ⟨b2, 0, none⟩)]) Tryz.results72 Tryz.ntmps72 rfl ?_
  exact ⟨_, rfl, k _ _ _ hc⟩
theorem chunk_it {b1 b2 r : Nat} {a : Option Addr} {n q : Nat} {wd : Nat} {rc : Loop} (h1 : 1 ≤ wd) (hn : n < 4611686018427387904) (hwd : wd < 4611686018427387904) (hq : n ≤ q) (hsz : rc.params.size = 1) (J : Nat → World → Prop)
    (hd : ∀ i w, J i w → J i w.drew)
    (hcell : ∀ i w, J i w → w.cell? ⟨b1, 0, none⟩ = some (.slice a n q) ∧ w.cell? ⟨b2, 0, none⟩ = some (.int .i64 (wd : Int)) ∧ w.heap[r]? = some (.loop rc))
    (hy : ∀ i w, i < n → J i w → RoundIn Fence.wide 0 Tryz.prog r rc.fn ((rc.params.zip #[.slice (if i + min wd (n - i) = i then a else a.map (·.add (i * 1))) (i + min wd (n - i) - i) (i + min wd (n - i) - i)]).foldl (fun tmps (t, a) => tmps.setIfInBounds t a) rc.tmps) rc.assign rc.body w
      fun e w' => e = .returned (.bool true) ∧ J (i + wd) w') {w : World} (h0 : J 0 w) :
    CallsIn Fence.wide 0 Tryz.prog 100 #[.func (.yield r) #[] #[], .pointer (some ⟨b1, 0, none⟩), .pointer (some ⟨b2, 0, none⟩)] w fun e w' => e = .returned (.tuple #[]) ∧ ∃ i, n ≤ i ∧ J i w' := by
  refine CenterM (args := [.func (.yield r) #[] #[], .pointer (some ⟨b1, 0, none⟩), .pointer (some ⟨b2, 0, none⟩)]) (l := [(0, .func (.yield r) #[] #[]), (1, .pointer (some ⟨b1, 0, none⟩)), (2, .pointer (some ⟨b2, 0, none⟩))]) Tryz.func100 Tryz.ntmps100 rfl rfl rfl ?_
  refine WiSeq (Wi_of (Wreg ?_)); refine rA (.int .i64 0) rfl rfl ?_; refine rn (qn (WiBlk ?_))
  refine WiLoop (fun m ds l b w => ds = [] ∧ ∃ i : Nat, [0, 1, 2, 4].map (Go.Hp.look l b) = [.func (.yield r) #[] #[], .pointer (some ⟨b1, 0, none⟩), .pointer (some ⟨b2, 0, none⟩), .int .i64 (i : Int)] ∧ m = n - i ∧ i < n + wd ∧ J i w) n ⟨rfl, 0, rfl, rfl, by omega, h0⟩ ?_
  rintro m ds l b w1 ⟨rfl, i, hv, rfl, hi, hJ⟩
  refine WiSlots [0, 1, 2, 4] hv ?_
  obtain ⟨c1, c2, c3⟩ := hcell _ _ hJ
  refine WiSeq (WiSeq (Wi_of (Wreg ?_))); refine rM (.int .i64 (i : Int)) rfl rfl ?_; refine rs (ld rfl Tryz.isAgg30 c1) rfl ?_; refine rs (ln rfl Tryz.underlying30) rfl ?_; refine rs (lt' rfl rfl) rfl ?_
  cases hb : (decide ((i : Int) < ((n : Nat) : Int)))
  · have hge := of_decide_eq_false hb
    refine rn (qn (WiCf rfl (WiExit ?_)))
    refine qx (qx (be ?_))
    exact m0n Tryz.results100 ⟨rfl, i, by omega, hJ⟩
  · have hlt := of_decide_eq_true hb
    refine rn (qn (WiCt rfl (WiSkip (qn ?_))))
    have hJ2 := hd _ _ hJ
    refine WiSeq (WiBlk (WiSeq (Wi_of ?_)))
    refine Wdrw (fun _ w' => w' = World.drew w1) [0, 0, 0, 6, 14, 31, 63] 0 0 rfl (by kernel_rfl) (fun _ _ => rfl) ?_
    generalize hw : World.drew w1 = w2 at *
    obtain ⟨d1, d2, d3⟩ := hcell _ _ hJ2
    refine dE (ld rfl Tryz.isAgg3 d2) rfl rfl ?_; refine dE (ld rfl Tryz.isAgg30 d1) rfl rfl ?_; refine dM (.int .i64 (i : Int)) rfl rfl rfl ?_
    refine dE (run_sub (lo := some (.tmp 15)) (hi := none) (li := some (i : Int)) (hi' := none) rfl ⟨_, rfl⟩ trivial Tryz.underlying30 Tryz.sizeOf88 (by simp only [lohi]; omega) hq) rfl rfl ?_
    refine dE (ln rfl Tryz.underlying30) rfl rfl ?_
    have e : min (wd : Int) ((((lohi n (some (i : Int)) none).2.toNat - (lohi n (some (i : Int)) none).1.toNat : Nat)) : Int) = ((min wd (n - i) : Nat) : Int) := by simp only [lohi]; omega
    refine dE (v := .int .i64 ((min wd (n - i) : Nat) : Int)) (by rw [← e]; exact bmn rfl rfl Tryz.underlying3) rfl rfl ?_
    refine dA (.int .i64 ((min wd (n - i) : Nat) : Int)) rfl rfl rfl ?_
    refine dn (qn (WiSeq (WiReg ?_)))
    refine riS (v := .func (.yield r) #[] #[]) free_wide (fun _ h => by cases h) (mv rfl) rfl ?_
    refine riS free_wide (fun _ h => by cases h) (ld rfl Tryz.isAgg30 d1) rfl ?_
    refine riS (v := .int .i64 (i : Int)) free_wide (fun _ h => by cases h) (mv rfl) rfl ?_
    refine riS (v := .int .i64 (i : Int)) free_wide (fun _ h => by cases h) (mv rfl) rfl ?_
    refine riS (v := .int .i64 ((min wd (n - i) : Nat) : Int)) free_wide (fun _ h => by cases h) (mv rfl) rfl ?_
    refine riS (v := .int .i64 ((i + min wd (n - i) : Nat) : Int)) free_wide (fun _ h => by cases h) (ad rfl rfl (by omega) (by omega)) rfl ?_
    refine riS (v := .int .i64 (i : Int)) free_wide (fun _ h => by cases h) (mv rfl) rfl ?_
    refine riS (v := .int .i64 ((min wd (n - i) : Nat) : Int)) free_wide (fun _ h => by cases h) (mv rfl) rfl ?_
    refine riS (v := .int .i64 ((i + min wd (n - i) : Nat) : Int)) free_wide (fun _ h => by cases h) (ad rfl rfl (by omega) (by omega)) rfl ?_
    refine riS (v := .slice (if i + min wd (n - i) = i then a else a.map (·.add (i * 1))) (i + min wd (n - i) - i) (i + min wd (n - i) - i)) free_wide (fun _ h => by cases h)
      (by refine (run_sub3v (l := (i : Int)) (h := ((i + min wd (n - i) : Nat) : Int)) (k := ((i + min wd (n - i) : Nat) : Int)) (a := a) (n := n) (q := q) rfl ⟨_, rfl⟩ ⟨_, rfl⟩ ⟨_, rfl⟩ Tryz.underlying30 Tryz.sizeOf88 (by omega) (by omega)).trans ?_
          simp only [Int.toNat_natCast]; rfl) rfl ?_
    refine riY free_wide (fun _ h => by cases h) (cy (vs := [.slice (if i + min wd (n - i) = i then a else a.map (·.add (i * 1))) (i + min wd (n - i) - i) (i + min wd (n - i) - i)]) rfl rfl d3 hsz.symm rfl) rfl (hy _ _ (by omega) hJ2) ?_
    intro w3 hJ3
    obtain ⟨f1', f2', f3'⟩ := hcell _ _ hJ3
    refine riS (v := .bool false) free_wide (fun _ h => by cases h) (ntt rfl) rfl ?_
    refine riN (qn (WiCf rfl (WiSkip (bn (qn (Wi_of (Wreg ?_)))))))
    refine rM (.int .i64 (i : Int)) rfl rfl ?_; refine rs (ld rfl Tryz.isAgg3 f2') rfl ?_; refine rs (v := .int .i64 ((i + wd : Nat) : Int)) (ad rfl rfl (by omega) (by omega)) rfl ?_
    refine rA (.int .i64 ((i + wd : Nat) : Int)) rfl rfl ?_
    exact rn (qn ⟨n - (i + wd), by omega, rfl, i + wd, rfl, rfl, by omega, hJ3⟩)
end Go.Proofs.YtbfiagimgokccaaGreat
end
