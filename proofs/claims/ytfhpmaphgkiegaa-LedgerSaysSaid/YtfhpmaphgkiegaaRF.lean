/- What is generated; weights that are made: the document's, in closed forms. -/
import Derived.Test.YtfhpmaphgkiegaaRE
namespace Go.Proofs.Ytfhpmaphgkiegaa
open Go Go.Hp
set_option linter.unusedVariables false
set_option linter.unusedSimpArgs false
set_option linter.unusedSectionVars false
-- the greatest
def argS (y : List Int) : Nat → Nat
  | 0 => 0
  | k + 1 => if y.getD k 0 > y.getD (argS y k) 0 then k else argS y k
theorem argS_props (y : List Int) : ∀ k, (∀ j, j < k → y.getD j 0 ≤ y.getD (argS y k) 0) ∧ (∀ j, j < argS y k → y.getD j 0 < y.getD (argS y k) 0) ∧ (argS y k = 0 ∨ argS y k < k)
  | 0 => ⟨fun j hj => by omega, fun j hj => by simp [argS] at hj, .inl rfl⟩
  | k + 1 => by
    obtain ⟨a, b, c⟩ := argS_props y k
    rw [argS]
    by_cases h : y.getD k 0 > y.getD (argS y k) 0
    · rw [if_pos h]
      refine ⟨fun j hj => ?_, fun j hj => ?_, .inr (by omega)⟩
      · by_cases e : j = k
        · subst e; omega
        · have := a j (by omega); omega
      · have := a j hj; omega
    · rw [if_neg h]
      refine ⟨fun j hj => ?_, b, by omega⟩
      by_cases e : j = k
      · subst e; omega
      · exact a j (by omega)
theorem argS_lt (y : List Int) (h : 0 < y.length) : argS y y.length < y.length := by
  obtain ⟨_, _, c⟩ := argS_props y y.length
  omega
def topOk (y : List Int) (j : Nat) : Nat → Bool
  | 0 => true
  | k + 1 => if y.getD k 0 > y.getD j 0 then false else topOk y j k
theorem topOk_iff (y : List Int) (j : Nat) : ∀ k, topOk y j k = true ↔ ∀ i, i < k → y.getD i 0 ≤ y.getD j 0
  | 0 => by simp [topOk]
  | k + 1 => by
    rw [topOk]
    by_cases h : y.getD k 0 > y.getD j 0
    · rw [if_pos h]
      exact ⟨fun e => (by cases e), fun e => by have := e k (by omega); omega⟩
    · rw [if_neg h, topOk_iff y j k]
      exact ⟨fun e i hi => by
        by_cases q : i = k
        · subst q; omega
        · exact e i (by omega), fun e i hi => e i (by omega)⟩
theorem argmax_is {N : Nat} (y : List Int) (h0 : 0 < y.length) (hl : y.length ≤ 200) (hN : 200 < N) : ref01_Argmax N y = some ((argS y y.length : Nat) : Int) := by
  have hA := argS_lt y h0
  obtain ⟨a, b, c⟩ := argS_props y y.length
  have step : ∀ m j, j < y.length → ref01_Argmax.L1 N y (m + 1) (j : Int) = if topOk y j y.length = true then some (j : Int) else ref01_Argmax.L1 N y m ((j + 1 : Nat) : Int) := by
    intro m j hj
    rw [ref01_Argmax.L1, if_pos (by omega)]
    refine loop_c (fun q (s : Bool) i => ref01_Argmax.L2 y (j : Int) (ref01_Argmax.L1 N y m) q s i) (fun i => topOk y j i) y.length _ (fun q i hi => ?_) (fun q => ?_) N (by omega)
    · show ref01_Argmax.L2 y _ _ (q + 1) _ (i : Int) = _
      rw [ref01_Argmax.L2, if_pos (by omega), idx_d y 0 hi, Option.bind_some, idx_d y 0 hj, Option.bind_some, topOk]
      by_cases g : y.getD i 0 > y.getD j 0
      · rw [if_pos g, if_pos g, ref01_Argmax.J3, W_succ i (by omega)]
      · rw [if_neg g, if_neg g, ref01_Argmax.J3, W_succ i (by omega)]
    · show ref01_Argmax.L2 y _ _ (q + 1) _ (y.length : Int) = _
      rw [ref01_Argmax.L2, if_neg (by omega), W_succ j (by omega)]
  unfold ref01_Argmax
  refine loop_c (fun m (_ : Unit) i => ref01_Argmax.L1 N y m i) (fun _ => ()) (argS y y.length) _ (fun m i hi => ?_) (fun m => ?_) N (by omega)
  · show ref01_Argmax.L1 N y (m + 1) (i : Int) = ref01_Argmax.L1 N y m _
    rw [step m i (by omega), if_neg (fun e => by have := (topOk_iff y i y.length).1 e _ hA; have := b i hi; omega)]
  · show ref01_Argmax.L1 N y (m + 1) ((argS y y.length : Nat) : Int) = _
    rw [step m _ hA, if_pos ((topOk_iff y _ _).2 a)]
-- what is generated
def genS (d : Dim) (w : S_api_Weights) (p : List Nat) : Nat → List Nat
  | 0 => []
  | i + 1 => genS d w p i ++ [argS (lastS d w [] [] (p ++ genS d w p i)) d.voc]
theorem genS_len (d : Dim) (w : S_api_Weights) (p : List Nat) : ∀ i, (genS d w p i).length = i
  | 0 => rfl
  | i + 1 => by rw [genS, len_app1, genS_len]
theorem lastS_any (d : Dim) (w : S_api_Weights) (L : List S_ref08_Kept) (y z : List Int) : ∀ ts : List Nat, ts ≠ [] → lastS d w L y ts = lastS d w L z ts
  | [], h => absurd rfl h
  | t :: ts, _ => rfl
section
variable {d : Dim} (hd : DOK d)
include hd
theorem genS_lt (w : S_api_Weights) (p : List Nat) (hp : p ≠ []) : ∀ i, ∀ t ∈ genS d w p i, t < d.voc
  | 0, t, h => by simp [genS] at h
  | i + 1, t, h => by
    rw [genS] at h
    rcases List.mem_append.1 h with h | h
    · exact genS_lt w p hp i t h
    · rw [List.mem_singleton] at h
      have hl := lastS_len hd w (p ++ genS d w p i) [] [] (.inl (by simp [hp]))
      have := argS_lt (lastS d w [] [] (p ++ genS d w p i)) (by rw [hl]; exact hd.voc.1)
      rw [hl] at this
      rw [h]; exact this
def gFed (d : Dim) (w : S_api_Weights) (p : List Nat) : Nat → List Nat
  | 0 => []
  | i + 1 => p ++ genS d w p i
def gFeed (d : Dim) (w : S_api_Weights) (p : List Nat) : Nat → List Nat
  | 0 => p
  | i + 1 => [argS (lastS d w [] [] (p ++ genS d w p i)) d.voc]
theorem gFed_app (w : S_api_Weights) (p : List Nat) : ∀ i, gFed d w p i ++ gFeed d w p i = p ++ genS d w p i
  | 0 => by simp [gFed, gFeed, genS]
  | i + 1 => by rw [gFed, gFeed, genS, List.append_assoc]
theorem generate_is {N : Nat} (hN : 200 < N) {w : S_api_Weights} (hw : WOK d w) (p : List Nat) (hp : p ≠ []) (hpv : ∀ t ∈ p, t < d.voc) (most : Nat) (hm : p.length + most ≤ d.pl + 1) (hm0 : 0 < most) :
    ref09_Generate N w (toks p) (most : Int) = some (toks (genS d w p most)) := by
  have hpl := hd.pl
  have hp0 : 0 < p.length := List.length_pos_iff.2 hp
  unfold ref09_Generate
  refine loop_c (fun m (s : S_ref08_Run × List Int × List Int) i => ref09_Generate.L1 N (most : Int) m s.1 s.2.1 s.2.2 i) (fun i => (⟨w, stS d w [] (gFed d w p i)⟩, toks (genS d w p i), toks (gFeed d w p i))) most _ (fun m i hi => ?_) (fun m => ?_) N (by omega)
  · show ref09_Generate.L1 N (most : Int) (m + 1) ⟨w, stS d w [] (gFed d w p i)⟩ (toks (genS d w p i)) (toks (gFeed d w p i)) (i : Int) = ref09_Generate.L1 N (most : Int) m ⟨w, stS d w [] (gFed d w p (i + 1))⟩ (toks (genS d w p (i + 1))) (toks (gFeed d w p (i + 1))) ((i + 1 : Nat) : Int)
    have hgl := genS_len d w p i
    have happ := gFed_app hd w p i
    have hll : (gFed d w p i).length + (gFeed d w p i).length = p.length + i := by
      have := congrArg List.length happ
      simpa [hgl] using this
    have hfe : gFeed d w p i ≠ [] := by cases i with | zero => exact hp | succ i => simp [gFeed]
    have hfv : ∀ t ∈ gFeed d w p i, t < d.voc := by
      intro t ht
      have : t ∈ gFed d w p i ++ gFeed d w p i := List.mem_append_right _ ht
      rw [happ] at this
      rcases List.mem_append.1 this with h | h
      · exact hpv t h
      · exact genS_lt hd w p hp i t h
    have hst := stS_len d w (gFed d w p i) []
    simp only [List.length_nil] at hst
    have hy : lastS d w (stS d w [] (gFed d w p i)) [] (gFeed d w p i) = lastS d w [] [] (p ++ genS d w p i) := by
      rw [← happ, lastS_app]; exact lastS_any d w _ _ _ _ hfe
    have hyl := lastS_len hd w (p ++ genS d w p i) [] [] (.inl (by simp [hp]))
    rw [ref09_Generate.L1, if_pos (by omega), feed_is hd hN hw _ (by omega) (stS_ok hd hw _ [] (by simp)) _ hfv (by omega), Option.bind_some, if_neg (by omega), hy]
    show (ref01_Argmax N (lastS d w [] [] (p ++ genS d w p i))).bind _ = _
    rw [argmax_is _ (by rw [hyl]; exact hd.voc.1) (by rw [hyl]; have := hd.voc; omega) hN, Option.bind_some, app_ok _ _ (by rw [toks_len, hgl]; simp only [List.length_cons, List.length_nil]; omega), Option.bind_some, W_succ i (by omega), hyl]
    have e1 : stS d w (stS d w [] (gFed d w p i)) (gFeed d w p i) = stS d w [] (gFed d w p (i + 1)) := by rw [← stS_app, happ]; rfl
    have e2 : toks (genS d w p i) ++ [((argS (lastS d w [] [] (p ++ genS d w p i)) d.voc : Nat) : Int)] = toks (genS d w p (i + 1)) := by rw [genS, toks_app]; rfl
    rw [e2]
    show ref09_Generate.L1 N (most : Int) m ⟨w, stS d w (stS d w [] (gFed d w p i)) (gFeed d w p i)⟩ _ _ _ = _
    rw [e1]
    rfl
  · show ref09_Generate.L1 N (most : Int) (m + 1) _ _ _ (most : Int) = _
    rw [ref09_Generate.L1, if_neg (by omega)]
end
-- shapes and weights out of raw numbers
theorem rest7_is (x : Int) (m : Nat) (h : 0 < m) (hb : m ≤ 1000) : ∃ k : Nat, k < m ∧ ref07_rest x (m : Int) = some (k : Int) := by
  obtain ⟨k, hk, e⟩ := W_restN x m h (by omega)
  refine ⟨k, hk, ?_⟩
  unfold ref07_rest
  rw [chk_ok _ (by omega), chk_ok _ (by omega), e, Option.bind_some]
def shapeS (d : Dim) : S_api_Shape := ⟨(d.ly : Int), ((d.w : Nat) : Int), (d.h : Int), (d.inn : Int), (d.voc : Int), (d.pl : Int)⟩
theorem tiny_is (n : A6_i64) : ∃ d : Dim, DOK d ∧ 2 ≤ d.voc ∧ 4 ≤ d.pl ∧ ref07_Tiny n = some (shapeS d) := by
  obtain ⟨a, ha, ea⟩ := rest7_is n.c2 3 (by decide) (by decide)
  obtain ⟨b, hb, eb⟩ := rest7_is n.c0 3 (by decide) (by decide)
  obtain ⟨c, hc, ec⟩ := rest7_is n.c1 2 (by decide) (by decide)
  obtain ⟨e, he, ee⟩ := rest7_is n.c3 8 (by decide) (by decide)
  obtain ⟨f, hf, ef⟩ := rest7_is n.c4 9 (by decide) (by decide)
  obtain ⟨g, hg, eg⟩ := rest7_is n.c5 9 (by decide) (by decide)
  have hh : ∃ h : Nat, 0 < h ∧ h ≤ 4 ∧ idx ([1, 2, 4] : List Int) (a : Int) = some (h : Int) := by
    match a, ha with
    | 0, _ => exact ⟨1, by decide, by decide, rfl⟩
    | 1, _ => exact ⟨2, by decide, by decide, rfl⟩
    | 2, _ => exact ⟨4, by decide, by decide, rfl⟩
  obtain ⟨h, h0, h4, eh⟩ := hh
  have hw : h * (2 * (1 + c)) ≤ 4 * 4 := Nat.mul_le_mul h4 (by omega)
  refine ⟨⟨1 + b, h, 2 * (1 + c), 1 + e, 2 + f, 4 + g⟩, ⟨by dsimp only; omega, by dsimp only; omega, by dsimp only; omega, hw, by dsimp only; omega, by dsimp only; omega, by dsimp only; omega⟩, by dsimp only; omega, by dsimp only; omega, ?_⟩
  have ea' : ref07_rest n.c2 3 = some (a : Int) := ea
  have eb' : ref07_rest n.c0 3 = some (b : Int) := eb
  have ec' : ref07_rest n.c1 2 = some (c : Int) := ec
  have ee' : ref07_rest n.c3 8 = some (e : Int) := ee
  have ef' : ref07_rest n.c4 9 = some (f : Int) := ef
  have eg' : ref07_rest n.c5 9 = some (g : Int) := eg
  unfold ref07_Tiny
  rw [ea', Option.bind_some, eh, Option.bind_some, eb', Option.bind_some, ec', Option.bind_some, ee', Option.bind_some, ef', Option.bind_some, eg', Option.bind_some]
  have e1 : IntKind.i64.wrap (1 + (b : Int)) = ((1 + b : Nat) : Int) := by rw [W_in (by omega)]; omega
  have e2 : IntKind.i64.wrap (IntKind.i64.wrap (2 * (h : Int)) * IntKind.i64.wrap (1 + (c : Int))) = ((h * (2 * (1 + c)) : Nat) : Int) := by
    rw [W_in (x := 2 * (h : Int)) (by omega), W_in (x := 1 + (c : Int)) (by omega)]
    have : 2 * (h : Int) * (1 + (c : Int)) = ((h * (2 * (1 + c)) : Nat) : Int) := by
      rw [Int.natCast_mul, Int.natCast_mul, Int.natCast_add, Int.mul_comm 2 (h : Int), Int.mul_assoc]; rfl
    rw [this, W_in (by omega)]
  have e3 : IntKind.i64.wrap (1 + (e : Int)) = ((1 + e : Nat) : Int) := by rw [W_in (by omega)]; omega
  have e4 : IntKind.i64.wrap (2 + (f : Int)) = ((2 + f : Nat) : Int) := by rw [W_in (by omega)]; omega
  have e5 : IntKind.i64.wrap (4 + (g : Int)) = ((4 + g : Nat) : Int) := by rw [W_in (by omega)]; omega
  rw [e1, e2, e3, e4, e5]
  rfl
/-- How many numbers. -/
def perL (d : Dim) : Nat := d.w + 4 * (d.w * d.w) + d.w + d.inn * d.w + d.w * d.inn
def countS (d : Dim) : Nat := d.voc * d.w + d.ly * perL d + d.w + d.voc * d.w
def layR (d : Dim) : List S_ref07_Row := [⟨true, ((d.w : Nat) : Int)⟩, ⟨false, ((d.w * d.w : Nat) : Int)⟩, ⟨false, ((d.w * d.w : Nat) : Int)⟩, ⟨false, ((d.w * d.w : Nat) : Int)⟩, ⟨false, ((d.w * d.w : Nat) : Int)⟩, ⟨true, ((d.w : Nat) : Int)⟩, ⟨false, ((d.inn * d.w : Nat) : Int)⟩, ⟨false, ((d.w * d.inn : Nat) : Int)⟩]
def rowsS (d : Dim) : Nat → List S_ref07_Row
  | 0 => [⟨false, ((d.voc * d.w : Nat) : Int)⟩]
  | k + 1 => rowsS d k ++ layR d
def sumN : List S_ref07_Row → Int
  | [] => 0
  | r :: rs => r.N + sumN rs
theorem sumN_app (a b : List S_ref07_Row) : sumN (a ++ b) = sumN a + sumN b := by
  induction a with
  | nil => simp [sumN]
  | cons r rs ih => rw [List.cons_append, sumN, sumN, ih]; omega
section
variable {d : Dim} (hd : DOK d)
include hd
theorem w_mulN (a b : Nat) (h : a * b ≤ 100000) : IntKind.i64.wrap ((a : Int) * (b : Int)) = ((a * b : Nat) : Int) := by
  have : (a : Int) * (b : Int) = ((a * b : Nat) : Int) := by simp
  rw [this, W_in (by omega)]
theorem prods : d.w * d.w ≤ 256 ∧ d.inn * d.w ≤ 128 ∧ d.w * d.inn ≤ 128 ∧ d.voc * d.w ≤ 160 := by
  have h := dw16 hd; have h1 := hd.inn; have h2 := hd.voc
  exact ⟨Nat.mul_le_mul h h, Nat.mul_le_mul h1.2 h, Nat.mul_le_mul h h1.2, Nat.mul_le_mul h2.2 h⟩
theorem rowsS_len : ∀ k, (rowsS d k).length = 1 + 8 * k
  | 0 => rfl
  | k + 1 => by rw [rowsS, List.length_append, rowsS_len k]; simp [layR]; omega
theorem rowsS_sum : ∀ k, sumN (rowsS d k) = ((d.voc * d.w + k * perL d : Nat) : Int)
  | 0 => by simp [rowsS, sumN]
  | k + 1 => by
    rw [rowsS, sumN_app, rowsS_sum k]
    have e : sumN (layR d) = ((perL d : Nat) : Int) := by simp only [layR, sumN, perL]; omega
    rw [e, Nat.succ_mul]; omega
theorem rows_is {N : Nat} (hN : 200 < N) : ref07_Rows N (shapeS d) = some (rowsS d d.ly ++ [⟨true, ((d.w : Nat) : Int)⟩, ⟨false, ((d.voc * d.w : Nat) : Int)⟩]) := by
  obtain ⟨p1, p2, p3, p4⟩ := prods hd
  have hly := hd.ly
  unfold ref07_Rows
  have e0 : IntKind.i64.wrap ((shapeS d).Vocab * (shapeS d).Width) = ((d.voc * d.w : Nat) : Int) := w_mulN hd d.voc d.w (by omega)
  have e1 : IntKind.i64.wrap ((shapeS d).Width * (shapeS d).Width) = ((d.w * d.w : Nat) : Int) := w_mulN hd d.w d.w (by omega)
  have e2 : IntKind.i64.wrap ((shapeS d).Inner * (shapeS d).Width) = ((d.inn * d.w : Nat) : Int) := w_mulN hd d.inn d.w (by omega)
  have e3 : IntKind.i64.wrap ((shapeS d).Width * (shapeS d).Inner) = ((d.w * d.inn : Nat) : Int) := w_mulN hd d.w d.inn (by omega)
  rw [e0]
  refine loop_c (fun m (s : List S_ref07_Row) i => ref07_Rows.L1 (shapeS d) m s i) (fun i => rowsS d i) d.ly _ (fun m i hi => ?_) (fun m => ?_) N (by omega)
  · show ref07_Rows.L1 (shapeS d) (m + 1) _ (i : Int) = ref07_Rows.L1 (shapeS d) m _ _
    have hl := rowsS_len hd i
    rw [ref07_Rows.L1, if_pos (by show (i : Int) < (d.ly : Int); omega), e1, e2, e3, app_ok _ _ (by simp only [List.length_cons, List.length_nil]; omega), Option.bind_some, W_succ i (by omega)]
    rfl
  · show ref07_Rows.L1 (shapeS d) (m + 1) _ (d.ly : Int) = _
    have hl := rowsS_len hd d.ly
    rw [ref07_Rows.L1, if_neg (by show ¬ (d.ly : Int) < (d.ly : Int); omega), e0, app_ok _ _ (by simp only [List.length_cons, List.length_nil]; omega), Option.bind_some]
    rfl
theorem grown_is {N : Nat} (hN : 5000 ≤ N) (seed : Int) : ∃ l : List Int, ref07_Grown N (shapeS d) seed = some l ∧ l.length = countS d := by
  obtain ⟨p1, p2, p3, p4⟩ := prods hd
  have hly := hd.ly; have hw := dw16 hd
  unfold ref07_Grown
  rw [show (⟨(shapeS d).Layers, (shapeS d).Width, (shapeS d).Heads, (shapeS d).Inner, (shapeS d).Vocab, (shapeS d).Places⟩ : S_api_Shape) = shapeS d from rfl, rows_is hd (by omega), Option.bind_some]
  generalize hrs : rowsS d d.ly ++ [(⟨true, ((d.w : Nat) : Int)⟩ : S_ref07_Row), ⟨false, ((d.voc * d.w : Nat) : Int)⟩] = rs
  have hlen : rs.length = 8 * d.ly + 3 := by rw [← hrs, List.length_append, rowsS_len hd]; simp; omega
  have hsum : sumN rs = ((countS d : Nat) : Int) := by
    rw [← hrs, sumN_app, rowsS_sum hd]; simp only [sumN, countS]; omega
  have hrange : ∀ r ∈ rs, 0 ≤ r.N ∧ r.N ≤ 256 := by
    have hlay : ∀ r ∈ layR d, 0 ≤ r.N ∧ r.N ≤ 256 := by
      intro r hr
      simp only [layR, List.mem_cons, List.not_mem_nil, or_false] at hr
      rcases hr with rfl | rfl | rfl | rfl | rfl | rfl | rfl | rfl <;> dsimp only <;> omega
    have hro : ∀ k, ∀ r ∈ rowsS d k, 0 ≤ r.N ∧ r.N ≤ 256 := by
      intro k
      induction k with
      | zero => intro r hr; simp only [rowsS, List.mem_singleton] at hr; subst hr; dsimp only; omega
      | succ k ih => intro r hr; rw [rowsS] at hr; rcases List.mem_append.1 hr with h | h; exact ih r h; exact hlay r h
    intro r hr
    rw [← hrs] at hr
    rcases List.mem_append.1 hr with h | h
    · exact hro _ r h
    · simp only [List.mem_cons, List.not_mem_nil, or_false] at h
      rcases h with rfl | rfl <;> dsimp only <;> omega
  obtain ⟨m', s', hs1, e⟩ := loop_to (fun m (s : List Int × Int) i => ref07_Grown.L1 N rs m s.1 s.2 i) (fun i => (i : Int)) rs.length (fun i s => ((s.1.length : Nat) : Int) = sumN (rs.take i)) (fun m i s hi hs1 => by
    have hri := hrange rs[i] (List.getElem_mem hi)
    obtain ⟨n, hn⟩ := Int.eq_ofNat_of_zero_le hri.1
    have hbnd : sumN (rs.take i) ≤ 256 * i := by
      have : ∀ k, k ≤ rs.length → sumN (rs.take k) ≤ 256 * k := by
        intro k
        induction k with
        | zero => intro _; simp [sumN]
        | succ k ih =>
          intro hk
          have h1 := ih (by omega)
          have h2 := hrange rs[k] (List.getElem_mem (by omega))
          rw [List.take_succ_eq_append_getElem (by omega), sumN_app]
          simp only [sumN]; omega
      exact this i (by omega)
    obtain ⟨m2, z, hz1, e2⟩ := loop_to (fun q (z : List Int × Int) j => ref07_Grown.L2 N rs (i : Int) (ref07_Grown.L1 N rs m) q z.1 z.2 j) (fun j => (j : Int)) n (fun j z => z.1.length = s.1.length + j) (fun q j z hj hz1 => by
      have j3 : ∀ g : Int, ∃ z' : List Int × Int, z'.1.length = s.1.length + (j + 1) ∧ ref07_Grown.J3 z.1 (j : Int) (IntKind.u64.wrap (IntKind.u64.wrap (z.2 * 6364136223846793005) + 1442695040888963407)) (ref07_Grown.L2 N rs (i : Int) (ref07_Grown.L1 N rs m) q) g = ref07_Grown.L2 N rs (i : Int) (ref07_Grown.L1 N rs m) q z'.1 z'.2 ((j + 1 : Nat) : Int) := by
        intro g
        refine ⟨(z.1 ++ [IntKind.i8.wrap g], IntKind.u64.wrap (IntKind.u64.wrap (z.2 * 6364136223846793005) + 1442695040888963407)), by simp [hz1]; omega, ?_⟩
        · unfold ref07_Grown.J3
          rw [app_ok _ _ (by simp only [List.length_cons, List.length_nil]; omega), Option.bind_some, W_succ j (by omega)]
      show ∃ s', _ ∧ ref07_Grown.L2 N rs (i : Int) (ref07_Grown.L1 N rs m) (q + 1) z.1 z.2 (j : Int) = _
      rw [ref07_Grown.L2, idx_get _ _ hi, Option.bind_some, if_pos (by omega), Option.bind_some, Option.bind_some, Option.bind_some]
      by_cases c : rs[i].Gain = true
      · rw [if_pos c, Option.bind_some]; exact j3 _
      · rw [if_neg c]; exact j3 _) N s (by omega) rfl
    refine ⟨z, ?_, ?_⟩
    · rw [List.take_succ_eq_append_getElem hi, sumN_app, ← hs1]
      simp only [sumN]; omega
    · show ref07_Grown.L1 N rs (m + 1) s.1 s.2 (i : Int) = ref07_Grown.L1 N rs m z.1 z.2 ((i + 1 : Nat) : Int)
      rw [ref07_Grown.L1, if_pos (by omega)]
      refine Eq.trans e2 ?_
      show ref07_Grown.L2 N rs (i : Int) (ref07_Grown.L1 N rs m) (m2 + 1) z.1 z.2 (n : Int) = _
      rw [ref07_Grown.L2, idx_get _ _ hi, Option.bind_some, if_neg (by omega), W_succ i (by omega)]) N ([], seed) (by omega) (by simp [sumN])
  refine ⟨s'.1, ?_, ?_⟩
  · refine Eq.trans e ?_
    show ref07_Grown.L1 N rs (m' + 1) s'.1 s'.2 (rs.length : Int) = _
    rw [ref07_Grown.L1, if_neg (by omega)]
  · rw [List.take_length, hsum] at hs1; omega
theorem take_is (l : List Int) (at_ n : Nat) (h : at_ + n ≤ l.length) (hl : l.length ≤ 100000) : ref08_taker_take ⟨l, (at_ : Int)⟩ (n : Int) = some ((l.take (at_ + n)).drop at_, ⟨l, ((at_ + n : Nat) : Int)⟩) := by
  unfold ref08_taker_take
  show chk (0 ≤ (at_ : Int) ∧ (at_ : Int) ≤ IntKind.i64.wrap ((at_ : Int) + (n : Int)) ∧ IntKind.i64.wrap ((at_ : Int) + (n : Int)) ≤ ((l.length : Nat) : Int)) ((app [] ((l.take (IntKind.i64.wrap ((at_ : Int) + (n : Int))).toNat).drop ((at_ : Int)).toNat)).bind fun z10 => some (z10, (⟨l, IntKind.i64.wrap ((at_ : Int) + (n : Int))⟩ : S_ref08_taker))) = _
  have e : IntKind.i64.wrap ((at_ : Int) + (n : Int)) = ((at_ + n : Nat) : Int) := by rw [W_in (by omega)]; omega
  rw [e, chk_ok _ (by omega), Int.toNat_natCast, Int.toNat_natCast, app_ok _ _ (by simp; omega), Option.bind_some, List.nil_append]
theorem takeL (l : List Int) (a n : Nat) (h : a + n ≤ l.length) : ((l.take (a + n)).drop a).length = n := by simp; omega
theorem mat_is (l : List Int) (at_ r c : Nat) (h : at_ + r * c ≤ l.length) (hl : l.length ≤ 100000) : ref08_taker_mat ⟨l, (at_ : Int)⟩ (r : Int) (c : Int) = some (⟨(r : Int), (c : Int), (l.take (at_ + r * c)).drop at_⟩, ⟨l, ((at_ + r * c : Nat) : Int)⟩) := by
  unfold ref08_taker_mat
  rw [w_mulN hd r c (by omega), take_is hd l at_ (r * c) h hl, Option.bind_some]
end
end Go.Proofs.Ytfhpmaphgkiegaa
