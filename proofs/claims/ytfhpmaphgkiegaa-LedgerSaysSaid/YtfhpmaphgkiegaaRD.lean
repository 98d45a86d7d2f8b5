/- A token goes through: in closed form. -/
import Derived.Test.YtfhpmaphgkiegaaRC
namespace Go.Proofs.Ytfhpmaphgkiegaa
open Go Go.Hp
set_option linter.unusedVariables false
set_option linter.unusedSimpArgs false
set_option linter.unusedSectionVars false
/-- A shape's numbers: layers, heads, a head's width, inside, vocabulary, places. -/
structure Dim where
  ly : Nat
  h : Nat
  wd : Nat
  inn : Nat
  voc : Nat
  pl : Nat
def Dim.w (d : Dim) : Nat := d.h * d.wd
structure DOK (d : Dim) : Prop where
  ly : 0 < d.ly ∧ d.ly ≤ 3
  h : 0 < d.h ∧ d.h ≤ 4
  wd : 0 < d.wd ∧ d.wd % 2 = 0 ∧ d.wd ≤ 16
  w : d.h * d.wd ≤ 16
  inn : 0 < d.inn ∧ d.inn ≤ 8
  voc : 0 < d.voc ∧ d.voc ≤ 10
  pl : d.pl ≤ 12
structure BOK (d : Dim) (b : S_api_Block) : Prop where
  first : b.First.length = d.w
  second : b.Second.length = d.w
  q : matR b.Q d.w d.w
  k : matR b.K d.w d.w
  v : matR b.V d.w d.w
  o : matR b.O d.w d.w
  up : matR b.Up d.inn d.w
  down : matR b.Down d.w d.inn
structure WOK (d : Dim) (w : S_api_Weights) : Prop where
  layers : w.Shape.Layers = d.ly
  width : w.Shape.Width = (d.w : Nat)
  heads : w.Shape.Heads = d.h
  inner : w.Shape.Inner = d.inn
  vocab : w.Shape.Vocab = d.voc
  places : w.Shape.Places = d.pl
  embed : matR w.Embed d.voc d.w
  blen : w.Blocks.length = d.ly
  blocks : ∀ b ∈ w.Blocks, BOK d b
  last : w.Last.length = d.w
  head : matR w.Head d.voc d.w
def zB : S_api_Block := ⟨[], [], ⟨0, 0, []⟩, ⟨0, 0, []⟩, ⟨0, 0, []⟩, ⟨0, 0, []⟩, ⟨0, 0, []⟩, ⟨0, 0, []⟩⟩
def zK : S_ref08_Kept := ⟨[], []⟩
/-- Keys and values of n layers. -/
def KOK (d : Dim) (n : Nat) (k : S_ref08_Kept) : Prop := k.K.length = n ∧ k.V.length = n ∧ (∀ r ∈ k.K, r.length = d.w) ∧ ∀ r ∈ k.V, r.length = d.w
def headS (d : Dim) (L : List S_ref08_Kept) (n : Nat) (q : List Int) (h : Nat) : List Int :=
  mixS (softS 64 0 (tabl L.length fun p => IntKind.i32.wrap (dots (part q d.wd h) (part ((L.getD p zK).K.getD n []) d.wd h) d.wd))) (tabl L.length fun p => part ((L.getD p zK).V.getD n []) d.wd h) d.wd
def attS (d : Dim) (L : List S_ref08_Kept) (n : Nat) (q : List Int) : Nat → List Int
  | 0 => []
  | k + 1 => attS d L n q k ++ headS d L n q k
def reluS (u : List Int) : List Int := tabl u.length fun i => if u.getD i 0 < 0 then 0 else u.getD i 0
def qS (d : Dim) (b : S_api_Block) (place : Nat) (x : List Int) : List Int := turnedS place d.wd (quantsS b.Q (normS b.First x) d.w d.w) d.h
def kS (d : Dim) (b : S_api_Block) (place : Nat) (x : List Int) : List Int := turnedS place d.wd (quantsS b.K (normS b.First x) d.w d.w) d.h
def vS (d : Dim) (b : S_api_Block) (x : List Int) : List Int := quantsS b.V (normS b.First x) d.w d.w
/-- Behind the heads. -/
def tailS (d : Dim) (b : S_api_Block) (x heads : List Int) : List Int :=
  let x1 := joinS x (applyS b.O heads d.w d.w) 1 4
  joinS x1 (applyS b.Down (reluS (quantsS b.Up (normS b.Second x1) d.inn d.w)) d.w d.inn) 1 4
def layersS (d : Dim) (w : S_api_Weights) (L : List S_ref08_Kept) (x : List Int) : Nat → S_ref08_Kept × List Int
  | 0 => (zK, x)
  | n + 1 =>
    let s := layersS d w L x n
    let b := w.Blocks.getD n zB
    let k : S_ref08_Kept := ⟨s.1.K ++ [kS d b L.length s.2], s.1.V ++ [vS d b s.2]⟩
    (k, tailS d b s.2 (attS d (L ++ [k]) n (qS d b L.length s.2) d.h))
def inS (d : Dim) (w : S_api_Weights) (t : Nat) : List Int := tabl d.w fun i => IntKind.i32.wrap (16 * IntKind.i32.wrap (w.Embed.V.getD (t * d.w + i) 0))
def keptS (d : Dim) (w : S_api_Weights) (L : List S_ref08_Kept) (t : Nat) : S_ref08_Kept := (layersS d w L (inS d w t) d.ly).1
def outS (d : Dim) (w : S_api_Weights) (L : List S_ref08_Kept) (t : Nat) : List Int := applyS w.Head (normS w.Last (layersS d w L (inS d w t) d.ly).2) d.voc d.w
theorem getD_in {α : Type} (l : List α) (z : α) (k : Nat) (h : k < l.length) : l.getD k z ∈ l := by
  rw [List.getD_eq_getElem?_getD, List.getElem?_eq_getElem h]; exact List.getElem_mem h
theorem matR_eta (m : S_api_Mat) : (⟨m.Rows, m.Cols, m.V⟩ : S_api_Mat) = m := rfl
section
variable {d : Dim} (hd : DOK d)
include hd
theorem dw16 : d.w ≤ 16 := hd.w
theorem headS_len (L : List S_ref08_Kept) (n : Nat) (q : List Int) (h : Nat) : (headS d L n q h).length = d.wd := mixS_len _ _ _
theorem attS_len (L : List S_ref08_Kept) (n : Nat) (q : List Int) : ∀ k, (attS d L n q k).length = k * d.wd
  | 0 => by simp [attS]
  | k + 1 => by rw [attS, List.length_append, attS_len L n q k, headS_len hd, Nat.succ_mul]
theorem part_is (x : List Int) (h : Nat) (hx : x.length = d.w) (hh : h < d.h) : (0 : Int) ≤ IntKind.i64.wrap ((h : Int) * (d.wd : Int)) ∧ IntKind.i64.wrap ((h : Int) * (d.wd : Int)) ≤ IntKind.i64.wrap (IntKind.i64.wrap ((h : Int) + 1) * (d.wd : Int)) ∧ IntKind.i64.wrap (IntKind.i64.wrap ((h : Int) + 1) * (d.wd : Int)) ≤ ((x.length : Nat) : Int) ∧ ((x.take (IntKind.i64.wrap (IntKind.i64.wrap ((h : Int) + 1) * (d.wd : Int))).toNat).drop (IntKind.i64.wrap ((h : Int) * (d.wd : Int))).toNat) = part x d.wd h := by
  have h1 : (h + 1) * d.wd ≤ d.h * d.wd := Nat.mul_le_mul_right _ (by omega)
  have h2 := hd.w
  have h3 : (h + 1) * d.wd = h * d.wd + d.wd := Nat.succ_mul _ _
  have e1 : (h : Int) * (d.wd : Int) = ((h * d.wd : Nat) : Int) := by simp
  have e2 : ((h + 1 : Nat) : Int) * (d.wd : Int) = (((h + 1) * d.wd : Nat) : Int) := by simp
  rw [W_succ h (by have := hd.h; omega), e1, e2, W_in (x := ((h * d.wd : Nat) : Int)) (by omega), W_in (by omega), Int.toNat_natCast, Int.toNat_natCast]
  have : d.w = d.h * d.wd := rfl
  exact ⟨by omega, by omega, by omega, rfl⟩
theorem relu_loop {N : Nat} (hN : 200 < N) (j69 : Int) (b : S_api_Block) (j256 : S_ref08_Run) (r271 u : List Int) (hu : u.length ≤ 100) (k2 : S_ref08_Run → List Int → Int → Option (List Int × S_ref08_Run)) :
    ∃ m, ref08_Run_One.L4 N j69 b j256 r271 u k2 N u 0 = ref08_Run_One.L4 N j69 b j256 r271 u k2 (m + 1) (reluS u) ((u.length : Nat) : Int) := by
  obtain ⟨m', s', hs, e⟩ := loop_to (fun m (s : List Int) i => ref08_Run_One.L4 N j69 b j256 r271 u k2 m s i) (fun i => (i : Int)) u.length (fun i s => s = tabl u.length fun k => if k < i ∧ u.getD k 0 < 0 then 0 else u.getD k 0) (fun m i s hi hs => by
    refine ⟨_, rfl, ?_⟩
    subst hs
    show ref08_Run_One.L4 N j69 b j256 r271 u k2 (m + 1) _ (i : Int) = _
    rw [ref08_Run_One.L4, if_pos (by omega), idx_t _ hi, Option.bind_some, if_neg (show ¬ (i < i ∧ u.getD i 0 < 0) by omega)]
    by_cases c : u.getD i 0 < 0
    · rw [if_pos c, Option.bind_some, ref08_Run_One.J5, W_succ i (by omega), Int.toNat_natCast, tabl_set]
      congr 1
      refine tabl_congr fun j hj => ?_
      by_cases e : j = i
      · subst e; rw [if_pos rfl, if_pos ⟨by omega, c⟩]
      · rw [if_neg e]
        by_cases e2 : j < i ∧ u.getD j 0 < 0
        · rw [if_pos e2, if_pos ⟨by omega, e2.2⟩]
        · rw [if_neg e2, if_neg (by omega)]
    · rw [if_neg c, ref08_Run_One.J5, W_succ i (by omega)]
      congr 1
      refine tabl_congr fun j hj => ?_
      by_cases e : j = i
      · subst e; rw [if_neg (by omega), if_neg (by omega)]
      · by_cases e2 : j < i ∧ u.getD j 0 < 0
        · rw [if_pos e2, if_pos ⟨by omega, e2.2⟩]
        · rw [if_neg e2, if_neg (by omega)]) N u (by omega) (by
    conv => lhs; rw [tab_of u 0]
    exact tabl_congr fun j hj => by rw [if_neg (by omega)])
  refine ⟨m', e.trans ?_⟩
  show ref08_Run_One.L4 N j69 b j256 r271 u k2 (m' + 1) s' ((u.length : Nat) : Int) = _
  rw [hs]
  congr 1
  refine tabl_congr fun j hj => ?_
  by_cases e : u.getD j 0 < 0
  · rw [if_pos ⟨hj, e⟩, if_pos e]
  · rw [if_neg (fun h => e h.2), if_neg e]
/-- One head's answer, and on. -/
theorem head_is {N : Nat} (hN : 200 < N) (x0 j256 : S_ref08_Run) (L : List S_ref08_Kept) (n : Nat) (hn : n < d.ly) (hL : L.length ≤ 100) (hL0 : L ≠ []) (hj : j256.L = L) (hx0 : x0.L.length + 1 = L.length) (hK : ∀ k ∈ L, n < k.K.length ∧ n < k.V.length ∧ (∀ r ∈ k.K, r.length = d.w) ∧ ∀ r ∈ k.V, r.length = d.w)
    (q j257 : List Int) (hq : q.length = d.w) (h : Nat) (hh : h < d.h) (hj2 : j257.length ≤ 1000) (k3 : S_ref08_Run → List Int → Int → Option (List Int × S_ref08_Run)) :
    ref08_Run_One.L6 N x0 (d.wd : Int) (n : Int) q j256 j257 (h : Int) k3 N [] [] 0 = k3 j256 (j257 ++ headS d L n q h) ((h + 1 : Nat) : Int) := by
  have hlp : 0 < L.length := List.length_pos_iff.2 hL0
  have hdd := hd.h; have hly := hd.ly; have hw := hd.w; have hwd := hd.wd
  have hkk : ∀ p, p < L.length → ((L.getD p zK).K.getD n []).length = d.w ∧ ((L.getD p zK).V.getD n []).length = d.w := fun p hp => by
    obtain ⟨a, b, c, e⟩ := hK _ (getD_in L zK p hp)
    exact ⟨c _ (getD_in _ _ _ a), e _ (getD_in _ _ _ b)⟩
  refine loop_c (fun m (s : List Int × List (List Int)) i => ref08_Run_One.L6 N x0 (d.wd : Int) (n : Int) q j256 j257 (h : Int) k3 m s.1 s.2 i) (fun p => (tabl p fun p => IntKind.i32.wrap (dots (part q d.wd h) (part ((L.getD p zK).K.getD n []) d.wd h) d.wd), tabl p fun p => part ((L.getD p zK).V.getD n []) d.wd h)) L.length _ (fun m p hp => ?_) (fun m => ?_) N (by omega)
  · show ref08_Run_One.L6 N x0 _ _ q j256 j257 _ k3 (m + 1) (tabl p _) (tabl p _) (p : Int) = ref08_Run_One.L6 N x0 _ _ q j256 j257 _ k3 m (tabl (p + 1) _) (tabl (p + 1) _) _
    obtain ⟨a, b, c, e⟩ := hK _ (getD_in L zK p hp)
    obtain ⟨k1, k2⟩ := hkk p hp
    obtain ⟨q1, q2, q3, q4⟩ := part_is hd q h hq hh
    obtain ⟨p1, p2, p3, p4⟩ := part_is hd _ h k1 hh
    obtain ⟨v1, v2, v3, v4⟩ := part_is hd _ h k2 hh
    have lq := part_len q d.wd h d.h (by rw [hq]; rfl) hh
    have lk := part_len _ d.wd h d.h (by rw [k1]; rfl) hh
    have hdot := dot_is (N := N) (part q d.wd h) (part ((L.getD p zK).K.getD n []) d.wd h) (by rw [lq, lk]) (by rw [lq]; omega) (by rw [lq]; omega)
    rw [lq] at hdot
    rw [ref08_Run_One.L6, if_pos (by omega), chk_ok _ ⟨q1, q2, q3⟩, hj, idx_d L zK hp, Option.bind_some, idx_d _ [] a, Option.bind_some, chk_ok _ ⟨p1, p2, p3⟩, q4, p4, hdot, Option.bind_some, app_ok _ _ (by rw [tabl_len]; simp only [List.length_cons, List.length_nil]; omega), Option.bind_some, idx_d _ [] b, Option.bind_some, chk_ok _ ⟨v1, v2, v3⟩, v4, app_ok _ _ (by rw [tabl_len]; simp only [List.length_cons, List.length_nil]; omega), Option.bind_some, W_succ p (by omega), tabl_succ, tabl_succ]
  · show ref08_Run_One.L6 N x0 _ _ q j256 j257 _ k3 (m + 1) (tabl L.length _) (tabl L.length _) (L.length : Int) = _
    have hmx := mix_is (N := N) (softS 64 0 (tabl L.length fun p => IntKind.i32.wrap (dots (part q d.wd h) (part ((L.getD p zK).K.getD n []) d.wd h) d.wd))) (tabl L.length fun p => part ((L.getD p zK).V.getD n []) d.wd h) d.wd (by rw [softS_len, tabl_len, tabl_len]) (by rw [tabl_len]; exact hlp) (by rw [tabl_len]; omega) (fun i hi => by
      rw [tabl_len] at hi
      rw [tabl_getD _ _ _ _ hi]
      exact part_len _ d.wd h d.h (by rw [(hkk i hi).2]; rfl) hh) (by omega) hN
    rw [ref08_Run_One.L6, if_neg (by omega), softmax_is _ _ _ (by rw [tabl_len]; omega) hN, Option.bind_some, hmx, Option.bind_some, app_ok _ _ (by rw [mixS_len]; omega), Option.bind_some, W_succ h (by omega)]
    rfl
end
end Go.Proofs.Ytfhpmaphgkiegaa
