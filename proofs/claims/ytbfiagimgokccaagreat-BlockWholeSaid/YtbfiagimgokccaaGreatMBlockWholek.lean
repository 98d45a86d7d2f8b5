/- What the law needs. -/
import Derived.Test.YtbfiagimgokccaaGreatMBlockWholej
import Derived.Test.YtbfiagimgokccaaGreatMBlockWholei
section
namespace Go.Proofs.YtbfiagimgokccaaGreat
open Go Go.Hp
set_option linter.unusedVariables false
set_option linter.unusedSimpArgs false
set_option linter.unusedSectionVars false
theorem putE_new {room : Int} {n : Nat} {g : S_api_Spot → Option S_cache_rows} {s : S_api_Spot} {k v : List Int} (h1 : 0 ≤ s.Request) (h2 : 0 ≤ s.Layer) (h3 : 0 ≤ s.Place) (hl : k.length = v.length) (h : 0 < s.Place → g ⟨s.Request, s.Layer, s.Place - 1⟩ ≠ none) (hg : g s = none) (hn : (n : Int) < room) : putE room n g s k v = 0 := by
  unfold putE
  rw [if_neg (show ¬ s.Request < 0 by omega), if_neg (show ¬ s.Layer < 0 by omega), if_neg (show ¬ s.Place < 0 by omega), if_neg (show ¬ k.length ≠ v.length from fun q => q hl), if_neg (fun q => h q.1 q.2), hg]
  show (if (n : Int) ≥ room then (80 : Int) else 0) = 0
  rw [if_neg (by omega)]
theorem putM_room (m : S_cache_Store) (s : S_api_Spot) (k v : List Int) : (putM m s k v).room = m.room := by unfold putM; split <;> rfl
theorem putM_len (m : S_cache_Store) (s : S_api_Spot) (k v : List Int) : (putM m s k v).m.length ≤ m.m.length + 1 := by
  unfold putM
  split
  · show (mset m.m s ⟨k, v⟩).length ≤ _
    rw [len_mset]
    split <;> omega
  · omega
end Go.Proofs.YtbfiagimgokccaaGreat
end
section
namespace Go.Proofs.YtbfiagimgokccaaGreat
open Go Go.Hp
set_option linter.unusedVariables false
set_option linter.unusedSimpArgs false
set_option linter.unusedSectionVars false
def widG (d : Dim) (I : Nat) (b : S_api_Block) (x : List Int) : List Int := applyS b.Down (reluS (quantsS b.Up (normS b.Second x) I d.w)) d.w I
def wdnG (d : Dim) (w : S_api_Weights) (c : Cu) (s p : Nat) (x : List Int) (ly : Int) : List Int × Int := match layS d w c s p ly with | some b => (widG d (ipa d c) b x, 0) | none => ([], 121)
theorem reluS_len (u : List Int) : (reluS u).length = u.length := tabl_len _ _
section
variable {d : Dim} (hd : DOK d) (hp0 : 0 < d.pl) {c : Cu} (hc : COK d c) {w : S_api_Weights} (hw : WOK d w)
include hd hp0 hc hw
theorem ipa8 : ipa d c ≤ 8 := by
  have h2 : ipa d c ≤ d.inn := by unfold ipa; exact Nat.div_le_self _ _
  have := hd.inn
  omega
theorem bwiden_is {N : Nat} (hN : 300 < N) (s p : Nat) (hs : s < c.st) (hp : p < c.pa) (x : List Int) (hx : x.length = d.w) (ly : Int) :
    block_Widen N (takeS d w c s p) ly x = some (wdnG d w c s p x ly) := by
  have hww := dw16 hd; have hi8 := ipa8 hd hp0 hc hw; have hh := hd.h; have hwd := hd.wd
  have hdw : d.w = d.h * d.wd := rfl
  have hw0 : 0 < d.w := by rw [hdw]; exact Nat.mul_pos hh.1 hwd.1
  unfold block_Widen
  show (block_fits N (takeS d w c s p) x).bind _ = _
  rw [bfits_is hd hp0 hc hw (by omega) s p hs hp x, Option.bind_some, decide_eq_true hx, if_pos rfl]
  show (block_layer (takeS d w c s p) ly).bind _ = _
  rw [blayer_is hd hp0 hc hw s p hs hp ly]
  unfold wdnG
  cases hb : layS d w c s p ly with
  | none => rfl
  | some b =>
    obtain ⟨hB, l0, l1⟩ := layS_ok hd hp0 hc hw s p hs hp ly b hb
    have hal : (normS b.Second x).length = d.w := by rw [normS_len, hx]
    rw [Option.bind_some, if_pos rfl, pnorm_is (by omega) b.Second x (by rw [hB.second, hx]) (by omega) (by omega), Option.bind_some]
    show (block_quants N b.Up (normS b.Second x)).bind _ = _
    rw [pquants_is hB.up (by omega) (by omega) (by omega) _ hal, Option.bind_some, gate_is _ (by rw [quantsS_len]; omega) (by omega), Option.bind_some]
    show (matmul_Apply N b.Down (reluS (quantsS b.Up (normS b.Second x) (ipa d c) d.w))).bind _ = _
    rw [papply_is hB.down (by omega) (by omega) (by omega) _ (by rw [reluS_len, quantsS_len]), Option.bind_some]
    rfl
def leaveG (d : Dim) (w : S_api_Weights) (x : List Int) : List Int := applyS w.Head (normS w.Last x) d.voc d.w
theorem bleave_is {N : Nat} (hN : 300 < N) (s p : Nat) (hs : s < c.st) (hp : p < c.pa) (x : List Int) (hx : x.length = d.w) :
    block_Leave N (takeS d w c s p) x = some (if s + 1 = c.st then (leaveG d w x, 0) else ([], 121)) := by
  have hww := dw16 hd; have hh := hd.h; have hwd := hd.wd; have hst := hc.st; have hvoc := hd.voc; have hly := hd.ly
  have hdw : d.w = d.h * d.wd := rfl
  have hw0 : 0 < d.w := by rw [hdw]; exact Nat.mul_pos hh.1 hwd.1
  unfold block_Leave
  show (block_fits N (takeS d w c s p) x).bind _ = _
  rw [bfits_is hd hp0 hc hw (by omega) s p hs hp x, Option.bind_some, decide_eq_true hx, if_pos rfl]
  show (if ((s : Nat) : Int) ≠ IntKind.i64.wrap (((c.st : Nat) : Int) - 1) then _ else _) = _
  rw [W_in (show -9223372036854775808 ≤ ((c.st : Nat) : Int) - 1 ∧ ((c.st : Nat) : Int) - 1 ≤ 9223372036854775807 by omega)]
  by_cases e : s + 1 = c.st
  · rw [if_neg (by omega), if_pos e]
    have e1 : (takeS d w c s p).Last = w.Last := if_pos e
    have e2 : (takeS d w c s p).Head = w.Head := if_pos e
    rw [e1, e2, pnorm_is (by omega) w.Last x (by rw [hw.last, hx]) (by omega) (by omega), Option.bind_some]
    show (matmul_Apply N w.Head (normS w.Last x)).bind _ = _
    rw [papply_is hw.head (by omega) (by omega) (by omega) _ (by rw [normS_len, hx]), Option.bind_some]
    rfl
  · rw [if_pos (by omega), if_neg e]
theorem widG_len (I : Nat) (b : S_api_Block) (x : List Int) : (widG d I b x).length = d.w := applyS_len _ _ _ _
end
end Go.Proofs.YtbfiagimgokccaaGreat
end
section
namespace Go.Proofs.YtbfiagimgokccaaGreat
open Go Go.Hp
set_option linter.unusedVariables false
set_option linter.unusedSimpArgs false
set_option linter.unusedSectionVars false
def slc (x : List Int) (a b : Nat) : List Int := (x.take b).drop a
theorem slc_len (x : List Int) (a b : Nat) (h : b ≤ x.length) : (slc x a b).length = b - a := by unfold slc; rw [List.length_drop, List.length_take, Nat.min_eq_left h]
theorem slc_getD (x : List Int) (a b k : Nat) (h : a + k < b) : (slc x a b).getD k 0 = x.getD (a + k) 0 := by
  unfold slc
  rw [List.getD_eq_getElem?_getD, List.getElem?_drop, List.getElem?_take, if_pos h, List.getD_eq_getElem?_getD]
theorem slc_slc (x : List Int) (a b u v : Nat) (h : a + v ≤ b) : slc (slc x a b) u v = slc x (a + u) (a + v) := by
  unfold slc
  rw [List.take_drop, List.take_take, Nat.min_eq_left (by omega), List.drop_drop]
theorem part_slc (x : List Int) (w k : Nat) : part x w k = slc x (k * w) ((k + 1) * w) := rfl
theorem ext_getD {x y : List Int} (hl : x.length = y.length) (h : ∀ k, k < x.length → x.getD k 0 = y.getD k 0) : x = y := by
  rw [tab_of x 0, tab_of y 0, ← hl]
  exact tabl_congr h
theorem apply_rows (m : S_api_Mat) (x : List Int) (rows cols r0 r1 : Nat) (h : r1 ≤ rows) : applyS (partM m cols r0 r1 0 cols) x (r1 - r0) cols = slc (applyS m x rows cols) r0 r1 := by
  refine ext_getD (by rw [applyS_len, slc_len _ _ _ (by rw [applyS_len]; exact h)]) fun k hk => ?_
  rw [applyS_len] at hk
  rw [slc_getD _ _ _ _ (by omega)]
  unfold applyS
  rw [tabl_getD _ _ _ _ hk, tabl_getD _ _ _ _ (by omega)]
  congr 1
  refine dots_congr _ _ _ _ _ fun j hj => ⟨?_, rfl⟩
  unfold rowOf
  rw [tabl_getD _ _ _ _ hj, tabl_getD _ _ _ _ hj]
  have := part_row m cols r0 r1 0 cols k j hk (by omega)
  rw [Nat.sub_zero, Nat.zero_add] at this
  exact this
theorem quants_rows (m : S_api_Mat) (x : List Int) (rows cols r0 r1 : Nat) (h : r1 ≤ rows) : quantsS (partM m cols r0 r1 0 cols) x (r1 - r0) cols = slc (quantsS m x rows cols) r0 r1 := by
  refine ext_getD (by rw [quantsS_len, slc_len _ _ _ (by rw [quantsS_len]; exact h)]) fun k hk => ?_
  rw [quantsS_len] at hk
  rw [slc_getD _ _ _ _ (by omega)]
  unfold quantsS
  rw [tabl_getD _ _ _ _ hk, tabl_getD _ _ _ _ (by omega), apply_rows m x rows cols r0 r1 h, slc_getD _ _ _ _ (by omega)]
theorem relu_slc (u : List Int) (a b : Nat) (h : b ≤ u.length) : reluS (slc u a b) = slc (reluS u) a b := by
  refine ext_getD (by rw [reluS_len, slc_len _ _ _ h, slc_len _ _ _ (by rw [reluS_len]; exact h)]) fun k hk => ?_
  rw [reluS_len, slc_len _ _ _ h] at hk
  rw [slc_getD _ _ _ _ (by omega)]
  unfold reluS
  rw [tabl_getD _ _ _ _ (by rw [slc_len _ _ _ h]; exact hk), tabl_getD _ _ _ _ (by omega), slc_getD _ _ _ _ (by omega)]
theorem turned_take (place w : Nat) (x : List Int) (n : Nat) (hx : x.length = n * w) (hw : w % 2 = 0) (m : Nat) : ∀ j, m + j ≤ n → turnedS place w x m = (turnedS place w x (m + j)).take (m * w)
  | 0, h => by rw [Nat.add_zero, List.take_of_length_le (by rw [turnedS_len place w x n hx hw m h]; exact Nat.le_refl _)]
  | j + 1, h => by
    rw [← Nat.add_assoc, turnedS, List.take_append_of_le_length (by rw [turnedS_len place w x n hx hw (m + j) (by omega)]; exact Nat.mul_le_mul_right _ (by omega))]
    exact turned_take place w x n hx hw m j (by omega)
theorem turned_slc (place w : Nat) (x : List Int) (n : Nat) (hx : x.length = n * w) (hw : w % 2 = 0) (a b : Nat) (hb : b ≤ n) : ∀ k, a + k ≤ b → turnedS place w (slc x (a * w) (b * w)) k = (turnedS place w x (a + k)).drop (a * w)
  | 0, h => by rw [Nat.add_zero, List.drop_of_length_le (by rw [turnedS_len place w x n hx hw a (by omega)]; exact Nat.le_refl _)]; rfl
  | k + 1, h => by
    have e1 : a * w + (k + 1) * w = (a + k + 1) * w := by rw [← Nat.add_mul, Nat.add_assoc]
    have e2 : a * w + k * w = (a + k) * w := by rw [← Nat.add_mul]
    rw [← Nat.add_assoc, turnedS, turnedS, List.drop_append_of_le_length (by rw [turnedS_len place w x n hx hw (a + k) (by omega)]; exact Nat.mul_le_mul_right _ (by omega)), turned_slc place w x n hx hw a b hb k (by omega), part_slc (slc x (a * w) (b * w)), slc_slc _ _ _ _ _ (by rw [e1]; exact Nat.mul_le_mul_right _ (by omega)), e1, e2]
    rfl
theorem turned_cut (place w : Nat) (x : List Int) (n : Nat) (hx : x.length = n * w) (hw : w % 2 = 0) (a k : Nat) (h : a + k ≤ n) : turnedS place w (slc x (a * w) ((a + k) * w)) k = slc (turnedS place w x n) (a * w) ((a + k) * w) := by
  rw [turned_slc place w x n hx hw a (a + k) h k (Nat.le_refl _)]
  unfold slc
  obtain ⟨j, rfl⟩ : ∃ j, n = (a + k) + j := ⟨n - (a + k), by omega⟩
  rw [← turned_take place w x _ hx hw (a + k) j (Nat.le_refl _)]
theorem att_take (wd : Nat) (Ks Vs : Nat → List Int) (n : Nat) (q : List Int) (m : Nat) : ∀ j, attG wd Ks Vs n q m = (attG wd Ks Vs n q (m + j)).take (m * wd)
  | 0 => by rw [Nat.add_zero, List.take_of_length_le (by rw [attG_len]; exact Nat.le_refl _)]
  | j + 1 => by
    rw [← Nat.add_assoc, attG, List.take_append_of_le_length (by rw [attG_len]; exact Nat.mul_le_mul_right _ (by omega))]
    exact att_take wd Ks Vs n q m j
theorem part_cut (wd : Nat) (x : List Int) (a b k : Nat) (h : a + k + 1 ≤ b) : part (slc x (a * wd) (b * wd)) wd k = part x wd (a + k) := by
  have e1 : a * wd + (k + 1) * wd = (a + k + 1) * wd := by rw [← Nat.add_mul, Nat.add_assoc]
  have e2 : a * wd + k * wd = (a + k) * wd := by rw [← Nat.add_mul]
  rw [part_slc, slc_slc _ _ _ _ _ (by rw [e1]; exact Nat.mul_le_mul_right _ h), e1, e2]; rfl
theorem head_cut (wd : Nat) (Ks Vs Kp Vp : Nat → List Int) (n : Nat) (q : List Int) (a b k : Nat) (h : a + k + 1 ≤ b) (hK : ∀ t, t < n → Kp t = slc (Ks t) (a * wd) (b * wd)) (hV : ∀ t, t < n → Vp t = slc (Vs t) (a * wd) (b * wd)) :
    headG wd Kp Vp n (slc q (a * wd) (b * wd)) k = headG wd Ks Vs n q (a + k) := by
  unfold headG
  rw [part_cut wd q a b k h, show (tabl n fun p => IntKind.i32.wrap (dots (part q wd (a + k)) (part (Kp p) wd k) wd)) = tabl n fun p => IntKind.i32.wrap (dots (part q wd (a + k)) (part (Ks p) wd (a + k)) wd) from tabl_congr fun t ht => by rw [hK t ht, part_cut wd _ a b k h],
    show (tabl n fun p => part (Vp p) wd k) = tabl n fun p => part (Vs p) wd (a + k) from tabl_congr fun t ht => by rw [hV t ht, part_cut wd _ a b k h]]
theorem att_slc (wd : Nat) (Ks Vs Kp Vp : Nat → List Int) (n : Nat) (q : List Int) (a b : Nat) (hK : ∀ t, t < n → Kp t = slc (Ks t) (a * wd) (b * wd)) (hV : ∀ t, t < n → Vp t = slc (Vs t) (a * wd) (b * wd)) : ∀ k, a + k ≤ b →
    attG wd Kp Vp n (slc q (a * wd) (b * wd)) k = (attG wd Ks Vs n q (a + k)).drop (a * wd)
  | 0, h => by rw [Nat.add_zero, List.drop_of_length_le (by rw [attG_len]; exact Nat.le_refl _)]; rfl
  | k + 1, h => by
    rw [← Nat.add_assoc, attG, attG, List.drop_append_of_le_length (by rw [attG_len]; exact Nat.mul_le_mul_right _ (by omega)), att_slc wd Ks Vs Kp Vp n q a b hK hV k (by omega), head_cut wd Ks Vs Kp Vp n q a b k (by omega) hK hV]
theorem att_cut (wd : Nat) (Ks Vs Kp Vp : Nat → List Int) (n : Nat) (q : List Int) (a k h : Nat) (hh : a + k ≤ h) (hK : ∀ t, t < n → Kp t = slc (Ks t) (a * wd) ((a + k) * wd)) (hV : ∀ t, t < n → Vp t = slc (Vs t) (a * wd) ((a + k) * wd)) :
    attG wd Kp Vp n (slc q (a * wd) ((a + k) * wd)) k = slc (attG wd Ks Vs n q h) (a * wd) ((a + k) * wd) := by
  rw [att_slc wd Ks Vs Kp Vp n q a (a + k) hK hV k (Nat.le_refl _)]
  unfold slc
  obtain ⟨j, rfl⟩ : ∃ j, h = (a + k) + j := ⟨h - (a + k), by omega⟩
  rw [← att_take wd Ks Vs n q (a + k) j]
theorem attS_G (d : Dim) (L : List S_ref08_Kept) (n : Nat) (q : List Int) : ∀ k, attS d L n q k = attG d.wd (fun p => (L.getD p zK).K.getD n []) (fun p => (L.getD p zK).V.getD n []) L.length q k
  | 0 => rfl
  | k + 1 => by rw [attS, attG, attS_G d L n q k]; rfl
theorem dots_from (a b a' b' : List Int) (u : Nat) : ∀ k, (∀ j, j < k → a'.getD j 0 = a.getD (u + j) 0 ∧ b'.getD j 0 = b.getD (u + j) 0) → dots a b (u + k) = dots a b u + dots a' b' k
  | 0, _ => by simp [dots]
  | k + 1, h => by
    rw [← Nat.add_assoc, dots, dots, dots_from a b a' b' u k (fun j hj => h j (by omega)), (h k (by omega)).1, (h k (by omega)).2, Int.add_assoc]
theorem tabl_snoc {α : Type} (n : Nat) (f : Nat → α) : tabl (n + 1) f = tabl n f ++ [f n] := by simp [tabl, List.range_succ]
theorem tot_wrap32 : ∀ l : List Int, IntKind.i32.wrap (tot (l.map IntKind.i32.wrap)) = IntKind.i32.wrap (tot l) := by
  have key : ∀ l : List Int, tot (l.map IntKind.i32.wrap) % 4294967296 = tot l % 4294967296 := by
    intro l
    induction l with
    | nil => rfl
    | cons x l ih =>
      simp only [List.map_cons, tot, IntKind.wrap_i32]
      omega
  intro l
  have := key l
  simp only [IntKind.wrap_i32]
  omega
theorem cut_dots (A X : List Int) (m : Nat) (Ap Xp : Nat → List Int) (n : Nat) (h : ∀ p, p < n → ∀ j, j < m → (Ap p).getD j 0 = A.getD (p * m + j) 0 ∧ (Xp p).getD j 0 = X.getD (p * m + j) 0) : ∀ k, k ≤ n → dots A X (k * m) = tot (tabl k fun p => dots (Ap p) (Xp p) m)
  | 0, _ => by simp [dots, tabl, tot]
  | k + 1, hk => by
    rw [Nat.succ_mul, dots_from A X (Ap k) (Xp k) (k * m) m (h k (by omega)), cut_dots A X m Ap Xp n h k (by omega), tabl_snoc, tot_snoc]
theorem cols_sum (M : S_api_Mat) (x : List Int) (r n m : Nat) : sumsS r (tabl n fun p => applyS (partM M (n * m) 0 r (p * m) ((p + 1) * m)) (slc x (p * m) ((p + 1) * m)) r m) = applyS M x r (n * m) := by
  refine tabl_congr fun i hi => ?_
  unfold colS
  rw [tabl_map, show (tabl n fun p => (applyS (partM M (n * m) 0 r (p * m) ((p + 1) * m)) (slc x (p * m) ((p + 1) * m)) r m).getD i 0) = (tabl n fun p => dots (rowOf (partM M (n * m) 0 r (p * m) ((p + 1) * m)) m i) (slc x (p * m) ((p + 1) * m)) m).map IntKind.i32.wrap by
    rw [tabl_map]; exact tabl_congr fun p _ => by unfold applyS; rw [tabl_getD _ _ _ _ hi], tot_wrap32]
  congr 1
  refine (cut_dots (rowOf M (n * m) i) x m (fun p => rowOf (partM M (n * m) 0 r (p * m) ((p + 1) * m)) m i) (fun p => slc x (p * m) ((p + 1) * m)) n (fun p hp j hj => ⟨?_, ?_⟩) n (Nat.le_refl _)).symm
  · have e : (p + 1) * m = p * m + m := Nat.succ_mul _ _
    have hle : (p + 1) * m ≤ n * m := Nat.mul_le_mul_right _ (by omega)
    unfold rowOf
    rw [tabl_getD _ _ _ _ hj, tabl_getD _ _ _ _ (by omega)]
    have := part_row M (n * m) 0 r (p * m) ((p + 1) * m) i j (by omega) (by omega)
    rw [show (p + 1) * m - p * m = m by omega, Nat.zero_add] at this
    exact this
  · have e : (p + 1) * m = p * m + m := Nat.succ_mul _ _
    exact slc_getD _ _ _ _ (by omega)
theorem tot_app : ∀ a b : List Int, tot (a ++ b) = tot a + tot b
  | [], b => by simp [tot]
  | x :: a, b => by rw [List.cons_append, tot, tot, tot_app a b, Int.add_assoc]
theorem sumsS_rot (n : Nat) (ys : List (List Int)) (k : Nat) : sumsS n (ys.drop k ++ ys.take k) = sumsS n ys := tabl_congr fun j _ => by
  unfold colS
  congr 1
  conv => rhs; rw [← List.take_append_drop k ys]
  rw [List.map_append, List.map_append, tot_app, tot_app, Int.add_comm]
end Go.Proofs.YtbfiagimgokccaaGreat
end
section
namespace Go.Proofs.YtbfiagimgokccaaGreat
open Go Go.Hp
set_option linter.unusedVariables false
set_option linter.unusedSimpArgs false
set_option linter.unusedSectionVars false
def contS (L : List S_ref08_Kept) (cur : S_ref08_Kept) (ly pl : Nat) : Option (List Int × List Int) :=
  if pl < L.length then some ((L.getD pl zK).K.getD ly [], (L.getD pl zK).V.getD ly [])
  else if pl = L.length ∧ ly < cur.K.length then some (cur.K.getD ly [], cur.V.getD ly []) else none
def cutR (d : Dim) (c : Cu) (p : Nat) (r : List Int × List Int) : S_cache_rows := ⟨slc r.1 (hb d c p) (hb d c (p + 1)), slc r.2 (hb d c p) (hb d c (p + 1))⟩
theorem getD_app_lt {α : Type} (a b : List α) (z : α) (i : Nat) (h : i < a.length) : (a ++ b).getD i z = a.getD i z := by
  rw [List.getD_eq_getElem?_getD, List.getElem?_append_left h, List.getD_eq_getElem?_getD]
theorem getD_app_at {α : Type} (a : List α) (x z : α) : (a ++ [x]).getD a.length z = x := by
  rw [List.getD_eq_getElem?_getD, List.getElem?_append_right (Nat.le_refl _), Nat.sub_self]; rfl
section
variable {d : Dim} (hd : DOK d) (hp0 : 0 < d.pl) {c : Cu} (hc : COK d c) {w : S_api_Weights} (hw : WOK d w)
include hd hc
theorem hbA (p : Nat) : hb d c p = (p * hpa d c) * d.wd := by rw [hb_is hd hc, Nat.mul_assoc]
theorem hbB (p : Nat) : hb d c (p + 1) = (p * hpa d c + hpa d c) * d.wd := by rw [hb_is hd hc, ← Nat.mul_assoc, Nat.succ_mul]
theorem hpa_in (p : Nat) (hp : p < c.pa) : p * hpa d c + hpa d c ≤ d.h := by
  have h1 : (p + 1) * hpa d c ≤ c.pa * hpa d c := Nat.mul_le_mul_right _ (by omega)
  rw [(hpa_pos hd hc).2, Nat.succ_mul] at h1
  exact h1
theorem quants_p (m : S_api_Mat) (a : List Int) (p : Nat) (hp : p < c.pa) : quantsS (partM m d.w (hb d c p) (hb d c (p + 1)) 0 d.w) a (hpa d c * d.wd) d.w = slc (quantsS m a d.w d.w) (hb d c p) (hb d c (p + 1)) := by
  obtain ⟨_, h2, h3⟩ := hb_fit hd hc p hp
  rw [← h3]
  exact quants_rows m a d.w d.w _ _ h2
theorem turned_p (m : S_api_Mat) (a : List Int) (place p : Nat) (hp : p < c.pa) : turnedS place d.wd (quantsS (partM m d.w (hb d c p) (hb d c (p + 1)) 0 d.w) a (hpa d c * d.wd) d.w) (hpa d c) = slc (turnedS place d.wd (quantsS m a d.w d.w) d.h) (hb d c p) (hb d c (p + 1)) := by
  rw [quants_p hd hc m a p hp, hbB hd hc, hbA hd hc]
  exact turned_cut place d.wd _ d.h (quantsS_len _ _ _ _) hd.wd.2.1 _ _ (hpa_in hd hc p hp)
theorem kG_p (b : S_api_Block) (place : Nat) (x : List Int) (p : Nat) (hp : p < c.pa) : kG d (hpa d c) (blkS d c p b) place x = slc (kS d b place x) (hb d c p) (hb d c (p + 1)) := turned_p hd hc b.K (normS b.First x) place p hp
theorem qG_p (b : S_api_Block) (place : Nat) (x : List Int) (p : Nat) (hp : p < c.pa) : qG d (hpa d c) (blkS d c p b) place x = slc (qS d b place x) (hb d c p) (hb d c (p + 1)) := turned_p hd hc b.Q (normS b.First x) place p hp
theorem vG_p (b : S_api_Block) (x : List Int) (p : Nat) (hp : p < c.pa) : vG d (hpa d c) (blkS d c p b) x = slc (vS d b x) (hb d c p) (hb d c (p + 1)) := quants_p hd hc b.V (normS b.First x) p hp
theorem ans_p (b : S_api_Block) (L : List S_ref08_Kept) (n : Nat) (g : S_api_Spot → Option S_cache_rows) (req ly : Int) (place : Nat) (hL : L.length = place + 1) (x : List Int) (p : Nat) (hp : p < c.pa)
    (h : ∀ t : Nat, t < place + 1 → (g ⟨req, ly, (t : Int)⟩).getD zR = cutR d c p ((L.getD t zK).K.getD n [], (L.getD t zK).V.getD n [])) :
    ansG d (hpa d c) (blkS d c p b) g req ly place x = applyS (partM b.O d.w 0 d.w (hb d c p) (hb d c (p + 1))) (slc (attS d L n (qS d b place x) d.h) (hb d c p) (hb d c (p + 1))) d.w (hpa d c * d.wd) := by
  unfold ansG
  rw [qG_p hd hc b place x p hp, attS_G, hL, hbB hd hc, hbA hd hc]
  rw [att_cut d.wd (fun p => (L.getD p zK).K.getD n []) (fun p => (L.getD p zK).V.getD n []) _ _ (place + 1) (qS d b place x) (p * hpa d c) (hpa d c) d.h (hpa_in hd hc p hp) (fun t ht => by
      show ((g ⟨req, ly, (t : Int)⟩).getD zR).k = _
      rw [h t ht, ← hbB hd hc, ← hbA hd hc]; rfl) (fun t ht => by
      show ((g ⟨req, ly, (t : Int)⟩).getD zR).v = _
      rw [h t ht, ← hbB hd hc, ← hbA hd hc]; rfl), ← hbB hd hc, ← hbA hd hc]
  rfl
theorem ans_sum (b : S_api_Block) (a : List Int) : sumsS d.w (tabl c.pa fun p => applyS (partM b.O d.w 0 d.w (hb d c p) (hb d c (p + 1))) (slc a (hb d c p) (hb d c (p + 1))) d.w (hpa d c * d.wd)) = applyS b.O a d.w d.w := by
  have e : c.pa * (hpa d c * d.wd) = d.w := by rw [← Nat.mul_assoc, (hpa_pos hd hc).2]; rfl
  have := cols_sum b.O a d.w c.pa (hpa d c * d.wd)
  rw [e] at this
  rw [← this]
  congr 1
  exact tabl_congr fun p _ => by rw [hb_is hd hc, hb_is hd hc]
theorem wid_p (b : S_api_Block) (x : List Int) (p : Nat) (hp : p < c.pa) : widG d (ipa d c) (blkS d c p b) x = applyS (partM b.Down d.inn 0 d.w (nb d c p) (nb d c (p + 1))) (slc (reluS (quantsS b.Up (normS b.Second x) d.inn d.w)) (nb d c p) (nb d c (p + 1))) d.w (ipa d c) := by
  obtain ⟨_, h2, h3⟩ := nb_fit hd hc p hp
  unfold widG
  show applyS (partM b.Down d.inn 0 d.w (nb d c p) (nb d c (p + 1))) (reluS (quantsS (partM b.Up d.w (nb d c p) (nb d c (p + 1)) 0 d.w) (normS b.Second x) (ipa d c) d.w)) d.w (ipa d c) = _
  rw [← relu_slc _ _ _ (by rw [quantsS_len]; exact h2), ← quants_rows b.Up _ d.inn d.w _ _ h2, h3]
theorem wid_sum (b : S_api_Block) (u : List Int) : sumsS d.w (tabl c.pa fun p => applyS (partM b.Down d.inn 0 d.w (nb d c p) (nb d c (p + 1))) (slc u (nb d c p) (nb d c (p + 1))) d.w (ipa d c)) = applyS b.Down u d.w d.inn := by
  have e : c.pa * ipa d c = d.inn := (ipa_pos hd hc).2
  have := cols_sum b.Down u d.w c.pa (ipa d c)
  rw [e] at this
  rw [← this]
  congr 1
  exact tabl_congr fun p _ => by rw [nb_is hd hc, nb_is hd hc]
end
theorem contS_other (L : List S_ref08_Kept) (cur : S_ref08_Kept) (k v : List Int) (hcl : cur.K.length = cur.V.length) (ly pl : Nat) (h : ly ≠ cur.K.length) : contS L ⟨cur.K ++ [k], cur.V ++ [v]⟩ ly pl = contS L cur ly pl := by
  unfold contS
  by_cases c1 : pl < L.length
  · rw [if_pos c1, if_pos c1]
  · rw [if_neg c1, if_neg c1]
    by_cases c2 : pl = L.length ∧ ly < cur.K.length
    · rw [if_pos c2, if_pos ⟨c2.1, by show ly < (cur.K ++ [k]).length; rw [List.length_append]; omega⟩]
      show some ((cur.K ++ [k]).getD ly [], (cur.V ++ [v]).getD ly []) = _
      rw [getD_app_lt _ _ _ _ c2.2, getD_app_lt _ _ _ _ (by omega)]
    · rw [if_neg c2, if_neg (fun q => c2 ⟨q.1, by
        have q2 : ly < (cur.K ++ [k]).length := q.2
        rw [List.length_append, List.length_singleton] at q2
        omega⟩)]
theorem contS_at (L : List S_ref08_Kept) (cur : S_ref08_Kept) (k v : List Int) (hcl : cur.K.length = cur.V.length) : contS L ⟨cur.K ++ [k], cur.V ++ [v]⟩ cur.K.length L.length = some (k, v) := by
  unfold contS
  rw [if_neg (by omega), if_pos ⟨rfl, by show cur.K.length < (cur.K ++ [k]).length; rw [List.length_append, List.length_singleton]; omega⟩]
  show some ((cur.K ++ [k]).getD cur.K.length [], (cur.V ++ [v]).getD cur.K.length []) = _
  rw [getD_app_at, hcl, getD_app_at]
theorem contS_pl (L : List S_ref08_Kept) (cur : S_ref08_Kept) (k v : List Int) (ly pl : Nat) (h : pl ≠ L.length) : contS L ⟨cur.K ++ [k], cur.V ++ [v]⟩ ly pl = contS L cur ly pl := by
  unfold contS
  by_cases c1 : pl < L.length
  · rw [if_pos c1, if_pos c1]
  · rw [if_neg c1, if_neg c1, if_neg (fun q => h q.1), if_neg (fun q => h q.1)]
theorem contS_none (L : List S_ref08_Kept) (cur : S_ref08_Kept) : contS L cur cur.K.length L.length = none := by
  unfold contS
  rw [if_neg (by omega), if_neg (by omega)]
theorem contS_get (L : List S_ref08_Kept) (cur : S_ref08_Kept) (ly pl : Nat) (h : pl ≤ L.length) (hl : ly < cur.K.length) : contS L cur ly pl = some (((L ++ [cur]).getD pl zK).K.getD ly [], ((L ++ [cur]).getD pl zK).V.getD ly []) := by
  unfold contS
  rcases Nat.lt_or_ge pl L.length with q | q
  · rw [if_pos q, getD_app_lt _ _ _ _ q]
  · obtain rfl : pl = L.length := by omega
    rw [if_neg (by omega), if_pos ⟨rfl, hl⟩, getD_app_at]
theorem contS_full (L : List S_ref08_Kept) (cur : S_ref08_Kept) (ly pl : Nat) (hl : ly < cur.K.length) : contS (L ++ [cur]) zK ly pl = contS L cur ly pl := by
  rcases Nat.lt_or_ge L.length pl with q | q
  · unfold contS
    rw [List.length_append, List.length_singleton, if_neg (by omega), if_neg (fun z => by have : ly < 0 := z.2; omega), if_neg (by omega), if_neg (by omega)]
  · rw [contS_get L cur ly pl q hl]
    unfold contS
    rw [if_pos (by rw [List.length_append, List.length_singleton]; omega)]
end Go.Proofs.YtbfiagimgokccaaGreat
end
section
namespace Go.Proofs.YtbfiagimgokccaaGreat
open Go Go.Hp
set_option linter.unusedVariables false
set_option linter.unusedSimpArgs false
set_option linter.unusedSectionVars false
structure WK (d : Dim) (c : Cu) (s p : Nat) (m : S_cache_Store) (C : Nat → Nat → Nat → Option (List Int × List Int)) (B : Nat) : Prop where
  room : m.room = 1000
  ml : m.m.length ≤ B
  sw : SW (mget m.m) (hpa d c * d.wd) d.pl
  has : ∀ q ly pl : Nat, q < 2 → lb d c s ≤ ly → ly < lb d c (s + 1) → mget m.m ⟨5 + (q : Int), (ly : Int), (pl : Int)⟩ = (C q ly pl).map (cutR d c p)
  no : ∀ t r, mget m.m t = some r → (t.Request = 5 ∨ t.Request = 6) ∧ ((lb d c s : Nat) : Int) ≤ t.Layer ∧ t.Layer < ((lb d c (s + 1) : Nat) : Int) ∧ 0 ≤ t.Place
theorem WK.congr {d : Dim} {c : Cu} {s p : Nat} {m : S_cache_Store} {C C' : Nat → Nat → Nat → Option (List Int × List Int)} {B B' : Nat} (h : WK d c s p m C B) (hB : B ≤ B') (e : ∀ q ly pl : Nat, q < 2 → lb d c s ≤ ly → ly < lb d c (s + 1) → C' q ly pl = C q ly pl) : WK d c s p m C' B' :=
  ⟨h.room, Nat.le_trans h.ml hB, h.sw, fun q ly pl hq h1 h2 => by rw [h.has q ly pl hq h1 h2, e q ly pl hq h1 h2], h.no⟩
def conC (q : Nat) (L O : List S_ref08_Kept) (cur : S_ref08_Kept) (q' ly pl : Nat) : Option (List Int × List Int) := if q' = q then contS L cur ly pl else contS O zK ly pl
theorem conC_other (q : Nat) (L O : List S_ref08_Kept) (cur : S_ref08_Kept) (k v : List Int) (hcl : cur.K.length = cur.V.length) (q' ly pl : Nat) (h : ly ≠ cur.K.length) : conC q L O ⟨cur.K ++ [k], cur.V ++ [v]⟩ q' ly pl = conC q L O cur q' ly pl := by
  unfold conC
  split
  · exact contS_other L cur k v hcl ly pl h
  · rfl
section
variable {d : Dim} (hd : DOK d) (hp0 : 0 < d.pl) {c : Cu} (hc : COK d c) {w : S_api_Weights} (hw : WOK d w)
include hd hp0 hc hw
theorem attend_part {s p : Nat} (hs : s < c.st) (hp : p < c.pa) {m : S_cache_Store} {q : Nat} (hq : q < 2) {L O : List S_ref08_Kept} {cur : S_ref08_Kept} {B : Nat} (hB : B < 1000) (h : WK d c s p m (conC q L O cur) B) (hcl : cur.K.length = cur.V.length) (hl1 : lb d c s ≤ cur.K.length) (hl2 : cur.K.length < lb d c (s + 1)) (hL : L.length < d.pl) (x : List Int) (hx : x.length = d.w) :
    let b := w.Blocks.getD cur.K.length zB
    let k : S_ref08_Kept := ⟨cur.K ++ [kS d b L.length x], cur.V ++ [vS d b x]⟩
    ∃ m', WK d c s p m' (conC q L O k) (B + 1) ∧ block_Attend 5000 (takeS d w c s p) m ⟨5 + (q : Int), ((cur.K.length : Nat) : Int), ((L.length : Nat) : Int)⟩ x = some (applyS (partM b.O d.w 0 d.w (hb d c p) (hb d c (p + 1))) (slc (attS d (L ++ [k]) cur.K.length (qS d b L.length x) d.h) (hb d c p) (hb d c (p + 1))) d.w (hpa d c * d.wd), 0, m') := by
  intro b k
  have hww := dw16 hd; have hpl := hd.pl; have hly := hd.ly
  obtain ⟨l1, l2⟩ := lb_fit hd hc s hs
  have hb_ : layS d w c s p ((cur.K.length : Nat) : Int) = some (blkS d c p b) := by
    unfold layS
    rw [if_pos ⟨by omega, by omega⟩, Int.toNat_natCast]
  have a1 := battend_is hd hp0 hc hw (N := 5000) (by omega) s p hs hp x hx (5 + (q : Int)) ((cur.K.length : Nat) : Int) (blkS d c p b) hb_ L.length hL m h.sw
  have lk := kG_len hd hp0 hc hw (blkS d c p b) L.length x
  have lv := vG_len hd hp0 hc hw (blkS d c p b) x
  have ek := kG_p hd hc b L.length x p hp
  have ev_ := vG_p hd hc b x p hp
  generalize kG d (hpa d c) (blkS d c p b) L.length x = kk at *
  generalize vG d (hpa d c) (blkS d c p b) x = vv at *
  have hCat : ∀ q' ly pl : Nat, q' < 2 → lb d c s ≤ ly → ly < lb d c (s + 1) → mget m.m ⟨5 + (q' : Int), (ly : Int), (pl : Int)⟩ = (conC q L O cur q' ly pl).map (cutR d c p) := h.has
  have e1 : putE m.room m.m.length (mget m.m) ⟨5 + (q : Int), ((cur.K.length : Nat) : Int), ((L.length : Nat) : Int)⟩ kk vv = 0 := putE_new (show (0 : Int) ≤ 5 + (q : Int) by omega) (show (0 : Int) ≤ ((cur.K.length : Nat) : Int) by omega) (show (0 : Int) ≤ ((L.length : Nat) : Int) by omega) (by rw [lk, lv]) (fun z => by
      have z' : (0 : Int) < ((L.length : Nat) : Int) := z
      have e := hCat q cur.K.length (L.length - 1) hq hl1 hl2
      have e2 : ((L.length - 1 : Nat) : Int) = ((L.length : Nat) : Int) - 1 := by omega
      rw [e2] at e
      show mget m.m ⟨5 + (q : Int), ((cur.K.length : Nat) : Int), ((L.length : Nat) : Int) - 1⟩ ≠ none
      rw [e]
      unfold conC contS
      rw [if_pos rfl, if_pos (by omega)]
      exact fun z => by cases z) (by
      rw [hCat q cur.K.length L.length hq hl1 hl2]
      unfold conC
      rw [if_pos rfl, contS_none]; rfl) (by rw [h.room]; have := h.ml; omega)
  rw [if_pos e1] at a1
  have lm := laid_m m ⟨5 + (q : Int), ((cur.K.length : Nat) : Int), ((L.length : Nat) : Int)⟩ kk vv
  have hsw := h.sw.put lm lk lv (by show ((L.length : Nat) : Int) < (d.pl : Int); omega)
  have hrm := putM_room m ⟨5 + (q : Int), ((cur.K.length : Nat) : Int), ((L.length : Nat) : Int)⟩ kk vv
  have hml := putM_len m ⟨5 + (q : Int), ((cur.K.length : Nat) : Int), ((L.length : Nat) : Int)⟩ kk vv
  have hat := lm.at e1
  generalize putM m ⟨5 + (q : Int), ((cur.K.length : Nat) : Int), ((L.length : Nat) : Int)⟩ kk vv = m' at *
  have hcut : cutR d c p (kS d b L.length x, vS d b x) = ⟨kk, vv⟩ := by rw [ek, ev_]; rfl
  have hhas : ∀ q' ly pl : Nat, q' < 2 → lb d c s ≤ ly → ly < lb d c (s + 1) → mget m'.m ⟨5 + (q' : Int), (ly : Int), (pl : Int)⟩ = (conC q L O k q' ly pl).map (cutR d c p) := by
    intro q' ly pl hq' h1 h2
    by_cases c1 : q' = q ∧ ly = cur.K.length ∧ pl = L.length
    · obtain ⟨rfl, rfl, rfl⟩ := c1
      rw [hat]
      unfold conC
      rw [if_pos rfl, contS_at L cur _ _ hcl]
      exact congrArg some hcut.symm
    · rw [lm.other (t := ⟨5 + (q' : Int), (ly : Int), (pl : Int)⟩) (fun z => c1 (by injection z with z1 z2 z3; exact ⟨by omega, by omega, by omega⟩)), hCat q' ly pl hq' h1 h2]
      congr 1
      unfold conC
      by_cases c2 : q' = q
      · rw [if_pos c2, if_pos c2]
        by_cases c3 : ly = cur.K.length
        · exact (contS_pl L cur _ _ ly pl (fun z => c1 ⟨c2, c3, z⟩)).symm
        · exact (contS_other L cur _ _ hcl ly pl c3).symm
      · rw [if_neg c2, if_neg c2]
  refine ⟨m', ⟨by rw [hrm, h.room], by have := h.ml; omega, hsw, hhas, fun t r e => ?_⟩, ?_⟩
  · rw [lm t] at e
    by_cases z : putE m.room m.m.length (mget m.m) ⟨5 + (q : Int), ((cur.K.length : Nat) : Int), ((L.length : Nat) : Int)⟩ kk vv = 0 ∧ mget m.m ⟨5 + (q : Int), ((cur.K.length : Nat) : Int), ((L.length : Nat) : Int)⟩ = none ∧ t = ⟨5 + (q : Int), ((cur.K.length : Nat) : Int), ((L.length : Nat) : Int)⟩
    · rw [z.2.2]
      refine ⟨?_, ?_, ?_, ?_⟩
      · show (5 + (q : Int) = 5 ∨ 5 + (q : Int) = 6); omega
      · show ((lb d c s : Nat) : Int) ≤ ((cur.K.length : Nat) : Int); omega
      · show ((cur.K.length : Nat) : Int) < ((lb d c (s + 1) : Nat) : Int); omega
      · show (0 : Int) ≤ ((L.length : Nat) : Int); omega
    · rw [if_neg z] at e
      exact h.no t r e
  · rw [a1]
    congr 2
    refine ans_p hd hc b (L ++ [k]) cur.K.length (mget m'.m) (5 + (q : Int)) ((cur.K.length : Nat) : Int) L.length (by rw [List.length_append]; rfl) x p hp fun t ht => ?_
    rw [hhas q cur.K.length t hq hl1 hl2]
    unfold conC
    rw [if_pos rfl, contS_get L k cur.K.length t (by omega) (by show cur.K.length < (cur.K ++ [kS d b L.length x]).length; rw [List.length_append, List.length_singleton]; omega)]
    rfl
end
end Go.Proofs.YtbfiagimgokccaaGreat
end
section
namespace Go.Proofs.YtbfiagimgokccaaGreat
open Go Go.Hp
set_option linter.unusedVariables false
set_option linter.unusedSimpArgs false
set_option linter.unusedSectionVars false
def zS : S_cache_Store := ⟨0, []⟩
def ssL (d : Dim) (w : S_api_Weights) (c : Cu) : List S_api_Shard := tabl (c.st * c.pa) fun i => takeS d w c (i / c.pa) (i % c.pa)
def CI (c : Cu) (cs : List S_cache_Store) (G : Nat → Nat → S_cache_Store → Prop) : Prop := cs.length = c.st * c.pa ∧ ∀ s p, s < c.st → p < c.pa → G s p (cs.getD (s * c.pa + p) zS)
theorem CI.mono {c : Cu} {cs : List S_cache_Store} {G G' : Nat → Nat → S_cache_Store → Prop} (h : CI c cs G) (e : ∀ s p m, s < c.st → p < c.pa → G s p m → G' s p m) : CI c cs G' := ⟨h.1, fun s p hs hp => e s p _ hs hp (h.2 s p hs hp)⟩
theorem at_lt {st pa s p : Nat} (hs : s < st) (hp : p < pa) : s * pa + p < st * pa := by
  have h1 : (s + 1) * pa ≤ st * pa := Nat.mul_le_mul_right _ (by omega)
  rw [Nat.succ_mul] at h1
  omega
theorem at_inj {pa s p s' p' : Nat} (hp : p < pa) (hp' : p' < pa) (h : s' * pa + p' = s * pa + p) : s' = s ∧ p' = p := by
  obtain ⟨e1, e2⟩ := divmod_at s pa p hp
  obtain ⟨e3, e4⟩ := divmod_at s' pa p' hp'
  rw [h] at e3 e4
  exact ⟨e3.symm.trans e1, e4.symm.trans e2⟩
theorem getD_set13 {α : Type} (l : List α) (i j : Nat) (v z : α) (hi : i < l.length) : (l.set i v).getD j z = if j = i then v else l.getD j z := by
  rw [List.getD_eq_getElem?_getD, List.getElem?_set, List.getD_eq_getElem?_getD]
  by_cases h : i = j
  · subst h; rw [if_pos rfl, if_pos hi, if_pos rfl]; rfl
  · rw [if_neg h, if_neg (fun e => h e.symm)]
theorem turned13_is (ys : List (List Int)) (t : Int) (h0 : 0 < ys.length) (h1 : ys.length ≤ 100) : ∃ e, law13_turned ys t = some (ys.drop e ++ ys.take e) := by
  generalize hn : ys.length = n at *
  have hz1 : -(n : Int) < Int.tmod t (n : Int) ∧ Int.tmod t (n : Int) < (n : Int) := ⟨Int.lt_tmod_of_pos t (by omega), Int.tmod_lt_of_pos t (by omega)⟩
  obtain ⟨k, hk⟩ : ∃ k : Nat, Int.tmod t (n : Int) + (n : Int) = (k : Int) := ⟨(Int.tmod t (n : Int) + (n : Int)).toNat, by omega⟩
  have hkm : k % n < n := Nat.mod_lt _ h0
  refine ⟨k % n, ?_⟩
  unfold law13_turned
  rw [hn, chk_ok _ (by omega), chk_ok _ (by omega), W_in (show -9223372036854775808 ≤ Int.tmod t (n : Int) + (n : Int) ∧ Int.tmod t (n : Int) + (n : Int) ≤ 9223372036854775807 by omega), hk, tmodN, Option.bind_some, chk_ok _ (by omega), app_ok _ _ (by simp only [List.length_nil, List.length_drop, List.length_take]; omega), Option.bind_some, chk_ok _ (by omega), Int.toNat_natCast, Int.toNat_natCast, List.nil_append, app_ok _ _ (by simp only [List.length_drop, List.length_take]; omega), Option.bind_some, ← hn, List.take_length]
section
variable {d : Dim} (hd : DOK d) (hp0 : 0 < d.pl) {c : Cu} (hc : COK d c) {w : S_api_Weights} (hw : WOK d w)
include hd hp0 hc hw
theorem cut12 : c.st ≤ 3 ∧ c.pa ≤ 4 ∧ c.st * c.pa ≤ 12 ∧ 0 < c.st * c.pa := by
  have := hc.st; have := hc.pa; have := hd.ly; have := hd.h
  exact ⟨by omega, by omega, Nat.mul_le_mul (show c.st ≤ 3 by omega) (show c.pa ≤ 4 by omega), Nat.mul_pos (by omega) (by omega)⟩
theorem ss_at {s p : Nat} (hs : s < c.st) (hp : p < c.pa) : idx (ssL d w c) ((s * c.pa + p : Nat) : Int) = some (takeS d w c s p) := by
  obtain ⟨e1, e2⟩ := divmod_at s c.pa p hp
  unfold ssL
  rw [idx_t _ (at_lt hs hp), e1, e2]
theorem at_W {s p : Nat} (hs : s < c.st) (hp : p < c.pa) : IntKind.i64.wrap (IntKind.i64.wrap ((s : Int) * (takeS d w c 0 0).Cut.Parts) + (p : Int)) = ((s * c.pa + p : Nat) : Int) := by
  obtain ⟨h1, h2, h3, h4⟩ := cut12 hd hp0 hc hw
  have := at_lt hs hp
  have e : IntKind.i64.wrap ((s : Int) * (takeS d w c 0 0).Cut.Parts) = ((s * c.pa : Nat) : Int) := mulN s c.pa (by omega)
  rw [e, W_in (by omega)]; omega
theorem cutP {i : Nat} (h : i < c.pa) : (i : Int) < (takeS d w c 0 0).Cut.Parts := by show (i : Int) < (c.pa : Int); omega
theorem cutN : ¬ (c.pa : Int) < (takeS d w c 0 0).Cut.Parts := by show ¬ (c.pa : Int) < (c.pa : Int); omega
theorem lb_mono {a b : Nat} (h : a ≤ b) : lb d c a ≤ lb d c b := Nat.div_le_div_right (Nat.mul_le_mul_right _ h)
theorem join13 (x : List Int) (hx : x.length = d.w) (ys : List (List Int)) (hy : ∀ y ∈ ys, y.length = d.w) (hl : ys.length ≤ 100) (e : Nat) : block_Join 5000 x (ys.drop e ++ ys.take e) = some (joinS x (sumsS d.w ys) 1 4, 0) := by
  have hww := dw16 hd
  rw [bjoin_is (by omega) x _ (by omega) (by rw [List.length_append, List.length_drop, List.length_take]; omega) (fun y hy' => by
    rw [hx]
    rcases List.mem_append.1 hy' with z | z
    · exact hy y (List.mem_of_mem_drop z)
    · exact hy y (List.mem_of_mem_take z)), hx, sumsS_rot]
theorem through_L5 {s : Nat} (hs : s < c.st) (x2 : S_law13_run) (ly : Nat) (hly : lb d c s ≤ ly ∧ ly < lb d c (s + 1)) (cs : List S_cache_Store) (x : List Int) (hx : x.length = d.w) (k3 : List S_cache_Store → List Int → Int → Option (List Int × Bool × List S_cache_Store)) :
    law13_through.L5 5000 (ssL d w c) x2 (takeS d w c 0 0) (s : Int) (ly : Int) cs (x, 0) k3 5000 [] 0 = k3 cs (joinS x (applyS (w.Blocks.getD ly zB).Down (reluS (quantsS (w.Blocks.getD ly zB).Up (normS (w.Blocks.getD ly zB).Second x) d.inn d.w)) d.w d.inn) 1 4) ((ly + 1 : Nat) : Int) := by
  obtain ⟨h1, h2, h3, h4⟩ := cut12 hd hp0 hc hw
  have hpa0 := hc.pa; have hl2 := lb_fit hd hc s hs; have hdl := hd.ly
  have hlay : ∀ p, p < c.pa → layS d w c s p (ly : Int) = some (blkS d c p (w.Blocks.getD ly zB)) := fun p hp => by
    unfold layS; rw [if_pos ⟨by omega, by omega⟩, Int.toNat_natCast]
  refine loop_c (fun m (t : List (List Int)) i => law13_through.L5 5000 (ssL d w c) x2 (takeS d w c 0 0) (s : Int) (ly : Int) cs (x, 0) k3 m t i) (fun i => tabl i fun p => widG d (ipa d c) (blkS d c p (w.Blocks.getD ly zB)) x) c.pa _ (fun m i hi => ?_) (fun m => ?_) 5000 (by omega)
  · show law13_through.L5 5000 (ssL d w c) x2 (takeS d w c 0 0) (s : Int) (ly : Int) cs (x, 0) k3 (m + 1) _ (i : Int) = law13_through.L5 5000 (ssL d w c) x2 (takeS d w c 0 0) (s : Int) (ly : Int) cs (x, 0) k3 m _ _
    rw [law13_through.L5, if_pos (cutP hd hp0 hc hw hi), at_W hd hp0 hc hw hs hi, ss_at hd hp0 hc hw hs hi, Option.bind_some]
    show (block_Widen 5000 (takeS d w c s i) (ly : Int) x).bind _ = _
    rw [bwiden_is hd hp0 hc hw (by omega) s i hs hi x hx, Option.bind_some]
    unfold wdnG
    rw [hlay i hi, if_neg (fun q => q rfl), app_ok _ _ (by rw [tabl_len]; simp only [List.length_singleton]; omega), Option.bind_some, W_succ i (by omega), tabl_snoc]
  · show law13_through.L5 5000 (ssL d w c) x2 (takeS d w c 0 0) (s : Int) (ly : Int) cs (x, 0) k3 (m + 1) _ (c.pa : Int) = _
    rw [law13_through.L5, if_neg (cutN hd hp0 hc hw)]
    obtain ⟨e, he⟩ := turned13_is (tabl c.pa fun p => widG d (ipa d c) (blkS d c p (w.Blocks.getD ly zB)) x) (IntKind.i64.wrap (x2.turn + 1)) (by rw [tabl_len]; omega) (by rw [tabl_len]; omega)
    rw [he, Option.bind_some]
    show (block_Join 5000 x _).bind _ = _
    rw [join13 hd hp0 hc hw x hx _ (fun y hy => by
      obtain ⟨p, _, rfl⟩ := List.mem_map.1 hy
      exact widG_len hd hp0 hc hw _ _ _) (by rw [tabl_len]; omega) e, Option.bind_some, if_neg (fun q => q rfl), W_succ ly (by omega)]
    have : (tabl c.pa fun p => widG d (ipa d c) (blkS d c p (w.Blocks.getD ly zB)) x) = tabl c.pa fun p => applyS (partM (w.Blocks.getD ly zB).Down d.inn 0 d.w (nb d c p) (nb d c (p + 1))) (slc (reluS (quantsS (w.Blocks.getD ly zB).Up (normS (w.Blocks.getD ly zB).Second x) d.inn d.w)) (nb d c p) (nb d c (p + 1))) d.w (ipa d c) := tabl_congr fun p hp => wid_p hd hc _ x p hp
    rw [this, wid_sum hd hc]
theorem through_L4 {s : Nat} (hs : s < c.st) (x2 : S_law13_run) {q : Nat} (hq : q < 2) {L O : List S_ref08_Kept} {cur : S_ref08_Kept} {B : Nat} (hB : B < 1000) (hcl : cur.K.length = cur.V.length) (hl1 : lb d c s ≤ cur.K.length) (hl2 : cur.K.length < lb d c (s + 1)) (hL : L.length < d.pl) (x : List Int) (hx : x.length = d.w)
    (hr : x2.request = 5 + (q : Int)) (hpl : x2.place = ((L.length : Nat) : Int)) (cs : List S_cache_Store) (h : CI c cs fun s' p' m => WK d c s' p' m (conC q L O cur) B) (k3 : List S_cache_Store → List Int → Int → Option (List Int × Bool × List S_cache_Store)) :
    let b := w.Blocks.getD cur.K.length zB
    let k : S_ref08_Kept := ⟨cur.K ++ [kS d b L.length x], cur.V ++ [vS d b x]⟩
    ∃ cs', CI c cs' (fun s' p' m => WK d c s' p' m (conC q L O k) (B + 1)) ∧ law13_through.L4 5000 (ssL d w c) x2 (takeS d w c 0 0) (s : Int) x ((cur.K.length : Nat) : Int) k3 5000 cs [] 0 = k3 cs' (tailS d b x (attS d (L ++ [k]) cur.K.length (qS d b L.length x) d.h)) ((cur.K.length + 1 : Nat) : Int) := by
  intro b k
  obtain ⟨h1, h2, h3, h4⟩ := cut12 hd hp0 hc hw
  have hpa0 := hc.pa; have hl3 := lb_fit hd hc s hs; have hdl := hd.ly
  let G : Nat → Nat → Nat → S_cache_Store → Prop := fun p s' p' m => if s' = s ∧ p' < p then WK d c s' p' m (conC q L O k) (B + 1) else WK d c s' p' m (conC q L O cur) B
  let Y : Nat → List Int := fun p => applyS (partM b.O d.w 0 d.w (hb d c p) (hb d c (p + 1))) (slc (attS d (L ++ [k]) cur.K.length (qS d b L.length x) d.h) (hb d c p) (hb d c (p + 1))) d.w (hpa d c * d.wd)
  have key : ∀ (r p f : Nat) (cs : List S_cache_Store), p + r = c.pa → r < f → CI c cs (G p) → ∃ cs', CI c cs' (fun s' p' m => WK d c s' p' m (conC q L O k) (B + 1)) ∧ law13_through.L4 5000 (ssL d w c) x2 (takeS d w c 0 0) (s : Int) x ((cur.K.length : Nat) : Int) k3 f cs (tabl p Y) (p : Int) = k3 cs' (tailS d b x (attS d (L ++ [k]) cur.K.length (qS d b L.length x) d.h)) ((cur.K.length + 1 : Nat) : Int) := by
    intro r
    induction r with
    | zero =>
      intro p f cs hp hf hG
      obtain ⟨f, rfl⟩ : ∃ q, f = q + 1 := ⟨f - 1, by omega⟩
      obtain rfl : p = c.pa := by omega
      refine ⟨cs, hG.mono fun s' p' m hs' hp' hm => ?_, ?_⟩
      · by_cases e : s' = s
        · have hm' : WK d c s' p' m (conC q L O k) (B + 1) := by
            have hm2 : (if s' = s ∧ p' < c.pa then WK d c s' p' m (conC q L O k) (B + 1) else WK d c s' p' m (conC q L O cur) B) := hm
            rw [if_pos ⟨e, hp'⟩] at hm2; exact hm2
          exact hm'
        · have hm' : WK d c s' p' m (conC q L O cur) B := by
            have hm2 : (if s' = s ∧ p' < c.pa then WK d c s' p' m (conC q L O k) (B + 1) else WK d c s' p' m (conC q L O cur) B) := hm
            rw [if_neg (fun z => e z.1)] at hm2; exact hm2
          refine hm'.congr (by omega) fun q' ly pl _ g1 g2 => conC_other q L O cur _ _ hcl q' ly pl fun z => ?_
          rcases Nat.lt_or_ge s' s with u | u
          · have := lb_mono hd hp0 hc hw (a := s' + 1) (b := s) (by omega); omega
          · have := lb_mono hd hp0 hc hw (a := s + 1) (b := s') (by omega); omega
      · rw [law13_through.L4, if_neg (cutN hd hp0 hc hw)]
        obtain ⟨e, he⟩ := turned13_is (tabl c.pa Y) x2.turn (by rw [tabl_len]; omega) (by rw [tabl_len]; omega)
        rw [he, Option.bind_some, join13 hd hp0 hc hw x hx _ (fun y hy => by
          obtain ⟨p, _, rfl⟩ := List.mem_map.1 hy
          exact applyS_len _ _ _ _) (by rw [tabl_len]; omega) e, Option.bind_some, if_neg (fun q => q rfl), show sumsS d.w (tabl c.pa Y) = applyS b.O (attS d (L ++ [k]) cur.K.length (qS d b L.length x) d.h) d.w d.w from ans_sum hd hc b _, through_L5 hd hp0 hc hw hs x2 cur.K.length ⟨hl1, hl2⟩ cs _ (by rw [joinS_len, hx]) k3]
        rfl
    | succ r ih =>
      intro p f cs hp hf hG
      obtain ⟨f, rfl⟩ : ∃ q, f = q + 1 := ⟨f - 1, by omega⟩
      have hpp : p < c.pa := by omega
      have hlt := at_lt hs hpp
      have hm : WK d c s p (cs.getD (s * c.pa + p) zS) (conC q L O cur) B := by
        have hm2 : (if s = s ∧ p < p then WK d c s p (cs.getD (s * c.pa + p) zS) (conC q L O k) (B + 1) else WK d c s p (cs.getD (s * c.pa + p) zS) (conC q L O cur) B) := hG.2 s p hs hpp
        rw [if_neg (by omega)] at hm2; exact hm2
      obtain ⟨m', hm', ea⟩ := attend_part hd hp0 hc hw hs hpp hq hB hm hcl hl1 hl2 hL x hx
      rw [law13_through.L4, if_pos (cutP hd hp0 hc hw hpp), at_W hd hp0 hc hw hs hpp, Option.bind_some, ss_at hd hp0 hc hw hs hpp, Option.bind_some, idx_d cs zS (by rw [hG.1]; exact hlt), Option.bind_some, hr, hpl, ea, Option.bind_some, if_neg (fun q => q rfl), app_ok _ _ (by rw [tabl_len]; simp only [List.length_singleton]; omega), Option.bind_some, W_succ p (by omega), Int.toNat_natCast]
      have := ih (p + 1) f (cs.set (s * c.pa + p) m') (by omega) (by omega) ⟨by rw [List.length_set]; exact hG.1, fun s' p' hs' hp' => by
        show (if s' = s ∧ p' < p + 1 then WK d c s' p' ((cs.set (s * c.pa + p) m').getD (s' * c.pa + p') zS) (conC q L O k) (B + 1) else WK d c s' p' ((cs.set (s * c.pa + p) m').getD (s' * c.pa + p') zS) (conC q L O cur) B)
        rw [getD_set13 _ _ _ _ _ (by rw [hG.1]; exact hlt)]
        by_cases e : s' * c.pa + p' = s * c.pa + p
        · obtain ⟨rfl, rfl⟩ := at_inj hpp hp' e
          rw [if_pos rfl, if_pos ⟨rfl, by omega⟩]
          exact hm'
        · rw [if_neg e]
          have hm2 : (if s' = s ∧ p' < p then WK d c s' p' (cs.getD (s' * c.pa + p') zS) (conC q L O k) (B + 1) else WK d c s' p' (cs.getD (s' * c.pa + p') zS) (conC q L O cur) B) := hG.2 s' p' hs' hp'
          by_cases e2 : s' = s ∧ p' < p
          · rw [if_pos e2] at hm2
            rw [if_pos ⟨e2.1, by omega⟩]; exact hm2
          · rw [if_neg e2] at hm2
            rw [if_neg (fun z => e2 ⟨z.1, by
              rcases Nat.lt_or_ge p' p with u | u
              · exact u
              · exact absurd (by rw [z.1, show p' = p by omega]) e⟩)]
            exact hm2⟩
      rw [tabl_snoc] at this
      exact this
  exact key c.pa 0 5000 cs (by omega) (by omega) (h.mono fun s' p' m _ _ hm => by
    show (if s' = s ∧ p' < 0 then WK d c s' p' m (conC q L O k) (B + 1) else WK d c s' p' m (conC q L O cur) B)
    rw [if_neg (by omega)]; exact hm)
end
end Go.Proofs.YtbfiagimgokccaaGreat
end
section
namespace Go.Proofs.YtbfiagimgokccaaGreat
open Go Go.Hp
set_option linter.unusedVariables false
set_option linter.unusedSimpArgs false
set_option linter.unusedSectionVars false
section
variable {d : Dim} (hd : DOK d) (hp0 : 0 < d.pl) {c : Cu} (hc : COK d c) {w : S_api_Weights} (hw : WOK d w) (hsh : w.Shape = shapeS d)
include hd hp0 hc hw
theorem through_L3 {s : Nat} (hs : s < c.st) (x2 : S_law13_run) {q : Nat} (hq : q < 2) {L O : List S_ref08_Kept} {B : Nat} (hB : B + d.ly < 1000) (hL : L.length < d.pl) (x : List Int) (hx : x.length = d.w) (hr : x2.request = 5 + (q : Int)) (hpl : x2.place = ((L.length : Nat) : Int)) (k1 : List S_cache_Store → List Int → Int → Option (List Int × Bool × List S_cache_Store)) :
    ∀ (r ly f : Nat) (cs : List S_cache_Store), ly + r = lb d c (s + 1) → lb d c s ≤ ly → r < f → CI c cs (fun s' p' m => WK d c s' p' m (conC q L O (layersS d w L x ly).1) (B + ly)) →
    ∃ cs', CI c cs' (fun s' p' m => WK d c s' p' m (conC q L O (layersS d w L x (lb d c (s + 1))).1) (B + lb d c (s + 1))) ∧
      law13_through.L3 5000 (ssL d w c) x2 (takeS d w c 0 0) (s : Int) ((lb d c (s + 1) : Nat) : Int) k1 f cs (layersS d w L x ly).2 (ly : Int) = k1 cs' (layersS d w L x (lb d c (s + 1))).2 ((s + 1 : Nat) : Int) := by
  have hl3 := lb_fit hd hc s hs; have hdl := hd.ly; have h12 := cut12 hd hp0 hc hw
  intro r
  induction r with
  | zero =>
    intro ly f cs hl h1 hf h
    obtain ⟨f, rfl⟩ : ∃ q, f = q + 1 := ⟨f - 1, by omega⟩
    obtain rfl : ly = lb d c (s + 1) := by omega
    refine ⟨cs, h, ?_⟩
    rw [law13_through.L3, if_neg (by omega), W_succ s (by omega)]
  | succ r ih =>
    intro ly f cs hl h1 hf h
    obtain ⟨f, rfl⟩ : ∃ q, f = q + 1 := ⟨f - 1, by omega⟩
    obtain ⟨hK, hX⟩ := layersS_ok hd hw L x hx ly (by omega)
    have hk1 : (layersS d w L x ly).1.K.length = ly := hK.1
    have hk2 : (layersS d w L x ly).1.V.length = ly := hK.2.1
    obtain ⟨cs', h', e⟩ := through_L4 hd hp0 hc hw hs x2 hq (L := L) (O := O) (cur := (layersS d w L x ly).1) (B := B + ly) (by omega) (by rw [hk1, hk2]) (by rw [hk1]; exact h1) (by rw [hk1]; omega) hL (layersS d w L x ly).2 hX hr hpl cs h (law13_through.L3 5000 (ssL d w c) x2 (takeS d w c 0 0) (s : Int) ((lb d c (s + 1) : Nat) : Int) k1 f)
    rw [hk1] at e
    rw [hk1] at h'
    obtain ⟨cs2, h2, e2⟩ := ih (ly + 1) f cs' (by omega) (by omega) (by omega) h'
    refine ⟨cs2, h2, ?_⟩
    rw [law13_through.L3, if_pos (by omega), e]
    exact e2
theorem lb_0 : lb d c 0 = 0 := by unfold lb sp; rw [Nat.zero_mul, Nat.zero_div]
theorem lb_st : lb d c c.st = d.ly := by
  have := hc.st
  unfold lb sp; rw [Nat.mul_comm, Nat.mul_div_cancel _ this.1]
theorem last_at : (c.st - 1) * c.pa + (c.pa - 1) + 1 = c.st * c.pa := by
  have h1 := hc.st; have h2 := hc.pa
  obtain ⟨a, ha⟩ : ∃ a, c.st = a + 1 := ⟨c.st - 1, by omega⟩
  rw [ha, Nat.add_sub_cancel, Nat.succ_mul]; omega
theorem through_L1 (x2 : S_law13_run) {q : Nat} (hq : q < 2) {L O : List S_ref08_Kept} {B : Nat} (hB : B + d.ly < 1000) (hL : L.length < d.pl) (t : Nat) (hr : x2.request = 5 + (q : Int)) (hpl : x2.place = ((L.length : Nat) : Int)) :
    ∀ (r s f : Nat) (cs : List S_cache_Store), s + r = c.st → r < f → CI c cs (fun s' p' m => WK d c s' p' m (conC q L O (layersS d w L (inS d w t) (lb d c s)).1) (B + lb d c s)) →
    ∃ cs', CI c cs' (fun s' p' m => WK d c s' p' m (conC q L O (layersS d w L (inS d w t) d.ly).1) (B + d.ly)) ∧
      law13_through.L1 5000 (ssL d w c) x2 (takeS d w c 0 0) f cs (layersS d w L (inS d w t) (lb d c s)).2 (s : Int) = some (outS d w L t, true, cs') := by
  have hdl := hd.ly; have h12 := cut12 hd hp0 hc hw; have hst := hc.st; have hpa0 := hc.pa; have hww := dw16 hd
  have hin : (inS d w t).length = d.w := tabl_len _ _
  intro r
  induction r with
  | zero =>
    intro s f cs hl hf h
    obtain ⟨f, rfl⟩ : ∃ q, f = q + 1 := ⟨f - 1, by omega⟩
    obtain rfl : s = c.st := by omega
    rw [lb_st hd hp0 hc hw] at h ⊢
    refine ⟨cs, h, ?_⟩
    have hlen : (ssL d w c).length = c.st * c.pa := tabl_len _ _
    have hla := last_at hd hp0 hc hw
    have e1 : IntKind.i64.wrap (((ssL d w c).length : Nat) - 1 : Int) = (((c.st - 1) * c.pa + (c.pa - 1) : Nat) : Int) := by rw [hlen, W_in (by omega)]; omega
    rw [law13_through.L1, if_neg (show ¬ ((c.st : Nat) : Int) < (takeS d w c 0 0).Cut.Stages from (by show ¬ ((c.st : Nat) : Int) < ((c.st : Nat) : Int); omega)), e1, ss_at hd hp0 hc hw (show c.st - 1 < c.st by omega) (show c.pa - 1 < c.pa by omega), Option.bind_some, bleave_is hd hp0 hc hw (by omega) (c.st - 1) (c.pa - 1) (by omega) (by omega) _ (layersS_ok hd hw L _ hin d.ly (Nat.le_refl _)).2, if_pos (by omega), Option.bind_some]
    rfl
  | succ r ih =>
    intro s f cs hl hf h
    obtain ⟨f, rfl⟩ : ∃ q, f = q + 1 := ⟨f - 1, by omega⟩
    have hs : s < c.st := by omega
    have hl3 := lb_fit hd hc s hs
    have e0 : idx (ssL d w c) 0 = some (takeS d w c 0 0) := by
      have := ss_at hd hp0 hc hw (s := 0) (p := 0) (by omega) (by omega)
      rw [Nat.zero_mul, Nat.zero_add] at this
      exact this
    obtain ⟨cs', h', e⟩ := through_L3 hd hp0 hc hw hs x2 hq (O := O) hB hL (inS d w t) hin hr hpl (law13_through.L1 5000 (ssL d w c) x2 (takeS d w c 0 0) f) (lb d c (s + 1) - lb d c s) (lb d c s) 5000 cs (by omega) (Nat.le_refl _) (by omega) h
    obtain ⟨cs2, h2, e2⟩ := ih (s + 1) f cs' (by omega) (by omega) h'
    refine ⟨cs2, h2, ?_⟩
    rw [law13_through.L1, if_pos (show (s : Int) < (takeS d w c 0 0).Cut.Stages from (by show (s : Int) < ((c.st : Nat) : Int); omega)), e0, Option.bind_some]
    show (ref10_Span (s : Int) ((d.ly : Nat) : Int) ((c.st : Nat) : Int)).bind _ = _
    rw [span_is s d.ly c.st hst.1 (by omega) (by omega), Option.bind_some]
    unfold law13_through.J2
    exact e.trans e2
def allC (Lf : Nat → List S_ref08_Kept) (q ly pl : Nat) : Option (List Int × List Int) := contS (Lf q) zK ly pl
def upL (Lf : Nat → List S_ref08_Kept) (e : Nat) (k : S_ref08_Kept) (q : Nat) : List S_ref08_Kept := if q = e then Lf q ++ [k] else Lf q
theorem through_is {q : Nat} (hq : q < 2) (Lf : Nat → List S_ref08_Kept) {B : Nat} (hB : B + d.ly < 1000) (hL : (Lf q).length < d.pl) (t : Nat) (ht : t < d.voc) (turn : Int) (cs : List S_cache_Store) (h : CI c cs (fun s' p' m => WK d c s' p' m (allC Lf) B)) :
    ∃ cs', CI c cs' (fun s' p' m => WK d c s' p' m (allC (upL Lf q (keptS d w (Lf q) t))) (B + d.ly)) ∧ law13_through 5000 (ssL d w c) cs ⟨5 + (q : Int), (((Lf q).length : Nat) : Int), (t : Int), turn⟩ = some (outS d w (Lf q) t, true, cs') := by
  have hst := hc.st; have hpa0 := hc.pa
  have hin : (inS d w t).length = d.w := tabl_len _ _
  have e0 : idx (ssL d w c) 0 = some (takeS d w c 0 0) := by
    have := ss_at hd hp0 hc hw (s := 0) (p := 0) (by omega) (by omega)
    rw [Nat.zero_mul, Nat.zero_add] at this
    exact this
  have hK := (layersS_ok hd hw (Lf q) (inS d w t) hin d.ly (Nat.le_refl _)).1
  have hz := lb_0 hd hp0 hc hw
  have hoth : ∀ q', q' < 2 → q' ≠ q → Lf q' = Lf (1 - q) := fun q' h1 h2 => by rw [show q' = 1 - q by omega]
  obtain ⟨cs', h', e⟩ := through_L1 hd hp0 hc hw ⟨5 + (q : Int), (((Lf q).length : Nat) : Int), (t : Int), turn⟩ hq (L := Lf q) (O := Lf (1 - q)) hB hL t rfl rfl c.st 0 5000 cs (by omega) (by omega) (by
    rw [hz]
    exact h.mono fun s' p' m _ _ hm => hm.congr (by omega) fun q' ly pl hq' _ _ => by
      show conC q (Lf q) (Lf (1 - q)) zK q' ly pl = _
      unfold conC allC
      by_cases z : q' = q
      · rw [if_pos z, z]
      · rw [if_neg z, hoth q' hq' z])
  refine ⟨cs', h'.mono fun s' p' m hs' hp' hm => hm.congr (Nat.le_refl _) fun q' ly pl hq' h1 h2 => ?_, ?_⟩
  · have := lb_fit hd hc s' hs'
    unfold conC allC upL
    by_cases z : q' = q
    · rw [if_pos z, if_pos z, z]
      exact contS_full (Lf q) _ ly pl (by rw [show (keptS d w (Lf q) t).K.length = d.ly from hK.1]; omega)
    · rw [if_neg z, if_neg z, hoth q' hq' z]
  · unfold law13_through
    rw [e0, Option.bind_some, Option.bind_some]
    show (block_Enter 5000 (takeS d w c 0 0) (t : Int)).bind _ = _
    rw [enter_ok hd hp0 hc hw (by omega) 0 (by omega) t ht, Option.bind_some, if_neg (fun q => q rfl)]
    rw [hz] at e
    exact e
theorem keeps_is {s p : Nat} (hs : s < c.st) (hp : p < c.pa) {m : S_cache_Store} {Lf : Nat → List S_ref08_Kept} {B : Nat} (h : WK d c s p m (allC Lf) B) {q : Nat} (hq : q < 2) (hL : (Lf q).length ≤ 50) (hK : ∀ k ∈ Lf q, KOK d d.ly k) :
    law13_keeps 5000 (takeS d w c s p) m ⟨5 + (q : Int), 0, 0⟩ ⟨w, Lf q⟩ = some true := by
  have hdl := hd.ly; have hl3 := lb_fit hd hc s hs; have hst := hc.st; have hpa0 := hc.pa; have hww := dw16 hd; have h12 := cut12 hd hp0 hc hw
  obtain ⟨f1, f2, f3⟩ := hb_fit hd hc p hp
  have hrow : ∀ ly t, ly < d.ly → t < (Lf q).length → (((Lf q).getD t zK).K.length = d.ly ∧ ((Lf q).getD t zK).V.length = d.ly) ∧ (((Lf q).getD t zK).K.getD ly []).length = d.w ∧ (((Lf q).getD t zK).V.getD ly []).length = d.w := fun ly t h1 h2 => by
    obtain ⟨k1, k2, k3, k4⟩ := hK _ (getD_in (Lf q) zK t h2)
    exact ⟨⟨k1, k2⟩, k3 _ (getD_in _ _ _ (by omega)), k4 _ (getD_in _ _ _ (by omega))⟩
  unfold law13_keeps
  show (ref10_Span (s : Int) ((d.ly : Nat) : Int) ((c.st : Nat) : Int)).bind _ = _
  rw [span_is s d.ly c.st hst.1 (by omega) (by omega), Option.bind_some]
  refine loop_c (fun m' (_ : Unit) i => law13_keeps.L1 5000 (takeS d w c s p) m ⟨5 + (q : Int), 0, 0⟩ ⟨w, Lf q⟩ ⟨((lb d c s : Nat) : Int), ((lb d c (s + 1) : Nat) : Int)⟩ m' i) (fun _ => ()) d.ly _ (fun m' ly hly => ?_) (fun m' => ?_) 5000 (by omega)
  · show law13_keeps.L1 5000 (takeS d w c s p) m ⟨5 + (q : Int), 0, 0⟩ ⟨w, Lf q⟩ _ (m' + 1) (ly : Int) = law13_keeps.L1 5000 (takeS d w c s p) m ⟨5 + (q : Int), 0, 0⟩ ⟨w, Lf q⟩ _ m' _
    rw [law13_keeps.L1, if_pos (show (ly : Int) < (takeS d w c s p).Shape.Layers from (by show (ly : Int) < ((d.ly : Nat) : Int); omega))]
    by_cases hin : lb d c s ≤ ly ∧ ly < lb d c (s + 1)
    · have hh := h.has q ly
      rw [line_is m (5 + (q : Int)) (ly : Int) (Lf q).length (by omega) (by omega) (fun t => cutR d c p (((Lf q).getD t zK).K.getD ly [], ((Lf q).getD t zK).V.getD ly [])) (fun t ht => by
          rw [hh t hq hin.1 hin.2]
          unfold allC contS
          rw [if_pos ht]; rfl) (by
          rw [hh (Lf q).length hq hin.1 hin.2]
          unfold allC contS
          rw [if_neg (by omega), if_neg (fun z => by have : ly < 0 := z.2; omega)]; rfl) (fun t ht => by
          obtain ⟨_, r1, r2⟩ := hrow ly t hly ht
          show (slc _ _ _).length ≤ 100000 ∧ (slc _ _ _).length ≤ 100000
          rw [slc_len _ _ _ (by rw [r1]; exact f2), slc_len _ _ _ (by rw [r2]; exact f2)]; omega), Option.bind_some]
      show (if (ly : Int) < ((lb d c s : Nat) : Int) then _ else law13_keeps.J3 _ _ _ _ _ _ (decide ((ly : Int) ≥ ((lb d c (s + 1) : Nat) : Int)))) = _
      rw [if_neg (show ¬ (ly : Int) < ((lb d c s : Nat) : Int) by omega), decide_eq_false (show ¬ (ly : Int) ≥ ((lb d c (s + 1) : Nat) : Int) by omega)]
      unfold law13_keeps.J3
      rw [if_neg (by decide), if_neg (by rw [tabl_len]; exact fun z => z rfl), if_neg (by rw [tabl_len]; exact fun z => z rfl)]
      refine loop_c (fun m2 (_ : Unit) i => law13_keeps.L4 5000 (takeS d w c s p) ⟨w, Lf q⟩ (ly : Int) (tabl (Lf q).length fun t => (cutR d c p (((Lf q).getD t zK).K.getD ly [], ((Lf q).getD t zK).V.getD ly [])).k, tabl (Lf q).length fun t => (cutR d c p (((Lf q).getD t zK).K.getD ly [], ((Lf q).getD t zK).V.getD ly [])).v) (law13_keeps.L1 5000 (takeS d w c s p) m ⟨5 + (q : Int), 0, 0⟩ ⟨w, Lf q⟩ ⟨((lb d c s : Nat) : Int), ((lb d c (s + 1) : Nat) : Int)⟩ m') m2 i) (fun _ => ()) (Lf q).length _ (fun m2 t ht => ?_) (fun m2 => ?_) 5000 (by omega)
      · show law13_keeps.L4 5000 (takeS d w c s p) ⟨w, Lf q⟩ (ly : Int) _ _ (m2 + 1) (t : Int) = law13_keeps.L4 5000 (takeS d w c s p) ⟨w, Lf q⟩ (ly : Int) _ _ m2 _
        obtain ⟨⟨n1, n2⟩, r1, r2⟩ := hrow ly t hly ht
        rw [law13_keeps.L4, if_pos (by rw [tabl_len]; omega), idx_t _ ht, Option.bind_some]
        show (block_Rows 5000 (takeS d w c s p) (slc (((Lf q).getD t zK).K.getD ly []) (hb d c p) (hb d c (p + 1)))).bind _ = _
        have q1 : (slc (((Lf q).getD t zK).K.getD ly []) (hb d c p) (hb d c (p + 1))).length = hb d c (p + 1) - hb d c p := slc_len _ _ _ (by rw [r1]; exact f2)
        have q2 : (slc (((Lf q).getD t zK).V.getD ly []) (hb d c p) (hb d c (p + 1))).length = hb d c (p + 1) - hb d c p := slc_len _ _ _ (by rw [r2]; exact f2)
        rw [rows13_is hd hp0 hc hw (by omega) s p hs hp _ (by rw [q1]; omega), if_pos q1, Option.bind_some]
        show law13_keeps.J5 5000 _ _ _ _ _ _ ((hb d c p : Nat) : Int) ((hb d c (p + 1) : Nat) : Int) true = _
        unfold law13_keeps.J5
        rw [if_pos rfl, if_neg (show ¬ ((hb d c p : Nat) : Int) < 0 by omega), if_neg (show ¬ ((hb d c (p + 1) : Nat) : Int) > (takeS d w c s p).Shape.Width from (by show ¬ ((hb d c (p + 1) : Nat) : Int) > ((d.w : Nat) : Int); omega)), if_neg (show ¬ ((hb d c p : Nat) : Int) > ((hb d c (p + 1) : Nat) : Int) by omega), idx_t _ ht, Option.bind_some, idx_d (Lf q) zK ht, Option.bind_some, idx_d _ [] (by rw [n1]; exact hly), Option.bind_some, chk_ok _ (by rw [r1]; omega), Int.toNat_natCast, Int.toNat_natCast]
        show (ref04_Bytes 5000 (slc (((Lf q).getD t zK).K.getD ly []) (hb d c p) (hb d c (p + 1))) (slc (((Lf q).getD t zK).K.getD ly []) (hb d c p) (hb d c (p + 1)))).bind _ = _
        rw [bytes_is _ _ (by rw [q1]; omega) (by rw [q1]; omega), decide_eq_true rfl, Option.bind_some, if_pos rfl, idx_t _ ht, Option.bind_some, idx_d _ [] (by rw [n2]; exact hly), Option.bind_some, chk_ok _ (by rw [r2]; omega)]
        show (ref04_Bytes 5000 (slc (((Lf q).getD t zK).V.getD ly []) (hb d c p) (hb d c (p + 1))) (slc (((Lf q).getD t zK).V.getD ly []) (hb d c p) (hb d c (p + 1)))).bind _ = _
        rw [bytes_is _ _ (by rw [q2]; omega) (by rw [q2]; omega), decide_eq_true rfl, Option.bind_some, if_pos rfl, W_succ t (by omega)]
      · show law13_keeps.L4 5000 (takeS d w c s p) ⟨w, Lf q⟩ (ly : Int) _ _ (m2 + 1) (((Lf q).length : Nat) : Int) = _
        rw [law13_keeps.L4, if_neg (by rw [tabl_len]; omega)]
        unfold law13_keeps.J2
        rw [W_succ ly (by omega)]
    · have hno : mget m.m ⟨5 + (q : Int), (ly : Int), ((0 : Nat) : Int)⟩ = none := by
        cases e : mget m.m ⟨5 + (q : Int), (ly : Int), ((0 : Nat) : Int)⟩ with
        | none => rfl
        | some r =>
          obtain ⟨_, z1, z2, _⟩ := h.no _ _ e
          have z1' : ((lb d c s : Nat) : Int) ≤ (ly : Int) := z1
          have z2' : (ly : Int) < ((lb d c (s + 1) : Nat) : Int) := z2
          exact absurd ⟨by omega, by omega⟩ hin
      rw [line_is m (5 + (q : Int)) (ly : Int) 0 (by omega) (by omega) (fun _ => zR) (fun t ht => absurd ht (Nat.not_lt_zero _)) hno (fun t ht => absurd ht (Nat.not_lt_zero _)), Option.bind_some]
      have hfin : law13_keeps.J3 5000 (takeS d w c s p) ⟨w, Lf q⟩ (ly : Int) (tabl 0 fun _ => zR.k, tabl 0 fun _ => zR.v) (law13_keeps.L1 5000 (takeS d w c s p) m ⟨5 + (q : Int), 0, 0⟩ ⟨w, Lf q⟩ ⟨((lb d c s : Nat) : Int), ((lb d c (s + 1) : Nat) : Int)⟩ m') true = law13_keeps.L1 5000 (takeS d w c s p) m ⟨5 + (q : Int), 0, 0⟩ ⟨w, Lf q⟩ ⟨((lb d c s : Nat) : Int), ((lb d c (s + 1) : Nat) : Int)⟩ m' ((ly + 1 : Nat) : Int) := by
        unfold law13_keeps.J3
        rw [if_pos rfl, if_neg (by rw [tabl_len]; exact fun z => z rfl)]
        unfold law13_keeps.J2
        rw [W_succ ly (by omega)]
      show (if (ly : Int) < ((lb d c s : Nat) : Int) then _ else law13_keeps.J3 _ _ _ _ _ _ (decide ((ly : Int) ≥ ((lb d c (s + 1) : Nat) : Int)))) = _
      by_cases c1 : (ly : Int) < ((lb d c s : Nat) : Int)
      · rw [if_pos c1]; exact hfin
      · rw [if_neg c1, decide_eq_true (show (ly : Int) ≥ ((lb d c (s + 1) : Nat) : Int) by omega)]; exact hfin
  · show law13_keeps.L1 5000 (takeS d w c s p) m ⟨5 + (q : Int), 0, 0⟩ ⟨w, Lf q⟩ _ (m' + 1) ((d.ly : Nat) : Int) = _
    rw [law13_keeps.L1, if_neg (show ¬ ((d.ly : Nat) : Int) < (takeS d w c s p).Shape.Layers from (by show ¬ ((d.ly : Nat) : Int) < ((d.ly : Nat) : Int); omega))]
end
end Go.Proofs.YtbfiagimgokccaaGreat
end
section
namespace Go.Proofs.YtbfiagimgokccaaGreat
open Go Go.Hp
theorem awake13 : law13_awake 5000 = some true := by decide +kernel
end Go.Proofs.YtbfiagimgokccaaGreat
end
section
namespace Go.Proofs.YtbfiagimgokccaaGreat
open Go Go.Hp
set_option linter.unusedVariables false
set_option linter.unusedSimpArgs false
set_option linter.unusedSectionVars false
def runs13 (w : S_api_Weights) (Lf : Nat → List S_ref08_Kept) : List S_ref08_Run := [⟨w, Lf 0⟩, ⟨w, Lf 1⟩]
theorem runs_at (w : S_api_Weights) (Lf : Nat → List S_ref08_Kept) {q : Nat} (hq : q < 2) : idx (runs13 w Lf) (q : Int) = some ⟨w, Lf q⟩ := by
  rcases Nat.lt_or_ge q 1 with h | h
  · obtain rfl : q = 0 := by omega
    rfl
  · obtain rfl : q = 1 := by omega
    rfl
theorem runs_set (w : S_api_Weights) (Lf : Nat → List S_ref08_Kept) {q : Nat} (hq : q < 2) (k : S_ref08_Kept) : (runs13 w Lf).set q ⟨w, Lf q ++ [k]⟩ = runs13 w (upL Lf q k) := by
  rcases Nat.lt_or_ge q 1 with h | h
  · obtain rfl : q = 0 := by omega
    rfl
  · obtain rfl : q = 1 := by omega
    rfl
section
variable {d : Dim} (hd : DOK d) (hp0 : 0 < d.pl) {c : Cu} (hc : COK d c) {w : S_api_Weights} (hw : WOK d w) (hsh : w.Shape = shapeS d)
include hd hp0 hc hw hsh
structure RL (d : Dim) (i : Nat) (Lf : Nat → List S_ref08_Kept) : Prop where
  le : ∀ q, q < 2 → (Lf q).length ≤ i ∧ (Lf q).length ≤ d.pl
  ok : ∀ q, q < 2 → ∀ k ∈ Lf q, KOK d d.ly k
theorem whole_keeps {B : Nat} {Lf : Nat → List S_ref08_Kept} {i : Nat} (hi : i ≤ 50) (hR : RL d i Lf) (cs : List S_cache_Store) (h : CI c cs (fun s' p' m => WK d c s' p' m (allC Lf) B)) : law13_BlockWhole.L3 5000 (ssL d w c) (runs13 w Lf) cs 5000 0 = some true := by
  have h12 := cut12 hd hp0 hc hw; have hpa0 := hc.pa
  have hlen : (ssL d w c).length = c.st * c.pa := tabl_len _ _
  refine loop_c (fun m (_ : Unit) i => law13_BlockWhole.L3 5000 (ssL d w c) (runs13 w Lf) cs m i) (fun _ => ()) (c.st * c.pa) _ (fun m j hj => ?_) (fun m => ?_) 5000 (by omega)
  · show law13_BlockWhole.L3 5000 (ssL d w c) (runs13 w Lf) cs (m + 1) (j : Int) = law13_BlockWhole.L3 5000 (ssL d w c) (runs13 w Lf) cs m _
    have hs : j / c.pa < c.st := (Nat.div_lt_iff_lt_mul hpa0.1).2 hj
    have hp : j % c.pa < c.pa := Nat.mod_lt _ hpa0.1
    have ej : (j / c.pa) * c.pa + j % c.pa = j := by rw [Nat.mul_comm]; exact Nat.div_add_mod _ _
    have hm := h.2 _ _ hs hp
    have hss := ss_at hd hp0 hc hw hs hp
    rw [ej] at hm hss
    rw [law13_BlockWhole.L3, if_pos (by rw [hlen]; omega)]
    refine loop_c (fun m2 (_ : Unit) i => law13_BlockWhole.L4 5000 (ssL d w c) (runs13 w Lf) cs (j : Int) (law13_BlockWhole.L3 5000 (ssL d w c) (runs13 w Lf) cs m) m2 i) (fun _ => ()) 2 _ (fun m2 q hq => ?_) (fun m2 => ?_) 5000 (by omega)
    · show law13_BlockWhole.L4 5000 (ssL d w c) (runs13 w Lf) cs (j : Int) _ (m2 + 1) (q : Int) = law13_BlockWhole.L4 5000 (ssL d w c) (runs13 w Lf) cs (j : Int) _ m2 _
      rw [law13_BlockWhole.L4, if_pos (by omega), hss, Option.bind_some, idx_d cs zS (by rw [h.1]; exact hj), Option.bind_some, runs_at w Lf hq, Option.bind_some, W_in (show -9223372036854775808 ≤ 5 + (q : Int) ∧ 5 + (q : Int) ≤ 9223372036854775807 by omega), keeps_is hd hp0 hc hw hs hp hm hq (by have := (hR.le q hq).1; omega) (hR.ok q hq), Option.bind_some, if_pos rfl, W_succ q (by omega)]
    · show law13_BlockWhole.L4 5000 (ssL d w c) (runs13 w Lf) cs (j : Int) _ (m2 + 1) ((2 : Nat) : Int) = _
      rw [law13_BlockWhole.L4, if_neg (by omega), W_succ j (by omega)]
  · show law13_BlockWhole.L3 5000 (ssL d w c) (runs13 w Lf) cs (m + 1) ((c.st * c.pa : Nat) : Int) = _
    rw [law13_BlockWhole.L3, if_neg (by rw [hlen]; omega)]
theorem whole_step (x1 : List Int) {i : Nat} (hi : i < x1.length) (hi20 : i < 20) {Lf : Nat → List S_ref08_Kept} (hR : RL d i Lf) {cs : List S_cache_Store} (h : CI c cs (fun s' p' m => WK d c s' p' m (allC Lf) (3 * i))) {q : Nat} (hq : q < 2) (k2 : List S_ref08_Run → List S_cache_Store → Int → Option Bool) :
    ∃ Lf' cs', RL d (i + 1) Lf' ∧ CI c cs' (fun s' p' m => WK d c s' p' m (allC Lf') (3 * (i + 1))) ∧ law13_BlockWhole.J6 5000 x1 (w, cutS c) (ssL d w c) (runs13 w Lf) cs (i : Int) k2 (q : Int) = k2 (runs13 w Lf') cs' ((i + 1 : Nat) : Int) := by
  have hdl := hd.ly; have hvoc := hd.voc; have hpl := hd.pl
  unfold law13_BlockWhole.J6
  rw [runs_at w Lf hq, Option.bind_some]
  have hRq := hR.le q hq
  by_cases c1 : (Lf q).length < d.pl
  · show ∃ Lf' cs', _ ∧ _ ∧ (if (((Lf q).length : Nat) : Int) ≥ w.Shape.Places then _ else _) = _
    rw [hw.places, if_neg (by omega), idx_d x1 0 hi, Option.bind_some]
    show ∃ Lf' cs', _ ∧ _ ∧ chk (w.Shape.Vocab ≠ 0) (chk (w.Shape.Vocab ≠ 0) ((law13_through 5000 (ssL d w c) cs ⟨IntKind.i64.wrap (5 + (q : Int)), (((Lf q).length : Nat) : Int), Int.tmod (IntKind.i64.wrap (Int.tmod (x1.getD i 0) w.Shape.Vocab + w.Shape.Vocab)) w.Shape.Vocab, (i : Int)⟩).bind fun r170 => if r170.2.1 = true then (ref08_Run_One 5000 ⟨w, Lf q⟩ (Int.tmod (IntKind.i64.wrap (Int.tmod (x1.getD i 0) w.Shape.Vocab + w.Shape.Vocab)) w.Shape.Vocab)).bind _ else _)) = _
    rw [hw.vocab, chk_ok _ (by omega), chk_ok _ (by omega)]
    have hz1 : -(d.voc : Int) < Int.tmod (x1.getD i 0) (d.voc : Int) ∧ Int.tmod (x1.getD i 0) (d.voc : Int) < (d.voc : Int) := ⟨Int.lt_tmod_of_pos _ (by omega), Int.tmod_lt_of_pos _ (by omega)⟩
    obtain ⟨k, hk⟩ : ∃ k : Nat, Int.tmod (x1.getD i 0) (d.voc : Int) + (d.voc : Int) = (k : Int) := ⟨(Int.tmod (x1.getD i 0) (d.voc : Int) + (d.voc : Int)).toNat, by omega⟩
    rw [W_in (show -9223372036854775808 ≤ Int.tmod (x1.getD i 0) (d.voc : Int) + (d.voc : Int) ∧ Int.tmod (x1.getD i 0) (d.voc : Int) + (d.voc : Int) ≤ 9223372036854775807 by omega), hk, tmodN, W_in (show -9223372036854775808 ≤ 5 + (q : Int) ∧ 5 + (q : Int) ≤ 9223372036854775807 by omega)]
    have ht : k % d.voc < d.voc := Nat.mod_lt _ (by omega)
    generalize k % d.voc = t at ht
    obtain ⟨cs', h', e⟩ := through_is hd hp0 hc hw hq Lf (B := 3 * i) (by omega) c1 t ht (i : Int) cs h
    rw [e, Option.bind_some, if_pos rfl, one_is hd (by omega) hw (Lf q) (by omega) (hR.ok q hq) t ht, Option.bind_some]
    have hol : (outS d w (Lf q) t).length = d.voc := applyS_len _ _ _ _
    show ∃ Lf' cs', _ ∧ _ ∧ (ref04_Ints 5000 (outS d w (Lf q) t) (outS d w (Lf q) t)).bind _ = _
    rw [ints13_same _ (by omega) (by omega), Option.bind_some, if_pos rfl]
    refine ⟨upL Lf q (keptS d w (Lf q) t), cs', ⟨fun q' hq' => ?_, fun q' hq' k hk => ?_⟩, h'.mono fun s p m _ _ hm => hm.congr (by omega) fun _ _ _ _ _ _ => rfl, ?_⟩
    · unfold upL
      split
      · rw [List.length_append, List.length_singleton]
        rename_i z; subst z
        omega
      · have := hR.le q' hq'; omega
    · unfold upL at hk
      split at hk
      · rcases List.mem_append.1 hk with z | z
        · exact hR.ok q' hq' k z
        · rw [List.mem_singleton.1 z]
          exact (layersS_ok hd hw (Lf q) (inS d w t) (tabl_len _ _) d.ly (Nat.le_refl _)).1
      · exact hR.ok q' hq' k hk
    · unfold law13_BlockWhole.J5
      rw [Int.toNat_natCast, W_succ i (by omega)]
      show k2 ((runs13 w Lf).set q ⟨w, Lf q ++ [keptS d w (Lf q) t]⟩) cs' _ = _
      rw [runs_set w Lf hq]
  · refine ⟨Lf, cs, ⟨fun q' hq' => by have := hR.le q' hq'; omega, hR.ok⟩, h.mono fun s p m _ _ hm => hm.congr (by omega) fun _ _ _ _ _ _ => rfl, ?_⟩
    show (if (((Lf q).length : Nat) : Int) ≥ w.Shape.Places then _ else _) = _
    rw [hw.places, if_pos (by omega)]
    unfold law13_BlockWhole.J5
    rw [W_succ i (by omega)]
theorem tmod2 (z : Int) : ∃ q : Nat, q < 2 ∧ Int.tmod (IntKind.i64.wrap (Int.tmod z 2 + 2)) 2 = (q : Int) := by
  have hz1 : -2 < Int.tmod z 2 ∧ Int.tmod z 2 < 2 := ⟨Int.lt_tmod_of_pos z (by decide), Int.tmod_lt_of_pos z (by decide)⟩
  obtain ⟨k, hk⟩ : ∃ k : Nat, Int.tmod z 2 + 2 = (k : Int) := ⟨(Int.tmod z 2 + 2).toNat, by omega⟩
  rw [W_in (show -9223372036854775808 ≤ Int.tmod z 2 + 2 ∧ Int.tmod z 2 + 2 ≤ 9223372036854775807 by omega), hk]
  exact ⟨k % 2, Nat.mod_lt _ (by omega), tmodN k 2⟩
theorem whole_loop (x1 x2 : List Int) (hl : x1.length ≤ 20) (hl2 : x2.length ≤ 20) : ∀ (r i f : Nat) (Lf : Nat → List S_ref08_Kept) (cs : List S_cache_Store), i + r = x1.length → r < f → RL d i Lf → CI c cs (fun s' p' m => WK d c s' p' m (allC Lf) (3 * i)) →
    law13_BlockWhole.L2 5000 x1 x2 (w, cutS c) (ssL d w c) f (runs13 w Lf) cs (i : Int) = some true := by
  intro r
  induction r with
  | zero =>
    intro i f Lf cs hi hf hR h
    obtain ⟨f, rfl⟩ : ∃ q, f = q + 1 := ⟨f - 1, by omega⟩
    rw [law13_BlockWhole.L2, if_neg (by omega)]
    exact whole_keeps hd hp0 hc hw hsh (by omega) hR cs h
  | succ r ih =>
    intro i f Lf cs hi hf hR h
    obtain ⟨f, rfl⟩ : ∃ q, f = q + 1 := ⟨f - 1, by omega⟩
    have key : ∀ q : Nat, q < 2 → law13_BlockWhole.J6 5000 x1 (w, cutS c) (ssL d w c) (runs13 w Lf) cs (i : Int) (law13_BlockWhole.L2 5000 x1 x2 (w, cutS c) (ssL d w c) f) (q : Int) = some true := fun q hq => by
      obtain ⟨Lf', cs', hR', h', e⟩ := whole_step hd hp0 hc hw hsh x1 (i := i) (by omega) (by omega) hR h hq (law13_BlockWhole.L2 5000 x1 x2 (w, cutS c) (ssL d w c) f)
      rw [e]
      exact ih (i + 1) f Lf' cs' (by omega) (by omega) hR' h'
    rw [law13_BlockWhole.L2, if_pos (by omega)]
    by_cases c1 : (i : Int) < ((x2.length : Nat) : Int)
    · rw [if_pos c1, idx_d x2 0 (by omega), Option.bind_some]
      obtain ⟨q, hq, e⟩ := tmod2 hd hp0 hc hw hsh (x2.getD i 0)
      rw [e, Option.bind_some]
      exact key q hq
    · rw [if_neg c1, show Int.tmod (i : Int) 2 = ((i % 2 : Nat) : Int) from tmodN i 2]
      exact key (i % 2) (Nat.mod_lt _ (by omega))
theorem whole_make (x1 x2 : List Int) (hl : x1.length ≤ 20) (hl2 : x2.length ≤ 20) : law13_BlockWhole.L1 5000 x1 x2 (w, cutS c) 5000 [] [] 0 = some true := by
  have h12 := cut12 hd hp0 hc hw; have hpa0 := hc.pa; have hst := hc.st
  have eM : IntKind.i64.wrap ((w, cutS c).2.Stages * (w, cutS c).2.Parts) = ((c.st * c.pa : Nat) : Int) := mulN c.st c.pa (by omega)
  refine loop_c (fun m (t : List S_api_Shard × List S_cache_Store) i => law13_BlockWhole.L1 5000 x1 x2 (w, cutS c) m t.1 t.2 i) (fun i => (tabl i fun i => takeS d w c (i / c.pa) (i % c.pa), tabl i fun _ => (⟨1000, []⟩ : S_cache_Store))) (c.st * c.pa) _ (fun m j hj => ?_) (fun m => ?_) 5000 (by omega)
  · show law13_BlockWhole.L1 5000 x1 x2 (w, cutS c) (m + 1) (tabl j _) (tabl j _) (j : Int) = law13_BlockWhole.L1 5000 x1 x2 (w, cutS c) m (tabl (j + 1) _) (tabl (j + 1) _) _
    have hs : j / c.pa < c.st := (Nat.div_lt_iff_lt_mul hpa0.1).2 hj
    have hp : j % c.pa < c.pa := Nat.mod_lt _ hpa0.1
    rw [law13_BlockWhole.L1, eM, if_pos (by omega)]
    show chk ((c.pa : Int) ≠ 0) (chk ((c.pa : Int) ≠ 0) ((ref11_Take 5000 w (cutS c) (IntKind.i64.wrap (Int.tdiv (j : Int) (c.pa : Int))) (Int.tmod (j : Int) (c.pa : Int))).bind _)) = _
    rw [chk_ok _ (by omega), chk_ok _ (by omega), tmodN, tdivN, W_nat _ (by omega), take13_is hd hc (by omega) hw hsh _ _ hs hp, Option.bind_some, app_ok _ _ (by rw [tabl_len]; simp only [List.length_singleton]; omega), Option.bind_some, show cache_New 1000 = some (some ⟨1000, []⟩, 0) from rfl, Option.bind_some, optc_some, if_neg (fun q => q rfl), app_ok _ _ (by rw [tabl_len]; simp only [List.length_singleton]; omega), Option.bind_some, W_succ j (by omega), tabl_snoc, tabl_snoc]
  · show law13_BlockWhole.L1 5000 x1 x2 (w, cutS c) (m + 1) (ssL d w c) (tabl (c.st * c.pa) _) ((c.st * c.pa : Nat) : Int) = _
    rw [law13_BlockWhole.L1, eM, if_neg (by omega)]
    show law13_BlockWhole.L2 5000 x1 x2 (w, cutS c) (ssL d w c) 5000 (runs13 w fun _ => []) _ ((0 : Nat) : Int) = _
    refine whole_loop hd hp0 hc hw hsh x1 x2 hl hl2 x1.length 0 5000 (fun _ => []) _ (by omega) (by omega) ⟨fun q _ => ⟨Nat.zero_le _, Nat.zero_le _⟩, fun q _ k hk => (by cases hk)⟩ ⟨tabl_len _ _, fun s p hs hp => ?_⟩
    rw [tabl_getD _ _ _ _ (at_lt hs hp)]
    exact ⟨rfl, Nat.zero_le _, ⟨fun _ _ e => (by cases e), fun _ _ e => (by cases e), fun _ _ e => (by cases e)⟩, fun q ly pl _ _ _ => by
      unfold allC contS
      rw [if_neg (by simp), if_neg (fun z => by have : ly < 0 := z.2; omega)]; rfl, fun _ _ e => (by cases e)⟩
end
theorem blockWhole (x0 : S_law13_Seeds) (x1 x2 : List Int) : law13_BlockWhole 5000 x0 x1 x2 = some true := by
  obtain ⟨d, w, hd, hv, hp, hw, hsh, em⟩ := made_is (N := 5000) (Nat.le_refl _) x0.N x0.Seed [] (by simp)
  obtain ⟨c, hc, ec⟩ := cut_is hd (N := 5000) (by omega) x0.A x0.B
  have hm : law13_made 5000 x0 = some (w, cutS c) := by
    unfold law13_made
    show (ref08_Made 5000 x0.N x0.Seed []).bind _ = _
    rw [em, Option.bind_some]
    show (ref10_Cut 5000 w.Shape x0.A x0.B).bind _ = _
    rw [show ref10_Cut 5000 w.Shape x0.A x0.B = some (cutS c) by rw [hsh]; exact ec, Option.bind_some]
  unfold law13_BlockWhole
  rw [awake13, Option.bind_some, if_pos rfl]
  by_cases c1 : ((x1.length : Nat) : Int) > 20
  · rw [if_pos c1, Option.bind_some]
  rw [if_neg c1]
  by_cases c2 : ((x2.length : Nat) : Int) > 20
  · rw [if_pos c2, Option.bind_some]
  rw [if_neg c2]
  show (law13_made 5000 x0).bind _ = _
  rw [hm, Option.bind_some]
  exact whole_make hd (by omega) hc hw hsh x1 x2 (by omega) (by omega)
end Go.Proofs.YtbfiagimgokccaaGreat
end
