/- A token goes through: the document's run is the closed form; tokens one behind the other. -/
import Derived.Test.YtfhpmaphgkiegaaRD
namespace Go.Proofs.Ytfhpmaphgkiegaa
open Go Go.Hp
set_option linter.unusedVariables false
set_option linter.unusedSimpArgs false
set_option linter.unusedSectionVars false
theorem set_last {α : Type} (l : List α) (a b : α) : (l ++ [a]).set (((l.length : Nat) : Int)).toNat b = l ++ [b] := by
  rw [Int.toNat_natCast]; simp
theorem idx_last {α : Type} (l : List α) (a : α) : idx (l ++ [a]) ((l.length : Nat) : Int) = some a := by rw [idx_nat]; simp
section
variable {d : Dim} (hd : DOK d)
include hd
theorem kS_len {b : S_api_Block} (hb : BOK d b) (place : Nat) (x : List Int) : (kS d b place x).length = d.w := by
  rw [kS, turnedS_len place d.wd _ d.h (by rw [quantsS_len]; rfl) hd.wd.2.1 d.h (Nat.le_refl _)]; rfl
theorem qS_len {b : S_api_Block} (hb : BOK d b) (place : Nat) (x : List Int) : (qS d b place x).length = d.w := by
  rw [qS, turnedS_len place d.wd _ d.h (by rw [quantsS_len]; rfl) hd.wd.2.1 d.h (Nat.le_refl _)]; rfl
theorem vS_len (b : S_api_Block) (x : List Int) : (vS d b x).length = d.w := quantsS_len _ _ _ _
theorem tailS_len (b : S_api_Block) (x heads : List Int) (hx : x.length = d.w) : (tailS d b x heads).length = d.w := by
  unfold tailS; dsimp only; rw [joinS_len, joinS_len, hx]
theorem layersS_ok {w : S_api_Weights} (hw : WOK d w) (L : List S_ref08_Kept) (x : List Int) (hx : x.length = d.w) : ∀ n, n ≤ d.ly → KOK d n (layersS d w L x n).1 ∧ (layersS d w L x n).2.length = d.w
  | 0, _ => ⟨⟨rfl, rfl, by simp [layersS, zK], by simp [layersS, zK]⟩, hx⟩
  | n + 1, hn => by
    obtain ⟨⟨a, b, c, e⟩, f⟩ := layersS_ok hw L x hx n (by omega)
    have hb : BOK d (w.Blocks.getD n zB) := hw.blocks _ (getD_in _ _ _ (by have := hw.blen; omega))
    rw [layersS]
    dsimp only
    refine ⟨⟨by simp [a], by simp [b], fun r hr => ?_, fun r hr => ?_⟩, tailS_len hd _ _ _ f⟩
    · rcases List.mem_append.1 hr with h | h
      · exact c r h
      · rw [List.mem_singleton] at h; rw [h]; exact kS_len hd hb _ _
    · rcases List.mem_append.1 hr with h | h
      · exact e r h
      · rw [List.mem_singleton] at h; rw [h]; exact vS_len hd _ _
theorem tail_is {N : Nat} (hN : 200 < N) {b : S_api_Block} (hb : BOK d b) (n : Nat) (j256 : S_ref08_Run) (x heads : List Int) (hx : x.length = d.w) (hh : heads.length = d.w) (hn : n ≤ 100) (k2 : S_ref08_Run → List Int → Int → Option (List Int × S_ref08_Run)) :
    ((ref04_Apply N (⟨b.O.Rows, b.O.Cols, b.O.V⟩ : S_api_Mat) heads).bind fun r265 => (ref05_Join N x r265.1 1 4).bind fun r271 => (ref05_Norm N b.Second r271).bind fun r278 => (ref08_quants N (⟨b.Up.Rows, b.Up.Cols, b.Up.V⟩ : S_api_Mat) r278).bind fun r284 => ref08_Run_One.L4 N (n : Int) b j256 r271 r284 k2 N r284 0) = k2 j256 (tailS d b x heads) ((n + 1 : Nat) : Int) := by
  have hw := dw16 hd; have hi := hd.inn
  rw [matR_eta, apply_is hb.o (by omega) (by omega) hN _ hh, Option.bind_some, join_is _ _ _ _ (by rw [applyS_len, hx]) (by omega) hN, Option.bind_some]
  have hx1 := joinS_len x (applyS b.O heads d.w d.w) 1 4
  rw [norm_is hN _ _ (by rw [hx1, hx]; exact hb.second) (by rw [hx1]; omega), Option.bind_some, matR_eta, quants_is hb.up (by omega) (by omega) hN _ (by rw [normS_len, hx1, hx]), Option.bind_some]
  have hq := quantsS_len b.Up (normS b.Second (joinS x (applyS b.O heads d.w d.w) 1 4)) d.inn d.w
  obtain ⟨m, e⟩ := relu_loop hd hN (n : Int) b j256 (joinS x (applyS b.O heads d.w d.w) 1 4) (quantsS b.Up (normS b.Second (joinS x (applyS b.O heads d.w d.w) 1 4)) d.inn d.w) (by omega) k2
  rw [e, ref08_Run_One.L4, if_neg (by omega), matR_eta, apply_is hb.down (by omega) (by omega) hN _ (by rw [reluS, tabl_len, hq]), Option.bind_some, join_is _ _ _ _ (by rw [applyS_len, hx1, hx]) (by omega) hN, Option.bind_some, W_succ n (by omega)]
  rfl
theorem one_is {N : Nat} (hN : 200 < N) {w : S_api_Weights} (hw : WOK d w) (L : List S_ref08_Kept) (hL : L.length ≤ 50) (hK : ∀ k ∈ L, KOK d d.ly k) (t : Nat) (ht : t < d.voc) :
    ref08_Run_One N ⟨w, L⟩ (t : Int) = some (outS d w L t, ⟨w, L ++ [keptS d w L t]⟩) := by
  have hww := dw16 hd; have hi := hd.inn; have hh := hd.h; have hwd := hd.wd; have hly := hd.ly; have hvo := hd.voc
  have hdw : d.w = d.h * d.wd := rfl
  have e26 : IntKind.i64.wrap (Int.tdiv w.Shape.Width w.Shape.Heads) = (d.wd : Int) := by
    rw [hw.width, hw.heads, hdw]
    have : ((d.h * d.wd : Nat) : Int) = (d.h : Int) * (d.wd : Int) := by simp
    rw [this, Int.mul_tdiv_cancel_left _ (by omega), W_in (by omega)]
  have hin : (inS d w t).length = d.w := tabl_len _ _
  unfold ref08_Run_One
  rw [chk_ok _ (by show w.Shape.Heads ≠ 0; rw [hw.heads]; omega)]
  show (some (IntKind.i64.wrap (Int.tdiv w.Shape.Width w.Shape.Heads))).bind _ = _
  rw [e26, Option.bind_some]
  have htw : ∀ i, i < d.w → t * d.w + i < d.voc * d.w := fun i hi => by
    have : (t + 1) * d.w ≤ d.voc * d.w := Nat.mul_le_mul_right _ (by omega)
    have h2 : (t + 1) * d.w = t * d.w + d.w := Nat.succ_mul _ _
    omega
  have hvw : d.voc * d.w ≤ 10 * 16 := Nat.mul_le_mul hvo.2 hww
  refine loop_c (fun m (s : List Int) i => ref08_Run_One.L1 N ⟨w, L⟩ (t : Int) (d.wd : Int) m s i) (fun i => tabl i fun i => IntKind.i32.wrap (16 * IntKind.i32.wrap (w.Embed.V.getD (t * d.w + i) 0))) d.w _ (fun m i hi => ?_) (fun m => ?_) N (by omega)
  · show ref08_Run_One.L1 N ⟨w, L⟩ _ _ (m + 1) _ (i : Int) = ref08_Run_One.L1 N ⟨w, L⟩ _ _ m _ _
    have h1 := htw i hi
    have e : IntKind.i64.wrap (IntKind.i64.wrap ((t : Int) * w.Shape.Width) + (i : Int)) = ((t * d.w + i : Nat) : Int) := by
      rw [hw.width]
      have : (t : Int) * ((d.w : Nat) : Int) = ((t * d.w : Nat) : Int) := by simp
      rw [this, W_in (x := ((t * d.w : Nat) : Int)) (by omega), W_in (by omega)]
      omega
    rw [ref08_Run_One.L1]
    show (if (i : Int) < w.Shape.Width then (idx w.Embed.V (IntKind.i64.wrap (IntKind.i64.wrap ((t : Int) * w.Shape.Width) + (i : Int)))).bind _ else _) = _
    rw [if_pos (by rw [hw.width]; omega), e, idx_d w.Embed.V 0 (by rw [hw.embed.2.2]; omega), Option.bind_some, app_ok _ _ (by rw [tabl_len]; simp only [List.length_cons, List.length_nil]; omega), Option.bind_some, W_succ i (by omega), tabl_succ]
  · show ref08_Run_One.L1 N ⟨w, L⟩ _ _ (m + 1) _ (d.w : Int) = _
    rw [ref08_Run_One.L1]
    show (if (d.w : Int) < w.Shape.Width then _ else (app L [(⟨[], []⟩ : S_ref08_Kept)]).bind fun z57 => ref08_Run_One.L2 N ⟨w, L⟩ (d.wd : Int) N ⟨w, z57⟩ (inS d w t) 0) = _
    rw [if_neg (by rw [hw.width]; omega), app_ok _ _ (by simp only [List.length_cons, List.length_nil]; omega), Option.bind_some]
    -- layer by layer
    refine loop_c (fun m (s : S_ref08_Run × List Int) i => ref08_Run_One.L2 N ⟨w, L⟩ (d.wd : Int) m s.1 s.2 i) (fun n => (⟨w, L ++ [(layersS d w L (inS d w t) n).1]⟩, (layersS d w L (inS d w t) n).2)) d.ly _ (fun m n hn => ?_) (fun m => ?_) N (by omega)
    · obtain ⟨⟨k1, k2, k3, k4⟩, k5⟩ := layersS_ok hd hw L (inS d w t) hin n (by omega)
      have hb : BOK d (w.Blocks.getD n zB) := hw.blocks _ (getD_in _ _ _ (by have := hw.blen; omega))
      show ref08_Run_One.L2 N ⟨w, L⟩ (d.wd : Int) (m + 1) ⟨w, L ++ [(layersS d w L (inS d w t) n).1]⟩ (layersS d w L (inS d w t) n).2 (n : Int) = ref08_Run_One.L2 N ⟨w, L⟩ (d.wd : Int) m ⟨w, L ++ [(layersS d w L (inS d w t) (n + 1)).1]⟩ (layersS d w L (inS d w t) (n + 1)).2 ((n + 1 : Nat) : Int)
      rw [layersS]
      dsimp only
      generalize layersS d w L (inS d w t) n = s at k1 k2 k3 k4 k5 ⊢
      generalize hbb : w.Blocks.getD n zB = b at hb ⊢
      have hib : idx w.Blocks (n : Int) = some b := by rw [idx_d w.Blocks zB (by have := hw.blen; omega), hbb]
      have hnl : (normS b.First s.2).length = d.w := by rw [normS_len, k5]
      rw [ref08_Run_One.L2]
      show (if (n : Int) < w.Shape.Layers then (idx w.Blocks (n : Int)).bind _ else _) = _
      rw [if_pos (by rw [hw.layers]; omega), hib, Option.bind_some, norm_is hN _ _ (by rw [k5]; exact hb.first) (by omega), Option.bind_some, matR_eta, quants_is hb.q (by omega) (by omega) hN _ hnl, Option.bind_some, turned_is hN L.length d.wd d.h (by omega) _ (by rw [quantsS_len]; rfl) (by omega) hwd.1 hwd.2.1 (by omega), Option.bind_some]
      show (idx (L ++ [s.1]) ((L.length : Nat) : Int)).bind _ = _
      rw [idx_last, Option.bind_some, matR_eta, quants_is hb.k (by omega) (by omega) hN _ hnl, Option.bind_some, turned_is hN L.length d.wd d.h (by omega) _ (by rw [quantsS_len]; rfl) (by omega) hwd.1 hwd.2.1 (by omega), Option.bind_some, app_ok _ _ (by simp only [List.length_cons, List.length_nil]; omega), Option.bind_some, matR_eta, quants_is hb.v (by omega) (by omega) hN _ hnl, Option.bind_some, app_ok _ _ (by simp only [List.length_cons, List.length_nil]; omega), Option.bind_some]
      show ref08_Run_One.L3 N ⟨w, L⟩ (d.wd : Int) s.2 (n : Int) b (qS d b L.length s.2) (ref08_Run_One.L2 N ⟨w, L⟩ (d.wd : Int) m) N ⟨w, (L ++ [s.1]).set (((L.length : Nat) : Int)).toNat ⟨s.1.K ++ [kS d b L.length s.2], s.1.V ++ [vS d b s.2]⟩⟩ [] 0 = _
      rw [set_last]
      -- head by head
      have hKL : ∀ k ∈ L ++ [(⟨s.1.K ++ [kS d b L.length s.2], s.1.V ++ [vS d b s.2]⟩ : S_ref08_Kept)], n < k.K.length ∧ n < k.V.length ∧ (∀ r ∈ k.K, r.length = d.w) ∧ ∀ r ∈ k.V, r.length = d.w := by
        intro k hk
        rcases List.mem_append.1 hk with h | h
        · obtain ⟨a, b', c, e⟩ := hK k h
          exact ⟨by omega, by omega, c, e⟩
        · rw [List.mem_singleton] at h
          subst h
          refine ⟨by simp [k1], by simp [k2], fun r hr => ?_, fun r hr => ?_⟩
          · rcases List.mem_append.1 hr with h | h
            · exact k3 r h
            · rw [List.mem_singleton] at h; rw [h]; exact kS_len hd hb _ _
          · rcases List.mem_append.1 hr with h | h
            · exact k4 r h
            · rw [List.mem_singleton] at h; rw [h]; exact vS_len hd _ _
      refine loop_c (fun q (z : List Int) i => ref08_Run_One.L3 N ⟨w, L⟩ (d.wd : Int) s.2 (n : Int) b (qS d b L.length s.2) (ref08_Run_One.L2 N ⟨w, L⟩ (d.wd : Int) m) q ⟨w, L ++ [⟨s.1.K ++ [kS d b L.length s.2], s.1.V ++ [vS d b s.2]⟩]⟩ z i) (fun h => attS d (L ++ [⟨s.1.K ++ [kS d b L.length s.2], s.1.V ++ [vS d b s.2]⟩]) n (qS d b L.length s.2) h) d.h _ (fun q h hh2 => ?_) (fun q => ?_) N (by omega)
      · show ref08_Run_One.L3 N ⟨w, L⟩ (d.wd : Int) s.2 (n : Int) b _ _ (q + 1) _ _ (h : Int) = _
        have hal := attS_len hd (L ++ [(⟨s.1.K ++ [kS d b L.length s.2], s.1.V ++ [vS d b s.2]⟩ : S_ref08_Kept)]) n (qS d b L.length s.2) h
        have hhw : h * d.wd ≤ d.h * d.wd := Nat.mul_le_mul_right _ (by omega)
        rw [ref08_Run_One.L3]
        show (if (h : Int) < w.Shape.Heads then _ else _) = _
        rw [if_pos (by rw [hw.heads]; omega)]
        exact head_is hd hN ⟨w, L⟩ _ _ n hn (by simp; omega) (by simp) rfl (by simp) hKL _ _ (qS_len hd hb _ _) h hh2 (by omega) _
      · show ref08_Run_One.L3 N ⟨w, L⟩ (d.wd : Int) s.2 (n : Int) b _ _ (q + 1) _ _ (d.h : Int) = _
        rw [ref08_Run_One.L3]
        show (if (d.h : Int) < w.Shape.Heads then _ else _) = _
        rw [if_neg (by rw [hw.heads]; omega)]
        have hal := attS_len hd (L ++ [(⟨s.1.K ++ [kS d b L.length s.2], s.1.V ++ [vS d b s.2]⟩ : S_ref08_Kept)]) n (qS d b L.length s.2) d.h
        exact tail_is hd hN hb n _ s.2 _ k5 hal (by omega) _
    · obtain ⟨k, k5⟩ := layersS_ok hd hw L (inS d w t) hin d.ly (Nat.le_refl _)
      show ref08_Run_One.L2 N ⟨w, L⟩ (d.wd : Int) (m + 1) ⟨w, L ++ [(layersS d w L (inS d w t) d.ly).1]⟩ (layersS d w L (inS d w t) d.ly).2 (d.ly : Int) = _
      rw [ref08_Run_One.L2]
      show (if (d.ly : Int) < w.Shape.Layers then _ else (ref05_Norm N w.Last _).bind _) = _
      rw [if_neg (by rw [hw.layers]; omega), norm_is hN _ _ (by rw [k5]; exact hw.last) (by omega), Option.bind_some]
      show (ref04_Apply N ⟨w.Head.Rows, w.Head.Cols, w.Head.V⟩ _).bind _ = _
      rw [matR_eta, apply_is hw.head (by omega) (by omega) hN _ (by rw [normS_len, k5]), Option.bind_some]
      rfl
theorem outS_len (w : S_api_Weights) (L : List S_ref08_Kept) (t : Nat) : (outS d w L t).length = d.voc := applyS_len _ _ _ _
theorem keptS_ok {w : S_api_Weights} (hw : WOK d w) (L : List S_ref08_Kept) (t : Nat) : KOK d d.ly (keptS d w L t) := (layersS_ok hd hw L _ (tabl_len _ _) d.ly (Nat.le_refl _)).1
end
/-- What is kept behind tokens. -/
def stS (d : Dim) (w : S_api_Weights) : List S_ref08_Kept → List Nat → List S_ref08_Kept
  | L, [] => L
  | L, t :: ts => stS d w (L ++ [keptS d w L t]) ts
/-- The weights behind the last of tokens. -/
def lastS (d : Dim) (w : S_api_Weights) : List S_ref08_Kept → List Int → List Nat → List Int
  | _, y, [] => y
  | L, _, t :: ts => lastS d w (L ++ [keptS d w L t]) (outS d w L t) ts
theorem stS_app (d : Dim) (w : S_api_Weights) : ∀ (ts us : List Nat) (L : List S_ref08_Kept), stS d w L (ts ++ us) = stS d w (stS d w L ts) us
  | [], us, L => rfl
  | t :: ts, us, L => by rw [List.cons_append, stS, stS, stS_app d w ts us]
theorem lastS_app (d : Dim) (w : S_api_Weights) : ∀ (ts us : List Nat) (L : List S_ref08_Kept) (y : List Int), lastS d w L y (ts ++ us) = lastS d w (stS d w L ts) (lastS d w L y ts) us
  | [], us, L, y => rfl
  | t :: ts, us, L, y => by rw [List.cons_append, lastS, lastS, stS, lastS_app d w ts us]
theorem stS_len (d : Dim) (w : S_api_Weights) : ∀ (ts : List Nat) (L : List S_ref08_Kept), (stS d w L ts).length = L.length + ts.length
  | [], L => rfl
  | t :: ts, L => by rw [stS, stS_len d w ts, len_app1, List.length_cons]; omega
section
variable {d : Dim} (hd : DOK d)
include hd
theorem stS_ok {w : S_api_Weights} (hw : WOK d w) : ∀ (ts : List Nat) (L : List S_ref08_Kept), (∀ k ∈ L, KOK d d.ly k) → ∀ k ∈ stS d w L ts, KOK d d.ly k
  | [], L, h => h
  | t :: ts, L, h => by
    rw [stS]
    refine stS_ok hw ts _ fun k hk => ?_
    rcases List.mem_append.1 hk with h1 | h1
    · exact h k h1
    · rw [List.mem_singleton] at h1; rw [h1]; exact keptS_ok hd hw L t
theorem lastS_len (w : S_api_Weights) : ∀ (ts : List Nat) (L : List S_ref08_Kept) (y : List Int), (ts ≠ [] ∨ y.length = d.voc) → (lastS d w L y ts).length = d.voc
  | [], L, y, h => by rcases h with h | h; exact absurd rfl h; exact h
  | t :: ts, L, y, _ => by rw [lastS]; exact lastS_len w ts _ _ (.inr (outS_len hd w L t))
end
/-- Tokens as numbers. -/
def toks (ts : List Nat) : List Int := ts.map fun (t : Nat) => (t : Int)
theorem toks_len (ts : List Nat) : (toks ts).length = ts.length := by simp [toks]
theorem toks_app (a b : List Nat) : toks (a ++ b) = toks a ++ toks b := by simp [toks]
theorem toks_get (ts : List Nat) (k : Nat) (h : k < ts.length) : idx (toks ts) (k : Int) = some ((ts.getD k 0 : Nat) : Int) := by
  rw [idx_nat, toks, List.getElem?_map, List.getElem?_eq_getElem h, List.getD_eq_getElem?_getD, List.getElem?_eq_getElem h]; rfl
theorem toks_of (d : Nat) (xs : List Int) (h : ∀ x ∈ xs, 0 ≤ x ∧ x < d) : ∃ ts : List Nat, xs = toks ts ∧ ∀ t ∈ ts, t < d := by
  refine ⟨xs.map Int.toNat, ?_, fun t ht => ?_⟩
  · rw [toks, List.map_map]
    conv => lhs; rw [← List.map_id xs]
    exact List.map_congr_left fun x hx => by have := h x hx; simp; omega
  · obtain ⟨x, hx, rfl⟩ := List.mem_map.1 ht
    have := h x hx; omega
section
variable {d : Dim} (hd : DOK d)
include hd
theorem feed_is {N : Nat} (hN : 200 < N) {w : S_api_Weights} (hw : WOK d w) (L : List S_ref08_Kept) (hL : L.length ≤ 20) (hK : ∀ k ∈ L, KOK d d.ly k) (ts : List Nat) (hts : ∀ t ∈ ts, t < d.voc) (hl : ts.length ≤ 30) :
    ref08_Run_Feed N ⟨w, L⟩ (toks ts) = some (if L.length + ts.length > d.pl then ([], 80, ⟨w, L⟩) else (lastS d w L [] ts, 0, ⟨w, stS d w L ts⟩)) := by
  have hlen := toks_len ts
  unfold ref08_Run_Feed
  refine loop_c (fun m (_ : Unit) i => ref08_Run_Feed.L1 N ⟨w, L⟩ (toks ts) m i) (fun _ => ()) ts.length _ (fun m i hi => ?_) (fun m => ?_) N (by omega)
  · show ref08_Run_Feed.L1 N ⟨w, L⟩ _ (m + 1) (i : Int) = ref08_Run_Feed.L1 N ⟨w, L⟩ _ m _
    have hv := hts _ (getD_in ts 0 i hi)
    rw [ref08_Run_Feed.L1, if_pos (by omega), toks_get ts i hi, Option.bind_some, if_neg (by omega), Option.bind_some]
    show (if ((ts.getD i 0 : Nat) : Int) ≥ w.Shape.Vocab then _ else _) = _
    rw [if_neg (by rw [hw.vocab]; omega), W_succ i (by omega)]
  · show ref08_Run_Feed.L1 N ⟨w, L⟩ _ (m + 1) (ts.length : Int) = _
    rw [ref08_Run_Feed.L1, if_neg (by omega)]
    show (if IntKind.i64.wrap (((L.length : Nat) : Int) + (((toks ts).length : Nat) : Int)) > w.Shape.Places then _ else _) = _
    rw [W_in (by omega), hw.places, hlen]
    by_cases c : L.length + ts.length > d.pl
    · rw [if_pos (by omega), if_pos c]
    · rw [if_neg (by omega), if_neg c]
      have key : ∀ (post pre : List Nat) (m : Nat) (y : List Int), ts = pre ++ post → post.length < m → ref08_Run_Feed.L2 N (toks ts) m ⟨w, stS d w L pre⟩ y (pre.length : Int) = some (lastS d w (stS d w L pre) y post, 0, ⟨w, stS d w L ts⟩) := by
        intro post
        induction post with
        | nil =>
          intro pre m y e hm
          obtain ⟨m, rfl⟩ : ∃ q, m = q + 1 := ⟨m - 1, by omega⟩
          rw [List.append_nil] at e
          rw [ref08_Run_Feed.L2, if_neg (by rw [hlen, e]; omega), e]; rfl
        | cons t post ih =>
          intro pre m y e hm
          obtain ⟨m, rfl⟩ : ∃ q, m = q + 1 := ⟨m - 1, by omega⟩
          have hi : idx (toks ts) (pre.length : Int) = some (t : Int) := by
            rw [e, toks_app]
            have := idx_mid (toks pre) (t : Int) (toks post)
            rw [toks_len] at this
            exact this
          have hsl := stS_len d w pre L
          have hpl : pre.length + post.length + 1 = ts.length := by rw [e]; simp; omega
          rw [ref08_Run_Feed.L2, if_pos (by rw [hlen]; omega), hi, Option.bind_some, one_is hd hN hw (stS d w L pre) (by omega) (stS_ok hd hw pre L hK) t (hts t (by rw [e]; simp)), Option.bind_some, W_succ _ (by omega), ← len_snoc pre t]
          have := ih (pre ++ [t]) m (outS d w (stS d w L pre) t) (by rw [e]; simp) (by simp at hm; omega)
          rw [stS_app] at this
          exact this
      exact key ts [] N [] rfl (by omega)
end
end Go.Proofs.Ytfhpmaphgkiegaa
