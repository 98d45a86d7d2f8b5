/- What the law needs. -/
import Derived.Test.YtbfiagimgokccaaGreatMBlockJoinsk
section
namespace Go.Proofs.YtbfiagimgokccaaGreat
open Go Go.Hp
set_option linter.unusedVariables false
set_option linter.unusedSimpArgs false
set_option linter.unusedSectionVars false
def hb (d : Dim) (c : Cu) (p : Nat) : Nat := sp p d.h c.pa * d.wd
def nb (d : Dim) (c : Cu) (p : Nat) : Nat := sp p d.inn c.pa
def lb (d : Dim) (c : Cu) (s : Nat) : Nat := sp s d.ly c.st
def blkS (d : Dim) (c : Cu) (p : Nat) (b : S_api_Block) : S_api_Block :=
  ⟨b.First, b.Second, partM b.Q d.w (hb d c p) (hb d c (p + 1)) 0 d.w, partM b.K d.w (hb d c p) (hb d c (p + 1)) 0 d.w, partM b.V d.w (hb d c p) (hb d c (p + 1)) 0 d.w, partM b.O d.w 0 d.w (hb d c p) (hb d c (p + 1)), partM b.Up d.w (nb d c p) (nb d c (p + 1)) 0 d.w, partM b.Down d.inn 0 d.w (nb d c p) (nb d c (p + 1))⟩
def zM : S_api_Mat := ⟨0, 0, []⟩
def takeS (d : Dim) (w : S_api_Weights) (c : Cu) (s p : Nat) : S_api_Shard :=
  ⟨shapeS d, cutS c, (s : Int), (p : Int), if s = 0 then w.Embed else zM, tabl (lb d c (s + 1) - lb d c s) (fun i => blkS d c p (w.Blocks.getD (lb d c s + i) zB)), if s + 1 = c.st then w.Last else [], if s + 1 = c.st then w.Head else zM⟩
def hpa (d : Dim) (c : Cu) : Nat := d.h / c.pa
def ipa (d : Dim) (c : Cu) : Nat := d.inn / c.pa
section
variable {d : Dim} (hd : DOK d) {c : Cu} (hc : COK d c)
include hd hc
theorem hb_is (p : Nat) : hb d c p = p * (hpa d c * d.wd) := by
  unfold hb hpa; rw [sp_even p d.h c.pa hc.pa.1 hc.h, Nat.mul_assoc]
theorem nb_is (p : Nat) : nb d c p = p * ipa d c := sp_even p d.inn c.pa hc.pa.1 hc.inn
theorem hpa_pos : 0 < hpa d c ∧ c.pa * hpa d c = d.h := by
  have := Nat.mul_div_cancel' (Nat.dvd_of_mod_eq_zero hc.h)
  have h0 := hd.h.1
  refine ⟨?_, this⟩
  rcases Nat.eq_zero_or_pos (hpa d c) with h | h
  · unfold hpa at h; rw [h] at this; omega
  · exact h
theorem ipa_pos : 0 < ipa d c ∧ c.pa * ipa d c = d.inn := by
  have := Nat.mul_div_cancel' (Nat.dvd_of_mod_eq_zero hc.inn)
  have h0 := hd.inn.1
  refine ⟨?_, this⟩
  rcases Nat.eq_zero_or_pos (ipa d c) with h | h
  · unfold ipa at h; rw [h] at this; omega
  · exact h
theorem hb_fit (p : Nat) (hp : p < c.pa) : hb d c p < hb d c (p + 1) ∧ hb d c (p + 1) ≤ d.w ∧ hb d c (p + 1) - hb d c p = hpa d c * d.wd := by
  obtain ⟨h0, h1⟩ := hpa_pos hd hc
  have hwd := hd.wd
  have hpos : 0 < hpa d c * d.wd := Nat.mul_pos h0 hwd.1
  have h2 : (p + 1) * (hpa d c * d.wd) = p * (hpa d c * d.wd) + hpa d c * d.wd := Nat.succ_mul _ _
  have h3 : (p + 1) * (hpa d c * d.wd) ≤ c.pa * (hpa d c * d.wd) := Nat.mul_le_mul_right _ (by omega)
  have h4 : c.pa * (hpa d c * d.wd) = d.w := by rw [← Nat.mul_assoc, h1]; rfl
  rw [hb_is hd hc, hb_is hd hc]
  omega
theorem nb_fit (p : Nat) (hp : p < c.pa) : nb d c p < nb d c (p + 1) ∧ nb d c (p + 1) ≤ d.inn ∧ nb d c (p + 1) - nb d c p = ipa d c := by
  obtain ⟨h0, h1⟩ := ipa_pos hd hc
  have h2 : (p + 1) * ipa d c = p * ipa d c + ipa d c := Nat.succ_mul _ _
  have h3 : (p + 1) * ipa d c ≤ c.pa * ipa d c := Nat.mul_le_mul_right _ (by omega)
  rw [nb_is hd hc, nb_is hd hc]
  omega
theorem lb_fit (s : Nat) (hs : s < c.st) : lb d c s ≤ lb d c (s + 1) ∧ lb d c (s + 1) ≤ d.ly := ⟨sp_le _ _ _, sp_in _ _ _ hc.st.1 (by omega)⟩
structure BP (d : Dim) (c : Cu) (b : S_api_Block) : Prop where
  first : b.First.length = d.w
  second : b.Second.length = d.w
  q : matR b.Q (hpa d c * d.wd) d.w
  k : matR b.K (hpa d c * d.wd) d.w
  v : matR b.V (hpa d c * d.wd) d.w
  o : matR b.O d.w (hpa d c * d.wd)
  up : matR b.Up (ipa d c) d.w
  down : matR b.Down d.w (ipa d c)
theorem blkS_ok (p : Nat) (hp : p < c.pa) {b : S_api_Block} (hb_ : BOK d b) : BP d c (blkS d c p b) := by
  obtain ⟨a1, a2, a3⟩ := hb_fit hd hc p hp
  obtain ⟨b1, b2, b3⟩ := nb_fit hd hc p hp
  have e0 : d.w - 0 = d.w := by omega
  refine ⟨hb_.first, hb_.second, ?_, ?_, ?_, ?_, ?_, ?_⟩
  · have := partM_R b.Q d.w (hb d c p) (hb d c (p + 1)) 0 d.w; rw [a3, e0] at this; exact this
  · have := partM_R b.K d.w (hb d c p) (hb d c (p + 1)) 0 d.w; rw [a3, e0] at this; exact this
  · have := partM_R b.V d.w (hb d c p) (hb d c (p + 1)) 0 d.w; rw [a3, e0] at this; exact this
  · have := partM_R b.O d.w 0 d.w (hb d c p) (hb d c (p + 1)); rw [a3, e0] at this; exact this
  · have := partM_R b.Up d.w (nb d c p) (nb d c (p + 1)) 0 d.w; rw [b3, e0] at this; exact this
  · have := partM_R b.Down d.inn 0 d.w (nb d c p) (nb d c (p + 1)); rw [b3, e0] at this; exact this
theorem take13_is {N : Nat} (hN : 300 < N) {w : S_api_Weights} (hw : WOK d w) (hsh : w.Shape = shapeS d) (s p : Nat) (hs : s < c.st) (hp : p < c.pa) : ref11_Take N w (cutS c) (s : Int) (p : Int) = some (takeS d w c s p) := by
  have hh := hd.h; have hly := hd.ly; have hi := hd.inn; have hww := dw16 hd; have hwd := hd.wd
  have hst := hc.st; have hpa := hc.pa
  have hdw : d.w = d.h * d.wd := rfl
  have hw0 : 0 < d.w := by rw [hdw]; exact Nat.mul_pos hh.1 hwd.1
  obtain ⟨a1, a2, a3⟩ := hb_fit hd hc p hp
  obtain ⟨b1, b2, b3⟩ := nb_fit hd hc p hp
  obtain ⟨l1, l2⟩ := lb_fit hd hc s hs
  have s1 := sp_in p d.h c.pa hpa.1 (by omega)
  have s2 := sp_in (p + 1) d.h c.pa hpa.1 (by omega)
  have m1 : sp p d.h c.pa * d.wd ≤ d.h * d.wd := Nat.mul_le_mul_right _ s1
  have m2 : sp (p + 1) d.h c.pa * d.wd ≤ d.h * d.wd := Nat.mul_le_mul_right _ s2
  have ewd : IntKind.i64.wrap (Int.tdiv w.Shape.Width w.Shape.Heads) = (d.wd : Int) := by
    rw [hw.width, hw.heads, hdw]
    have : ((d.h * d.wd : Nat) : Int) = (d.h : Int) * (d.wd : Int) := by simp
    rw [this, Int.mul_tdiv_cancel_left _ (by omega), W_in (by omega)]
  have e1 : ref10_Span (s : Int) w.Shape.Layers (cutS c).Stages = some ⟨((lb d c s : Nat) : Int), ((lb d c (s + 1) : Nat) : Int)⟩ := by rw [hw.layers]; exact span_is s d.ly c.st hst.1 (by omega) (by omega)
  have e2 : ref10_Span (p : Int) w.Shape.Heads (cutS c).Parts = some ⟨((sp p d.h c.pa : Nat) : Int), ((sp (p + 1) d.h c.pa : Nat) : Int)⟩ := by rw [hw.heads]; exact span_is p d.h c.pa hpa.1 (by omega) (by omega)
  have e3 : ref10_Span (p : Int) w.Shape.Inner (cutS c).Parts = some ⟨((nb d c p : Nat) : Int), ((nb d c (p + 1) : Nat) : Int)⟩ := by rw [hw.inner]; exact span_is p d.inn c.pa hpa.1 (by omega) (by omega)
  have loop : ∀ (er ec : Int) (ev : List Int), ref11_Take.J1 N w (cutS c) (s : Int) (p : Int) (d.wd : Int) ⟨((lb d c s : Nat) : Int), ((lb d c (s + 1) : Nat) : Int)⟩ ⟨((sp p d.h c.pa : Nat) : Int), ((sp (p + 1) d.h c.pa : Nat) : Int)⟩ ⟨((nb d c p : Nat) : Int), ((nb d c (p + 1) : Nat) : Int)⟩ er ec ev =
      some ⟨shapeS d, cutS c, (s : Int), (p : Int), ⟨er, ec, ev⟩, tabl (lb d c (s + 1) - lb d c s) (fun i => blkS d c p (w.Blocks.getD (lb d c s + i) zB)), if s + 1 = c.st then w.Last else [], if s + 1 = c.st then w.Head else zM⟩ := by
    intro er ec ev
    unfold ref11_Take.J1
    obtain ⟨m', s', hs', e⟩ := loop_to (fun m (z : List S_api_Block) i => ref11_Take.L2 N w (cutS c) (s : Int) (p : Int) (d.wd : Int) ⟨((lb d c s : Nat) : Int), ((lb d c (s + 1) : Nat) : Int)⟩ ⟨((sp p d.h c.pa : Nat) : Int), ((sp (p + 1) d.h c.pa : Nat) : Int)⟩ ⟨((nb d c p : Nat) : Int), ((nb d c (p + 1) : Nat) : Int)⟩ er ec ev m z i) (fun i => ((lb d c s + i : Nat) : Int)) (lb d c (s + 1) - lb d c s) (fun i z => z = tabl i fun i => blkS d c p (w.Blocks.getD (lb d c s + i) zB)) (fun m i z hi hz => by
      subst hz
      refine ⟨_, rfl, ?_⟩
      have hb_ : BOK d (w.Blocks.getD (lb d c s + i) zB) := hw.blocks _ (getD_in _ _ _ (by have := hw.blen; omega))
      have w0 : IntKind.i64.wrap (((sp p d.h c.pa : Nat) : Int) * (d.wd : Int)) = ((hb d c p : Nat) : Int) := mulN _ _ (by omega)
      have w1 : IntKind.i64.wrap (((sp (p + 1) d.h c.pa : Nat) : Int) * (d.wd : Int)) = ((hb d c (p + 1) : Nat) : Int) := mulN _ _ (by omega)
      have z0 : (0 : Int) = ((0 : Nat) : Int) := rfl
      have hW : w.Shape.Width = ((d.w : Nat) : Int) := hw.width
      have p1 := partOf_is hN hb_.q (by omega) (by omega) (hb d c p) (hb d c (p + 1)) 0 d.w (by omega) a2 (by omega) (Nat.le_refl _) hw0
      have p2 := partOf_is hN hb_.k (by omega) (by omega) (hb d c p) (hb d c (p + 1)) 0 d.w (by omega) a2 (by omega) (Nat.le_refl _) hw0
      have p3 := partOf_is hN hb_.v (by omega) (by omega) (hb d c p) (hb d c (p + 1)) 0 d.w (by omega) a2 (by omega) (Nat.le_refl _) hw0
      have p4 := partOf_is hN hb_.o (by omega) (by omega) 0 d.w (hb d c p) (hb d c (p + 1)) (by omega) (Nat.le_refl _) (by omega) a2 a1
      have p5 := partOf_is hN hb_.up (by omega) (by omega) (nb d c p) (nb d c (p + 1)) 0 d.w (by omega) b2 (by omega) (Nat.le_refl _) hw0
      have p6 := partOf_is hN hb_.down (by omega) (by omega) 0 d.w (nb d c p) (nb d c (p + 1)) (by omega) (Nat.le_refl _) (by omega) b2 b1
      show ref11_Take.L2 N w (cutS c) (s : Int) (p : Int) (d.wd : Int) _ _ _ er ec ev (m + 1) _ ((lb d c s + i : Nat) : Int) = _
      rw [ref11_Take.L2]
      dsimp only
      rw [if_pos (by omega), idx_d _ zB (by have := hw.blen; omega), Option.bind_some, w0, w1, hW, matR_eta, matR_eta, matR_eta, matR_eta, matR_eta, matR_eta]
      show (ref04_Part N _ _ _ ((0 : Nat) : Int) _).bind _ = _
      rw [p1, Option.bind_some]
      show (ref04_Part N _ _ _ ((0 : Nat) : Int) _).bind _ = _
      rw [p2, Option.bind_some]
      show (ref04_Part N _ _ _ ((0 : Nat) : Int) _).bind _ = _
      rw [p3, Option.bind_some]
      show (ref04_Part N _ ((0 : Nat) : Int) _ _ _).bind _ = _
      rw [p4, Option.bind_some]
      show (ref04_Part N _ _ _ ((0 : Nat) : Int) _).bind _ = _
      rw [p5, Option.bind_some]
      show (ref04_Part N _ ((0 : Nat) : Int) _ _ _).bind _ = _
      rw [p6, Option.bind_some, app_ok _ _ (by rw [tabl_len]; simp only [List.length_cons, List.length_nil]; omega), Option.bind_some, W_succ _ (by omega), ← Nat.add_assoc, tabl_succ]
      rfl) N [] (by omega) rfl
    show ref11_Take.L2 N w (cutS c) (s : Int) (p : Int) (d.wd : Int) _ _ _ er ec ev N [] ((lb d c s + 0 : Nat) : Int) = _
    refine Eq.trans e ?_
    show ref11_Take.L2 N w (cutS c) (s : Int) (p : Int) (d.wd : Int) _ _ _ er ec ev (m' + 1) s' ((lb d c s + (lb d c (s + 1) - lb d c s) : Nat) : Int) = _
    rw [ref11_Take.L2]
    dsimp only
    rw [if_neg (by omega), hs']
    show (if (s : Int) = IntKind.i64.wrap ((c.st : Int) - 1) then some _ else some _) = _
    rw [W_in (by omega), hsh]
    by_cases q : s + 1 = c.st
    · rw [if_pos (by omega), if_pos q, if_pos q]
    · rw [if_neg (by omega), if_neg q, if_neg q]; rfl
  unfold ref11_Take
  rw [chk_ok _ (by rw [hw.heads]; omega), ewd, Option.bind_some, e1, Option.bind_some, e2, Option.bind_some, e3, Option.bind_some]
  unfold takeS
  by_cases q : s = 0
  · rw [if_pos (by omega), loop, if_pos q]
  · rw [if_neg (by omega), loop, if_neg q]; rfl
end
end Go.Proofs.YtbfiagimgokccaaGreat
end
section
namespace Go.Proofs.YtbfiagimgokccaaGreat
open Go Go.Hp
set_option linter.unusedVariables false
set_option linter.unusedSimpArgs false
set_option linter.unusedSectionVars false
theorem win13_is (x a b : Int) (h : a ≤ x ∧ x ≤ b) : weight_in x a b = some true := by
  unfold weight_in
  rw [if_pos (by omega), decide_eq_true h.2]
theorem pis_is {N : Nat} (hN : 5 < N) {m : S_api_Mat} {r c : Nat} (h : matR m r c) (hr : r ≤ 200) (hc : c ≤ 200) : part_is N m (r : Int) (c : Int) = some true := by
  obtain ⟨k, rfl⟩ : ∃ k, N = k + 3 := ⟨N - 3, by omega⟩
  unfold part_is
  rw [if_pos h.1, if_pos h.2.1, matR_eta]
  unfold matmul_Right slices_ContainsFunc_s_api_Mat_api_Mat slices_IndexFunc_s_api_Mat_api_Mat
  rw [slices_IndexFunc_s_api_Mat_api_Mat.L1, if_pos (by simp), show idx [m] 0 = some m from rfl, Option.bind_some, matP h hr hc, Option.bind_some, if_neg (by decide), show IntKind.i64.wrap (0 + 1) = 1 from rfl, slices_IndexFunc_s_api_Mat_api_Mat.L1, if_neg (by simp)]
  rfl
theorem zM_R : matR zM 0 0 := ⟨rfl, rfl, rfl⟩
theorem ints13_same {N : Nat} (xs : List Int) (hx : xs.length < N) (h2 : xs.length ≤ 100000) : ref04_Ints N xs xs = some true := by
  unfold ref04_Ints
  rw [if_neg (fun q => q rfl)]
  refine loop_c (fun m (_ : Unit) i => ref04_Ints.L1 xs xs m i) (fun _ => ()) xs.length _ (fun m i hi => ?_) (fun m => ?_) N hx
  · show ref04_Ints.L1 xs xs (m + 1) (i : Int) = _
    rw [ref04_Ints.L1, if_pos (by omega), idx_get _ _ hi, Option.bind_some, Option.bind_some, if_neg (fun q => q rfl), W_succ i (by omega)]
  · show ref04_Ints.L1 xs xs (m + 1) (xs.length : Int) = _
    rw [ref04_Ints.L1, if_neg (by omega)]
section
variable {d : Dim} (hd : DOK d)
include hd
theorem ewd13 : IntKind.i64.wrap (Int.tdiv ((d.w : Nat) : Int) (d.h : Int)) = (d.wd : Int) := by
  have hh := hd.h; have hwd := hd.wd
  rw [show ((d.w : Nat) : Int) = (d.h : Int) * (d.wd : Int) by show ((d.h * d.wd : Nat) : Int) = _; simp, Int.mul_tdiv_cancel_left _ (by omega), W_in (by omega)]
theorem wR_is (hp : 0 < d.pl) : weight_Right (shapeS d) = some true := by
  have hww := dw16 hd; have hi := hd.inn; have hh := hd.h; have hwd := hd.wd; have hly := hd.ly; have hvo := hd.voc; have hpl := hd.pl
  have hdw : d.w = d.h * d.wd := rfl
  have hw2 : 2 ≤ d.w := by
    have : 1 * 2 ≤ d.h * d.wd := Nat.mul_le_mul (by omega) (by omega)
    omega
  have hm : Int.tmod ((d.w : Nat) : Int) (IntKind.i64.wrap (2 * (d.h : Int))) = 0 := by
    rw [W_in (by omega), Int.tmod_eq_emod_of_nonneg (by omega)]
    obtain ⟨e, he⟩ : ∃ e, d.wd = 2 * e := ⟨d.wd / 2, by omega⟩
    have : ((d.w : Nat) : Int) = 2 * (d.h : Int) * (e : Int) := by
      rw [hdw, he]
      have : d.h * (2 * e) = 2 * d.h * e := by rw [Nat.mul_left_comm, Nat.mul_assoc]
      rw [this]; simp
    rw [this, Int.mul_emod_right]
  unfold weight_Right shapeS
  dsimp only
  rw [win13_is _ _ _ ⟨by omega, by omega⟩, Option.bind_some, if_pos rfl, win13_is _ _ _ ⟨by omega, by omega⟩, Option.bind_some, if_pos rfl, win13_is _ _ _ ⟨by omega, by omega⟩, Option.bind_some, if_pos rfl]
  rw [chk_ok _ (by rw [W_in (by omega)]; omega), if_pos hm, win13_is _ _ _ ⟨by omega, by omega⟩, Option.bind_some, if_pos rfl, win13_is _ _ _ ⟨by omega, by omega⟩, Option.bind_some, if_pos rfl, win13_is _ _ _ ⟨by omega, by omega⟩, Option.bind_some]
variable (hp0 : 0 < d.pl) {c : Cu} (hc : COK d c)
include hp0 hc
theorem sR_is : slice_Right (shapeS d) (cutS c) = some true := by
  have hh := hd.h; have hly := hd.ly; have hst := hc.st; have hpa := hc.pa
  have hm : c.st * c.pa ≤ 3 * 4 := Nat.mul_le_mul (by omega) (by omega)
  have hf : slice_fits (cutS c) = some true := by
    unfold slice_fits cutS
    dsimp only
    rw [if_pos (by omega), if_pos (by omega), if_pos (by omega), decide_eq_true (by omega)]
  unfold slice_Right
  show (weight_Right (shapeS d)).bind _ = _
  rw [wR_is hd hp0, Option.bind_some, if_pos rfl]
  show (slice_fits (cutS c)).bind _ = _
  rw [hf, Option.bind_some, if_pos rfl]
  show (if (c.st : Int) ≤ (d.ly : Int) then chk ((c.pa : Int) ≠ 0) (if Int.tmod (d.h : Int) (c.pa : Int) = 0 then chk ((c.pa : Int) ≠ 0) (if Int.tmod (d.inn : Int) (c.pa : Int) = 0 then some (decide ((IntKind.i64.wrap ((c.st : Int) * (c.pa : Int))) ≤ 64)) else some false) else some false) else some false) = _
  rw [if_pos (by omega), chk_ok _ (by omega), tmodN, hc.h, if_pos (show ((0 : Nat) : Int) = 0 from rfl), chk_ok _ (by omega), tmodN, hc.inn, if_pos (show ((0 : Nat) : Int) = 0 from rfl), mulN _ _ (by omega), decide_eq_true (by omega)]
theorem slayers_is (s : Nat) (hs : s < c.st) : slice_Layers (shapeS d) (cutS c) (s : Int) = some (⟨((lb d c s : Nat) : Int), ((lb d c (s + 1) : Nat) : Int)⟩, 0) := by
  have hly := hd.ly; have hst := hc.st
  unfold slice_Layers
  show (slice_Right (shapeS d) (cutS c)).bind _ = _
  rw [sR_is hd hp0 hc, Option.bind_some]
  show (slice_span true (s : Int) (d.ly : Int) (c.st : Int)).bind _ = _
  rw [pspan_is s d.ly c.st hs (by omega) (by omega), Option.bind_some]
  rfl
theorem sheads_is (p : Nat) (hp : p < c.pa) : slice_Heads (shapeS d) (cutS c) (p : Int) = some (⟨((sp p d.h c.pa : Nat) : Int), ((sp (p + 1) d.h c.pa : Nat) : Int)⟩, 0) := by
  have hh := hd.h; have hpa := hc.pa
  unfold slice_Heads
  show (slice_Right (shapeS d) (cutS c)).bind _ = _
  rw [sR_is hd hp0 hc, Option.bind_some]
  show (slice_span true (p : Int) (d.h : Int) (c.pa : Int)).bind _ = _
  rw [pspan_is p d.h c.pa hp (by omega) (by omega), Option.bind_some]
theorem sinner_is (p : Nat) (hp : p < c.pa) : slice_Inner (shapeS d) (cutS c) (p : Int) = some (⟨((nb d c p : Nat) : Int), ((nb d c (p + 1) : Nat) : Int)⟩, 0) := by
  have hi := hd.inn; have hh := hd.h; have hpa := hc.pa
  unfold slice_Inner
  show (slice_Right (shapeS d) (cutS c)).bind _ = _
  rw [sR_is hd hp0 hc, Option.bind_some]
  show (slice_span true (p : Int) (d.inn : Int) (c.pa : Int)).bind _ = _
  rw [pspan_is p d.inn c.pa hp (by omega) (by omega), Option.bind_some]
  rfl
theorem hbW (p : Nat) (hp : p ≤ c.pa) : IntKind.i64.wrap (((sp p d.h c.pa : Nat) : Int) * (d.wd : Int)) = ((hb d c p : Nat) : Int) := by
  have hh := hd.h; have hwd := hd.wd; have hpa := hc.pa
  have s1 := sp_in p d.h c.pa hpa.1 hp
  have m1 : sp p d.h c.pa * d.wd ≤ 4 * 16 := Nat.mul_le_mul (by omega) (by omega)
  exact mulN _ _ (by omega)
def spanS (d : Dim) (c : Cu) (s p : Nat) : S_part_spans := ⟨⟨((lb d c s : Nat) : Int), ((lb d c (s + 1) : Nat) : Int)⟩, ⟨((hb d c p : Nat) : Int), ((hb d c (p + 1) : Nat) : Int)⟩, ⟨((nb d c p : Nat) : Int), ((nb d c (p + 1) : Nat) : Int)⟩⟩
theorem partof_is (s p : Nat) (hs : s < c.st) (hp : p < c.pa) : part_of (shapeS d) (cutS c) (s : Int) (p : Int) = some (spanS d c s p, 0) := by
  have hh := hd.h
  unfold part_of
  show (slice_Layers (shapeS d) (cutS c) (s : Int)).bind _ = _
  rw [slayers_is hd hp0 hc s hs, Option.bind_some, if_neg (fun q => q rfl)]
  show (slice_Heads (shapeS d) (cutS c) (p : Int)).bind _ = _
  rw [sheads_is hd hp0 hc p hp, Option.bind_some, if_neg (fun q => q rfl)]
  show (slice_Inner (shapeS d) (cutS c) (p : Int)).bind _ = _
  rw [sinner_is hd hp0 hc p hp, Option.bind_some]
  show chk ((d.h : Int) ≠ 0) ((some (IntKind.i64.wrap (Int.tdiv ((d.w : Nat) : Int) (d.h : Int)))).bind _) = _
  rw [chk_ok _ (by omega), ewd13 hd, Option.bind_some]
  show some ((⟨_, (⟨IntKind.i64.wrap (((sp p d.h c.pa : Nat) : Int) * (d.wd : Int)), IntKind.i64.wrap (((sp (p + 1) d.h c.pa : Nat) : Int) * (d.wd : Int))⟩ : A2_i64), _⟩ : S_part_spans), _) = _
  rw [hbW hd hp0 hc p (by omega), hbW hd hp0 hc (p + 1) (by omega)]
  rfl
variable {w : S_api_Weights} (hw : WOK d w)
include hw
theorem ends_is {N : Nat} (hN : 10 < N) (s p : Nat) (hs : s < c.st) : part_ends N (takeS d w c s p) = some true := by
  have hww := dw16 hd; have hvo := hd.voc; have hst := hc.st
  have hly := hd.ly
  have e1 := pis_is (N := N) (by omega) hw.embed (by omega) (by omega)
  have e2 := pis_is (N := N) (by omega) hw.head (by omega) (by omega)
  have e0 := pis_is (N := N) (by omega) zM_R (by omega) (by omega)
  have key : ∀ (a b : Int) (m : S_api_Mat), part_is N m b a = some true → m = (takeS d w c s p).Embed → part_ends.J1 N (takeS d w c s p) a b = some true := by
    intro a b m hm em
    unfold part_ends.J1
    show (if (s : Int) = IntKind.i64.wrap ((c.st : Int) - 1) then _ else _) = _
    rw [W_in (by omega)]
    by_cases q : s + 1 = c.st
    · rw [if_pos (by omega)]
      unfold part_ends.J2
      rw [matR_eta, ← em, hm, Option.bind_some, if_pos rfl, matR_eta]
      unfold takeS
      dsimp only
      rw [if_pos q, if_pos q]
      show (part_is N w.Head (d.voc : Int) ((d.w : Nat) : Int)).bind _ = _
      rw [e2, Option.bind_some, if_pos rfl, hw.last]
      exact congrArg some (decide_eq_true rfl)
    · rw [if_neg (by omega)]
      unfold part_ends.J2
      rw [matR_eta, ← em, hm, Option.bind_some, if_pos rfl, matR_eta]
      unfold takeS
      dsimp only
      rw [if_neg q, if_neg q]
      show (part_is N zM ((0 : Nat) : Int) ((0 : Nat) : Int)).bind _ = _
      rw [e0, Option.bind_some, if_pos rfl]
      rfl
  unfold part_ends
  show (if (s : Int) = 0 then _ else _) = _
  by_cases q : s = 0
  · rw [if_pos (by omega)]
    exact key _ _ w.Embed e1 (by unfold takeS; rw [if_pos q])
  · rw [if_neg (by omega)]
    exact key _ _ zM e0 (by unfold takeS; rw [if_neg q])
theorem wrong_is {N : Nat} (hN : 10 < N) (s p : Nat) (hs : s < c.st) (hp : p < c.pa) : part_wrong N (takeS d w c s p) = some false := by
  have hww := dw16 hd; have hvo := hd.voc; have hst := hc.st; have hly := hd.ly; have hi := hd.inn; have hh := hd.h
  obtain ⟨a1, a2, a3⟩ := hb_fit hd hc p hp
  obtain ⟨b1, b2, b3⟩ := nb_fit hd hc p hp
  obtain ⟨l1, l2⟩ := lb_fit hd hc s hs
  have e1 : IntKind.i64.wrap (((hb d c (p + 1) : Nat) : Int) - ((hb d c p : Nat) : Int)) = ((hpa d c * d.wd : Nat) : Int) := by rw [W_in (by omega), ← a3]; omega
  have e2 : IntKind.i64.wrap (((nb d c (p + 1) : Nat) : Int) - ((nb d c p : Nat) : Int)) = ((ipa d c : Nat) : Int) := by rw [W_in (by omega), ← b3]; omega
  have e3 : IntKind.i64.wrap (((lb d c (s + 1) : Nat) : Int) - ((lb d c s : Nat) : Int)) = ((lb d c (s + 1) - lb d c s : Nat) : Int) := by rw [W_in (by omega)]; omega
  unfold part_wrong
  show (part_of (shapeS d) (cutS c) (s : Int) (p : Int)).bind _ = _
  rw [partof_is hd hp0 hc s p hs hp, Option.bind_some, if_neg (fun q => q rfl)]
  show (part_ends N (takeS d w c s p)).bind _ = _
  rw [ends_is hd hp0 hc hw hN s p hs, Option.bind_some, if_pos rfl]
  show (if (((takeS d w c s p).Blocks.length : Nat) : Int) ≠ IntKind.i64.wrap (((lb d c (s + 1) : Nat) : Int) - ((lb d c s : Nat) : Int)) then _ else _) = _
  rw [e3]
  have hbl : (takeS d w c s p).Blocks.length = lb d c (s + 1) - lb d c s := tabl_len _ _
  rw [if_neg (by rw [hbl]; exact fun q => q rfl)]
  unfold part_wrong.J1
  refine loop_c (fun m (_ : Unit) i => part_wrong.L2 N (takeS d w c s p) (spanS d c s p, 0) m i) (fun _ => ()) (lb d c (s + 1) - lb d c s) _ (fun m i hi => ?_) (fun m => ?_) N (by omega)
  · show part_wrong.L2 N (takeS d w c s p) (spanS d c s p, 0) (m + 1) (i : Int) = part_wrong.L2 N (takeS d w c s p) (spanS d c s p, 0) m _
    have hB : BP d c (blkS d c p (w.Blocks.getD (lb d c s + i) zB)) := blkS_ok hd hc p hp (hw.blocks _ (getD_in _ _ _ (by have := hw.blen; omega)))
    have hB' : idx (takeS d w c s p).Blocks (i : Int) = some (blkS d c p (w.Blocks.getD (lb d c s + i) zB)) := idx_t _ hi
    have k1 := pis_is (N := N) (by omega) hB.q (by omega) (by omega)
    have k2 := pis_is (N := N) (by omega) hB.k (by omega) (by omega)
    have k3 := pis_is (N := N) (by omega) hB.v (by omega) (by omega)
    have k4 := pis_is (N := N) (by omega) hB.o (by omega) (by omega)
    have k5 := pis_is (N := N) (by omega) hB.up (by omega) (by omega)
    have k6 := pis_is (N := N) (by omega) hB.down (by omega) (by omega)
    generalize blkS d c p (w.Blocks.getD (lb d c s + i) zB) = y at hB hB' k1 k2 k3 k4 k5 k6
    rw [part_wrong.L2, if_pos (by rw [hbl]; omega), hB', Option.bind_some]
    show (if ((y.First.length : Nat) : Int) ≠ ((d.w : Nat) : Int) then _ else if ((y.Second.length : Nat) : Int) ≠ ((d.w : Nat) : Int) then _ else (part_is N y.Q (IntKind.i64.wrap (((hb d c (p + 1) : Nat) : Int) - ((hb d c p : Nat) : Int))) ((d.w : Nat) : Int)).bind _) = _
    rw [if_neg (by rw [hB.first]; exact fun q => q rfl), if_neg (by rw [hB.second]; exact fun q => q rfl), e1, k1, Option.bind_some, if_pos rfl]
    show (part_is N y.K (IntKind.i64.wrap (((hb d c (p + 1) : Nat) : Int) - ((hb d c p : Nat) : Int))) ((d.w : Nat) : Int)).bind _ = _
    rw [e1, k2, Option.bind_some, if_pos rfl]
    show (part_is N y.V (IntKind.i64.wrap (((hb d c (p + 1) : Nat) : Int) - ((hb d c p : Nat) : Int))) ((d.w : Nat) : Int)).bind _ = _
    rw [e1, k3, Option.bind_some, if_pos rfl]
    show (part_is N y.O ((d.w : Nat) : Int) (IntKind.i64.wrap (((hb d c (p + 1) : Nat) : Int) - ((hb d c p : Nat) : Int)))).bind _ = _
    rw [e1, k4, Option.bind_some, if_pos rfl]
    show (part_is N y.Up (IntKind.i64.wrap (((nb d c (p + 1) : Nat) : Int) - ((nb d c p : Nat) : Int))) ((d.w : Nat) : Int)).bind _ = _
    rw [e2, k5, Option.bind_some, if_pos rfl]
    show (part_is N y.Down ((d.w : Nat) : Int) (IntKind.i64.wrap (((nb d c (p + 1) : Nat) : Int) - ((nb d c p : Nat) : Int)))).bind _ = _
    rw [e2, k6, Option.bind_some, if_pos rfl, W_succ i (by omega)]
  · show part_wrong.L2 N (takeS d w c s p) (spanS d c s p, 0) (m + 1) (((lb d c (s + 1) - lb d c s : Nat) : Int)) = _
    rw [part_wrong.L2, if_neg (by rw [hbl]; omega)]
    rfl
theorem right13_is {N : Nat} (hN : 10 < N) (s p : Nat) (hs : s < c.st) (hp : p < c.pa) : part_Right N [takeS d w c s p] = some true := by
  obtain ⟨k, rfl⟩ : ∃ k, N = k + 3 := ⟨N - 3, by omega⟩
  unfold part_Right slices_ContainsFunc_s_api_Shard_api_Shard slices_IndexFunc_s_api_Shard_api_Shard
  rw [slices_IndexFunc_s_api_Shard_api_Shard.L1, if_pos (by simp), show idx [takeS d w c s p] 0 = some (takeS d w c s p) from rfl, Option.bind_some, wrong_is hd hp0 hc hw hN s p hs hp, Option.bind_some, if_neg (by decide), show IntKind.i64.wrap (0 + 1) = 1 from rfl, slices_IndexFunc_s_api_Shard_api_Shard.L1, if_neg (by simp)]
  rfl
end
end Go.Proofs.YtbfiagimgokccaaGreat
end
section
namespace Go.Proofs.YtbfiagimgokccaaGreat
open Go Go.Hp
set_option linter.unusedVariables false
set_option linter.unusedSimpArgs false
set_option linter.unusedSectionVars false
def zSh : S_api_Shard := ⟨⟨0, 0, 0, 0, 0, 0⟩, ⟨0, 0⟩, 0, 0, zM, [], [], zM⟩
theorem right_z {N : Nat} (hN : 10 < N) : part_Right N [zSh] = some false := by
  obtain ⟨k, rfl⟩ : ∃ k, N = k + 3 := ⟨N - 3, by omega⟩
  have h : part_wrong (k + 3) zSh = some true := rfl
  unfold part_Right slices_ContainsFunc_s_api_Shard_api_Shard slices_IndexFunc_s_api_Shard_api_Shard
  rw [slices_IndexFunc_s_api_Shard_api_Shard.L1, if_pos (by simp), show idx [zSh] 0 = some zSh from rfl, Option.bind_some, h, Option.bind_some, if_pos rfl]
  rfl
theorem enter_z {N : Nat} (hN : 10 < N) (t : Int) : block_Enter N zSh t = some ([], 30) := by
  unfold block_Enter
  show (part_Right N [zSh]).bind _ = _
  rw [right_z hN, Option.bind_some, if_neg (by decide)]
theorem rows_z {N : Nat} (hN : 10 < N) (x : List Int) : block_Rows N zSh x = some (⟨0, 0⟩, false) := by
  unfold block_Rows
  show (part_Right N [zSh]).bind _ = _
  rw [right_z hN, Option.bind_some, if_neg (by decide)]
section
variable {d : Dim} (hd : DOK d) (hp0 : 0 < d.pl) {c : Cu} (hc : COK d c) {w : S_api_Weights} (hw : WOK d w)
include hd hp0 hc hw
theorem rows13_is {N : Nat} (hN : 10 < N) (s p : Nat) (hs : s < c.st) (hp : p < c.pa) (x : List Int) (hx : x.length ≤ 1000) : block_Rows N (takeS d w c s p) x = some (if x.length = hb d c (p + 1) - hb d c p then (⟨((hb d c p : Nat) : Int), ((hb d c (p + 1) : Nat) : Int)⟩, true) else (⟨0, 0⟩, false)) := by
  have hh := hd.h; have hww := dw16 hd
  obtain ⟨a1, a2, a3⟩ := hb_fit hd hc p hp
  unfold block_Rows
  show (part_Right N [takeS d w c s p]).bind _ = _
  rw [right13_is hd hp0 hc hw hN s p hs hp, Option.bind_some, if_pos rfl]
  show (slice_Heads (shapeS d) (cutS c) (p : Int)).bind _ = _
  rw [sheads_is hd hp0 hc p hp, Option.bind_some]
  show chk ((d.h : Int) ≠ 0) ((some (IntKind.i64.wrap (Int.tdiv ((d.w : Nat) : Int) (d.h : Int)))).bind _) = _
  rw [chk_ok _ (by omega), ewd13 hd, Option.bind_some]
  show (if ((x.length : Nat) : Int) ≠ IntKind.i64.wrap (IntKind.i64.wrap (((sp (p + 1) d.h c.pa : Nat) : Int) * (d.wd : Int)) - IntKind.i64.wrap (((sp p d.h c.pa : Nat) : Int) * (d.wd : Int))) then _ else some ((⟨IntKind.i64.wrap (((sp p d.h c.pa : Nat) : Int) * (d.wd : Int)), IntKind.i64.wrap (((sp (p + 1) d.h c.pa : Nat) : Int) * (d.wd : Int))⟩ : A2_i64), true)) = _
  rw [hbW hd hp0 hc p (by omega), hbW hd hp0 hc (p + 1) (by omega), W_in (by omega)]
  by_cases q : x.length = hb d c (p + 1) - hb d c p
  · rw [if_neg (by omega), if_pos q]
  · rw [if_pos (by omega), if_neg q]
theorem enter_stage {N : Nat} (hN : 10 < N) (s p : Nat) (hs : s < c.st) (hp : p < c.pa) (h0 : s ≠ 0) (t : Int) : block_Enter N (takeS d w c s p) t = some ([], 121) := by
  unfold block_Enter
  show (part_Right N [takeS d w c s p]).bind _ = _
  rw [right13_is hd hp0 hc hw hN s p hs hp, Option.bind_some, if_pos rfl]
  show (if (s : Int) ≠ 0 then _ else _) = _
  rw [if_pos (by omega)]
theorem enter_bad {N : Nat} (hN : 10 < N) (p : Nat) (hp : p < c.pa) (t : Int) (ht : t < 0 ∨ t ≥ d.voc) : block_Enter N (takeS d w c 0 p) t = some ([], 2) := by
  have hst := hc.st
  unfold block_Enter
  show (part_Right N [takeS d w c 0 p]).bind _ = _
  rw [right13_is hd hp0 hc hw hN 0 p hst.1 hp, Option.bind_some, if_pos rfl]
  show (if ((0 : Nat) : Int) ≠ 0 then _ else if t < 0 then _ else if t ≥ (d.voc : Int) then _ else _) = _
  rw [if_neg (fun q => q rfl)]
  rcases ht with h | h
  · rw [if_pos h]
  · rw [if_neg (by omega), if_pos h]
theorem enter_ok {N : Nat} (hN : 200 < N) (p : Nat) (hp : p < c.pa) (t : Nat) (ht : t < d.voc) : block_Enter N (takeS d w c 0 p) (t : Int) = some (inS d w t, 0) := by
  have hst := hc.st; have hvo := hd.voc; have hww := dw16 hd
  have h1 : (t + 1) * d.w ≤ d.voc * d.w := Nat.mul_le_mul_right _ (by omega)
  have h2 : d.voc * d.w ≤ 10 * 16 := Nat.mul_le_mul (by omega) (by omega)
  have h3 : (t + 1) * d.w = t * d.w + d.w := Nat.succ_mul _ _
  have e1 : IntKind.i64.wrap ((t : Int) * ((d.w : Nat) : Int)) = ((t * d.w : Nat) : Int) := mulN _ _ (by omega)
  have e2 : IntKind.i64.wrap (IntKind.i64.wrap ((t : Int) + 1) * ((d.w : Nat) : Int)) = (((t + 1) * d.w : Nat) : Int) := by rw [W_succ t (by omega)]; exact mulN _ _ (by omega)
  have hE : (takeS d w c 0 p).Embed = w.Embed := rfl
  have hV : w.Embed.V.length = d.voc * d.w := hw.embed.2.2
  unfold block_Enter
  show (part_Right N [takeS d w c 0 p]).bind _ = _
  rw [right13_is hd hp0 hc hw (by omega) 0 p hst.1 hp, Option.bind_some, if_pos rfl]
  show (if ((0 : Nat) : Int) ≠ 0 then _ else if (t : Int) < 0 then _ else if (t : Int) ≥ (d.voc : Int) then _ else chk (0 ≤ IntKind.i64.wrap ((t : Int) * ((d.w : Nat) : Int)) ∧ IntKind.i64.wrap ((t : Int) * ((d.w : Nat) : Int)) ≤ IntKind.i64.wrap (IntKind.i64.wrap ((t : Int) + 1) * ((d.w : Nat) : Int)) ∧ IntKind.i64.wrap (IntKind.i64.wrap ((t : Int) + 1) * ((d.w : Nat) : Int)) ≤ ((w.Embed.V.length : Nat) : Int)) _) = _
  rw [if_neg (fun q => q rfl), if_neg (by omega), if_neg (by omega), e1, e2, chk_ok _ (by omega)]
  refine loop_c (fun m (s : List Int) i => block_Enter.L1 (takeS d w c 0 p) (t : Int) m s i) (fun i => tabl i fun i => IntKind.i32.wrap (16 * IntKind.i32.wrap (w.Embed.V.getD (t * d.w + i) 0))) d.w _ (fun m i hi => ?_) (fun m => ?_) N (by omega)
  · show block_Enter.L1 (takeS d w c 0 p) (t : Int) (m + 1) _ (i : Int) = block_Enter.L1 (takeS d w c 0 p) (t : Int) m _ _
    rw [block_Enter.L1]
    show (if (i : Int) < (((IntKind.i64.wrap (IntKind.i64.wrap ((t : Int) + 1) * ((d.w : Nat) : Int))).toNat - (IntKind.i64.wrap ((t : Int) * ((d.w : Nat) : Int))).toNat : Nat) : Int) then (idx ((w.Embed.V.take (IntKind.i64.wrap (IntKind.i64.wrap ((t : Int) + 1) * ((d.w : Nat) : Int))).toNat).drop (IntKind.i64.wrap ((t : Int) * ((d.w : Nat) : Int))).toNat) (i : Int)).bind _ else _) = _
    rw [e1, e2, Int.toNat_natCast, Int.toNat_natCast, if_pos (by omega)]
    have hx : idx ((w.Embed.V.take ((t + 1) * d.w)).drop (t * d.w)) (i : Int) = some (w.Embed.V.getD (t * d.w + i) 0) := by
      rw [idx_d _ 0 (by simp; omega), List.getD_eq_getElem?_getD, List.getElem?_drop, List.getElem?_take, if_pos (by omega), ← List.getD_eq_getElem?_getD]
    have hs : ∀ y : Int, ishl .i32 (IntKind.i32.wrap y) 4 = IntKind.i32.wrap (16 * IntKind.i32.wrap y) := fun y => by
      show IntKind.i32.wrap (IntKind.i32.wrap y * 2 ^ min (4 : Int).toNat 32) = _
      rw [show (2 : Int) ^ min (4 : Int).toNat 32 = 16 from rfl, Int.mul_comm]
    rw [hx, Option.bind_some, hs, app_ok _ _ (by rw [tabl_len]; simp only [List.length_cons, List.length_nil]; omega), Option.bind_some, W_succ i (by omega), tabl_succ]
  · show block_Enter.L1 (takeS d w c 0 p) (t : Int) (m + 1) _ ((d.w : Nat) : Int) = _
    rw [block_Enter.L1]
    show (if ((d.w : Nat) : Int) < (((IntKind.i64.wrap (IntKind.i64.wrap ((t : Int) + 1) * ((d.w : Nat) : Int))).toNat - (IntKind.i64.wrap ((t : Int) * ((d.w : Nat) : Int))).toNat : Nat) : Int) then _ else _) = _
    rw [e1, e2, Int.toNat_natCast, Int.toNat_natCast, if_neg (by omega)]
    rfl
end
def colS (ys : List (List Int)) (i : Nat) : Int := tot (ys.map fun y => y.getD i 0)
def sumsS (n : Nat) (ys : List (List Int)) : List Int := tabl n fun i => IntKind.i32.wrap (colS ys i)
theorem tot_rev : ∀ xs : List Int, tot xs.reverse = tot xs
  | [] => rfl
  | x :: xs => by rw [List.reverse_cons, tot_snoc, tot_rev xs]; simp only [tot]; omega
theorem colS_rev (ys : List (List Int)) (i : Nat) : colS ys.reverse i = colS ys i := by unfold colS; rw [List.map_reverse, tot_rev]
theorem sumsS_rev (n : Nat) (ys : List (List Int)) : sumsS n ys.reverse = sumsS n ys := tabl_congr fun j _ => by rw [colS_rev]
theorem colS_snoc (ys : List (List Int)) (y : List Int) (i : Nat) : colS (ys ++ [y]) i = colS ys i + y.getD i 0 := by unfold colS; rw [List.map_append, List.map_singleton, tot_snoc]
theorem sum2_is {N : Nat} (hN : 5 < N) (a b : Int) : round_Sum N [a, b] = some (IntKind.i32.wrap (a + b)) := by
  obtain ⟨k, rfl⟩ : ∃ k, N = k + 3 := ⟨N - 3, by omega⟩
  unfold round_Sum
  rw [round_Sum.L1, if_pos (by simp), show idx [a, b] 0 = some a from rfl, Option.bind_some, Option.bind_some, show IntKind.i64.wrap (0 + 1) = 1 from rfl, round_Sum.L1, if_pos (by simp), show idx [a, b] 1 = some b from rfl, Option.bind_some, Option.bind_some, show IntKind.i64.wrap (1 + 1) = 2 from rfl, round_Sum.L1, if_neg (by simp)]
  congr 1
  simp only [IntKind.wrap_i32, IntKind.wrap_u32]
  omega
theorem wrap_add (a b : Int) : IntKind.i32.wrap (IntKind.i32.wrap a + b) = IntKind.i32.wrap (a + b) := by
  simp only [IntKind.wrap_i32]; omega
theorem take_snoc {α : Type} (l : List α) (k : Nat) (h : k < l.length) : l.take (k + 1) = l.take k ++ [l[k]] := List.take_succ_eq_append_getElem h
theorem join_step {N : Nat} (hN : 300 < N) (x : List Int) (ys : List (List Int)) (hx : x.length ≤ 200) (hy : ys.length ≤ 100) (m k : Nat) (hk : k < ys.length) (hl : ys[k].length = x.length) :
    block_Join.L1 N x ys (m + 1) (sumsS x.length (ys.take k)) (k : Int) = block_Join.L1 N x ys m (sumsS x.length (ys.take (k + 1))) ((k + 1 : Nat) : Int) := by
  rw [block_Join.L1, if_pos (by omega), idx_get ys k hk, Option.bind_some, if_neg (by rw [hl]; exact fun q => q rfl)]
  have h0 : sumsS x.length (ys.take k) = tabl x.length fun j => if j < 0 then IntKind.i32.wrap (colS (ys.take (k + 1)) j) else IntKind.i32.wrap (colS (ys.take k) j) := tabl_congr fun j _ => (if_neg (by omega)).symm
  refine (congrArg (fun z => block_Join.L2 N (k : Int) ys[k] (block_Join.L1 N x ys m) N z 0) h0).trans ?_
  refine loop_c (fun m' (s : List Int) i => block_Join.L2 N (k : Int) ys[k] (block_Join.L1 N x ys m) m' s i) (fun i => tabl x.length fun j => if j < i then IntKind.i32.wrap (colS (ys.take (k + 1)) j) else IntKind.i32.wrap (colS (ys.take k) j)) x.length _ (fun m' i hi => ?_) (fun m' => ?_) N (by omega)
  · show block_Join.L2 N (k : Int) ys[k] (block_Join.L1 N x ys m) (m' + 1) _ (i : Int) = block_Join.L2 N (k : Int) ys[k] (block_Join.L1 N x ys m) m' _ _
    rw [block_Join.L2, if_pos (by omega), idx_t _ hi, Option.bind_some, idx_d ys[k] 0 (by omega), Option.bind_some, sum2_is (by omega), Option.bind_some, Option.bind_some, W_succ i (by omega), Int.toNat_natCast, tabl_set]
    congr 1
    refine tabl_congr fun j hj => ?_
    by_cases h : j = i
    · subst h
      rw [if_pos rfl, if_neg (show ¬ j < j by omega), if_pos (show j < j + 1 by omega), wrap_add, take_snoc ys k hk, colS_snoc]
    · rw [if_neg h]
      by_cases h2 : j < i
      · rw [if_pos h2, if_pos (by omega)]
      · rw [if_neg h2, if_neg (by omega)]
  · show block_Join.L2 N (k : Int) ys[k] (block_Join.L1 N x ys m) (m' + 1) _ ((x.length : Nat) : Int) = _
    rw [block_Join.L2, if_neg (by omega), W_succ k (by omega)]
    congr 1
    exact tabl_congr fun j hj => if_pos hj
theorem join_0 (x : List Int) (ys : List (List Int)) : List.replicate (((x.length : Nat) : Int)).toNat (0 : Int) = sumsS x.length (ys.take 0) := by
  rw [Int.toNat_natCast, tabl_rep]
  exact tabl_congr fun j _ => rfl
theorem bjoin_is {N : Nat} (hN : 300 < N) (x : List Int) (ys : List (List Int)) (hx : x.length ≤ 200) (hy : ys.length ≤ 100) (hl : ∀ y ∈ ys, y.length = x.length) : block_Join N x ys = some (joinS x (sumsS x.length ys) 1 4, 0) := by
  unfold block_Join
  rw [chk_ok _ (by omega), join_0 x ys]
  refine loop_c (fun m (s : List Int) i => block_Join.L1 N x ys m s i) (fun k => sumsS x.length (ys.take k)) ys.length _ (fun m k hk => join_step hN x ys hx hy m k hk (hl _ (List.getElem_mem hk))) (fun m => ?_) N (by omega)
  show block_Join.L1 N x ys (m + 1) _ ((ys.length : Nat) : Int) = _
  rw [block_Join.L1, if_neg (by omega), List.take_length, pjoin_is x (sumsS x.length ys) 1 4 (tabl_len _ _) (by omega) (by omega), Option.bind_some]
theorem bjoin_bad {N : Nat} (hN : 300 < N) (x : List Int) (ys : List (List Int)) (hx : x.length ≤ 200) (hy : ys.length ≤ 100) (k0 : Nat) (hk0 : k0 < ys.length) (hb : ys[k0].length ≠ x.length) (hl : ∀ j (h : j < ys.length), j < k0 → ys[j].length = x.length) : block_Join N x ys = some ([], 30) := by
  unfold block_Join
  rw [chk_ok _ (by omega), join_0 x ys]
  refine loop_c (fun m (s : List Int) i => block_Join.L1 N x ys m s i) (fun k => sumsS x.length (ys.take k)) k0 _ (fun m k hk => join_step hN x ys hx hy m k (by omega) (hl k (by omega) hk)) (fun m => ?_) N (by omega)
  show block_Join.L1 N x ys (m + 1) _ ((k0 : Nat) : Int) = _
  rw [block_Join.L1, if_pos (by omega), idx_get ys k0 hk0, Option.bind_some, if_pos (by omega)]
theorem tot_wrap : ∀ l : List Int, IntKind.i32.wrap (tot (l.map IntKind.i64.wrap)) = IntKind.i32.wrap (tot l) := by
  have key : ∀ l : List Int, tot (l.map IntKind.i64.wrap) % 4294967296 = tot l % 4294967296 := by
    intro l
    induction l with
    | nil => rfl
    | cons x l ih =>
      simp only [List.map_cons, tot, IntKind.wrap_i64]
      omega
  intro l
  have := key l
  simp only [IntKind.wrap_i32]
  omega
theorem rjoin_is {N : Nat} (hN : 300 < N) (x : List Int) (ys : List (List Int)) (hx : x.length ≤ 200) (hy : ys.length ≤ 100) (hl : ∀ y ∈ ys, y.length = x.length) : ref13_Join N x ys = some (joinS x (sumsS x.length ys) 1 4) := by
  unfold ref13_Join
  refine loop_c (fun m (s : List Int) i => ref13_Join.L1 N x ys m s i) (fun i => tabl i fun i => IntKind.i32.wrap (colS ys i)) x.length _ (fun m i hi => ?_) (fun m => ?_) N (by omega)
  · show ref13_Join.L1 N x ys (m + 1) _ (i : Int) = ref13_Join.L1 N x ys m _ _
    rw [ref13_Join.L1, if_pos (by omega)]
    refine loop_c (fun m' (s : List Int) k => ref13_Join.L2 N ys (tabl i fun i => IntKind.i32.wrap (colS ys i)) (i : Int) (ref13_Join.L1 N x ys m) m' s k) (fun k => (ys.take k).map fun y => IntKind.i64.wrap (y.getD i 0)) ys.length _ (fun m' k hk => ?_) (fun m' => ?_) N (by omega)
    · show ref13_Join.L2 N ys _ (i : Int) (ref13_Join.L1 N x ys m) (m' + 1) _ (k : Int) = ref13_Join.L2 N ys _ (i : Int) (ref13_Join.L1 N x ys m) m' _ _
      have hq := hl _ (List.getElem_mem hk)
      rw [ref13_Join.L2, if_pos (by omega), idx_get ys k hk, Option.bind_some, idx_d ys[k] 0 (by omega), Option.bind_some, app_ok _ _ (by simp; omega), Option.bind_some, W_succ k (by omega), take_snoc ys k hk, List.map_append, List.map_singleton]
    · show ref13_Join.L2 N ys _ (i : Int) (ref13_Join.L1 N x ys m) (m' + 1) _ ((ys.length : Nat) : Int) = _
      have e : (ys.map fun y => IntKind.i64.wrap (y.getD i 0)) = (ys.map fun y => y.getD i 0).map IntKind.i64.wrap := by rw [List.map_map]; rfl
      rw [ref13_Join.L2, if_neg (by omega), List.take_length, wrap_is _ (by simp; omega) (by simp; omega), Option.bind_some, app_ok _ _ (by rw [tabl_len]; simp only [List.length_cons, List.length_nil]; omega), Option.bind_some, W_succ i (by omega), e, tot_wrap, tabl_succ]
      rfl
  · show ref13_Join.L1 N x ys (m + 1) _ ((x.length : Nat) : Int) = _
    rw [ref13_Join.L1, if_neg (by omega)]
    show (ref05_Join N x (sumsS x.length ys) 1 4).bind _ = _
    rw [join_is x (sumsS x.length ys) 1 4 (tabl_len _ _) hx (by omega), Option.bind_some]
end Go.Proofs.YtbfiagimgokccaaGreat
end
section
namespace Go.Proofs.YtbfiagimgokccaaGreat
open Go Go.Hp
theorem awake13 : law13_awake 5000 = some true := by decide +kernel
end Go.Proofs.YtbfiagimgokccaaGreat
end
section
namespace Go.Proofs.YtbfiagimgokccaaGreat
open Go Go.Hp
set_option linter.unusedVariables false
set_option linter.unusedSimpArgs false
set_option linter.unusedSectionVars false
section
variable {d : Dim} (hd : DOK d) (hp4 : 4 ≤ d.pl) {c : Cu} (hc : COK d c) {w : S_api_Weights} (hw : WOK d w) (hsh : w.Shape = shapeS d)
include hd hp4 hc hw hsh
theorem joins_shard {N : Nat} (hN : 300 < N) (t : Int) (s p : Nat) (hs : s < c.st) (hp : p < c.pa) (j : Int) (k5 : Int → Option Bool) :
    law13_BlockJoins.J8 N t (w, cutS c) j k5 (takeS d w c s p).Shape.Layers (takeS d w c s p).Shape.Width (takeS d w c s p).Shape.Heads (takeS d w c s p).Shape.Inner (takeS d w c s p).Shape.Vocab (takeS d w c s p).Shape.Places (takeS d w c s p).Cut.Stages (takeS d w c s p).Cut.Parts (takeS d w c s p).Stage (takeS d w c s p).Part (takeS d w c s p).Embed.Rows (takeS d w c s p).Embed.Cols (takeS d w c s p).Embed.V (takeS d w c s p).Blocks (takeS d w c s p).Last (takeS d w c s p).Head.Rows (takeS d w c s p).Head.Cols (takeS d w c s p).Head.V = k5 (IntKind.i64.wrap (j + 1)) := by
  have hww := dw16 hd; have hvo := hd.voc
  unfold law13_BlockJoins.J8
  show (block_Enter N (takeS d w c s p) t).bind _ = _
  by_cases h0 : s = 0
  · subst h0
    have j9 : ∀ r, block_Enter N (takeS d w c 0 p) t = some r → ∀ z : Bool, (z = true ↔ ¬ (0 ≤ t ∧ t < d.voc)) → law13_BlockJoins.J9 N t (w, cutS c) j r k5 z = k5 (IntKind.i64.wrap (j + 1)) := by
      intro r er z hz
      unfold law13_BlockJoins.J9
      by_cases hin : 0 ≤ t ∧ t < d.voc
      · obtain ⟨h1, h2⟩ := hin
        obtain ⟨n, rfl⟩ : ∃ n : Nat, t = n := ⟨t.toNat, by omega⟩
        have zf : z = false := by
          cases z
          · rfl
          · exact absurd ⟨h1, h2⟩ (hz.1 rfl)
        subst zf
        rw [enter_ok hd (by omega) hc hw (by omega) p hp n (by omega)] at er
        injection er with er
        subst er
        have hl : (inS d w n).length = d.w := tabl_len _ _
        have h1 : (n + 1) * d.w ≤ d.voc * d.w := Nat.mul_le_mul_right _ (by omega)
        have h2 : d.voc * d.w ≤ 10 * 16 := Nat.mul_le_mul (by omega) (by omega)
        have h3 : (n + 1) * d.w = n * d.w + d.w := Nat.succ_mul _ _
        have hV : w.Embed.V.length = d.voc * d.w := hw.embed.2.2
        rw [if_neg (by decide), if_neg (fun q => q rfl)]
        show (if (((inS d w n).length : Nat) : Int) ≠ w.Shape.Width then _ else _) = _
        rw [hw.width, hl, if_neg (fun q => q rfl)]
        refine loop_c (fun m (_ : Unit) i => law13_BlockJoins.L10 (n : Int) (w, cutS c) j (inS d w n, 0) k5 m i) (fun _ => ()) d.w _ (fun m i hi => ?_) (fun m => ?_) N (by omega)
        · show law13_BlockJoins.L10 (n : Int) (w, cutS c) j (inS d w n, 0) k5 (m + 1) (i : Int) = law13_BlockJoins.L10 (n : Int) (w, cutS c) j (inS d w n, 0) k5 m _
          rw [law13_BlockJoins.L10]
          show (if (i : Int) < (((inS d w n).length : Nat) : Int) then (idx (inS d w n) (i : Int)).bind (fun y322 => (idx w.Embed.V (IntKind.i64.wrap (IntKind.i64.wrap ((n : Int) * w.Shape.Width) + (i : Int)))).bind _) else _) = _
          have e1 : IntKind.i64.wrap (IntKind.i64.wrap ((n : Int) * w.Shape.Width) + (i : Int)) = ((n * d.w + i : Nat) : Int) := by
            rw [hw.width, mulN _ _ (by omega), W_in (by omega)]; omega
          have e2 : idx (inS d w n) (i : Int) = some (IntKind.i32.wrap (16 * IntKind.i32.wrap (w.Embed.V.getD (n * d.w + i) 0))) := idx_t _ hi
          rw [hl, if_pos (by omega), e2, Option.bind_some, e1, idx_d _ 0 (by omega), Option.bind_some, if_neg (fun q => q rfl), W_succ i (by omega)]
        · show law13_BlockJoins.L10 (n : Int) (w, cutS c) j (inS d w n, 0) k5 (m + 1) ((d.w : Nat) : Int) = _
          rw [law13_BlockJoins.L10]
          show (if ((d.w : Nat) : Int) < (((inS d w n).length : Nat) : Int) then _ else _) = _
          rw [hl, if_neg (by omega)]
          rfl
      · have zt : z = true := hz.2 hin
        subst zt
        rw [enter_bad hd (by omega) hc hw (by omega) p hp t (by omega)] at er
        injection er with er
        subst er
        rw [if_pos rfl, if_neg (fun q => q rfl), if_neg (fun q => q rfl)]
        rfl
    have hr : ∃ r, block_Enter N (takeS d w c 0 p) t = some r := by
      by_cases hin : 0 ≤ t ∧ t < d.voc
      · obtain ⟨n, rfl⟩ : ∃ n : Nat, t = n := ⟨t.toNat, by omega⟩
        exact ⟨_, enter_ok hd (by omega) hc hw (by omega) p hp n (by omega)⟩
      · exact ⟨_, enter_bad hd (by omega) hc hw (by omega) p hp t (by omega)⟩
    obtain ⟨r, er⟩ := hr
    rw [er, Option.bind_some]
    show (if ((0 : Nat) : Int) ≠ 0 then _ else if t < 0 then law13_BlockJoins.J9 N t (w, cutS c) j r k5 true else law13_BlockJoins.J9 N t (w, cutS c) j r k5 (decide (t ≥ w.Shape.Vocab))) = _
    rw [if_neg (fun q => q rfl), hw.vocab]
    by_cases ht : t < 0
    · rw [if_pos ht]
      exact j9 r er true ⟨fun _ => by omega, fun _ => rfl⟩
    · rw [if_neg ht]
      exact j9 r er _ ⟨fun q => by have := of_decide_eq_true q; omega, fun q => decide_eq_true (by omega)⟩
  · rw [enter_stage hd (by omega) hc hw (by omega) s p hs hp h0, Option.bind_some]
    show (if (s : Int) ≠ 0 then _ else _) = _
    rw [if_pos (by omega), if_neg (fun q => q rfl), if_neg (fun q => q rfl)]
    rfl
theorem joins_shards {N : Nat} (hN : 300 < N) (t : Int) : law13_BlockJoins.L5 N t (w, cutS c) N 0 = some true := by
  have hh := hd.h; have hly := hd.ly; have hst := hc.st; have hpa := hc.pa; have hww := dw16 hd
  have hm : c.st * c.pa ≤ 3 * 4 := Nat.mul_le_mul (by omega) (by omega)
  have eM : IntKind.i64.wrap ((c.st : Int) * (c.pa : Int)) = ((c.st * c.pa : Nat) : Int) := mulN _ _ (by omega)
  refine loop_c (fun m (_ : Unit) i => law13_BlockJoins.L5 N t (w, cutS c) m i) (fun _ => ()) (c.st * c.pa) _ (fun m i hi => ?_) (fun m => ?_) N (by omega)
  · show law13_BlockJoins.L5 N t (w, cutS c) (m + 1) (i : Int) = law13_BlockJoins.L5 N t (w, cutS c) m _
    have hs : i / c.pa < c.st := Nat.div_lt_of_lt_mul (by rw [Nat.mul_comm]; exact hi)
    have hp : i % c.pa < c.pa := Nat.mod_lt _ hpa.1
    have hq : i / c.pa ≤ i := Nat.div_le_self _ _
    rw [law13_BlockJoins.L5]
    show (if (i : Int) < IntKind.i64.wrap ((c.st : Int) * (c.pa : Int)) then chk ((c.pa : Int) ≠ 0) ((ref11_Take N w (cutS c) (IntKind.i64.wrap (Int.tdiv (i : Int) (c.pa : Int))) (Int.tmod (i : Int) (c.pa : Int))).bind _) else _) = _
    rw [eM, if_pos (by omega), chk_ok _ (by omega), tdivN, tmodN, W_nat _ (Nat.le_trans hq (by omega)), take13_is hd hc hN hw hsh _ _ hs hp, Option.bind_some]
    rw [joins_shard hd hp4 hc hw hsh hN t _ _ hs hp, W_succ i (by omega)]
  · show law13_BlockJoins.L5 N t (w, cutS c) (m + 1) ((c.st * c.pa : Nat) : Int) = _
    rw [law13_BlockJoins.L5]
    show (if ((c.st * c.pa : Nat) : Int) < IntKind.i64.wrap ((c.st : Int) * (c.pa : Int)) then _ else (block_Enter N zSh t).bind fun r156 => (block_Rows N zSh []).bind fun r162 => (ref11_Take N w (cutS c) ((0 : Nat) : Int) ((0 : Nat) : Int)).bind fun r168 => chk (0 ≤ IntKind.i64.wrap (w.Shape.Width + 1) ∧ IntKind.i64.wrap (w.Shape.Width + 1) ≤ 4294967296) ((block_Rows N r168 (List.replicate (IntKind.i64.wrap (w.Shape.Width + 1)).toNat 0)).bind fun r158 => law13_BlockJoins.J6 r156 r162 r158.2)) = _
    rw [eM, if_neg (by omega), enter_z (by omega), Option.bind_some, rows_z (by omega), Option.bind_some, take13_is hd hc hN hw hsh 0 0 hst.1 hpa.1, Option.bind_some, hw.width, W_succ d.w (by omega), chk_ok _ (by omega), Int.toNat_natCast, rows13_is hd (by omega) hc hw (by omega) 0 0 hst.1 hpa.1 _ (by rw [List.length_replicate]; omega), Option.bind_some]
    obtain ⟨a1, a2, a3⟩ := hb_fit hd hc 0 hpa.1
    rw [List.length_replicate, if_neg (by omega)]
    rfl
end
theorem joins_weights (x0 : S_law13_Seeds) (t : Int) : law13_BlockJoins.J2 5000 x0 t = some true := by
  obtain ⟨d, w, hd, hv, hp, hw, hsh, em⟩ := made_is (N := 5000) (Nat.le_refl _) x0.N x0.Seed [] (by simp)
  obtain ⟨c, hc, ec⟩ := cut_is hd (N := 5000) (by omega) x0.A x0.B
  have hm : law13_made 5000 x0 = some (w, cutS c) := by
    unfold law13_made
    show (ref08_Made 5000 x0.N x0.Seed []).bind _ = _
    rw [em, Option.bind_some]
    show (ref10_Cut 5000 w.Shape x0.A x0.B).bind _ = _
    rw [show ref10_Cut 5000 w.Shape x0.A x0.B = some (cutS c) by rw [hsh]; exact ec, Option.bind_some]
  unfold law13_BlockJoins.J2
  show (law13_made 5000 x0).bind _ = _
  rw [hm, Option.bind_some]
  exact joins_shards hd hp hc hw hsh (by omega) t
theorem drop1 {α : Type} (xs : List α) : (xs.take (((xs.length : Nat) : Int)).toNat).drop ((1 : Int)).toNat = xs.drop 1 := by
  rw [Int.toNat_natCast, List.take_length]; rfl
theorem joins_rows (x0 : S_law13_Seeds) (x : List Int) (ys : List (List Int)) (t : Int) (hx : x.length ≤ 200) (hy : ys.length ≤ 10) (hl : ∀ y ∈ ys, y.length = x.length) :
    law13_BlockJoins.J3 5000 x0 (x :: ys) t (joinS x (sumsS x.length ys) 1 4, 0) false = some true := by
  have hjl : (joinS x (sumsS x.length ys) 1 4).length = x.length := tabl_len _ _
  unfold law13_BlockJoins.J3
  rw [if_neg (by decide), W_in (by simp; omega), Option.bind_some]
  have key : ∀ q m : Nat, q ≤ ys.length → q < m → law13_BlockJoins.L4 5000 x0 (x :: ys) t (joinS x (sumsS x.length ys) 1 4, 0) m ((ys.drop q).reverse) (q : Int) = some true := by
    intro q
    induction q with
    | zero =>
      intro m hq hm
      obtain ⟨m, rfl⟩ : ∃ q, m = q + 1 := ⟨m - 1, by omega⟩
      rw [law13_BlockJoins.L4, if_neg (by omega), show idx (x :: ys) 0 = some x from rfl, Option.bind_some, List.drop_zero, bjoin_is (by omega) x ys.reverse hx (by simp; omega) (fun y h => hl y (List.mem_reverse.1 h)), Option.bind_some, if_neg (fun q => q rfl), if_neg (fun q => q rfl), Option.bind_some, chk_ok _ (by simp; omega), drop1]
      show (ref13_Join 5000 x ys).bind _ = _
      rw [rjoin_is (by omega) x ys hx (by omega) hl, Option.bind_some]
      show (ref04_Ints 5000 (joinS x (sumsS x.length ys) 1 4) (joinS x (sumsS x.length ys) 1 4)).bind _ = _
      rw [ints13_same _ (by omega) (by omega), Option.bind_some, if_pos rfl]
      show (ref04_Ints 5000 (joinS x (sumsS x.length ys) 1 4) (joinS x (sumsS x.length ys.reverse) 1 4)).bind _ = _
      rw [sumsS_rev, ints13_same _ (by omega) (by omega), Option.bind_some, if_pos rfl, joins_weights]
    | succ q ih =>
      intro m hq hm
      obtain ⟨m, rfl⟩ : ∃ q, m = q + 1 := ⟨m - 1, by omega⟩
      have e : idx (x :: ys) ((q + 1 : Nat) : Int) = some ys[q] := by rw [idx_nat]; simp
      have e2 : (ys.drop (q + 1)).reverse ++ [ys[q]] = (ys.drop q).reverse := by rw [List.drop_eq_getElem_cons (show q < ys.length by omega), List.reverse_cons]
      rw [law13_BlockJoins.L4, if_pos (by omega), e, Option.bind_some, app_ok _ _ (by simp; omega), Option.bind_some, e2, W_in (by omega), show ((q + 1 : Nat) : Int) - 1 = (q : Int) by omega]
      exact ih m (by omega) (by omega)
  have := key ys.length 5000 (Nat.le_refl _) (by omega)
  rw [List.drop_length, List.reverse_nil] at this
  rw [show (((x :: ys).length : Nat) : Int) - 1 = ((ys.length : Nat) : Int) by simp]
  exact this
theorem blockJoins (x0 : S_law13_Seeds) (x1 : List (List Int)) (t : Int) : law13_BlockJoins 5000 x0 x1 t = some true := by
  unfold law13_BlockJoins
  rw [awake13, Option.bind_some, if_pos rfl]
  by_cases c1 : ((x1.length : Nat) : Int) > 10
  · rw [if_pos c1, Option.bind_some]
  rw [if_neg c1]
  by_cases c2 : ((x1.length : Nat) : Int) < 1
  · rw [if_pos c2, Option.bind_some]
  rw [if_neg c2]
  cases x1 with
  | nil => exact absurd (by decide) c2
  | cons x ys =>
    have hn : ys.length ≤ 9 := by simp at c1; omega
    have key : ∀ q i m : Nat, i + q = (x :: ys).length → q < m → ∀ z : Bool, (0 < i → x.length ≤ 200) → (z = true ↔ ∀ j (h : j < ys.length), j + 1 < i → ys[j].length = x.length) → law13_BlockJoins.L1 5000 x0 (x :: ys) t m z (i : Int) = some true := by
      intro q
      induction q with
      | zero =>
        intro i m hi hm z hx hz
        obtain ⟨m, rfl⟩ : ∃ q, m = q + 1 := ⟨m - 1, by omega⟩
        have hlen : (x :: ys).length = ys.length + 1 := rfl
        have hx' := hx (by omega)
        rw [law13_BlockJoins.L1, if_neg (by omega), show idx (x :: ys) 0 = some x from rfl, Option.bind_some, chk_ok _ (by omega), drop1]
        show (block_Join 5000 x ys).bind _ = _
        cases z with
        | true =>
          have hl : ∀ y ∈ ys, y.length = x.length := fun y hy => by
            obtain ⟨j, hj, rfl⟩ := List.getElem_of_mem hy
            exact hz.1 rfl j hj (by omega)
          rw [bjoin_is (by omega) x ys hx' (by omega) hl, Option.bind_some, if_pos rfl]
          exact joins_rows x0 x ys t hx' (by omega) hl
        | false =>
          have hbad : ∃ k0, ∃ h : k0 < ys.length, ys[k0].length ≠ x.length ∧ ∀ j (h : j < ys.length), j < k0 → ys[j].length = x.length := by
            have first : ∀ n, n ≤ ys.length → (∀ j (h : j < ys.length), j < n → ys[j].length = x.length) ∨ ∃ k0, ∃ h : k0 < ys.length, ys[k0].length ≠ x.length ∧ ∀ j (h : j < ys.length), j < k0 → ys[j].length = x.length := by
              intro n
              induction n with
              | zero => exact fun _ => .inl fun j h hj => by omega
              | succ n ih =>
                intro hn
                rcases ih (by omega) with h | h
                · by_cases q : (ys[n]'(by omega)).length = x.length
                  · refine .inl fun j hj hjn => ?_
                    rcases Nat.lt_or_ge j n with h2 | h2
                    · exact h j hj h2
                    · have : j = n := by omega
                      subst this; exact q
                  · exact .inr ⟨n, by omega, q, fun j hj hjn => h j hj hjn⟩
                · exact .inr h
            rcases first ys.length (Nat.le_refl _) with h | h
            · exact absurd (hz.2 fun j hj _ => h j hj hj) (by decide)
            · exact h
          obtain ⟨k0, hk0, hb, hl⟩ := hbad
          rw [bjoin_bad (by omega) x ys hx' (by omega) k0 hk0 hb hl, Option.bind_some, if_neg (by decide)]
          unfold law13_BlockJoins.J3
          rw [if_pos rfl, if_neg (fun q => q rfl), if_neg (fun q => q rfl), joins_weights]
      | succ q ih =>
        intro i m hi hm z hx hz
        obtain ⟨m, rfl⟩ : ∃ q, m = q + 1 := ⟨m - 1, by omega⟩
        have hlen : (x :: ys).length = ys.length + 1 := rfl
        have hil : i < (x :: ys).length := by omega
        rw [law13_BlockJoins.L1, if_pos (by omega), idx_get _ i hil, Option.bind_some]
        by_cases c3 : (((x :: ys)[i].length : Nat) : Int) > 200
        · rw [if_pos c3]
        rw [if_neg c3, Option.bind_some, show idx (x :: ys) 0 = some x from rfl, Option.bind_some, W_succ i (by omega)]
        have hx0 : x.length ≤ 200 := by
          cases i with
          | zero => have : (((x :: ys)[0].length : Nat) : Int) = ((x.length : Nat) : Int) := rfl; omega
          | succ i => exact hx (by omega)
        cases z with
        | true =>
          rw [if_pos rfl]
          refine ih (i + 1) m (by omega) (by omega) _ (fun _ => hx0) ⟨fun e j hj hji => ?_, fun e => ?_⟩
          · rcases Nat.lt_or_ge (j + 1) i with h | h
            · exact hz.1 rfl j hj h
            · have : i = j + 1 := by omega
              subst this
              have := of_decide_eq_true e
              have e3 : (x :: ys)[j + 1] = ys[j] := rfl
              rw [e3] at this
              omega
          · refine decide_eq_true ?_
            cases i with
            | zero => rfl
            | succ i =>
              have := e i (by omega) (by omega)
              show ((ys[i].length : Nat) : Int) = _
              rw [this]
        | false =>
          rw [if_neg (by decide)]
          refine ih (i + 1) m (by omega) (by omega) _ (fun _ => hx0) ⟨fun e => (by cases e), fun e => ?_⟩
          exact absurd (hz.2 fun j hj hji => e j hj (by omega)) (by decide)
    exact key (x :: ys).length 0 5000 (Nat.zero_add _) (by simp; omega) true (fun h => absurd h (by omega)) ⟨fun _ j hj h => absurd h (by omega), fun _ => rfl⟩
end Go.Proofs.YtbfiagimgokccaaGreat
end
