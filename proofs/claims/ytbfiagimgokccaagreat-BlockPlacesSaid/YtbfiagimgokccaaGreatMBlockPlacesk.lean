/- What the law needs. -/
import Derived.Test.YtbfiagimgokccaaGreatMBlockPlacesj
section
namespace Go.Proofs.YtbfiagimgokccaaGreat
open Go Go.Hp
set_option linter.unusedVariables false
set_option linter.unusedSimpArgs false
set_option linter.unusedSectionVars false
structure PI13 (i o : Nat) (m : S_cache_Store) (R : S_ref12_Store) (len pl : Nat) : Prop where
  room : m.room = 200
  rooR : R.Room = 200
  ml : m.m.length ≤ 2 * i + o
  rl : R.L.length ≤ i
  sm : SW (mget m.m) len pl
  sr : SW (rget R.L) len pl
  eq : ∀ t, t.Request = 1 → mget m.m t = rget R.L t
  has : ∀ p : Nat, p < i → ∃ r, mget m.m ⟨1, 0, (p : Int)⟩ = some r
  no : ∀ p : Int, (i : Int) ≤ p → mget m.m ⟨1, 0, p⟩ = none
  oth : ∀ t r, mget m.m t = some r → t.Request < 2 + i + o
section
variable {d : Dim} (hd : DOK d) (hp0 : 0 < d.pl) {c : Cu} (hc : COK d c) {w : S_api_Weights} (hw : WOK d w) (hsh : w.Shape = shapeS d)
include hd hp0 hc hw hsh
theorem lay0 : ∃ b, layS d w c 0 0 0 = some b := by
  have hst := hc.st
  have h1 : 1 ≤ d.ly / c.st := (Nat.one_le_div_iff hst.1).2 hst.2
  have e0 : lb d c 0 = 0 := by unfold lb sp; rw [Nat.zero_mul, Nat.zero_div]
  have e1 : 1 ≤ lb d c (0 + 1) := by unfold lb sp; rw [Nat.zero_add, Nat.one_mul]; exact h1
  unfold layS
  exact ⟨_, if_pos ⟨by omega, by omega⟩⟩
theorem places_J4 {i o : Nat} {m : S_cache_Store} {R : S_ref12_Store} (ho : o ≤ 1) (hi : i < d.pl) (hi6 : i < 6) (h : PI13 i o m R (hpa d c * d.wd) d.pl) (x : List Int) (hx : (x.take (w.Shape.Width).toNat).length = d.w) (k1 : S_cache_Store → S_ref12_Store → Int → Option Bool) :
    ∃ m' R', PI13 (i + 1) 0 m' R' (hpa d c * d.wd) d.pl ∧ law13_BlockPlaces.J4 5000 (w, cutS c) (takeS d w c 0 0) R (i : Int) x k1 m = k1 m' R' ((i + 1 : Nat) : Int) := by
  have hst := hc.st; have hpa' := hc.pa; have hww := dw16 hd
  obtain ⟨b, hb⟩ := lay0 hd hp0 hc hw hsh
  generalize hx' : x.take (w.Shape.Width).toNat = y at hx
  have lk := kG_len hd hp0 hc hw b i y
  have lv := vG_len hd hp0 hc hw b y
  have a1 := battend_is hd hp0 hc hw (N := 5000) (by omega) 0 0 hst.1 hpa'.1 y hx 1 0 b hb i hi m h.sm
  have a2 := rattend_is hd hp0 hc hw (N := 5000) (by omega) 0 0 hst.1 hpa'.1 y hx 1 0 b hb i hi R h.sr (by have := h.rl; omega) (by have := h.rl; omega)
  generalize hk : kG d (hpa d c) b i y = k at *
  generalize hv : vG d (hpa d c) b y = v at *
  have hprev : (0 : Int) < (⟨1, 0, (i : Int)⟩ : S_api_Spot).Place → mget m.m ⟨1, 0, (i : Int) - 1⟩ ≠ none := fun q => by
    obtain ⟨r, e⟩ := h.has (i - 1) (by have : (0 : Int) < (i : Int) := q; omega)
    have : ((i - 1 : Nat) : Int) = (i : Int) - 1 := by have : (0 : Int) < (i : Int) := q; omega
    rw [this] at e
    rw [e]; simp
  have e1 : putE m.room m.m.length (mget m.m) ⟨1, 0, (i : Int)⟩ k v = 0 := putE_new (show (0 : Int) ≤ 1 by omega) (show (0 : Int) ≤ 0 by omega) (by show (0 : Int) ≤ (i : Int); omega) (by rw [lk, lv]) hprev (h.no _ (Int.le_refl _)) (by rw [h.room]; have := h.ml; omega)
  have hnr : ((m.m.length : Nat) : Int) ≥ m.room ↔ ((R.L.length : Nat) : Int) ≥ R.Room := by rw [h.room, h.rooR]; have := h.ml; have := h.rl; omega
  have e2 : putE R.Room R.L.length (rget R.L) ⟨1, 0, (i : Int)⟩ k v = 0 := by
    exact (putE_congr ⟨1, 0, (i : Int)⟩ k v (fun t ht => h.eq t ht) hnr).symm.trans e1
  rw [if_pos e1] at a1
  rw [if_pos e2] at a2
  have lm := laid_m m ⟨1, 0, (i : Int)⟩ k v
  have lr := laid_r R ⟨1, 0, (i : Int)⟩ k v
  have hsw := h.sm.put lm lk lv (by show (i : Int) < (d.pl : Int); omega)
  have hsr := h.sr.put lr lk lv (by show (i : Int) < (d.pl : Int); omega)
  have hsame := lm.same lr (fun t ht => h.eq t ht) hnr
  have hat := lm.at e1
  have hrm := putM_room m ⟨1, 0, (i : Int)⟩ k v
  have hrr := putR_room R ⟨1, 0, (i : Int)⟩ k v
  have hml := putM_len m ⟨1, 0, (i : Int)⟩ k v
  have hrl := putR_len R ⟨1, 0, (i : Int)⟩ k v
  generalize putM m ⟨1, 0, (i : Int)⟩ k v = m' at *
  generalize putR R ⟨1, 0, (i : Int)⟩ k v = R' at *
  have a3 := battend_is hd hp0 hc hw (N := 5000) (by omega) 0 0 hst.1 hpa'.1 y hx 1 0 b hb i hi m' hsw
  rw [hk, hv] at a3
  have e3 : putE m'.room m'.m.length (mget m'.m) ⟨1, 0, (i : Int)⟩ k v = 0 := putE_there (show (0 : Int) ≤ 1 by omega) (show (0 : Int) ≤ 0 by omega) (by show (0 : Int) ≤ (i : Int); omega) (by rw [lk, lv]) (fun q z => by
    have := hprev q
    cases ez : mget m.m ⟨1, 0, (i : Int) - 1⟩ with
    | none => exact this ez
    | some r => rw [show mget m'.m ⟨1, 0, (i : Int) - 1⟩ = some r from lm.keeps ez] at z; cases z) hat
  rw [if_pos e3, putM_not (.inr (by rw [hat]; simp))] at a3
  have ea := ansG_congr hd hp0 hc hw (hpa d c) b (mget m'.m) (rget R'.L) 1 0 i y (fun t ht => hsame t ht)
  have hal : (ansG d (hpa d c) b (rget R'.L) 1 0 i y).length = d.w := applyS_len _ _ _ _
  refine ⟨m', R', ⟨by rw [hrm, h.room], by rw [hrr, h.rooR], by have := h.ml; omega, by have := h.rl; omega, hsw, hsr, fun t ht => hsame t ht, fun p hp => ?_, fun p hp => ?_, fun t r e => ?_⟩, ?_⟩
  · rcases Nat.lt_or_ge p i with q | q
    · obtain ⟨r, e⟩ := h.has p q
      exact ⟨r, lm.keeps e⟩
    · obtain rfl : p = i := by omega
      exact ⟨_, hat⟩
  · rw [lm.other (t := ⟨1, 0, p⟩) (fun q => by injection q with _ _ q; omega)]
    exact h.no p (by omega)
  · rw [lm t] at e
    split at e
    · rename_i q
      rw [q.2.2]
      show (1 : Int) < _
      omega
    · have := h.oth t r e
      omega
  · unfold law13_BlockPlaces.J4
    rw [hx']
    show (block_Attend 5000 (takeS d w c 0 0) m ⟨1, 0, (i : Int)⟩ y).bind _ = _
    rw [a1, Option.bind_some]
    show (ref13_Attend 5000 (takeS d w c 0 0) R ⟨1, 0, (i : Int)⟩ y).bind _ = _
    rw [a2, Option.bind_some]
    show (block_Attend 5000 (takeS d w c 0 0) m' ⟨1, 0, (i : Int)⟩ y).bind _ = _
    rw [a3, Option.bind_some, if_neg (fun q => q rfl), if_neg (fun q => q rfl), if_neg (fun q => q rfl)]
    show (ref04_Ints 5000 (ansG d (hpa d c) b (mget m'.m) 1 0 i y) (ansG d (hpa d c) b (rget R'.L) 1 0 i y)).bind _ = _
    rw [ea, ints13_same _ (by omega) (by omega), Option.bind_some, if_pos rfl, Option.bind_some, if_pos rfl, W_succ i (by omega)]
theorem places_J3 {i : Nat} {m : S_cache_Store} {R : S_ref12_Store} (hi : i < d.pl) (hi6 : i < 6) (h : PI13 i 0 m R (hpa d c * d.wd) d.pl) (other : Bool) (x : List Int) (hx : (x.take (w.Shape.Width).toNat).length = d.w) (k1 : S_cache_Store → S_ref12_Store → Int → Option Bool) :
    ∃ m' R', PI13 (i + 1) 0 m' R' (hpa d c * d.wd) d.pl ∧ law13_BlockPlaces.J3 5000 other (w, cutS c) (takeS d w c 0 0) R (i : Int) x k1 m = k1 m' R' ((i + 1 : Nat) : Int) := by
  have hst := hc.st; have hpa' := hc.pa; have hww := dw16 hd
  unfold law13_BlockPlaces.J3
  cases other with
  | false =>
    rw [if_neg (by decide)]
    exact places_J4 hd hp0 hc hw hsh (o := 0) (by omega) hi hi6 h x hx k1
  | true =>
    rw [if_pos rfl]
    obtain ⟨b, hb⟩ := lay0 hd hp0 hc hw hsh
    have eW : IntKind.i64.wrap (2 + (i : Int)) = 2 + (i : Int) := W_in (by omega)
    have a1 := battend_is hd hp0 hc hw (N := 5000) (by omega) 0 0 hst.1 hpa'.1 _ hx (2 + (i : Int)) 0 b hb 0 hp0 m h.sm
    have lk := kG_len hd hp0 hc hw b 0 (x.take (w.Shape.Width).toNat)
    have lv := vG_len hd hp0 hc hw b (x.take (w.Shape.Width).toNat)
    generalize kG d (hpa d c) b 0 (x.take (w.Shape.Width).toNat) = k at *
    generalize vG d (hpa d c) b (x.take (w.Shape.Width).toNat) = v at *
    have hno : mget m.m ⟨2 + (i : Int), 0, ((0 : Nat) : Int)⟩ = none := by
      cases e : mget m.m ⟨2 + (i : Int), 0, ((0 : Nat) : Int)⟩ with
      | none => rfl
      | some r =>
        have := h.oth _ _ e
        have : (2 + (i : Int)) < 2 + (i : Int) + ((0 : Nat) : Int) := this
        omega
    have e1 : putE m.room m.m.length (mget m.m) ⟨2 + (i : Int), 0, ((0 : Nat) : Int)⟩ k v = 0 := putE_new (show (0 : Int) ≤ 2 + (i : Int) by omega) (show (0 : Int) ≤ 0 by omega) (show (0 : Int) ≤ ((0 : Nat) : Int) by omega) (by rw [lk, lv]) (fun q => absurd q (show ¬ (0 : Int) < ((0 : Nat) : Int) by omega)) hno (by rw [h.room]; have := h.ml; omega)
    rw [if_pos e1] at a1
    have lm := laid_m m ⟨2 + (i : Int), 0, ((0 : Nat) : Int)⟩ k v
    have hsw := h.sm.put lm lk lv (show ((0 : Nat) : Int) < (d.pl : Int) by omega)
    have hrm := putM_room m ⟨2 + (i : Int), 0, ((0 : Nat) : Int)⟩ k v
    have hml := putM_len m ⟨2 + (i : Int), 0, ((0 : Nat) : Int)⟩ k v
    generalize putM m ⟨2 + (i : Int), 0, ((0 : Nat) : Int)⟩ k v = m' at *
    have ho : ∀ t : S_api_Spot, t.Request = 1 → mget m'.m t = mget m.m t := fun t ht => lm.other (fun q => by rw [q] at ht; have : 2 + (i : Int) = 1 := ht; omega)
    have h' : PI13 i 1 m' R (hpa d c * d.wd) d.pl := ⟨by rw [hrm, h.room], h.rooR, by have := h.ml; omega, h.rl, hsw, h.sr, fun t ht => by rw [ho t ht, h.eq t ht], fun p hp => by rw [ho _ rfl]; exact h.has p hp, fun p hp => by rw [ho _ rfl]; exact h.no p hp, fun t r e => by
      rw [lm t] at e
      split at e
      · rename_i q
        rw [q.2.2]
        show 2 + (i : Int) < _
        omega
      · have := h.oth t r e
        omega⟩
    rw [eW]
    show ∃ m'_1 R', _ ∧ (block_Attend 5000 (takeS d w c 0 0) m ⟨2 + (i : Int), 0, ((0 : Nat) : Int)⟩ (x.take (w.Shape.Width).toNat)).bind _ = _
    rw [a1, Option.bind_some, if_neg (fun q => q rfl)]
    exact places_J4 hd hp0 hc hw hsh (o := 1) (by omega) hi hi6 h' x hx k1
theorem places_loop (rows : List (List Int)) (hr : rows.length ≤ 6) (other : Bool) : ∀ (q i f : Nat) (m : S_cache_Store) (R : S_ref12_Store), i + q = rows.length → q < f → PI13 i 0 m R (hpa d c * d.wd) d.pl → law13_BlockPlaces.L1 5000 rows other (w, cutS c) (takeS d w c 0 0) f m R (i : Int) = some true := by
  have hww := dw16 hd; have hst := hc.st; have hpa' := hc.pa; have hpl := hd.pl
  intro q
  induction q with
  | zero =>
    intro i f m R hi hf h
    obtain ⟨f, rfl⟩ : ∃ q, f = q + 1 := ⟨f - 1, by omega⟩
    rw [law13_BlockPlaces.L1, if_neg (by omega)]
    unfold law13_BlockPlaces.J2
    rw [if_neg (by decide)]
  | succ q ih =>
    intro i f m R hi hf h
    obtain ⟨f, rfl⟩ : ∃ q, f = q + 1 := ⟨f - 1, by omega⟩
    rw [law13_BlockPlaces.L1, if_pos (by omega)]
    show law13_BlockPlaces.J2 5000 rows other (w, cutS c) (takeS d w c 0 0) m R (i : Int) (law13_BlockPlaces.L1 5000 rows other (w, cutS c) (takeS d w c 0 0) f) (decide ((i : Int) < w.Shape.Places)) = some true
    rw [hw.places]
    unfold law13_BlockPlaces.J2
    by_cases c1 : (i : Int) < (d.pl : Int)
    · have hil : i < rows.length := by omega
      rw [decide_eq_true c1, if_pos rfl, idx_get _ i hil, Option.bind_some]
      by_cases c2 : ((rows[i].length : Nat) : Int) > 200
      · rw [if_pos c2]
      have eWd : (w, cutS c).1.Shape.Width = ((d.w : Nat) : Int) := hw.width
      rw [if_neg c2, Option.bind_some, app_ok _ _ (by simp only [List.length_nil]; omega), Option.bind_some, List.nil_append, eWd, chk_ok _ (by omega), Int.toNat_natCast, app_ok _ _ (by rw [List.length_replicate]; omega), Option.bind_some, chk_ok _ (by rw [List.length_append, List.length_replicate]; omega)]
      have hx : ((rows[i] ++ List.replicate d.w (0 : Int)).take (w.Shape.Width).toNat).length = d.w := by rw [hw.width, Int.toNat_natCast]; simp
      have hfin : law13_BlockPlaces.J3 5000 other (w, cutS c) (takeS d w c 0 0) R (i : Int) (rows[i] ++ List.replicate d.w (0 : Int)) (law13_BlockPlaces.L1 5000 rows other (w, cutS c) (takeS d w c 0 0) f) m = some true := by
        obtain ⟨m', R', h', e⟩ := places_J3 hd hp0 hc hw hsh (by omega) (by omega) h other _ hx (law13_BlockPlaces.L1 5000 rows other (w, cutS c) (takeS d w c 0 0) f)
        rw [e]
        exact ih (i + 1) f m' R' (by omega) (by omega) h'
      by_cases c3 : IntKind.i64.wrap ((i : Int) + 1) < (w, cutS c).1.Shape.Places
      · rw [if_pos c3]
        have c3' : i + 1 < d.pl := by
          rw [W_succ i (by omega)] at c3
          have : ((i + 1 : Nat) : Int) < w.Shape.Places := c3
          rw [hw.places] at this
          omega
        obtain ⟨b, hb⟩ := lay0 hd hp0 hc hw hsh
        have hxx : ((rows[i] ++ List.replicate d.w (0 : Int)).take d.w).length = d.w := by simp
        have a1 := battend_is hd hp0 hc hw (N := 5000) (by omega) 0 0 hst.1 hpa'.1 _ hxx 1 0 b hb (i + 1) c3' m h.sm
        have lk := kG_len hd hp0 hc hw b (i + 1) ((rows[i] ++ List.replicate d.w (0 : Int)).take d.w)
        have lv := vG_len hd hp0 hc hw b ((rows[i] ++ List.replicate d.w (0 : Int)).take d.w)
        have e1 : putE m.room m.m.length (mget m.m) ⟨1, 0, ((i + 1 : Nat) : Int)⟩ (kG d (hpa d c) b (i + 1) ((rows[i] ++ List.replicate d.w (0 : Int)).take d.w)) (vG d (hpa d c) b ((rows[i] ++ List.replicate d.w (0 : Int)).take d.w)) = 120 := putE_gap (show (0 : Int) ≤ 1 by omega) (show (0 : Int) ≤ 0 by omega) (show (0 : Int) < ((i + 1 : Nat) : Int) by omega) (by rw [lk, lv]) (h.no _ (show (i : Int) ≤ ((i + 1 : Nat) : Int) - 1 by omega))
        rw [e1, if_neg (by decide), putM_not (.inl (by rw [e1]; decide))] at a1
        rw [W_succ i (by omega)]
        show (block_Attend 5000 (takeS d w c 0 0) m ⟨1, 0, ((i + 1 : Nat) : Int)⟩ _).bind _ = _
        rw [a1, Option.bind_some, if_neg (fun q => q rfl)]
        exact hfin
      · rw [if_neg c3]
        exact hfin
    · rw [decide_eq_false c1, if_neg (by decide)]
end
theorem blockPlaces (x0 : S_law13_Seeds) (x1 : List (List Int)) (x2 : Bool) : law13_BlockPlaces 5000 x0 x1 x2 = some true := by
  obtain ⟨d, w, hd, hv, hp, hw, hsh, em⟩ := made_is (N := 5000) (Nat.le_refl _) x0.N x0.Seed [] (by simp)
  obtain ⟨c, hc, ec⟩ := cut_is hd (N := 5000) (by omega) x0.A x0.B
  have hm : law13_made 5000 x0 = some (w, cutS c) := by
    unfold law13_made
    show (ref08_Made 5000 x0.N x0.Seed []).bind _ = _
    rw [em, Option.bind_some]
    show (ref10_Cut 5000 w.Shape x0.A x0.B).bind _ = _
    rw [show ref10_Cut 5000 w.Shape x0.A x0.B = some (cutS c) by rw [hsh]; exact ec, Option.bind_some]
  unfold law13_BlockPlaces
  rw [awake13, Option.bind_some, if_pos rfl]
  by_cases c1 : ((x1.length : Nat) : Int) > 6
  · rw [if_pos c1, Option.bind_some]
  rw [if_neg c1]
  show (law13_made 5000 x0).bind _ = _
  rw [hm, Option.bind_some]
  show (ref11_Take 5000 w (cutS c) ((0 : Nat) : Int) ((0 : Nat) : Int)).bind _ = _
  rw [take13_is hd hc (by omega) hw hsh 0 0 hc.st.1 hc.pa.1, Option.bind_some]
  show (cache_New 200).bind _ = _
  rw [show cache_New 200 = some (some ⟨200, []⟩, 0) from rfl, Option.bind_some, optc_some, if_neg (fun q => q rfl)]
  exact places_loop hd (by omega) hc hw hsh x1 (by omega) x2 x1.length 0 5000 _ _ (Nat.zero_add _) (by omega) ⟨rfl, rfl, Nat.zero_le _, Nat.zero_le _, ⟨fun _ _ e => (by cases e), fun _ _ e => (by cases e), fun _ _ e => (by cases e)⟩, ⟨fun _ _ e => (by cases e), fun _ _ e => (by cases e), fun _ _ e => (by cases e)⟩, fun _ _ => rfl, fun p hp => (by omega), fun _ _ => rfl, fun _ _ e => (by cases e)⟩
end Go.Proofs.YtbfiagimgokccaaGreat
end
