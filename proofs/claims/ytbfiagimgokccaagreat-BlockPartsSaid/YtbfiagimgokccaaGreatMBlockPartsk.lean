/- What the law needs. -/
import Derived.Test.YtbfiagimgokccaaGreatMBlockPartsj
import Derived.Test.YtbfiagimgokccaaGreatMBlockPartsi
section
namespace Go.Proofs.YtbfiagimgokccaaGreat
open Go Go.Hp
set_option linter.unusedVariables false
set_option linter.unusedSimpArgs false
set_option linter.unusedSectionVars false
def widG (d : Dim) (I : Nat) (b : S_api_Block) (x : List Int) : List Int := applyS b.Down (reluS (quantsS b.Up (normS b.Second x) I d.w)) d.w I
def wdnG (d : Dim) (w : S_api_Weights) (c : Cu) (s p : Nat) (x : List Int) (ly : Int) : List Int × Int := match layS d w c s p ly with | some b => (widG d (ipa d c) b x, 0) | none => ([], 121)
theorem reluS_len (u : List Int) : (reluS u).length = u.length := tabl_len _ _
theorem rrelu_loop {N : Nat} (hN : 200 < N) (r20 : S_api_Block × Bool) (u : List Int) (hu : u.length ≤ 100) :
    ref13_Widen.L1 N r20 u N u 0 = (ref04_Apply N r20.1.Down (reluS u)).bind fun r79 => some (r79.1, 0) := by
  have h0 : u = tabl u.length fun k => if k < 0 ∧ u.getD k 0 < 0 then 0 else u.getD k 0 := by
    conv => lhs; rw [tab_of u 0]
    exact tabl_congr fun j hj => by rw [if_neg (by omega)]
  have e0 : ref13_Widen.L1 N r20 u N u 0 = ref13_Widen.L1 N r20 u N (tabl u.length fun k => if k < 0 ∧ u.getD k 0 < 0 then 0 else u.getD k 0) 0 := congrArg (fun z => ref13_Widen.L1 N r20 u N z 0) h0
  rw [e0]
  refine loop_c (fun m (s : List Int) i => ref13_Widen.L1 N r20 u m s i) (fun i => tabl u.length fun k => if k < i ∧ u.getD k 0 < 0 then 0 else u.getD k 0) u.length _ (fun m i hi => ?_) (fun m => ?_) N (by omega)
  · show ref13_Widen.L1 N r20 u (m + 1) _ (i : Int) = ref13_Widen.L1 N r20 u m _ _
    rw [ref13_Widen.L1, if_pos (by omega), idx_t _ hi, Option.bind_some, if_neg (show ¬ (i < i ∧ u.getD i 0 < 0) by omega)]
    by_cases c : u.getD i 0 < 0
    · rw [if_pos c, Option.bind_some, ref13_Widen.J2, W_succ i (by omega), Int.toNat_natCast, tabl_set]
      congr 1
      refine tabl_congr fun j hj => ?_
      by_cases e : j = i
      · subst e; rw [if_pos rfl, if_pos ⟨by omega, c⟩]
      · rw [if_neg e]
        by_cases e2 : j < i ∧ u.getD j 0 < 0
        · rw [if_pos e2, if_pos ⟨by omega, e2.2⟩]
        · rw [if_neg e2, if_neg (by omega)]
    · rw [if_neg c, ref13_Widen.J2, W_succ i (by omega)]
      congr 1
      refine tabl_congr fun j hj => ?_
      by_cases e : j = i
      · subst e; rw [if_neg (by omega), if_neg (by omega)]
      · by_cases e2 : j < i ∧ u.getD j 0 < 0
        · rw [if_pos e2, if_pos ⟨by omega, e2.2⟩]
        · rw [if_neg e2, if_neg (by omega)]
  · show ref13_Widen.L1 N r20 u (m + 1) _ (u.length : Int) = _
    rw [ref13_Widen.L1, if_neg (by omega)]
    have : (tabl u.length fun k => if k < u.length ∧ u.getD k 0 < 0 then 0 else u.getD k 0) = reluS u := tabl_congr fun j hj => by
      by_cases e : u.getD j 0 < 0
      · rw [if_pos ⟨hj, e⟩, if_pos e]
      · rw [if_neg (fun h => e h.2), if_neg e]
    rw [this]
section
variable {d : Dim} (hd : DOK d) (hp0 : 0 < d.pl) {c : Cu} (hc : COK d c) {w : S_api_Weights} (hw : WOK d w)
include hd hp0 hc hw
theorem ipa8 : ipa d c ≤ 8 := by
  have h2 : ipa d c ≤ d.inn := by unfold ipa; exact Nat.div_le_self _ _
  have := hd.inn
  omega
theorem bwiden_is {N : Nat} (hN : 300 < N) (s p : Nat) (hs : s < c.st) (hp : p < c.pa) (x : List Int) (hx : x.length = d.w) (ly : Int) :
    block_Widen N (takeS d w c s p) ly x = some (wdnG d w c s p x ly) := by
  have hww := dw16 hd; have hi8 := ipa8 hd hp0 hc hw; have hh := hd.h; have hwd := hd.wd
  have hdw : d.w = d.h * d.wd := rfl
  have hw0 : 0 < d.w := by rw [hdw]; exact Nat.mul_pos hh.1 hwd.1
  unfold block_Widen
  show (block_fits N (takeS d w c s p) x).bind _ = _
  rw [bfits_is hd hp0 hc hw (by omega) s p hs hp x, Option.bind_some, decide_eq_true hx, if_pos rfl]
  show (block_layer (takeS d w c s p) ly).bind _ = _
  rw [blayer_is hd hp0 hc hw s p hs hp ly]
  unfold wdnG
  cases hb : layS d w c s p ly with
  | none => rfl
  | some b =>
    obtain ⟨hB, l0, l1⟩ := layS_ok hd hp0 hc hw s p hs hp ly b hb
    have hal : (normS b.Second x).length = d.w := by rw [normS_len, hx]
    rw [Option.bind_some, if_pos rfl, pnorm_is (by omega) b.Second x (by rw [hB.second, hx]) (by omega) (by omega), Option.bind_some]
    show (block_quants N b.Up (normS b.Second x)).bind _ = _
    rw [pquants_is hB.up (by omega) (by omega) (by omega) _ hal, Option.bind_some, gate_is _ (by rw [quantsS_len]; omega) (by omega), Option.bind_some]
    show (matmul_Apply N b.Down (reluS (quantsS b.Up (normS b.Second x) (ipa d c) d.w))).bind _ = _
    rw [papply_is hB.down (by omega) (by omega) (by omega) _ (by rw [reluS_len, quantsS_len]), Option.bind_some]
    rfl
theorem rwiden_is {N : Nat} (hN : 300 < N) (s p : Nat) (hs : s < c.st) (hp : p < c.pa) (x : List Int) (hx : x.length = d.w) (ly : Int) :
    ref13_Widen N (takeS d w c s p) ly x = some (wdnG d w c s p x ly) := by
  have hww := dw16 hd; have hi8 := ipa8 hd hp0 hc hw
  unfold ref13_Widen
  show (ref13_Layer (takeS d w c s p) ly).bind _ = _
  rw [rlayer_is hd hp0 hc hw s p hs hp ly]
  unfold wdnG
  cases hb : layS d w c s p ly with
  | none => rfl
  | some b =>
    obtain ⟨hB, l0, l1⟩ := layS_ok hd hp0 hc hw s p hs hp ly b hb
    have hal : (normS b.Second x).length = d.w := by rw [normS_len, hx]
    rw [Option.bind_some, if_pos rfl]
    show (ref05_Norm N b.Second x).bind _ = _
    rw [rnorm_is (by omega) b.Second x (by rw [hB.second, hx]) (by omega), Option.bind_some]
    show (ref13_quants N b.Up (normS b.Second x)).bind _ = _
    rw [rquants_is hB.up (by omega) (by omega) (by omega) _ hal, Option.bind_some, rrelu_loop (by omega) _ _ (by rw [quantsS_len]; omega)]
    show (ref04_Apply N b.Down (reluS (quantsS b.Up (normS b.Second x) (ipa d c) d.w))).bind _ = _
    rw [apply_is hB.down (by omega) (by omega) (by omega) _ (by rw [reluS_len, quantsS_len]), Option.bind_some]
    rfl
def leaveG (d : Dim) (w : S_api_Weights) (x : List Int) : List Int := applyS w.Head (normS w.Last x) d.voc d.w
theorem bleave_is {N : Nat} (hN : 300 < N) (s p : Nat) (hs : s < c.st) (hp : p < c.pa) (x : List Int) (hx : x.length = d.w) :
    block_Leave N (takeS d w c s p) x = some (if s + 1 = c.st then (leaveG d w x, 0) else ([], 121)) := by
  have hww := dw16 hd; have hh := hd.h; have hwd := hd.wd; have hst := hc.st; have hvoc := hd.voc; have hly := hd.ly
  have hdw : d.w = d.h * d.wd := rfl
  have hw0 : 0 < d.w := by rw [hdw]; exact Nat.mul_pos hh.1 hwd.1
  unfold block_Leave
  show (block_fits N (takeS d w c s p) x).bind _ = _
  rw [bfits_is hd hp0 hc hw (by omega) s p hs hp x, Option.bind_some, decide_eq_true hx, if_pos rfl]
  show (if ((s : Nat) : Int) ≠ IntKind.i64.wrap (((c.st : Nat) : Int) - 1) then _ else _) = _
  rw [W_in (show -9223372036854775808 ≤ ((c.st : Nat) : Int) - 1 ∧ ((c.st : Nat) : Int) - 1 ≤ 9223372036854775807 by omega)]
  by_cases e : s + 1 = c.st
  · rw [if_neg (by omega), if_pos e]
    have e1 : (takeS d w c s p).Last = w.Last := if_pos e
    have e2 : (takeS d w c s p).Head = w.Head := if_pos e
    rw [e1, e2, pnorm_is (by omega) w.Last x (by rw [hw.last, hx]) (by omega) (by omega), Option.bind_some]
    show (matmul_Apply N w.Head (normS w.Last x)).bind _ = _
    rw [papply_is hw.head (by omega) (by omega) (by omega) _ (by rw [normS_len, hx]), Option.bind_some]
    rfl
  · rw [if_pos (by omega), if_neg e]
theorem rleave_is {N : Nat} (hN : 300 < N) (x : List Int) (hx : x.length = d.w) : ((ref05_Norm N w.Last x).bind fun r => ref04_Apply N w.Head r) = some (leaveG d w x, true) := by
  have hww := dw16 hd; have hvoc := hd.voc
  rw [rnorm_is (by omega) w.Last x (by rw [hw.last, hx]) (by omega), Option.bind_some, apply_is hw.head (by omega) (by omega) (by omega) _ (by rw [normS_len, hx])]
  rfl
theorem leaveG_len (x : List Int) : (leaveG d w x).length = d.voc := applyS_len _ _ _ _
theorem widG_len (I : Nat) (b : S_api_Block) (x : List Int) : (widG d I b x).length = d.w := applyS_len _ _ _ _
theorem wdnG_len (s p : Nat) (x : List Int) (ly : Int) : (wdnG d w c s p x ly).1.length ≤ 16 := by
  have := dw16 hd
  unfold wdnG
  cases layS d w c s p ly with
  | none => exact Nat.zero_le _
  | some b => show (widG d (ipa d c) b x).length ≤ 16; rw [widG_len hd hp0 hc hw]; omega
theorem battend_shape {N : Nat} (hN : 300 < N) (s p : Nat) (hs : s < c.st) (hp : p < c.pa) (x : List Int) (hx : x.length ≠ d.w) (m : S_cache_Store) (at_ : S_api_Spot) : block_Attend N (takeS d w c s p) m at_ x = some ([], 30, m) := by
  unfold block_Attend
  show (block_fits N (takeS d w c s p) x).bind _ = _
  rw [bfits_is hd hp0 hc hw (by omega) s p hs hp x, Option.bind_some, decide_eq_false hx, if_neg (by decide)]
theorem bwiden_shape {N : Nat} (hN : 300 < N) (s p : Nat) (hs : s < c.st) (hp : p < c.pa) (x : List Int) (hx : x.length ≠ d.w) (ly : Int) : block_Widen N (takeS d w c s p) ly x = some ([], 30) := by
  unfold block_Widen
  show (block_fits N (takeS d w c s p) x).bind _ = _
  rw [bfits_is hd hp0 hc hw (by omega) s p hs hp x, Option.bind_some, decide_eq_false hx, if_neg (by decide)]
theorem bleave_shape {N : Nat} (hN : 300 < N) (s p : Nat) (hs : s < c.st) (hp : p < c.pa) (x : List Int) (hx : x.length ≠ d.w) : block_Leave N (takeS d w c s p) x = some ([], 30) := by
  unfold block_Leave
  show (block_fits N (takeS d w c s p) x).bind _ = _
  rw [bfits_is hd hp0 hc hw (by omega) s p hs hp x, Option.bind_some, decide_eq_false hx, if_neg (by decide)]
theorem battend_none {N : Nat} (hN : 300 < N) (s p : Nat) (hs : s < c.st) (hp : p < c.pa) (x : List Int) (hx : x.length = d.w) (m : S_cache_Store) (at_ : S_api_Spot) (h : layS d w c s p at_.Layer = none) : block_Attend N (takeS d w c s p) m at_ x = some ([], 121, m) := by
  unfold block_Attend
  show (block_fits N (takeS d w c s p) x).bind _ = _
  rw [bfits_is hd hp0 hc hw (by omega) s p hs hp x, Option.bind_some, decide_eq_true hx, if_pos rfl]
  show (block_layer (takeS d w c s p) at_.Layer).bind _ = _
  rw [blayer_is hd hp0 hc hw s p hs hp at_.Layer, h]
  rfl
theorem rattend_none {N : Nat} (hN : 300 < N) (s p : Nat) (hs : s < c.st) (hp : p < c.pa) (x : List Int) (m : S_ref12_Store) (at_ : S_api_Spot) (h : layS d w c s p at_.Layer = none) : ref13_Attend N (takeS d w c s p) m at_ x = some ([], 121, m) := by
  unfold ref13_Attend
  show (ref13_Layer (takeS d w c s p) at_.Layer).bind _ = _
  rw [rlayer_is hd hp0 hc hw s p hs hp at_.Layer, h]
  rfl
theorem battend_place {N : Nat} (hN : 300 < N) (s p : Nat) (hs : s < c.st) (hp : p < c.pa) (x : List Int) (hx : x.length = d.w) (m : S_cache_Store) (at_ : S_api_Spot) (b : S_api_Block) (hb : layS d w c s p at_.Layer = some b) (h : at_.Place < 0 ∨ (d.pl : Int) ≤ at_.Place) : block_Attend N (takeS d w c s p) m at_ x = some ([], 2, m) := by
  unfold block_Attend
  show (block_fits N (takeS d w c s p) x).bind _ = _
  rw [bfits_is hd hp0 hc hw (by omega) s p hs hp x, Option.bind_some, decide_eq_true hx, if_pos rfl]
  show (block_layer (takeS d w c s p) at_.Layer).bind _ = _
  rw [blayer_is hd hp0 hc hw s p hs hp at_.Layer, hb, Option.bind_some, if_pos rfl]
  show (if at_.Place < 0 then _ else if at_.Place ≥ (d.pl : Int) then _ else _) = _
  by_cases q : at_.Place < 0
  · rw [if_pos q]
  · rw [if_neg q, if_pos (by omega)]
theorem rattend_place {N : Nat} (hN : 300 < N) (s p : Nat) (hs : s < c.st) (hp : p < c.pa) (x : List Int) (m : S_ref12_Store) (at_ : S_api_Spot) (b : S_api_Block) (hb : layS d w c s p at_.Layer = some b) (h : at_.Place < 0 ∨ (d.pl : Int) ≤ at_.Place) : ref13_Attend N (takeS d w c s p) m at_ x = some ([], 2, m) := by
  unfold ref13_Attend
  show (ref13_Layer (takeS d w c s p) at_.Layer).bind _ = _
  rw [rlayer_is hd hp0 hc hw s p hs hp at_.Layer, hb, Option.bind_some, if_pos rfl]
  show (if at_.Place < 0 then _ else if at_.Place ≥ (d.pl : Int) then _ else _) = _
  by_cases q : at_.Place < 0
  · rw [if_pos q]
  · rw [if_neg q, if_pos (by omega)]
end
theorem putM_size (m : S_cache_Store) (s : S_api_Spot) (k v : List Int) : (putM m s k v).m.length = if putE m.room m.m.length (mget m.m) s k v = 0 ∧ mget m.m s = none then m.m.length + 1 else m.m.length := by
  unfold putM
  split
  · rename_i h
    show (mset m.m s ⟨k, v⟩).length = _
    rw [len_mset, if_neg (mget_none.1 h.2)]
  · rfl
theorem putR_size (m : S_ref12_Store) (s : S_api_Spot) (k v : List Int) : (putR m s k v).L.length = if putE m.Room m.L.length (rget m.L) s k v = 0 ∧ rget m.L s = none then m.L.length + 1 else m.L.length := by
  unfold putR
  split
  · rw [len_app1]
  · rfl
end Go.Proofs.YtbfiagimgokccaaGreat
end
section
namespace Go.Proofs.YtbfiagimgokccaaGreat
open Go Go.Hp
theorem awake13 : law13_awake 5000 = some true := by decide +kernel
end Go.Proofs.YtbfiagimgokccaaGreat
end
section
namespace Go.Proofs.YtbfiagimgokccaaGreat
open Go Go.Hp
set_option linter.unusedVariables false
set_option linter.unusedSimpArgs false
set_option linter.unusedSectionVars false
structure PT13 (i : Nat) (m : S_cache_Store) (R : S_ref12_Store) (len pl : Nat) : Prop where
  room : m.room = R.Room
  ml : m.m.length = R.L.length
  le : R.L.length ≤ i
  sm : SW (mget m.m) len pl
  sr : SW (rget R.L) len pl
  eq : ∀ t, mget m.m t = rget R.L t
section
variable {d : Dim} (hd : DOK d) (hp0 : 0 < d.pl) {c : Cu} (hc : COK d c) {w : S_api_Weights} (hw : WOK d w) (hsh : w.Shape = shapeS d)
include hd hp0 hc hw hsh
theorem attend13 {i : Nat} (hi : i ≤ 100) {m : S_cache_Store} {R : S_ref12_Store} (h : PT13 i m R (hpa d c * d.wd) d.pl) (s p : Nat) (hs : s < c.st) (hp : p < c.pa) (x : List Int) (hx : x.length = d.w) (at_ : S_api_Spot) :
    ∃ y e m' R', PT13 (i + 1) m' R' (hpa d c * d.wd) d.pl ∧ y.length ≤ 16 ∧ block_Attend 5000 (takeS d w c s p) m at_ x = some (y, e, m') ∧ ref13_Attend 5000 (takeS d w c s p) R at_ x = some (y, e, R') := by
  have hww := dw16 hd
  have up : PT13 (i + 1) m R (hpa d c * d.wd) d.pl := ⟨h.room, h.ml, by have := h.le; omega, h.sm, h.sr, h.eq⟩
  cases hb : layS d w c s p at_.Layer with
  | none => exact ⟨[], 121, m, R, up, Nat.zero_le _, battend_none hd hp0 hc hw (by omega) s p hs hp x hx m at_ hb, rattend_none hd hp0 hc hw (by omega) s p hs hp x R at_ hb⟩
  | some b =>
    by_cases hpl : at_.Place < 0 ∨ (d.pl : Int) ≤ at_.Place
    · exact ⟨[], 2, m, R, up, Nat.zero_le _, battend_place hd hp0 hc hw (by omega) s p hs hp x hx m at_ b hb hpl, rattend_place hd hp0 hc hw (by omega) s p hs hp x R at_ b hb hpl⟩
    obtain ⟨req, ly, pl⟩ := at_
    obtain ⟨place, rfl⟩ : ∃ q : Nat, pl = (q : Int) := ⟨pl.toNat, by have : ¬ (pl < 0 ∨ (d.pl : Int) ≤ pl) := hpl; omega⟩
    have hpl' : place < d.pl := by have : ¬ ((place : Int) < 0 ∨ (d.pl : Int) ≤ (place : Int)) := hpl; omega
    have a1 := battend_is hd hp0 hc hw (N := 5000) (by omega) s p hs hp x hx req ly b hb place hpl' m h.sm
    have a2 := rattend_is hd hp0 hc hw (N := 5000) (by omega) s p hs hp x hx req ly b hb place hpl' R h.sr (by have := h.le; omega) (by have := h.le; omega)
    have lk := kG_len hd hp0 hc hw b place x
    have lv := vG_len hd hp0 hc hw b x
    generalize kG d (hpa d c) b place x = k at *
    generalize vG d (hpa d c) b x = v at *
    have hnr : ((m.m.length : Nat) : Int) ≥ m.room ↔ ((R.L.length : Nat) : Int) ≥ R.Room := by rw [h.room, h.ml]
    have ee := putE_congr ⟨req, ly, (place : Int)⟩ k v (fun t _ => h.eq t) hnr
    have lm := laid_m m ⟨req, ly, (place : Int)⟩ k v
    have lr := laid_r R ⟨req, ly, (place : Int)⟩ k v
    have hsw := h.sm.put lm lk lv (by show (place : Int) < (d.pl : Int); omega)
    have hsr := h.sr.put lr lk lv (by show (place : Int) < (d.pl : Int); omega)
    have hsame : ∀ t, mget (putM m ⟨req, ly, (place : Int)⟩ k v).m t = rget (putR R ⟨req, ly, (place : Int)⟩ k v).L t := fun t => by
      rw [lm t, lr t, ee, h.eq ⟨req, ly, (place : Int)⟩, h.eq t]
    have hrm := putM_room m ⟨req, ly, (place : Int)⟩ k v
    have hrr := putR_room R ⟨req, ly, (place : Int)⟩ k v
    have hml := putM_size m ⟨req, ly, (place : Int)⟩ k v
    have hrl := putR_size R ⟨req, ly, (place : Int)⟩ k v
    have hrl2 := putR_len R ⟨req, ly, (place : Int)⟩ k v
    have hlen : (putM m ⟨req, ly, (place : Int)⟩ k v).m.length = (putR R ⟨req, ly, (place : Int)⟩ k v).L.length := by rw [hml, hrl, ee, h.eq ⟨req, ly, (place : Int)⟩, h.ml]
    rw [← ee] at a2
    generalize putM m ⟨req, ly, (place : Int)⟩ k v = m' at *
    generalize putR R ⟨req, ly, (place : Int)⟩ k v = R' at *
    have hP : PT13 (i + 1) m' R' (hpa d c * d.wd) d.pl := ⟨by rw [hrm, hrr, h.room], hlen, by have := h.le; omega, hsw, hsr, hsame⟩
    by_cases e0 : putE m.room m.m.length (mget m.m) ⟨req, ly, (place : Int)⟩ k v = 0
    · rw [if_pos e0] at a1 a2
      rw [← ansG_congr hd hp0 hc hw (hpa d c) b (mget m'.m) (rget R'.L) req ly place x (fun t _ => hsame t)] at a2
      exact ⟨_, _, m', R', hP, by rw [show (ansG d (hpa d c) b (mget m'.m) req ly place x).length = d.w from applyS_len _ _ _ _]; omega, a1, a2⟩
    · rw [if_neg e0] at a1 a2
      exact ⟨_, _, m', R', hP, Nat.zero_le _, a1, a2⟩
theorem parts_loop (s p : Nat) (hs : s < c.st) (hp : p < c.pa) (acts : List S_law13_Act) (hr : acts.length ≤ 20) : ∀ (q i f : Nat) (m : S_cache_Store) (R : S_ref12_Store), i + q = acts.length → q < f → PT13 (2 * i) m R (hpa d c * d.wd) d.pl →
    law13_BlockParts.L2 5000 acts (w, cutS c) (takeS d w c s p).Shape.Layers (takeS d w c s p).Shape.Width (takeS d w c s p).Shape.Heads (takeS d w c s p).Shape.Inner (takeS d w c s p).Shape.Vocab (takeS d w c s p).Shape.Places (takeS d w c s p).Cut.Stages (takeS d w c s p).Cut.Parts (takeS d w c s p).Stage (takeS d w c s p).Part (takeS d w c s p).Embed.Rows (takeS d w c s p).Embed.Cols (takeS d w c s p).Embed.V (takeS d w c s p).Blocks (takeS d w c s p).Last (takeS d w c s p).Head.Rows (takeS d w c s p).Head.Cols (takeS d w c s p).Head.V f R m (i : Int) = some true := by
  have hww := dw16 hd; have hst := hc.st; have hpa' := hc.pa; have hpl := hd.pl; have hly := hd.ly; have hvoc := hd.voc
  intro q
  induction q with
  | zero =>
    intro i f m R hi hf h
    obtain ⟨f, rfl⟩ : ∃ q, f = q + 1 := ⟨f - 1, by omega⟩
    rw [law13_BlockParts.L2, if_neg (by omega)]
  | succ q ih =>
    intro i f m R hi hf h
    obtain ⟨f, rfl⟩ : ∃ q, f = q + 1 := ⟨f - 1, by omega⟩
    have hil : i < acts.length := by omega
    rw [law13_BlockParts.L2, if_pos (by omega), idx_get _ i hil, Option.bind_some]
    generalize ha : acts[i] = a
    by_cases c2 : ((a.X.length : Nat) : Int) > 200
    · rw [if_pos c2]
    have eWd : (w, cutS c).1.Shape.Width = ((d.w : Nat) : Int) := hw.width
    rw [if_neg c2, app_ok _ _ (by simp only [List.length_nil]; omega), Option.bind_some, List.nil_append, eWd, chk_ok _ (by omega), Int.toNat_natCast, app_ok _ _ (by rw [List.length_replicate]; omega), Option.bind_some, chk_ok _ (by rw [List.length_append, List.length_replicate]; omega)]
    have hx : ((a.X ++ List.replicate d.w (0 : Int)).take d.w).length = d.w := by simp
    generalize hx' : (a.X ++ List.replicate d.w (0 : Int)).take d.w = x at hx
    obtain ⟨y, e, m', R', h', a1, a2, a3⟩ := attend13 hd hp0 hc hw hsh (by omega) h s p hs hp x hx a.At
    show (block_Attend 5000 (takeS d w c s p) m a.At x).bind _ = _
    rw [a2, Option.bind_some]
    show (ref13_Attend 5000 (takeS d w c s p) R a.At x).bind _ = _
    rw [a3, Option.bind_some, if_neg (fun q => q rfl)]
    show (ref04_Ints 5000 y y).bind _ = _
    rw [ints13_same _ (by omega) (by omega), Option.bind_some, if_pos rfl]
    show (cache_Store_Len m').bind _ = _
    rw [show cache_Store_Len m' = some ((m'.m.length : Nat) : Int) from rfl, Option.bind_some, if_neg (show ¬ ((m'.m.length : Nat) : Int) ≠ ((R'.L.length : Nat) : Int) from fun q => q (by rw [h'.ml]))]
    show (block_Widen 5000 (takeS d w c s p) a.At.Layer x).bind _ = _
    rw [bwiden_is hd hp0 hc hw (by omega) s p hs hp x hx, Option.bind_some]
    show (ref13_Widen 5000 (takeS d w c s p) a.At.Layer x).bind _ = _
    rw [rwiden_is hd hp0 hc hw (by omega) s p hs hp x hx, Option.bind_some, if_neg (fun q => q rfl)]
    have hz := wdnG_len hd hp0 hc hw s p x a.At.Layer
    generalize wdnG d w c s p x a.At.Layer = z at *
    show (ref04_Ints 5000 z.1 z.1).bind _ = _
    rw [ints13_same _ (by omega) (by omega), Option.bind_some, if_pos rfl]
    show (block_Leave 5000 (takeS d w c s p) x).bind _ = _
    rw [bleave_is hd hp0 hc hw (by omega) s p hs hp x hx, Option.bind_some]
    have eS : IntKind.i64.wrap ((w, cutS c).2.Stages - 1) = (c.st : Int) - 1 := W_in (show -9223372036854775808 ≤ ((c.st : Nat) : Int) - 1 ∧ ((c.st : Nat) : Int) - 1 ≤ 9223372036854775807 by omega)
    rw [eS]
    have hrest : law13_BlockParts.J3 5000 (w, cutS c) (takeS d w c s p).Shape.Layers (takeS d w c s p).Shape.Width (takeS d w c s p).Shape.Heads (takeS d w c s p).Shape.Inner (takeS d w c s p).Shape.Vocab (takeS d w c s p).Shape.Places (takeS d w c s p).Cut.Stages (takeS d w c s p).Cut.Parts (takeS d w c s p).Stage (takeS d w c s p).Part (takeS d w c s p).Embed.Rows (takeS d w c s p).Embed.Cols (takeS d w c s p).Embed.V (takeS d w c s p).Blocks (takeS d w c s p).Last (takeS d w c s p).Head.Rows (takeS d w c s p).Head.Cols (takeS d w c s p).Head.V (i : Int) a (a.X ++ List.replicate d.w (0 : Int)) (y, e, m') (y, e, R') (law13_BlockParts.L2 5000 acts (w, cutS c) (takeS d w c s p).Shape.Layers (takeS d w c s p).Shape.Width (takeS d w c s p).Shape.Heads (takeS d w c s p).Shape.Inner (takeS d w c s p).Shape.Vocab (takeS d w c s p).Shape.Places (takeS d w c s p).Cut.Stages (takeS d w c s p).Cut.Parts (takeS d w c s p).Stage (takeS d w c s p).Part (takeS d w c s p).Embed.Rows (takeS d w c s p).Embed.Cols (takeS d w c s p).Embed.V (takeS d w c s p).Blocks (takeS d w c s p).Last (takeS d w c s p).Head.Rows (takeS d w c s p).Head.Cols (takeS d w c s p).Head.V f) = some true := by
      have hgo : law13_BlockParts.L2 5000 acts (w, cutS c) (takeS d w c s p).Shape.Layers (takeS d w c s p).Shape.Width (takeS d w c s p).Shape.Heads (takeS d w c s p).Shape.Inner (takeS d w c s p).Shape.Vocab (takeS d w c s p).Shape.Places (takeS d w c s p).Cut.Stages (takeS d w c s p).Cut.Parts (takeS d w c s p).Stage (takeS d w c s p).Part (takeS d w c s p).Embed.Rows (takeS d w c s p).Embed.Cols (takeS d w c s p).Embed.V (takeS d w c s p).Blocks (takeS d w c s p).Last (takeS d w c s p).Head.Rows (takeS d w c s p).Head.Cols (takeS d w c s p).Head.V f R' m' (IntKind.i64.wrap ((i : Int) + 1)) = some true := by
        rw [W_succ i (by omega)]
        exact ih (i + 1) f m' R' (by omega) (by omega) ⟨h'.room, h'.ml, by have := h'.le; omega, h'.sm, h'.sr, h'.eq⟩
      unfold law13_BlockParts.J3
      show (if ((a.X.length : Nat) : Int) ≠ (w, cutS c).1.Shape.Width then _ else _) = _
      rw [eWd]
      by_cases c3 : a.X.length = d.w
      · rw [if_neg (by omega)]
        unfold law13_BlockParts.J4
        show (block_Attend_nil1 (takeS d w c s p) a.At _).bind _ = _
        rw [show ∀ q, block_Attend_nil1 (takeS d w c s p) a.At q = some ([], 1) from fun _ => rfl, Option.bind_some, if_neg (fun q => q rfl)]
        exact hgo
      · rw [if_pos (by omega)]
        show (block_Attend 5000 (takeS d w c s p) m' a.At a.X).bind _ = _
        rw [battend_shape hd hp0 hc hw (by omega) s p hs hp a.X c3, Option.bind_some]
        show (block_Widen 5000 (takeS d w c s p) a.At.Layer a.X).bind _ = _
        rw [bwiden_shape hd hp0 hc hw (by omega) s p hs hp a.X c3, Option.bind_some]
        show (block_Leave 5000 (takeS d w c s p) a.X).bind _ = _
        rw [bleave_shape hd hp0 hc hw (by omega) s p hs hp a.X c3, Option.bind_some, if_neg (fun q => q rfl), if_neg (fun q => q rfl), if_neg (fun q => q rfl)]
        unfold law13_BlockParts.J4
        show (block_Attend_nil1 (takeS d w c s p) a.At _).bind _ = _
        rw [show ∀ q, block_Attend_nil1 (takeS d w c s p) a.At q = some ([], 1) from fun _ => rfl, Option.bind_some, if_neg (fun q => q rfl)]
        exact hgo
    show (if ((s : Nat) : Int) ≠ (c.st : Int) - 1 then _ else _) = _
    by_cases c4 : s + 1 = c.st
    · rw [if_neg (by omega), if_pos c4]
      have hl := rleave_is hd hp0 hc hw (N := 5000) (by omega) x hx
      show (ref05_Norm 5000 w.Last x).bind _ = _
      cases en : ref05_Norm 5000 w.Last x with
      | none => rw [en] at hl; cases hl
      | some r =>
        rw [en, Option.bind_some] at hl
        rw [Option.bind_some]
        show (ref04_Apply 5000 w.Head r).bind _ = _
        rw [hl, Option.bind_some, if_neg (fun q => q rfl)]
        show (ref04_Ints 5000 (leaveG d w x) (leaveG d w x)).bind _ = _
        rw [ints13_same _ (by rw [leaveG_len hd hp0 hc hw]; omega) (by rw [leaveG_len hd hp0 hc hw]; omega), Option.bind_some, if_pos rfl]
        exact hrest
    · rw [if_pos (by omega), if_neg c4, if_neg (fun q => q rfl), if_neg (by decide)]
      exact hrest
end
theorem blockParts (x0 : S_law13_Seeds) (x1 : List S_law13_Act) (x2 : Int) : law13_BlockParts 5000 x0 x1 x2 = some true := by
  obtain ⟨d, w, hd, hv, hp, hw, hsh, em⟩ := made_is (N := 5000) (Nat.le_refl _) x0.N x0.Seed [] (by simp)
  obtain ⟨c, hc, ec⟩ := cut_is hd (N := 5000) (by omega) x0.A x0.B
  have hst := hc.st; have hpa' := hc.pa; have hly := hd.ly; have hh := hd.h
  have hm : law13_made 5000 x0 = some (w, cutS c) := by
    unfold law13_made
    show (ref08_Made 5000 x0.N x0.Seed []).bind _ = _
    rw [em, Option.bind_some]
    show (ref10_Cut 5000 w.Shape x0.A x0.B).bind _ = _
    rw [show ref10_Cut 5000 w.Shape x0.A x0.B = some (cutS c) by rw [hsh]; exact ec, Option.bind_some]
  unfold law13_BlockParts
  rw [awake13, Option.bind_some, if_pos rfl]
  by_cases c1 : ((x1.length : Nat) : Int) > 20
  · rw [if_pos c1, Option.bind_some]
  rw [if_neg c1]
  by_cases c2 : x2 < 0
  · rw [if_pos c2, Option.bind_some]
  rw [if_neg c2]
  by_cases c3 : x2 > 1000
  · rw [if_pos c3, Option.bind_some]
  rw [if_neg c3]
  show (law13_made 5000 x0).bind _ = _
  rw [hm, Option.bind_some, Option.bind_some, show cache_New x2 = some (some ⟨x2, []⟩, 0) by unfold cache_New; rw [if_neg c2, if_neg (by omega)], Option.bind_some, optc_some, if_neg (fun q => q rfl)]
  have hcp : c.pa ≤ 4 := by omega
  have hcs : c.st ≤ 3 := by omega
  have hmm : c.st * c.pa ≤ 12 := Nat.mul_le_mul hcs hcp
  have hm0 : 0 < c.st * c.pa := Nat.mul_pos hst.1 hpa'.1
  have eM : IntKind.i64.wrap ((w, cutS c).2.Stages * (w, cutS c).2.Parts) = ((c.st * c.pa : Nat) : Int) := mulN c.st c.pa (by omega)
  rw [eM, chk_ok _ (by omega), chk_ok _ (by omega), Option.bind_some]
  generalize hM : c.st * c.pa = M at *
  have hb1 : -100 < Int.tmod x0.A 100 ∧ Int.tmod x0.A 100 < 100 := ⟨Int.lt_tmod_of_pos x0.A (by decide), Int.tmod_lt_of_pos x0.A (by decide)⟩
  have hb2 : -100 < Int.tmod x0.B 100 ∧ Int.tmod x0.B 100 < 100 := ⟨Int.lt_tmod_of_pos x0.B (by decide), Int.tmod_lt_of_pos x0.B (by decide)⟩
  rw [W_in (show -9223372036854775808 ≤ Int.tmod x0.A 100 * 7 ∧ Int.tmod x0.A 100 * 7 ≤ 9223372036854775807 by omega), W_in (show -9223372036854775808 ≤ Int.tmod x0.A 100 * 7 + Int.tmod x0.B 100 ∧ Int.tmod x0.A 100 * 7 + Int.tmod x0.B 100 ≤ 9223372036854775807 by omega)]
  generalize Int.tmod x0.A 100 * 7 + Int.tmod x0.B 100 = z
  have hz1 : -(M : Int) < Int.tmod z (M : Int) ∧ Int.tmod z (M : Int) < (M : Int) := by
    have h1 := Int.tmod_lt_of_pos z (show (0 : Int) < (M : Int) by omega)
    have h2 := Int.lt_tmod_of_pos z (show (0 : Int) < (M : Int) by omega)
    exact ⟨h2, h1⟩
  rw [W_in (show -9223372036854775808 ≤ Int.tmod z (M : Int) + (M : Int) ∧ Int.tmod z (M : Int) + (M : Int) ≤ 9223372036854775807 by omega)]
  obtain ⟨k, hk⟩ : ∃ k : Nat, Int.tmod z (M : Int) + (M : Int) = (k : Int) := ⟨(Int.tmod z (M : Int) + (M : Int)).toNat, by omega⟩
  rw [hk, tmodN]
  have hkM : k % M < c.st * c.pa := by rw [hM]; exact Nat.mod_lt _ hm0
  generalize k % M = j at hkM
  have e1 : j / c.pa < c.st := (Nat.div_lt_iff_lt_mul hpa'.1).2 hkM
  have e2 : j % c.pa < c.pa := Nat.mod_lt _ hpa'.1
  show chk ((c.pa : Int) ≠ 0) ((ref11_Take 5000 w (cutS c) (IntKind.i64.wrap (Int.tdiv (j : Int) (c.pa : Int))) (Int.tmod (j : Int) (c.pa : Int))).bind _) = _
  rw [chk_ok _ (by omega), tmodN, tdivN, W_nat _ (by omega), take13_is hd hc (by omega) hw hsh _ _ e1 e2, Option.bind_some]
  unfold law13_BlockParts.J1
  exact parts_loop hd (by omega) hc hw hsh _ _ e1 e2 x1 (by omega) x1.length 0 5000 _ _ (Nat.zero_add _) (by omega) ⟨rfl, rfl, Nat.zero_le _, ⟨fun _ _ e => (by cases e), fun _ _ e => (by cases e), fun _ _ e => (by cases e)⟩, ⟨fun _ _ e => (by cases e), fun _ _ e => (by cases e), fun _ _ e => (by cases e)⟩, fun _ => rfl⟩
end Go.Proofs.YtbfiagimgokccaaGreat
end
