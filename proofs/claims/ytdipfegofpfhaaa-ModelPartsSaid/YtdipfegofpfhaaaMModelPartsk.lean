/- What the law needs. -/
import Derived.Test.YtdipfegofpfhaaaMModelPartsj
section
namespace Go.Proofs.Ytdipfegofpfhaaa
open Go Go.Hp
set_option linter.unusedVariables false
set_option linter.unusedSimpArgs false
set_option linter.unusedSectionVars false
theorem awake08 : law08_awake 5000 = some true := by decide +kernel
section
variable {d : Dim} (hd : DOK d)
include hd
theorem one_step (w : S_api_Weights) (ts : List Nat) (i : Nat) (hi : i < ts.length) : ts.take (i + 1) = ts.take i ++ [ts.getD i 0] := by
  rw [List.take_succ_eq_append_getElem hi, List.getD_eq_getElem?_getD, List.getElem?_eq_getElem hi]; rfl
theorem parts_J1 {N : Nat} (hN : 5000 ≤ N) {w : S_api_Weights} (hw : WOK d w) (x2 : Int) (o : Option S_ref08_Run) (ts : List Nat) (hv : ∀ t ∈ ts, t < d.voc) (hl : ts.length ≤ d.pl) : law08_ModelParts.J1 N x2 (some ⟨w⟩, o) (toks ts) = some true := by
  have hpl := hd.pl; have hvo := hd.voc; have hww := dw16 hd
  have hlen := toks_len ts
  have hnil : ∀ k ∈ ([] : List S_ref08_Kept), KOK d d.ly k := by simp
  have hr0 := ROK_0 hd w
  have hst0 := stS_len d w ts []
  simp only [List.length_nil, Nat.zero_add] at hst0
  have hko := stS_ok hd hw ts [] hnil
  obtain ⟨k, hk, ek⟩ : ∃ k : Nat, k ≤ ts.length ∧ Int.tmod (IntKind.i64.wrap (IntKind.i64.wrap (Int.tmod x2 (IntKind.i64.wrap (((ts.length : Nat) : Int) + 1)) + ((ts.length : Nat) : Int)) + 1)) (IntKind.i64.wrap (((ts.length : Nat) : Int) + 1)) = (k : Int) := by
    obtain ⟨k, hk, e⟩ := W_restN x2 (ts.length + 1) (by omega) (by omega)
    refine ⟨k, by omega, ?_⟩
    have a := Int.tmod_lt_of_pos x2 (show (0 : Int) < ((ts.length + 1 : Nat) : Int) by omega)
    have b := Int.lt_tmod_of_pos x2 (show (0 : Int) < ((ts.length + 1 : Nat) : Int) by omega)
    rw [W_succ _ (by omega), W_in (x := Int.tmod x2 ((ts.length + 1 : Nat) : Int) + ((ts.length : Nat) : Int)) (by omega), ← e]
    congr 2
    omega
  obtain ⟨ra, ea, ha⟩ := pfeed_is hd (N := N) (by omega) hw [] hnil _ hr0 ts hv (by simpa using hl)
  obtain ⟨rb, eb, hb⟩ := pfeed_is hd (N := N) (by omega) hw [] hnil _ hr0 (ts.take k) (fun t h => hv t (List.mem_of_mem_take h)) (by simp; omega)
  have hstk := stS_len d w (ts.take k) []
  simp only [List.length_nil, Nat.zero_add, List.length_take] at hstk
  obtain ⟨rc, ec, hc⟩ := pfeed_is hd (N := N) (by omega) hw _ (stS_ok hd hw _ [] hnil) rb hb (ts.drop k) (fun t h => hv t (List.mem_of_mem_drop h)) (by rw [List.length_drop]; omega)
  rw [stS_cut hd] at hc
  unfold law08_ModelParts.J1
  rw [hlen, chk_ok _ (by rw [W_succ _ (by omega)]; omega), chk_ok _ (by rw [W_succ _ (by omega)]; omega), ek, Option.bind_some]
  unfold model_Model_Run
  rw [Option.bind_some, Option.bind_some, Option.bind_some]
  dsimp only
  rw [ea, Option.bind_some, chk_ok _ (by omega), Int.toNat_natCast, toks_take, eb, Option.bind_some]
  have hf : model_Run_Fork N rb = some rb := rfl
  dsimp only
  rw [hf, Option.bind_some, chk_ok _ (by omega), Int.toNat_natCast, toks_take, List.take_length, toks_drop, ec, Option.bind_some, chk_ok _ (by omega), Option.bind_some]
  obtain ⟨m', s', ⟨hro, hy⟩, e⟩ := loop_to (fun m (s : S_model_Run × List Int) i => law08_ModelParts.L2 N (some ⟨w⟩, o) (toks ts) (k : Int) (lastS d w [] [] ts, 0, ra) (lastS d w (stS d w [] (ts.take k)) [] (ts.drop k), 0, rc) (lastS d w (stS d w [] (ts.take k)) [] (ts.drop k), 0, rc) m s.1 s.2 i) (fun i => (i : Int)) ts.length (fun i s => ROK d w (stS d w [] (ts.take i)) s.1 ∧ s.2 = lastS d w [] [] (ts.take i)) (fun m i s hi hs => by
    obtain ⟨hro, hy⟩ := hs
    have hti := hv _ (getD_in ts 0 i hi)
    have hsl := stS_len d w (ts.take i) []
    simp only [List.length_nil, Nat.zero_add, List.length_take] at hsl
    obtain ⟨r', e, h'⟩ := pfeed_is hd (N := N) (by omega) hw _ (stS_ok hd hw _ [] hnil) s.1 hro [ts.getD i 0] (by simpa using hti) (by simp only [List.length_cons, List.length_nil]; omega)
    refine ⟨(r', lastS d w [] [] (ts.take (i + 1))), ⟨?_, rfl⟩, ?_⟩
    · rw [one_step hd w ts i hi, stS_app]; exact h'
    · show law08_ModelParts.L2 N _ (toks ts) _ _ _ _ (m + 1) s.1 s.2 (i : Int) = _
      rw [law08_ModelParts.L2, if_pos (by omega), toks_get ts i hi, Option.bind_some, show [((ts.getD i 0 : Nat) : Int)] = toks [ts.getD i 0] from rfl, e, Option.bind_some, W_succ i (by omega), one_step hd w ts i hi, lastS_app]
      rfl) N (⟨some ⟨w⟩, 0, []⟩, []) (by omega) ⟨hr0, rfl⟩
  refine Eq.trans e ?_
  rw [List.take_length] at hro hy
  show law08_ModelParts.L2 N _ (toks ts) _ _ _ _ (m' + 1) s'.1 s'.2 (ts.length : Int) = _
  have hyl : (lastS d w [] [] ts).length ≤ 10 := by
    cases ts with
    | nil => simp [lastS]
    | cons t ts => have := lastS_len hd w (t :: ts) [] [] (.inl (by simp)); omega
  have hfin : law08_ModelParts.J3 N (some ⟨w⟩, o) (toks ts) (lastS d w [] [] ts, 0, ra) (lastS d w (stS d w [] (ts.take k)) [] (ts.drop k), 0, rc) s'.1 false = some true := by
    unfold law08_ModelParts.J3
    rw [if_neg (by decide)]
    refine loop_c (fun m (_ : Unit) i => law08_ModelParts.L4 N (some ⟨w⟩, o) (toks ts) (lastS d w [] [] ts, 0, ra) (lastS d w (stS d w [] (ts.take k)) [] (ts.drop k), 0, rc) s'.1 m i) (fun _ => ()) ts.length _ (fun m i hi => ?_) (fun m => ?_) N (by omega)
    · show law08_ModelParts.L4 N _ _ _ _ _ (m + 1) (i : Int) = law08_ModelParts.L4 N _ _ _ _ _ m _
      rw [law08_ModelParts.L4, if_pos (by omega)]
      refine loop_c (fun q (_ : Unit) n => law08_ModelParts.L5 N (some ⟨w⟩, o) (lastS d w [] [] ts, 0, ra) (lastS d w (stS d w [] (ts.take k)) [] (ts.drop k), 0, rc) (i : Int) (law08_ModelParts.L4 N (some ⟨w⟩, o) (toks ts) (lastS d w [] [] ts, 0, ra) (lastS d w (stS d w [] (ts.take k)) [] (ts.drop k), 0, rc) s'.1 m) q n) (fun _ => ()) d.ly _ (fun q n hn => ?_) (fun q => ?_) N (by have := hd.ly; omega)
      · show law08_ModelParts.L5 N _ _ _ _ _ (q + 1) (n : Int) = law08_ModelParts.L5 N _ _ _ _ _ q _
        obtain ⟨k1, kl1, kl2⟩ := kept_is hd _ hko ra ha n i hn (by omega)
        obtain ⟨k2, _, _⟩ := kept_is hd _ hko rc hc n i hn (by omega)
        rw [law08_ModelParts.L5]
        show (some w.Shape).bind _ = _
        rw [Option.bind_some, if_pos (by rw [hw.layers]; omega), k1, Option.bind_some, k2, Option.bind_some, if_pos rfl, bytes4_same _ (by dsimp only; omega) (by dsimp only; omega), Option.bind_some, if_pos rfl, bytes4_same _ (by dsimp only; omega) (by dsimp only; omega), Option.bind_some, if_pos rfl, W_succ n (by have := hd.ly; omega)]
      · show law08_ModelParts.L5 N _ _ _ _ _ (q + 1) (d.ly : Int) = _
        rw [law08_ModelParts.L5]
        show (some w.Shape).bind _ = _
        rw [Option.bind_some, if_neg (by rw [hw.layers]; omega), W_succ i (by omega)]
    · show law08_ModelParts.L4 N _ _ _ _ _ (m + 1) (ts.length : Int) = _
      rw [law08_ModelParts.L4, if_neg (by omega)]
      unfold model_Run_Place
      rw [Option.bind_some, ha.place, if_pos (by omega), Option.bind_some, hc.place, if_pos (by omega), Option.bind_some, hro.place, decide_eq_true (by omega)]
  rw [law08_ModelParts.L2, if_neg (by omega), if_neg (fun q => q rfl), if_neg (fun q => q rfl), if_neg (fun q => q rfl), hy, ints4_same _ (by dsimp only; omega) (by dsimp only; omega), Option.bind_some, if_pos rfl]
  by_cases c : k < ts.length
  · rw [if_pos (by omega)]
    rw [lastS_cut hd w ts k c] at hfin ⊢
    rw [ints4_same _ (by dsimp only; omega) (by dsimp only; omega), Option.bind_some, if_pos rfl]
    exact hfin
  · rw [if_neg (by omega)]
    exact hfin
end
theorem modelParts (x0 : S_law08_Seeds) (x1 : List Int) (x2 : Int) : law08_ModelParts 5000 x0 x1 x2 = some true := by
  have key : ∀ N : Nat, 5000 ≤ N → law08_awake N = some true → law08_ModelParts N x0 x1 x2 = some true := by
    intro N hN aw
    unfold law08_ModelParts
    rw [aw, Option.bind_some, if_pos rfl]
    by_cases h1 : ((x1.length : Nat) : Int) > 20
    · rw [if_pos h1, Option.bind_some]
    rw [if_neg h1]
    by_cases h2 : ((x0.Xs.length : Nat) : Int) > 2000
    · rw [if_pos h2, Option.bind_some]
    rw [if_neg h2]
    obtain ⟨d, w, hd, hv, hp, hw, hsh, _, em⟩ := made8_is hN x0.N x0.Seed x0.Xs (by omega)
    have hvo := hd.voc; have hpl := hd.pl
    show (law08_made N x0.N x0.Seed x0.Xs).bind _ = _
    rw [em, Option.bind_some, optc_some]
    show (some w.Shape).bind _ = _
    rw [Option.bind_some, hw.vocab]
    obtain ⟨ts, ets, htl, htv⟩ := fits_is (N := N) x1 (by omega) (by omega) d.voc (by omega) (by omega)
    rw [ets, Option.bind_some]
    show (some w.Shape).bind _ = _
    rw [Option.bind_some, toks_len, hw.places]
    by_cases c : ((ts.length : Nat) : Int) > (d.pl : Int)
    · rw [if_pos c]
      show (some w.Shape).bind _ = _
      rw [Option.bind_some, hw.places, chk_ok _ (by omega), Int.toNat_natCast, toks_take]
      exact parts_J1 hd hN hw x2 _ (ts.take d.pl) (fun t h => htv t (List.mem_of_mem_take h)) (by simp; omega)
    · rw [if_neg c]
      exact parts_J1 hd hN hw x2 _ ts htv (by omega)
  exact key 5000 (Nat.le_refl _) awake08
end Go.Proofs.Ytdipfegofpfhaaa
end
