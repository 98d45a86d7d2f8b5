/- What the law needs. -/
import Derived.Test.YtfhpmaphgkiegaaMLedgerActsa
import Derived.Shelf.SlIterI.Nil
import Derived.Shelf.SlIterI.Sorted
import Derived.Shelf.SortM.Plain
import Derived.Shelf.SortM.SortNone
import Derived.Test.YtfhpmaphgkiegaaProg
section
namespace Go.Proofs.Ytfhpmaphgkiegaa
open Go Go.Shelf Go.Proofs
def keysA_ren : Go.Shelf.Ren := ⟨fun | 7 => 62 | 10 => 71 | n => n, fun | 23 => 81 | 26 => 3 | 3 => 84 | 28 => 136 | 0 => 0 | 27 => 135 | 33 => 61 | 4 => 4 | n => n, fun | n => n⟩
theorem keysA : Go.Proofs.SlLaysZI.n7 Try.prog keysA_ren := {
  mixed := by kernel_rfl,
  f7 := ⟨Try.f62.name, by decide, Try.func62.trans (congrArg some (by kernel_rfl))⟩,
  f10 := ⟨Try.f71.name, by decide, Try.func71.trans (congrArg some (by kernel_rfl))⟩,
  t0 := Try.underlying0,
  a0 := Try.isAgg0,
  z0 := Try.sizeOf0,
  v0 := Try.zeroValue0,
  t4 := Try.underlying4,
  a4 := Try.isAgg4,
  z4 := Try.sizeOf4,
  v4 := Try.zeroValue4,
  t23 := Try.underlying81,
  a23 := Try.isAgg81,
  z23 := Try.sizeOf81,
  v23 := Try.zeroValue81,
  t26 := Try.underlying3,
  a26 := Try.isAgg3,
  z26 := Try.sizeOf3,
  v26 := Try.zeroValue3,
  t27 := Try.underlying135,
  a27 := Try.isAgg135,
  z27 := Try.sizeOf135,
  v27 := Try.zeroValue135,
  t28 := Try.underlying136,
  a28 := Try.isAgg136,
  z28 := Try.sizeOf136,
  v28 := Try.zeroValue136,
  t33 := Try.underlying61,
  a33 := Try.isAgg61,
  z33 := Try.sizeOf61,
  v33 := Try.zeroValue61 }
def sortedA_ren : Go.Shelf.Ren := ⟨fun | 6 => 61 | 8 => 69 | 9 => 70 | 11 => 75 | 13 => 77 | 12 => 76 | 23 => 87 | 24 => 88 | 14 => 78 | 15 => 79 | 16 => 80 | 17 => 81 | 18 => 82 | 19 => 83 | 20 => 84 | 21 => 85 | 22 => 86 | 25 => 89 | 26 => 90 | 27 => 91 | 28 => 92 | 29 => 93 | 30 => 94 | 31 => 95 | n => n, fun | 26 => 3 | 28 => 136 | 24 => 23 | 0 => 0 | 3 => 3 | 37 => 145 | 48 => 156 | 50 => 43 | 4 => 4 | 40 => 148 | 39 => 147 | 45 => 153 | 5 => 5 | 9 => 9 | 51 => 158 | 55 => 162 | 57 => 164 | 58 => 165 | 33 => 61 | n => n, fun | n => n⟩
theorem sortedA : Go.Proofs.SlLaysZI.n6 Try.prog sortedA_ren := {
  mixed := by kernel_rfl,
  f6 := ⟨Try.f61.name, by decide, Try.func61.trans (congrArg some (by kernel_rfl))⟩,
  f8 := ⟨Try.f69.name, by decide, Try.func69.trans (congrArg some (by kernel_rfl))⟩,
  f11 := ⟨Try.f75.name, by decide, Try.func75.trans (congrArg some (by kernel_rfl))⟩,
  t0 := Try.underlying0,
  a0 := Try.isAgg0,
  z0 := Try.sizeOf0,
  v0 := Try.zeroValue0,
  t24 := Try.underlying23,
  a24 := Try.isAgg23,
  z24 := Try.sizeOf23,
  v24 := Try.zeroValue23,
  t26 := Try.underlying3,
  a26 := Try.isAgg3,
  z26 := Try.sizeOf3,
  v26 := Try.zeroValue3,
  t28 := Try.underlying136,
  a28 := Try.isAgg136,
  z28 := Try.sizeOf136,
  v28 := Try.zeroValue136,
  i26 := by kernel_rfl }
def sortA_ren : Go.Shelf.Ren := ⟨fun | 5 => 70 | 8 => 77 | 7 => 76 | 19 => 87 | 20 => 88 | 10 => 78 | 11 => 79 | 12 => 80 | 13 => 81 | 14 => 82 | 15 => 83 | 16 => 84 | 17 => 85 | 18 => 86 | 30 => 89 | 31 => 90 | 32 => 91 | 33 => 92 | 34 => 93 | 35 => 94 | 40 => 95 | n => n, fun | 23 => 23 | 25 => 3 | 3 => 3 | 32 => 145 | 22 => 23 | 0 => 0 | 44 => 156 | 46 => 43 | 4 => 4 | 36 => 148 | 35 => 147 | 41 => 153 | 5 => 5 | 9 => 9 | 53 => 158 | 57 => 162 | 63 => 164 | 64 => 165 | n => n, fun | n => n⟩
theorem sortA : Go.Proofs.SlLaysM.n5 Try.prog sortA_ren := {
  mixed := by kernel_rfl,
  f5 := ⟨Try.f70.name, by decide, Try.func70.trans (congrArg some (by kernel_rfl))⟩,
  f7 := ⟨Try.f76.name, by decide, Try.func76.trans (congrArg some (by kernel_rfl))⟩,
  f8 := Try.func77.trans (congrArg some (by kernel_rfl)),
  f10 := ⟨Try.f78.name, by decide, Try.func78.trans (congrArg some (by kernel_rfl))⟩,
  f11 := ⟨Try.f79.name, by decide, Try.func79.trans (congrArg some (by kernel_rfl))⟩,
  f12 := ⟨Try.f80.name, by decide, Try.func80.trans (congrArg some (by kernel_rfl))⟩,
  f13 := ⟨Try.f81.name, by decide, Try.func81.trans (congrArg some (by kernel_rfl))⟩,
  f14 := ⟨Try.f82.name, by decide, Try.func82.trans (congrArg some (by kernel_rfl))⟩,
  f15 := ⟨Try.f83.name, by decide, Try.func83.trans (congrArg some (by kernel_rfl))⟩,
  f16 := ⟨Try.f84.name, by decide, Try.func84.trans (congrArg some (by kernel_rfl))⟩,
  f17 := ⟨Try.f85.name, by decide, Try.func85.trans (congrArg some (by kernel_rfl))⟩,
  f18 := ⟨Try.f86.name, by decide, Try.func86.trans (congrArg some (by kernel_rfl))⟩,
  f19 := Try.func87.trans (congrArg some (by kernel_rfl)),
  f20 := Try.func88.trans (congrArg some (by kernel_rfl)),
  f30 := ⟨Try.f89.name, by decide, Try.func89.trans (congrArg some (by kernel_rfl))⟩,
  f31 := Try.func90.trans (congrArg some (by kernel_rfl)),
  f32 := Try.func91.trans (congrArg some (by kernel_rfl)),
  f33 := ⟨Try.f92.name, by decide, Try.func92.trans (congrArg some (by kernel_rfl))⟩,
  f34 := ⟨Try.f93.name, by decide, Try.func93.trans (congrArg some (by kernel_rfl))⟩,
  f35 := ⟨Try.f94.name, by decide, Try.func94.trans (congrArg some (by kernel_rfl))⟩,
  f40 := ⟨Try.f95.name, by decide, Try.func95.trans (congrArg some (by kernel_rfl))⟩,
  t0 := Try.underlying0,
  a0 := Try.isAgg0,
  z0 := Try.sizeOf0,
  v0 := Try.zeroValue0,
  t3 := Try.underlying3,
  a3 := Try.isAgg3,
  z3 := Try.sizeOf3,
  v3 := Try.zeroValue3,
  t4 := Try.underlying4,
  a4 := Try.isAgg4,
  z4 := Try.sizeOf4,
  v4 := Try.zeroValue4,
  t5 := Try.underlying5,
  a5 := Try.isAgg5,
  z5 := Try.sizeOf5,
  v5 := Try.zeroValue5,
  t9 := Try.underlying9,
  a9 := Try.isAgg9,
  z9 := Try.sizeOf9,
  v9 := Try.zeroValue9,
  t22 := Try.underlying23,
  a22 := Try.isAgg23,
  z22 := Try.sizeOf23,
  v22 := Try.zeroValue23,
  t23 := Try.underlying23,
  a23 := Try.isAgg23,
  z23 := Try.sizeOf23,
  v23 := Try.zeroValue23,
  t25 := Try.underlying3,
  a25 := Try.isAgg3,
  z25 := Try.sizeOf3,
  v25 := Try.zeroValue3,
  t32 := Try.underlying145,
  a32 := Try.isAgg145,
  z32 := Try.sizeOf145,
  v32 := Try.zeroValue145,
  t35 := Try.underlying147,
  a35 := Try.isAgg147,
  z35 := Try.sizeOf147,
  v35 := Try.zeroValue147,
  t36 := Try.underlying148,
  a36 := Try.isAgg148,
  z36 := Try.sizeOf148,
  v36 := Try.zeroValue148,
  t41 := Try.underlying153,
  a41 := Try.isAgg153,
  z41 := Try.sizeOf153,
  v41 := Try.zeroValue153,
  t44 := Try.underlying156,
  a44 := Try.isAgg156,
  z44 := Try.sizeOf156,
  v44 := Try.zeroValue156,
  t46 := Try.underlying43,
  a46 := Try.isAgg43,
  z46 := Try.sizeOf43,
  v46 := Try.zeroValue43,
  t53 := Try.underlying158,
  a53 := Try.isAgg158,
  z53 := Try.sizeOf158,
  v53 := Try.zeroValue158,
  t57 := Try.underlying162,
  a57 := Try.isAgg162,
  z57 := Try.sizeOf162,
  v57 := Try.zeroValue162,
  t63 := Try.underlying164,
  a63 := Try.isAgg164,
  z63 := Try.sizeOf164,
  v63 := Try.zeroValue164,
  t64 := Try.underlying165,
  a64 := Try.isAgg165,
  z64 := Try.sizeOf165,
  v64 := Try.zeroValue165 }
end Go.Proofs.Ytfhpmaphgkiegaa
namespace Go.Proofs.Ytfhpmaphgkiegaa
open Go Go.RowKit Go.Hp Go.Maps Go.Sort Go.Shelf Go.Proofs
open Go.WideElems (Fit rd rg pl rd_val elemAt rd_mk rg_of)
open Go.WideShapes (sorted_perm)
set_option linter.unusedVariables false
set_option linter.unusedSimpArgs false
set_option maxRecDepth 100000
theorem Ctx_addRow {w w' : World} {l : List HP} {T : TypeId} {v : Value} {ss : List Int} (hb : Below w.heap.size w w') (h : Ctx w l) (hrow : w'.ownsRow w.heap.size T 1 v ss.length (ss.map (.int .i64))) : Ctx w' (Own (pInt .i64) T v ss :: l) := by
  obtain ⟨R, Ss, hc⟩ := h
  refine CtxAt.upd (Ps := []) (Qs := [_]) (Fr := l) (R := R) (Ss0 := Ss) hc fun Ts hT => ?_
  match Ts, hT with
  | _ :: _, hT => exact hT.all.elim
  | [], hT =>
    have hr : ∀ xs : List Int, Hp.Rows (pInt .i64) w' R (xs.map fun x => [Value.int .i64 x]) xs := fun xs => by
      induction xs with
      | nil => trivial
      | cons x xs ih => exact ⟨rfl, ih⟩
    have hfl : ∀ xs : List Int, (xs.map fun x => [Value.int .i64 x]).flatten = xs.map (.int .i64) := fun xs => by
      induction xs with
      | nil => rfl
      | cons x xs ih => simpa using ih
    have hrow0 : w'.ownsRow 0 T 1 v ss.length (ss.map fun x => [Value.int .i64 x]).flatten := by
      rw [hfl]
      refine ⟨hrow.1, ?_⟩
      rcases hrow.2 with q | ⟨g, cap, cur, e, _, rest⟩
      · exact .inl q
      · exact .inr ⟨g, cap, cur, e, Nat.zero_le _, rest⟩
    have hown : ∀ b ∈ v.ownBlock.toList, w.heap.size ≤ b ∧ b < w'.heap.size := fun b hb' => by
      rcases hrow.2 with ⟨rfl, _⟩ | ⟨g, cap, cur, rfl, hge, hg, _⟩
      · simp [Value.ownBlock] at hb'
      · simp [Value.ownBlock] at hb'
        subst hb'
        exact ⟨hge, (Array.getElem?_eq_some_iff.1 hg).1⟩
    refine ⟨R, [v.ownBlock.toList], ⟨⟨_, hr ss, hrow0, rfl⟩, trivial⟩, ?_, fun b hb' => ?_, fun _ h => h, fun b hb' => ⟨.inl hb', Nat.lt_of_lt_of_le (hT.fz b hb') hb.size⟩, ⟨hb.os, hb.tape, hb.output, hb.size, fun b hb' => hb.block b hb'.1⟩⟩
    · simp only [List.flatten_cons, List.flatten_nil, List.append_nil]
      cases v.ownBlock <;> simp
    · simp only [List.flatten_cons, List.flatten_nil, List.append_nil] at hb'
      obtain ⟨h1, h2⟩ := hown b hb'
      exact ⟨.inr h1, h2, fun hr' => by have := hT.fz _ hr'; omega⟩
theorem it_keys_any {m : Option Nat} {Fr : List HP} {w : World} {K : Value → World → Prop} (hc : Ctx w Fr) (k : ∀ b w', Ctx w' (B b [.map m] 81 :: Fr) → K (.func (.func 71) #[] #[.pointer (some ⟨b, 0, none⟩)]) w') :
    Calls Try.prog 62 #[.map m] w (Ret K) := by
  have h : CallsIn Fence.wide 5 Try.prog 62 #[.map m] w fun e w' => e = .returned (.func (.func 71) #[] #[.pointer (some ⟨w.heap.size, 0, none⟩)]) ∧ w' = w.alloc (.cells #[.map m] 81) := AnyZI.keys_in keysA Fence.wide 5 trivial rfl m w
  refine (callsIn_wide.1 h).mono fun e w' hh => ?_
  obtain ⟨rfl, rfl⟩ := hh
  exact ⟨_, rfl, k _ _ (hc.box [.map m] 81)⟩
theorem sortsA (m : Nat) : AnyZI.SortsIn Try.prog sortedA_ren Fence.wide m :=
  ⟨fun blk off cap ss W hH hblk hsz => callsIn_wide.2 (AnyM.slices_Sort_int sortA blk off cap ss W hH hblk hsz),
   fun p cap W => callsIn_wide.2 (AnyM.slices_Sort_int_none sortA p cap W)⟩
def it_sorted {β : Type} (xs : List (Int × β)) : Option (List Int) := if (xs.map Prod.fst).Nodup ∧ (∀ k ∈ xs.map Prod.fst, (Lit.int .i64 k).wf = true) ∧ xs.length ≤ 4294967296 then some ((xs.map Prod.fst).mergeSort fun x y => decide (x ≤ y)) else none
theorem enr_lit {β : Type} {V : Value → β → HP} {w : World} {R : Nat → Prop} : ∀ {es : List MapEntry} {l : List (Int × β)} {Ss : List (List Nat)}, EnR (ekI .i64) V w R es l Ss → (∀ k ∈ l.map Prod.fst, (Lit.int .i64 k).wf = true) → ∀ x ∈ es, ∃ k, x.key = .int .i64 k ∧ (Lit.int .i64 k).wf = true
  | [], [], [], _, _, x, hx => by cases hx
  | e :: es, (k, y) :: l, S :: Ss, h, hk, x, hx => by
    rcases List.mem_cons.1 hx with rfl | hx
    · exact ⟨k, h.1, hk k (by simp)⟩
    · exact enr_lit h.2.2 (fun k' hk' => hk k' (by simp only [List.map_cons, List.mem_cons]; exact .inr hk')) x hx
  | [], _ :: _, _, h, _, _, _ => h.elim
  | _ :: _, [], _, h, _, _, _ => h.elim
  | [], [], _ :: _, h, _, _, _ => h.elim
  | _ :: _, _ :: _, [], h, _, _, _ => h.elim
theorem key_lit {kk : Int} (h : (Lit.int .i64 kk).wf = true) : keyOf Try.prog 3 (.int .i64 kk) = some (.int .i64 kk) := by simp [keyOf, Try.underlying3, mapKey, h]
set_option maxHeartbeats 2000000 in
theorem it_sorted_any {β : Type} {V : Value → β → HP} {b mb : Nat} {xs : List (Int × β)} {r : List Int} {Fr : List HP} {w : World} {K : Value → World → Prop} (hc : Ctx w (B b [.map (some mb)] 81 :: Mp (ekI .i64) V mb xs :: Fr)) (hp : it_sorted xs = some r)
    (k : ∀ a n q w', Ctx w' (Own (pInt .i64) 3 (.slice a n q) r :: B b [.map (some mb)] 81 :: Mp (ekI .i64) V mb xs :: Fr) → K (.slice a n q) w') : Calls Try.prog 61 #[.func (.func 71) #[] #[.pointer (some ⟨b, 0, none⟩)]] w (Ret K) := by
  unfold it_sorted at hp
  split at hp
  · rename_i hg
    obtain ⟨hnd, hwf, hlen⟩ := hg
    obtain rfl := Option.some.inj hp
    have hcell : w.cell? ⟨b, 0, none⟩ = some (.map (some mb)) := hc.cell (k := 0) rfl rfl rfl
    have hbl : b < w.heap.size := by
      obtain ⟨R, S, hB, h2, _⟩ := hc.at (k := 0) rfl rfl
      exact (h2 b (by rw [hB.1]; simp)).1
    obtain ⟨R, S, ⟨es, clock, Ss, hb, hE, _, hborn, hclk⟩, _⟩ := hc.at (k := 1) rfl rfl
    have hkeys := EnR.keys hE
    have hsz : es.size = xs.length := by
      have := congrArg List.length hkeys
      simpa using this
    let R0 : Value → Option (DataW Unit × List MemPlace) := fun _ => some (.lit (.bool true), [])
    have hlit := enr_lit hE hwf
    have F : Fit Try.prog 3 R0 es clock := ⟨by rw [hsz]; unfold maxLen; omega, ⟨hclk, hborn, by
        have e : es.toList.map (·.key) = (xs.map Prod.fst).map (ekI .i64) := hkeys
        rw [e]
        exact List.Pairwise.map (ekI .i64) (fun a c hac h => hac (by simpa [ekI] using h)) hnd⟩, fun x hx => by
        obtain ⟨kk, e1, e2⟩ := hlit x hx
        obtain ⟨key, val, born⟩ := x
        have e1 : key = .int .i64 kk := e1
        subst e1
        exact ⟨(.int .i64 kk, .lit (.bool true)), rd_mk (R := R0) (yv := (.lit (.bool true), [])) (key_lit e2) rfl⟩⟩
    have hown := World.ownsMap_of_fit (R := R0) hb F (fun _ _ _ h => h)
    have hsize : Maps.size (DataW.map ((es.toList.map (rg Try.prog 3 R0)).foldr DataW.insert [])) = xs.length := by
      rw [Maps.size_eq, length_read, hsz]
    have hseq := AnyZI.keys_gives (ρ := keysA_ren) { keysA with } Fence.wide 2 trivial rfl (by omega) b mb es.size _ w hbl hcell hown
    have cS := AnyZI.sorted_in sortedA Fence.wide 5 trivial trivial trivial trivial rfl (by omega) (sortsA _) (enters_of Try.func70 (by kernel_rfl) rfl) 71 #[.pointer (some ⟨b, 0, none⟩)] trivial (enters_of Try.func71 (by kernel_rfl) rfl) _ _ (by rw [hsize]; unfold maxLen; omega) (by rw [hsize]; omega) w hseq
    refine (callsIn_wide.1 cS).mono fun e w' hh => ?_
    obtain ⟨v, ss, rfl, hS, hrow, hnil, hbe⟩ := hh
    have hperm : ss.Perm (xs.map Prod.fst) := by
      refine hS.trans ?_
      have h1 : intKeys (DataW.map ((es.toList.map (rg Try.prog 3 R0)).foldr DataW.insert [])) = ((es.toList.map (rg Try.prog 3 R0)).foldr DataW.insert []).map fun p => _root_.Go.intOf p.1 := rfl
      rw [h1]
      refine ((sorted_perm _).map _).trans ?_
      have h2 : (es.toList.map (rg Try.prog 3 R0)).map (fun p => _root_.Go.intOf p.1) = xs.map Prod.fst := by
        have h3 : ∀ (es : List MapEntry) (ks : List Int), es.map (·.key) = ks.map (ekI .i64) → (∀ k ∈ ks, (Lit.int .i64 k).wf = true) → (es.map (rg Try.prog 3 R0)).map (fun p => _root_.Go.intOf p.1) = ks := by
          intro es
          induction es with
          | nil => intro ks h _; cases ks with
            | nil => rfl
            | cons => cases h
          | cons x es ih =>
            intro ks h hw
            cases ks with
            | nil => cases h
            | cons kk ks =>
              simp only [List.map_cons, List.cons.injEq] at h
              have e2 : rg Try.prog 3 R0 x = (.int .i64 kk, .lit (.bool true)) := rg_of (by
                obtain ⟨key, val, born⟩ := x
                have e1 : key = .int .i64 kk := h.1
                subst e1
                exact rd_mk (R := R0) (yv := (.lit (.bool true), [])) (key_lit (hw kk (by simp))) rfl)
              simp only [List.map_cons, e2, ih ks h.2 (fun k hk => hw k (by simp [hk]))]
              rfl
        exact h3 es.toList _ hkeys hwf
      rw [h2]
    rw [show ss.mergeSort (fun x y => decide (x ≤ y)) = (xs.map Prod.fst).mergeSort (fun x y => decide (x ≤ y)) from mergeSort_of_perm_i hperm] at hrow
    have hl : ss.length = ((xs.map Prod.fst).mergeSort fun x y => decide (x ≤ y)).length := by rw [List.length_mergeSort, hperm.length_eq]
    rw [hl] at hrow
    have hc' := Ctx_addRow hbe hc hrow
    rcases hrow.2 with ⟨rfl, h0⟩ | ⟨g, cap, cur, rfl, _⟩
    · exact ⟨_, rfl, k _ _ _ _ hc'⟩
    · exact ⟨_, rfl, k _ _ _ _ hc'⟩
  · cases hp
theorem it_sortedV_any {β : Type} {m : Nat} {vf : List Value → Value} {U : VP β m} {b mb : Nat} {xs : List (Int × β)} {r : List Int} {Fr : List HP} {w : World} {K : Value → World → Prop} (hc : Ctx w (B b [.map (some mb)] 81 :: MpV (ekI .i64) vf U mb xs :: Fr)) (hp : it_sorted xs = some r)
    (k : ∀ a n q w', Ctx w' (Own (pInt .i64) 3 (.slice a n q) r :: B b [.map (some mb)] 81 :: MpV (ekI .i64) vf U mb xs :: Fr) → K (.slice a n q) w') : Calls Try.prog 61 #[.func (.func 71) #[] #[.pointer (some ⟨b, 0, none⟩)]] w (Ret K) := by
  obtain ⟨lh, hk, hc⟩ := Ctx.mpVF hc.swap
  have hp' : it_sorted lh = some r := by
    have hl : lh.length = xs.length := by simpa using congrArg List.length hk
    unfold it_sorted at hp ⊢
    rw [show lh.map Prod.fst = xs.map Prod.fst from hk, hl]; exact hp
  refine it_sorted_any (hc.pull 2 rfl rfl) hp' fun a n q w' hc => k _ _ _ _ ?_
  exact ((Ctx.mpVB ((hc.pull 3 rfl rfl).pull 3 rfl rfl)).pull 2 rfl rfl).pull 2 rfl rfl
end Go.Proofs.Ytfhpmaphgkiegaa
end
