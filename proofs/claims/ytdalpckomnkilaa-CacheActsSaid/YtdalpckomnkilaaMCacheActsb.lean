/- What the law needs. -/
import Derived.Test.YtdalpckomnkilaaMCacheActsa
import Derived.Shelf.SlIterI.Nil
import Derived.Shelf.SlIterI.Sorted
import Derived.Shelf.SortM.Plain
import Derived.Shelf.SortM.SortNone
import Derived.Test.YtdalpckomnkilaaProg
section
namespace Go.Proofs.Ytdalpckomnkilaa
open Go Go.Shelf Go.Proofs
def keysA_ren : Go.Shelf.Ren := ⟨fun | 7 => 31 | 10 => 35 | n => n, fun | 23 => 72 | 26 => 3 | 3 => 4 | 28 => 75 | 0 => 0 | 27 => 74 | 33 => 79 | 4 => 4 | n => n, fun | n => n⟩
theorem keysA : Go.Proofs.SlLaysZI.n7 Try.prog keysA_ren := {
  mixed := by kernel_rfl,
  f7 := ⟨Try.f31.name, by decide, Try.func31.trans (congrArg some (by kernel_rfl))⟩,
  f10 := ⟨Try.f35.name, by decide, Try.func35.trans (congrArg some (by kernel_rfl))⟩,
  t0 := Try.underlying0,
  a0 := Try.isAgg0,
  z0 := Try.sizeOf0,
  v0 := Try.zeroValue0,
  t4 := Try.underlying4,
  a4 := Try.isAgg4,
  z4 := Try.sizeOf4,
  v4 := Try.zeroValue4,
  t23 := Try.underlying72,
  a23 := Try.isAgg72,
  z23 := Try.sizeOf72,
  v23 := Try.zeroValue72,
  t26 := Try.underlying3,
  a26 := Try.isAgg3,
  z26 := Try.sizeOf3,
  v26 := Try.zeroValue3,
  t27 := Try.underlying74,
  a27 := Try.isAgg74,
  z27 := Try.sizeOf74,
  v27 := Try.zeroValue74,
  t28 := Try.underlying75,
  a28 := Try.isAgg75,
  z28 := Try.sizeOf75,
  v28 := Try.zeroValue75,
  t33 := Try.underlying79,
  a33 := Try.isAgg79,
  z33 := Try.sizeOf79,
  v33 := Try.zeroValue79 }
def sortedA_ren : Go.Shelf.Ren := ⟨fun | 6 => 30 | 8 => 33 | 9 => 34 | 11 => 36 | 13 => 38 | 12 => 37 | 23 => 48 | 24 => 49 | 14 => 39 | 15 => 40 | 16 => 41 | 17 => 42 | 18 => 43 | 19 => 44 | 20 => 45 | 21 => 46 | 22 => 47 | 25 => 50 | 26 => 51 | 27 => 52 | 28 => 53 | 29 => 54 | 30 => 55 | 31 => 56 | n => n, fun | 26 => 3 | 28 => 75 | 24 => 47 | 0 => 0 | 3 => 3 | 37 => 83 | 48 => 94 | 50 => 96 | 4 => 4 | 40 => 86 | 39 => 85 | 45 => 91 | 5 => 5 | 9 => 9 | 51 => 97 | 55 => 101 | 57 => 103 | 58 => 104 | 33 => 79 | n => n, fun | n => n⟩
theorem sortedA : Go.Proofs.SlLaysZI.n6 Try.prog sortedA_ren := {
  mixed := by kernel_rfl,
  f6 := ⟨Try.f30.name, by decide, Try.func30.trans (congrArg some (by kernel_rfl))⟩,
  f8 := ⟨Try.f33.name, by decide, Try.func33.trans (congrArg some (by kernel_rfl))⟩,
  f11 := ⟨Try.f36.name, by decide, Try.func36.trans (congrArg some (by kernel_rfl))⟩,
  t0 := Try.underlying0,
  a0 := Try.isAgg0,
  z0 := Try.sizeOf0,
  v0 := Try.zeroValue0,
  t24 := Try.underlying47,
  a24 := Try.isAgg47,
  z24 := Try.sizeOf47,
  v24 := Try.zeroValue47,
  t26 := Try.underlying3,
  a26 := Try.isAgg3,
  z26 := Try.sizeOf3,
  v26 := Try.zeroValue3,
  t28 := Try.underlying75,
  a28 := Try.isAgg75,
  z28 := Try.sizeOf75,
  v28 := Try.zeroValue75,
  i26 := by kernel_rfl }
def sortA_ren : Go.Shelf.Ren := ⟨fun | 5 => 34 | 8 => 38 | 7 => 37 | 19 => 48 | 20 => 49 | 10 => 39 | 11 => 40 | 12 => 41 | 13 => 42 | 14 => 43 | 15 => 44 | 16 => 45 | 17 => 46 | 18 => 47 | 30 => 50 | 31 => 51 | 32 => 52 | 33 => 53 | 34 => 54 | 35 => 55 | 40 => 56 | n => n, fun | 23 => 47 | 25 => 3 | 3 => 3 | 32 => 83 | 22 => 47 | 0 => 0 | 44 => 94 | 46 => 96 | 4 => 4 | 36 => 86 | 35 => 85 | 41 => 91 | 5 => 5 | 9 => 9 | 53 => 97 | 57 => 101 | 63 => 103 | 64 => 104 | n => n, fun | n => n⟩
theorem sortA : Go.Proofs.SlLaysM.n5 Try.prog sortA_ren := {
  mixed := by kernel_rfl,
  f5 := ⟨Try.f34.name, by decide, Try.func34.trans (congrArg some (by kernel_rfl))⟩,
  f7 := ⟨Try.f37.name, by decide, Try.func37.trans (congrArg some (by kernel_rfl))⟩,
  f8 := Try.func38.trans (congrArg some (by kernel_rfl)),
  f10 := ⟨Try.f39.name, by decide, Try.func39.trans (congrArg some (by kernel_rfl))⟩,
  f11 := ⟨Try.f40.name, by decide, Try.func40.trans (congrArg some (by kernel_rfl))⟩,
  f12 := ⟨Try.f41.name, by decide, Try.func41.trans (congrArg some (by kernel_rfl))⟩,
  f13 := ⟨Try.f42.name, by decide, Try.func42.trans (congrArg some (by kernel_rfl))⟩,
  f14 := ⟨Try.f43.name, by decide, Try.func43.trans (congrArg some (by kernel_rfl))⟩,
  f15 := ⟨Try.f44.name, by decide, Try.func44.trans (congrArg some (by kernel_rfl))⟩,
  f16 := ⟨Try.f45.name, by decide, Try.func45.trans (congrArg some (by kernel_rfl))⟩,
  f17 := ⟨Try.f46.name, by decide, Try.func46.trans (congrArg some (by kernel_rfl))⟩,
  f18 := ⟨Try.f47.name, by decide, Try.func47.trans (congrArg some (by kernel_rfl))⟩,
  f19 := Try.func48.trans (congrArg some (by kernel_rfl)),
  f20 := Try.func49.trans (congrArg some (by kernel_rfl)),
  f30 := ⟨Try.f50.name, by decide, Try.func50.trans (congrArg some (by kernel_rfl))⟩,
  f31 := Try.func51.trans (congrArg some (by kernel_rfl)),
  f32 := Try.func52.trans (congrArg some (by kernel_rfl)),
  f33 := ⟨Try.f53.name, by decide, Try.func53.trans (congrArg some (by kernel_rfl))⟩,
  f34 := ⟨Try.f54.name, by decide, Try.func54.trans (congrArg some (by kernel_rfl))⟩,
  f35 := ⟨Try.f55.name, by decide, Try.func55.trans (congrArg some (by kernel_rfl))⟩,
  f40 := ⟨Try.f56.name, by decide, Try.func56.trans (congrArg some (by kernel_rfl))⟩,
  t0 := Try.underlying0,
  a0 := Try.isAgg0,
  z0 := Try.sizeOf0,
  v0 := Try.zeroValue0,
  t3 := Try.underlying3,
  a3 := Try.isAgg3,
  z3 := Try.sizeOf3,
  v3 := Try.zeroValue3,
  t4 := Try.underlying4,
  a4 := Try.isAgg4,
  z4 := Try.sizeOf4,
  v4 := Try.zeroValue4,
  t5 := Try.underlying5,
  a5 := Try.isAgg5,
  z5 := Try.sizeOf5,
  v5 := Try.zeroValue5,
  t9 := Try.underlying9,
  a9 := Try.isAgg9,
  z9 := Try.sizeOf9,
  v9 := Try.zeroValue9,
  t22 := Try.underlying47,
  a22 := Try.isAgg47,
  z22 := Try.sizeOf47,
  v22 := Try.zeroValue47,
  t23 := Try.underlying47,
  a23 := Try.isAgg47,
  z23 := Try.sizeOf47,
  v23 := Try.zeroValue47,
  t25 := Try.underlying3,
  a25 := Try.isAgg3,
  z25 := Try.sizeOf3,
  v25 := Try.zeroValue3,
  t32 := Try.underlying83,
  a32 := Try.isAgg83,
  z32 := Try.sizeOf83,
  v32 := Try.zeroValue83,
  t35 := Try.underlying85,
  a35 := Try.isAgg85,
  z35 := Try.sizeOf85,
  v35 := Try.zeroValue85,
  t36 := Try.underlying86,
  a36 := Try.isAgg86,
  z36 := Try.sizeOf86,
  v36 := Try.zeroValue86,
  t41 := Try.underlying91,
  a41 := Try.isAgg91,
  z41 := Try.sizeOf91,
  v41 := Try.zeroValue91,
  t44 := Try.underlying94,
  a44 := Try.isAgg94,
  z44 := Try.sizeOf94,
  v44 := Try.zeroValue94,
  t46 := Try.underlying96,
  a46 := Try.isAgg96,
  z46 := Try.sizeOf96,
  v46 := Try.zeroValue96,
  t53 := Try.underlying97,
  a53 := Try.isAgg97,
  z53 := Try.sizeOf97,
  v53 := Try.zeroValue97,
  t57 := Try.underlying101,
  a57 := Try.isAgg101,
  z57 := Try.sizeOf101,
  v57 := Try.zeroValue101,
  t63 := Try.underlying103,
  a63 := Try.isAgg103,
  z63 := Try.sizeOf103,
  v63 := Try.zeroValue103,
  t64 := Try.underlying104,
  a64 := Try.isAgg104,
  z64 := Try.sizeOf104,
  v64 := Try.zeroValue104 }
end Go.Proofs.Ytdalpckomnkilaa
namespace Go.Proofs.Ytdalpckomnkilaa
open Go Go.RowKit Go.Hp Go.Maps Go.Sort Go.Shelf Go.Proofs
open Go.WideElems (Fit rd rg pl rd_val elemAt rd_mk rg_of)
open Go.WideShapes (sorted_perm)
set_option linter.unusedVariables false
set_option linter.unusedSimpArgs false
set_option maxRecDepth 100000
theorem Ctx_addRow {w w' : World} {l : List HP} {T : TypeId} {v : Value} {ss : List Int} (hb : Below w.heap.size w w') (h : Ctx w l) (hrow : w'.ownsRow w.heap.size T 1 v ss.length (ss.map (.int .i64))) : Ctx w' (Own (pInt .i64) T v ss :: l) := by
  obtain ⟨R, Ss, hc⟩ := h
  refine CtxAt.upd (Ps := []) (Qs := [_]) (Fr := l) (R := R) (Ss0 := Ss) hc fun Ts hT => ?_
  match Ts, hT with
  | _ :: _, hT => exact hT.all.elim
  | [], hT =>
    have hr : ∀ xs : List Int, Hp.Rows (pInt .i64) w' R (xs.map fun x => [Value.int .i64 x]) xs := fun xs => by
      induction xs with
      | nil => trivial
      | cons x xs ih => exact ⟨rfl, ih⟩
    have hfl : ∀ xs : List Int, (xs.map fun x => [Value.int .i64 x]).flatten = xs.map (.int .i64) := fun xs => by
      induction xs with
      | nil => rfl
      | cons x xs ih => simpa using ih
    have hrow0 : w'.ownsRow 0 T 1 v ss.length (ss.map fun x => [Value.int .i64 x]).flatten := by
      rw [hfl]
      refine ⟨hrow.1, ?_⟩
      rcases hrow.2 with q | ⟨g, cap, cur, e, _, rest⟩
      · exact .inl q
      · exact .inr ⟨g, cap, cur, e, Nat.zero_le _, rest⟩
    have hown : ∀ b ∈ v.ownBlock.toList, w.heap.size ≤ b ∧ b < w'.heap.size := fun b hb' => by
      rcases hrow.2 with ⟨rfl, _⟩ | ⟨g, cap, cur, rfl, hge, hg, _⟩
      · simp [Value.ownBlock] at hb'
      · simp [Value.ownBlock] at hb'
        subst hb'
        exact ⟨hge, (Array.getElem?_eq_some_iff.1 hg).1⟩
    refine ⟨R, [v.ownBlock.toList], ⟨⟨_, hr ss, hrow0, rfl⟩, trivial⟩, ?_, fun b hb' => ?_, fun _ h => h, fun b hb' => ⟨.inl hb', Nat.lt_of_lt_of_le (hT.fz b hb') hb.size⟩, ⟨hb.os, hb.tape, hb.output, hb.size, fun b hb' => hb.block b hb'.1⟩⟩
    · simp only [List.flatten_cons, List.flatten_nil, List.append_nil]
      cases v.ownBlock <;> simp
    · simp only [List.flatten_cons, List.flatten_nil, List.append_nil] at hb'
      obtain ⟨h1, h2⟩ := hown b hb'
      exact ⟨.inr h1, h2, fun hr' => by have := hT.fz _ hr'; omega⟩
theorem it_keys_any {m : Option Nat} {Fr : List HP} {w : World} {K : Value → World → Prop} (hc : Ctx w Fr) (k : ∀ b w', Ctx w' (B b [.map m] 72 :: Fr) → K (.func (.func 35) #[] #[.pointer (some ⟨b, 0, none⟩)]) w') :
    Calls Try.prog 31 #[.map m] w (Ret K) := by
  have h : CallsIn Fence.wide 5 Try.prog 31 #[.map m] w fun e w' => e = .returned (.func (.func 35) #[] #[.pointer (some ⟨w.heap.size, 0, none⟩)]) ∧ w' = w.alloc (.cells #[.map m] 72) := AnyZI.keys_in keysA Fence.wide 5 trivial rfl m w
  refine (callsIn_wide.1 h).mono fun e w' hh => ?_
  obtain ⟨rfl, rfl⟩ := hh
  exact ⟨_, rfl, k _ _ (hc.box [.map m] 72)⟩
theorem sortsA (m : Nat) : AnyZI.SortsIn Try.prog sortedA_ren Fence.wide m :=
  ⟨fun blk off cap ss W hH hblk hsz => callsIn_wide.2 (AnyM.slices_Sort_int sortA blk off cap ss W hH hblk hsz),
   fun p cap W => callsIn_wide.2 (AnyM.slices_Sort_int_none sortA p cap W)⟩
def it_sorted {β : Type} (xs : List (Int × β)) : Option (List Int) := if (xs.map Prod.fst).Nodup ∧ (∀ k ∈ xs.map Prod.fst, (Lit.int .i64 k).wf = true) ∧ xs.length ≤ 4294967296 then some ((xs.map Prod.fst).mergeSort fun x y => decide (x ≤ y)) else none
theorem enr_lit {β : Type} {V : Value → β → HP} {w : World} {R : Nat → Prop} : ∀ {es : List MapEntry} {l : List (Int × β)} {Ss : List (List Nat)}, EnR (ekI .i64) V w R es l Ss → (∀ k ∈ l.map Prod.fst, (Lit.int .i64 k).wf = true) → ∀ x ∈ es, ∃ k, x.key = .int .i64 k ∧ (Lit.int .i64 k).wf = true
  | [], [], [], _, _, x, hx => by cases hx
  | e :: es, (k, y) :: l, S :: Ss, h, hk, x, hx => by
    rcases List.mem_cons.1 hx with rfl | hx
    · exact ⟨k, h.1, hk k (by simp)⟩
    · exact enr_lit h.2.2 (fun k' hk' => hk k' (by simp only [List.map_cons, List.mem_cons]; exact .inr hk')) x hx
  | [], _ :: _, _, h, _, _, _ => h.elim
  | _ :: _, [], _, h, _, _, _ => h.elim
  | [], [], _ :: _, h, _, _, _ => h.elim
  | _ :: _, _ :: _, [], h, _, _, _ => h.elim
theorem key_lit {kk : Int} (h : (Lit.int .i64 kk).wf = true) : keyOf Try.prog 3 (.int .i64 kk) = some (.int .i64 kk) := by simp [keyOf, Try.underlying3, mapKey, h]
set_option maxHeartbeats 2000000 in
theorem it_sorted_any {β : Type} {V : Value → β → HP} {b mb : Nat} {xs : List (Int × β)} {r : List Int} {Fr : List HP} {w : World} {K : Value → World → Prop} (hc : Ctx w (B b [.map (some mb)] 72 :: Mp (ekI .i64) V mb xs :: Fr)) (hp : it_sorted xs = some r)
    (k : ∀ a n q w', Ctx w' (Own (pInt .i64) 3 (.slice a n q) r :: B b [.map (some mb)] 72 :: Mp (ekI .i64) V mb xs :: Fr) → K (.slice a n q) w') : Calls Try.prog 30 #[.func (.func 35) #[] #[.pointer (some ⟨b, 0, none⟩)]] w (Ret K) := by
  unfold it_sorted at hp
  split at hp
  · rename_i hg
    obtain ⟨hnd, hwf, hlen⟩ := hg
    obtain rfl := Option.some.inj hp
    have hcell : w.cell? ⟨b, 0, none⟩ = some (.map (some mb)) := hc.cell (k := 0) rfl rfl rfl
    have hbl : b < w.heap.size := by
      obtain ⟨R, S, hB, h2, _⟩ := hc.at (k := 0) rfl rfl
      exact (h2 b (by rw [hB.1]; simp)).1
    obtain ⟨R, S, ⟨es, clock, Ss, hb, hE, _, hborn, hclk⟩, _⟩ := hc.at (k := 1) rfl rfl
    have hkeys := EnR.keys hE
    have hsz : es.size = xs.length := by
      have := congrArg List.length hkeys
      simpa using this
    let R0 : Value → Option (DataW Unit × List MemPlace) := fun _ => some (.lit (.bool true), [])
    have hlit := enr_lit hE hwf
    have F : Fit Try.prog 3 R0 es clock := ⟨by rw [hsz]; unfold maxLen; omega, ⟨hclk, hborn, by
        have e : es.toList.map (·.key) = (xs.map Prod.fst).map (ekI .i64) := hkeys
        rw [e]
        exact List.Pairwise.map (ekI .i64) (fun a c hac h => hac (by simpa [ekI] using h)) hnd⟩, fun x hx => by
        obtain ⟨kk, e1, e2⟩ := hlit x hx
        obtain ⟨key, val, born⟩ := x
        have e1 : key = .int .i64 kk := e1
        subst e1
        exact ⟨(.int .i64 kk, .lit (.bool true)), rd_mk (R := R0) (yv := (.lit (.bool true), [])) (key_lit e2) rfl⟩⟩
    have hown := World.ownsMap_of_fit (R := R0) hb F (fun _ _ _ h => h)
    have hsize : Maps.size (DataW.map ((es.toList.map (rg Try.prog 3 R0)).foldr DataW.insert [])) = xs.length := by
      rw [Maps.size_eq, length_read, hsz]
    have hseq := AnyZI.keys_gives (ρ := keysA_ren) { keysA with } Fence.wide 2 trivial rfl (by omega) b mb es.size _ w hbl hcell hown
    have cS := AnyZI.sorted_in sortedA Fence.wide 5 trivial trivial trivial trivial rfl (by omega) (sortsA _) (enters_of Try.func34 (by kernel_rfl) rfl) 35 #[.pointer (some ⟨b, 0, none⟩)] trivial (enters_of Try.func35 (by kernel_rfl) rfl) _ _ (by rw [hsize]; unfold maxLen; omega) (by rw [hsize]; omega) w hseq
    refine (callsIn_wide.1 cS).mono fun e w' hh => ?_
    obtain ⟨v, ss, rfl, hS, hrow, hnil, hbe⟩ := hh
    have hperm : ss.Perm (xs.map Prod.fst) := by
      refine hS.trans ?_
      have h1 : intKeys (DataW.map ((es.toList.map (rg Try.prog 3 R0)).foldr DataW.insert [])) = ((es.toList.map (rg Try.prog 3 R0)).foldr DataW.insert []).map fun p => _root_.Go.intOf p.1 := rfl
      rw [h1]
      refine ((sorted_perm _).map _).trans ?_
      have h2 : (es.toList.map (rg Try.prog 3 R0)).map (fun p => _root_.Go.intOf p.1) = xs.map Prod.fst := by
        have h3 : ∀ (es : List MapEntry) (ks : List Int), es.map (·.key) = ks.map (ekI .i64) → (∀ k ∈ ks, (Lit.int .i64 k).wf = true) → (es.map (rg Try.prog 3 R0)).map (fun p => _root_.Go.intOf p.1) = ks := by
          intro es
          induction es with
          | nil => intro ks h _; cases ks with
            | nil => rfl
            | cons => cases h
          | cons x es ih =>
            intro ks h hw
            cases ks with
            | nil => cases h
            | cons kk ks =>
              simp only [List.map_cons, List.cons.injEq] at h
              have e2 : rg Try.prog 3 R0 x = (.int .i64 kk, .lit (.bool true)) := rg_of (by
                obtain ⟨key, val, born⟩ := x
                have e1 : key = .int .i64 kk := h.1
                subst e1
                exact rd_mk (R := R0) (yv := (.lit (.bool true), [])) (key_lit (hw kk (by simp))) rfl)
              simp only [List.map_cons, e2, ih ks h.2 (fun k hk => hw k (by simp [hk]))]
              rfl
        exact h3 es.toList _ hkeys hwf
      rw [h2]
    rw [show ss.mergeSort (fun x y => decide (x ≤ y)) = (xs.map Prod.fst).mergeSort (fun x y => decide (x ≤ y)) from mergeSort_of_perm_i hperm] at hrow
    have hl : ss.length = ((xs.map Prod.fst).mergeSort fun x y => decide (x ≤ y)).length := by rw [List.length_mergeSort, hperm.length_eq]
    rw [hl] at hrow
    have hc' := Ctx_addRow hbe hc hrow
    rcases hrow.2 with ⟨rfl, h0⟩ | ⟨g, cap, cur, rfl, _⟩
    · exact ⟨_, rfl, k _ _ _ _ hc'⟩
    · exact ⟨_, rfl, k _ _ _ _ hc'⟩
  · cases hp
end Go.Proofs.Ytdalpckomnkilaa
end
