/- Rows mixed, gated and joined are the document's. -/
import Derived.Test.YtmpdkjcobpghaaaP1
namespace Go.Proofs.Ytmpdkjcobpghaaa
open Go Go.Hp
set_option linter.unusedVariables false
set_option linter.unusedSimpArgs false
theorem idx_t {α : Type} {n : Nat} (f : Nat → α) {k : Nat} (h : k < n) : idx (tabl n f) (k : Int) = some (f k) := by rw [idx_nat, tabl_get? h]
theorem idx_d {α : Type} (l : List α) (d : α) {k : Nat} (h : k < l.length) : idx l (k : Int) = some (l.getD k d) := by
  rw [idx_get l k h, List.getD_eq_getElem?_getD, List.getElem?_eq_getElem h]; rfl
theorem tab (l : List Int) : l = tabl l.length (fun i => l.getD i 0) := by
  apply List.ext_getElem
  · rw [tabl_len]
  · intro i h1 h2
    rw [tabl_get, List.getD_eq_getElem?_getD, List.getElem?_eq_getElem h1]; rfl
theorem tabl_succ {α : Type} (n : Nat) (f : Nat → α) : tabl (n + 1) f = tabl n f ++ [f n] := by simp [tabl, List.range_succ]
theorem sat8_is (x : Int) : round_Sat8 x = some (IntKind.i8.wrap (min (max x (-128)) 127)) := rfl
theorem sat32_is (x : Int) : round_Sat32 x = some (IntKind.i32.wrap (min (max x (-2147483648)) 2147483647)) := rfl
theorem near_is (x a b : Int) (h : a ≤ b) : ref01_Near x a b = some (min (max x a) b) := by
  unfold ref01_Near
  by_cases h1 : x < a
  · rw [if_pos h1, show min (max x a) b = a by omega]
  · rw [if_neg h1]
    by_cases h2 : x > b
    · rw [if_pos h2, show min (max x a) b = b by omega]
    · rw [if_neg h2, show min (max x a) b = x by omega]
theorem bytes_loop (a : List Int) (ha : a.length ≤ 1000000) (d : Nat) : ∀ m k : Nat, k + d = a.length → d < m → ref04_Bytes.L1 a a m (k : Int) = some true := by
  induction d with
  | zero =>
    intro m k hk hm
    obtain ⟨m, rfl⟩ : ∃ q, m = q + 1 := ⟨m - 1, by omega⟩
    rw [ref04_Bytes.L1, if_neg (by omega)]
  | succ d ih =>
    intro m k hk hm
    obtain ⟨m, rfl⟩ : ∃ q, m = q + 1 := ⟨m - 1, by omega⟩
    rw [ref04_Bytes.L1, if_pos (by omega), idx_get _ _ (show k < a.length by omega), Option.bind_some, Option.bind_some, if_neg (fun h => h rfl), W_succ k (by omega)]
    exact ih m (k + 1) (by omega) (by omega)
theorem bytes_refl (a : List Int) (h : a.length ≤ 900) : ref04_Bytes 1000 a a = some true := by
  rw [ref04_Bytes, if_neg (fun h => h rfl)]
  exact bytes_loop a (by omega) a.length 1000 0 (by omega) (by omega)
theorem ints_loop (a : List Int) (ha : a.length ≤ 1000000) (d : Nat) : ∀ m k : Nat, k + d = a.length → d < m → ref04_Ints.L1 a a m (k : Int) = some true := by
  induction d with
  | zero =>
    intro m k hk hm
    obtain ⟨m, rfl⟩ : ∃ q, m = q + 1 := ⟨m - 1, by omega⟩
    rw [ref04_Ints.L1, if_neg (by omega)]
  | succ d ih =>
    intro m k hk hm
    obtain ⟨m, rfl⟩ : ∃ q, m = q + 1 := ⟨m - 1, by omega⟩
    rw [ref04_Ints.L1, if_pos (by omega), idx_get _ _ (show k < a.length by omega), Option.bind_some, Option.bind_some, if_neg (fun h => h rfl), W_succ k (by omega)]
    exact ih m (k + 1) (by omega) (by omega)
theorem ints_refl (a : List Int) (h : a.length ≤ 900) : ref04_Ints 1000 a a = some true := by
  rw [ref04_Ints, if_neg (fun h => h rfl)]
  exact ints_loop a (by omega) a.length 1000 0 (by omega) (by omega)

/-! gate -/
theorem gate_loop (row : List Int) (g : Nat → Int) (n : Nat) (hr : row.length = n) (hn : n ≤ 1000000) (d : Nat) : ∀ m k : Nat, k + d = n → d < m →
    norm_Gate.L1 row m (tabl n fun j => if j < k then max (g j) 0 else g j) (k : Int) = some (tabl n fun j => max (g j) 0) := by
  induction d with
  | zero =>
    intro m k hk hm
    obtain ⟨m, rfl⟩ : ∃ q, m = q + 1 := ⟨m - 1, by omega⟩
    rw [norm_Gate.L1, if_neg (by omega)]
    exact congrArg some (tabl_congr fun j hj => if_pos (by omega))
  | succ d ih =>
    intro m k hk hm
    obtain ⟨m, rfl⟩ : ∃ q, m = q + 1 := ⟨m - 1, by omega⟩
    rw [norm_Gate.L1, if_pos (by omega), idx_t _ (show k < n by omega), Option.bind_some, Option.bind_some, Int.toNat_natCast, tabl_set, W_succ k (by omega)]
    refine Eq.trans (congrArg (fun l => norm_Gate.L1 row m l _) (tabl_congr fun j hj => ?_)) (ih m (k + 1) (by omega) (by omega))
    by_cases e : j = k
    · subst e
      rw [if_pos rfl, if_neg (by omega), if_pos (by omega)]
    · rw [if_neg e]
      by_cases h : j < k
      · rw [if_pos h, if_pos (by omega)]
      · rw [if_neg h, if_neg (by omega)]
theorem gate_is (row : List Int) (h : row.length ≤ 900) : norm_Gate 1000 row = some (tabl row.length fun j => max (row.getD j 0) 0) := by
  unfold norm_Gate slices_Clone_s_int8_int8
  rw [app_ok _ _ (by simp only [List.length_nil]; omega), List.nil_append, Option.bind_some, Option.bind_some]
  have h := gate_loop row (fun i => row.getD i 0) row.length rfl (by omega) row.length 1000 0 (by omega) (by omega)
  refine Eq.trans (congrArg (fun l => norm_Gate.L1 row 1000 l 0) ?_) h
  refine (tab row).trans (tabl_congr fun j hj => ?_)
  exact (if_neg (by omega)).symm

/-! mix -/
def acc (ws : List Int) (rows : List (List Int)) : Nat → Nat → Int
  | 0, _ => 0
  | i + 1, k => IntKind.i64.wrap (acc ws rows i k + IntKind.i64.wrap (IntKind.i64.wrap (ws.getD i 0) * IntKind.i64.wrap ((rows.getD i []).getD k 0)))
theorem acc_range (ws : List Int) (rows : List (List Int)) : ∀ i k, -9223372036854775808 ≤ acc ws rows i k ∧ acc ws rows i k ≤ 9223372036854775807
  | 0, _ => by rw [acc]; omega
  | i + 1, k => by rw [acc]; exact W_range _
def mo (ws : List Int) (rows : List (List Int)) (k : Nat) : Int := IntKind.i8.wrap (min (max (sh (acc ws rows rows.length k) 16) (-128)) 127)
theorem mixL3 (ws : List Int) (rows : List (List Int)) (i n : Nat) (row : List Int) (hi : i < ws.length) (hrow : row = rows.getD i []) (hn : row.length = n) (hb : n ≤ 1000000) (k1 : List Int → Int → Option (List Int × Int)) (d : Nat) : ∀ m k : Nat, k + d = n → d < m →
    norm_Mix.L3 ws (i : Int) row k1 m (tabl n fun j => if j < k then acc ws rows (i + 1) j else acc ws rows i j) (k : Int) = k1 (tabl n (acc ws rows (i + 1))) (IntKind.i64.wrap ((i : Int) + 1)) := by
  induction d with
  | zero =>
    intro m k hk hm
    obtain ⟨m, rfl⟩ : ∃ q, m = q + 1 := ⟨m - 1, by omega⟩
    rw [norm_Mix.L3, if_neg (by omega)]
    exact congrArg (fun l => k1 l _) (tabl_congr fun j hj => if_pos (by omega))
  | succ d ih =>
    intro m k hk hm
    obtain ⟨m, rfl⟩ : ∃ q, m = q + 1 := ⟨m - 1, by omega⟩
    rw [norm_Mix.L3, if_pos (by omega), idx_d row 0 (by omega), Option.bind_some, idx_t _ (show k < n by omega), Option.bind_some, idx_d ws 0 hi, Option.bind_some, Option.bind_some, Int.toNat_natCast, tabl_set, W_succ k (by omega)]
    refine Eq.trans (congrArg (fun l => norm_Mix.L3 ws (i : Int) row k1 m l _) (tabl_congr fun j hj => ?_)) (ih m (k + 1) (by omega) (by omega))
    by_cases e : j = k
    · subst e
      rw [if_pos rfl, if_neg (by omega), if_pos (by omega), acc, hrow]
    · rw [if_neg e]
      by_cases h : j < k
      · rw [if_pos h, if_pos (by omega)]
      · rw [if_neg h, if_neg (by omega)]
theorem mixL1 (ws : List Int) (rows : List (List Int)) (y3 : List Int) (hl : ws.length = rows.length) (hm60 : rows.length ≤ 60) (hn : y3.length ≤ 200) (hall : ∀ p, p < rows.length → (rows.getD p []).length = y3.length) (d : Nat) : ∀ m i : Nat, i + d = rows.length → d < m →
    norm_Mix.L1 1000 ws rows y3 m (tabl y3.length (acc ws rows i)) (i : Int) = norm_Mix.L2 y3 (tabl y3.length (acc ws rows rows.length)) 1000 (List.replicate y3.length 0) 0 := by
  induction d with
  | zero =>
    intro m i hi hm
    obtain ⟨m, rfl⟩ : ∃ q, m = q + 1 := ⟨m - 1, by omega⟩
    rw [norm_Mix.L1, if_neg (by omega), chk_ok _ (by omega)]
    simp only [Int.toNat_natCast]
    rw [show i = rows.length by omega]
  | succ d ih =>
    intro m i hi hm
    obtain ⟨m, rfl⟩ : ∃ q, m = q + 1 := ⟨m - 1, by omega⟩
    have hr := hall i (by omega)
    rw [norm_Mix.L1, if_pos (by omega), idx_d rows [] (by omega), Option.bind_some, if_neg (by rw [hr]; omega)]
    have h := mixL3 ws rows i y3.length (rows.getD i []) (by omega) rfl hr (by omega) (norm_Mix.L1 1000 ws rows y3 m) y3.length 1000 0 (by omega) (by omega)
    have h2 := ih m (i + 1) (by omega) (by omega)
    rw [W_succ i (by omega), h2] at h
    refine Eq.trans (congrArg (fun l => norm_Mix.L3 ws (i : Int) (rows.getD i []) (norm_Mix.L1 1000 ws rows y3 m) 1000 l 0) (tabl_congr fun j hj => ?_)) h
    exact (if_neg (by omega)).symm
theorem mixL1_bad (ws : List Int) (rows : List (List Int)) (y3 : List Int) (hl : ws.length = rows.length) (hm60 : rows.length ≤ 60) (hn : y3.length ≤ 200) (p : Nat) (hp : p < rows.length) (hbad : (rows.getD p []).length ≠ y3.length) (d : Nat) : ∀ m i : Nat, i + d = rows.length → d < m → i ≤ p →
    norm_Mix.L1 1000 ws rows y3 m (tabl y3.length (acc ws rows i)) (i : Int) = some ([], 30) := by
  induction d with
  | zero => intro m i hi hm hip; omega
  | succ d ih =>
    intro m i hi hm hip
    obtain ⟨m, rfl⟩ : ∃ q, m = q + 1 := ⟨m - 1, by omega⟩
    rw [norm_Mix.L1, if_pos (by omega), idx_d rows [] (by omega), Option.bind_some]
    by_cases hr : (rows.getD i []).length = y3.length
    · rw [if_neg (by rw [hr]; omega)]
      have hne : i ≠ p := fun h => hbad (h ▸ hr)
      have h := mixL3 ws rows i y3.length (rows.getD i []) (by omega) rfl hr (by omega) (norm_Mix.L1 1000 ws rows y3 m) y3.length 1000 0 (by omega) (by omega)
      have h2 := ih m (i + 1) (by omega) (by omega) (by omega)
      rw [W_succ i (by omega), h2] at h
      refine Eq.trans (congrArg (fun l => norm_Mix.L3 ws (i : Int) (rows.getD i []) (norm_Mix.L1 1000 ws rows y3 m) 1000 l 0) (tabl_congr fun j hj => ?_)) h
      exact (if_neg (by omega)).symm
    · rw [if_pos (by omega)]
theorem mixL2 (ws : List Int) (rows : List (List Int)) (y3 : List Int) (n : Nat) (hy : y3.length = n) (hn : n ≤ 200) (d : Nat) : ∀ m k : Nat, k + d = n → d < m →
    norm_Mix.L2 y3 (tabl n (acc ws rows rows.length)) m (tabl n fun j => if j < k then mo ws rows j else 0) (k : Int) = some (tabl n (mo ws rows), 0) := by
  induction d with
  | zero =>
    intro m k hk hm
    obtain ⟨m, rfl⟩ : ∃ q, m = q + 1 := ⟨m - 1, by omega⟩
    rw [norm_Mix.L2, if_neg (by omega)]
    exact congrArg (fun l => some (l, 0)) (tabl_congr fun j hj => if_pos (by omega))
  | succ d ih =>
    intro m k hk hm
    obtain ⟨m, rfl⟩ : ∃ q, m = q + 1 := ⟨m - 1, by omega⟩
    rw [norm_Mix.L2, if_pos (by omega), idx_t _ (show k < n by omega), Option.bind_some, shift_is _ _ (acc_range ws rows _ k), Option.bind_some, sat8_is, Option.bind_some, idx_t _ (show k < n by omega), Option.bind_some, Int.toNat_natCast, tabl_set, W_succ k (by omega)]
    refine Eq.trans (congrArg (fun l => norm_Mix.L2 y3 _ m l _) (tabl_congr fun j hj => ?_)) (ih m (k + 1) (by omega) (by omega))
    by_cases e : j = k
    · subst e
      rw [if_pos rfl, if_pos (by omega)]
      rfl
    · rw [if_neg e]
      by_cases h : j < k
      · rw [if_pos h, if_pos (by omega)]
      · rw [if_neg h, if_neg (by omega)]
theorem rmL3 (ws : List Int) (rows : List (List Int)) (hl : ws.length = rows.length) (hm60 : rows.length ≤ 60) (n k : Nat) (hk : k < n) (hn : n ≤ 200) (hall : ∀ p, p < rows.length → (rows.getD p []).length = n) (j6 : List Int) (hj : j6.length ≤ 1000) (k2 : List Int → Int → Option (List Int × Bool)) (d : Nat) : ∀ m i : Nat, i + d = rows.length → d < m →
    ref05_Mix.L3 1000 ws rows j6 (k : Int) k2 m (acc ws rows i k) (i : Int) = k2 (j6 ++ [mo ws rows k]) ((k + 1 : Nat) : Int) := by
  induction d with
  | zero =>
    intro m i hi hm
    obtain ⟨m, rfl⟩ : ∃ q, m = q + 1 := ⟨m - 1, by omega⟩
    rw [ref05_Mix.L3, if_neg (by omega), show i = rows.length by omega, refshift_is _ _ (acc_range ws rows _ k), Option.bind_some, near_is _ _ _ (by decide), Option.bind_some, app_ok _ _ (by simp only [List.length_cons, List.length_nil]; omega), Option.bind_some, W_succ k (by omega)]
    rfl
  | succ d ih =>
    intro m i hi hm
    obtain ⟨m, rfl⟩ : ∃ q, m = q + 1 := ⟨m - 1, by omega⟩
    rw [ref05_Mix.L3, if_pos (by omega), idx_d ws 0 (by omega), Option.bind_some, idx_d rows [] (by omega), Option.bind_some, idx_d _ 0 (by rw [hall i (by omega)]; omega), Option.bind_some, W_succ i (by omega)]
    exact ih m (i + 1) (by omega) (by omega)
theorem rmL2 (ws : List Int) (rows : List (List Int)) (hl : ws.length = rows.length) (hm60 : rows.length ≤ 60) (h0 : 0 < rows.length) (n : Nat) (hn : n ≤ 200) (hall : ∀ p, p < rows.length → (rows.getD p []).length = n) (d : Nat) : ∀ m k : Nat, k + d = n → d < m →
    ref05_Mix.L2 1000 ws rows m (tabl k (mo ws rows)) (k : Int) = some (tabl n (mo ws rows), true) := by
  induction d with
  | zero =>
    intro m k hk hm
    obtain ⟨m, rfl⟩ : ∃ q, m = q + 1 := ⟨m - 1, by omega⟩
    have h00 := hall 0 h0
    rw [ref05_Mix.L2, show (0 : Int) = ((0 : Nat) : Int) from rfl, idx_d rows [] h0, Option.bind_some, if_neg (by rw [h00]; omega), show k = n by omega]
  | succ d ih =>
    intro m k hk hm
    obtain ⟨m, rfl⟩ : ∃ q, m = q + 1 := ⟨m - 1, by omega⟩
    have h00 := hall 0 h0
    have h := rmL3 ws rows hl hm60 n k (by omega) hn hall (tabl k (mo ws rows)) (by rw [tabl_len]; omega) (ref05_Mix.L2 1000 ws rows m) rows.length 1000 0 (by omega) (by omega)
    rw [ref05_Mix.L2, show idx rows 0 = idx rows ((0 : Nat) : Int) from rfl, idx_d rows [] h0, Option.bind_some, if_pos (by rw [h00]; omega)]
    refine h.trans ?_
    rw [← tabl_succ]
    exact ih m (k + 1) (by omega) (by omega)
theorem rmL1 (ws : List Int) (rows : List (List Int)) (hm60 : rows.length ≤ 60) (h0 : 0 < rows.length) (n : Nat) (hn : (rows.getD 0 []).length = n) (hall : ∀ p, p < rows.length → (rows.getD p []).length = n) (d : Nat) : ∀ m i : Nat, i + d = rows.length → d < m →
    ref05_Mix.L1 1000 ws rows m (i : Int) = ref05_Mix.L2 1000 ws rows 1000 [] 0 := by
  induction d with
  | zero =>
    intro m i hi hm
    obtain ⟨m, rfl⟩ : ∃ q, m = q + 1 := ⟨m - 1, by omega⟩
    rw [ref05_Mix.L1, if_neg (by omega), if_neg (by omega)]
  | succ d ih =>
    intro m i hi hm
    obtain ⟨m, rfl⟩ : ∃ q, m = q + 1 := ⟨m - 1, by omega⟩
    rw [ref05_Mix.L1, if_pos (by omega), idx_d rows [] (show i < rows.length by omega), Option.bind_some, show idx rows 0 = idx rows ((0 : Nat) : Int) from rfl, idx_d rows [] h0, Option.bind_some, if_neg (by rw [hall i (by omega), hn]; omega), W_succ i (by omega)]
    exact ih m (i + 1) (by omega) (by omega)
theorem rmL1_bad (ws : List Int) (rows : List (List Int)) (hm60 : rows.length ≤ 60) (h0 : 0 < rows.length) (p : Nat) (hp : p < rows.length) (hbad : (rows.getD p []).length ≠ (rows.getD 0 []).length) (d : Nat) : ∀ m i : Nat, i + d = rows.length → d < m → i ≤ p →
    ref05_Mix.L1 1000 ws rows m (i : Int) = some ([], false) := by
  induction d with
  | zero => intro m i hi hm hip; omega
  | succ d ih =>
    intro m i hi hm hip
    obtain ⟨m, rfl⟩ : ∃ q, m = q + 1 := ⟨m - 1, by omega⟩
    rw [ref05_Mix.L1, if_pos (by omega), idx_d rows [] (show i < rows.length by omega), Option.bind_some, show idx rows 0 = idx rows ((0 : Nat) : Int) from rfl, idx_d rows [] h0, Option.bind_some]
    by_cases hr : (rows.getD i []).length = (rows.getD 0 []).length
    · rw [if_neg (by rw [hr]; omega), W_succ i (by omega)]
      exact ih m (i + 1) (by omega) (by omega) (by have : i ≠ p := fun h => hbad (h ▸ hr)
                                                   omega)
    · rw [if_pos (by omega)]
theorem mix_good (ws : List Int) (rows : List (List Int)) (hl : ws.length = rows.length) (hm60 : rows.length ≤ 60) (h0 : 0 < rows.length) (hn : (rows.getD 0 []).length ≤ 200) (hall : ∀ p, p < rows.length → (rows.getD p []).length = (rows.getD 0 []).length) :
    norm_Mix 1000 ws rows = some (tabl (rows.getD 0 []).length (mo ws rows), 0) := by
  unfold norm_Mix
  rw [if_neg (by omega), if_neg (by omega), show idx rows 0 = idx rows ((0 : Nat) : Int) from rfl, idx_d rows [] h0, Option.bind_some, chk_ok _ (by omega), Int.toNat_natCast]
  have h := mixL1 ws rows (rows.getD 0 []) hl hm60 hn hall rows.length 1000 0 (by omega) (by omega)
  have h2 := mixL2 ws rows (rows.getD 0 []) _ rfl hn (rows.getD 0 []).length 1000 0 (by omega) (by omega)
  have e1 : List.replicate (rows.getD 0 []).length (0 : Int) = tabl (rows.getD 0 []).length (acc ws rows 0) := tabl_rep _ _
  have e2 : List.replicate (rows.getD 0 []).length (0 : Int) = tabl (rows.getD 0 []).length (fun j => if j < 0 then mo ws rows j else 0) := (tabl_rep _ _).trans (tabl_congr fun j hj => (if_neg (by omega)).symm)
  rw [e2] at h
  rw [e1]
  exact h.trans h2
theorem mix_bad (ws : List Int) (rows : List (List Int)) (hl : ws.length = rows.length) (hm60 : rows.length ≤ 60) (h0 : 0 < rows.length) (hn : (rows.getD 0 []).length ≤ 200) (p : Nat) (hp : p < rows.length) (hbad : (rows.getD p []).length ≠ (rows.getD 0 []).length) :
    norm_Mix 1000 ws rows = some ([], 30) := by
  unfold norm_Mix
  rw [if_neg (by omega), if_neg (by omega), show idx rows 0 = idx rows ((0 : Nat) : Int) from rfl, idx_d rows [] h0, Option.bind_some, chk_ok _ (by omega), Int.toNat_natCast]
  have h := mixL1_bad ws rows (rows.getD 0 []) hl hm60 hn p hp hbad rows.length 1000 0 (by omega) (by omega) (by omega)
  have e1 : List.replicate (rows.getD 0 []).length (0 : Int) = tabl (rows.getD 0 []).length (acc ws rows 0) := tabl_rep _ _
  rw [e1]
  exact h
theorem mix_is (ws : List Int) (rows : List (List Int)) (hm60 : rows.length ≤ 60) (hn : ∀ p, p < rows.length → (rows.getD p []).length ≤ 200) :
    (∃ t : List Int, t.length ≤ 200 ∧ norm_Mix 1000 ws rows = some (t, 0) ∧ ref05_Mix 1000 ws rows = some (t, true)) ∨ (norm_Mix 1000 ws rows = some ([], 30) ∧ ref05_Mix 1000 ws rows = some ([], false)) := by
  by_cases hl : ws.length = rows.length
  · by_cases h0 : 0 < rows.length
    · by_cases hall : ∀ p, p < rows.length → (rows.getD p []).length = (rows.getD 0 []).length
      · refine .inl ⟨tabl (rows.getD 0 []).length (mo ws rows), by rw [tabl_len]; exact hn 0 h0, mix_good ws rows hl hm60 h0 (hn 0 h0) hall, ?_⟩
        unfold ref05_Mix
        rw [if_neg (by omega)]
        exact (rmL1 ws rows hm60 h0 _ rfl hall rows.length 1000 0 (by omega) (by omega)).trans (rmL2 ws rows hl hm60 h0 _ (hn 0 h0) hall (rows.getD 0 []).length 1000 0 (by omega) (by have := hn 0 h0; omega))
      · obtain ⟨p, hp⟩ := Classical.not_forall.1 hall
        obtain ⟨hp, hbad⟩ := Classical.not_imp.1 hp
        refine .inr ⟨mix_bad ws rows hl hm60 h0 (hn 0 h0) p hp hbad, ?_⟩
        unfold ref05_Mix
        rw [if_neg (by omega)]
        exact rmL1_bad ws rows hm60 h0 p hp hbad rows.length 1000 0 (by omega) (by omega) (by omega)
    · refine .inl ⟨[], by simp, ?_, ?_⟩
      · unfold norm_Mix
        rw [if_neg (by omega), if_pos (by omega)]
      · unfold ref05_Mix
        rw [if_neg (by omega), show ref05_Mix.L1 1000 ws rows 1000 0 = ref05_Mix.L1 1000 ws rows (999 + 1) 0 from rfl, ref05_Mix.L1, if_neg (by omega), if_pos (by omega)]
  · refine .inr ⟨?_, ?_⟩
    · unfold norm_Mix
      rw [if_pos (by omega)]
    · unfold ref05_Mix
      rw [if_pos (by omega)]
end Go.Proofs.Ytmpdkjcobpghaaa
