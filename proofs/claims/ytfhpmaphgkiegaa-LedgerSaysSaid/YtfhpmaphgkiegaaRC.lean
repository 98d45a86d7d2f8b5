/- The document's turns, and a token's way through: in closed forms. -/
import Derived.Test.YtfhpmaphgkiegaaRB
namespace Go.Proofs.Ytfhpmaphgkiegaa
open Go Go.Hp
set_option linter.unusedVariables false
set_option linter.unusedSimpArgs false
theorem rest_is (x : Int) (hx : -9223372036854775808 ≤ x ∧ x ≤ 9223372036854775807) : ref06_rest x = some (x % 65536) := by
  have a := Int.tmod_lt_of_pos x (show (0 : Int) < 65536 by decide)
  have b := Int.lt_tmod_of_pos x (show (0 : Int) < 65536 by decide)
  have h := Int.tmod_add_mul_tdiv x 65536
  unfold ref06_rest
  by_cases c : Int.tmod x 65536 < 0
  · rw [if_pos c, Option.bind_some, W_in (by omega)]
    congr 1; omega
  · rw [if_neg c]; congr 1; omega
def angS (place pair : Nat) : Int := (place : Int) * (8192 / 2 ^ pair) % 65536
theorem angle_is {N : Nat} (place pair : Nat) (hp : place ≤ 1000) (hq : pair ≤ 13) (hN : 200 < N) : ref06_Angle N (place : Int) (pair : Int) = some (angS place pair) := by
  unfold ref06_Angle
  rw [if_neg (by omega), if_neg (by omega), if_neg (by omega)]
  have hpos : ∀ i, i ≤ 13 → (0 : Int) < 8192 / 2 ^ i ∧ (8192 : Int) / 2 ^ i ≤ 8192 ∧ (8192 : Int) / 2 ^ i / 2 = 8192 / 2 ^ (i + 1) := by decide
  refine loop_c (fun m (s : Int) i => ref06_Angle.L1 (place : Int) (pair : Int) m s i) (fun i => 8192 / 2 ^ i) pair _ (fun m i hi => ?_) (fun m => ?_) N (by omega)
  · show ref06_Angle.L1 _ _ (m + 1) _ (i : Int) = ref06_Angle.L1 _ _ m _ _
    obtain ⟨h1, h2, h3⟩ := hpos i (by omega)
    rw [ref06_Angle.L1, if_pos (by omega), decide_eq_true h1, ref06_Angle.J2, if_pos rfl, Int.tdiv_eq_ediv_of_nonneg (by omega), W_in (by omega), Option.bind_some, W_succ i (by omega), h3]
  · show ref06_Angle.L1 _ _ (m + 1) _ (pair : Int) = _
    obtain ⟨h1, h2, h3⟩ := hpos pair hq
    have hm : (place : Int) * (8192 / 2 ^ pair) ≤ 1000 * 8192 := by
      refine Int.le_trans (Int.mul_le_mul_of_nonneg_right (show (place : Int) ≤ 1000 by omega) (by omega)) ?_
      exact Int.mul_le_mul_of_nonneg_left h2 (by decide)
    have hm0 : 0 ≤ (place : Int) * (8192 / 2 ^ pair) := Int.mul_nonneg (by omega) (by omega)
    rw [ref06_Angle.L1, if_neg (by omega), ref06_Angle.J2, if_neg (by decide), W_in (by omega), rest_is _ (by omega), Option.bind_some]
    rfl
def sinT : List Int := (0 :: 804 :: 1606 :: 2404 :: 3196 :: 3981 :: 4756 :: 5520 :: 6270 :: 7005 :: 7723 :: 8423 :: 9102 :: 9760 :: 10394 :: 11003 :: 11585 :: 12140 :: 12665 :: 13160 :: 13623 :: 14053 :: 14449 :: 14811 :: 15137 :: 15426 :: 15679 :: 15893 :: 16069 :: 16207 :: 16305 :: 16364 :: 16384 :: [])
theorem S_is (i : Nat) (h : i < 33) : ref06_S (i : Int) = some (sinT.getD i 0) := by
  unfold ref06_S
  exact (congrArg (fun o => Option.bind o _) (idx_d sinT 0 (show i < sinT.length from h))).trans rfl
/-- Of a part of a quarter. -/
def arcS (f : Int) : Int := if f / 512 < 32 then IntKind.i64.wrap (sinT.getD (f / 512).toNat 0 + sh (IntKind.i64.wrap (IntKind.i64.wrap (sinT.getD ((f / 512).toNat + 1) 0 - sinT.getD (f / 512).toNat 0) * (f % 512))) 9) else sinT.getD 32 0
def sinS (a : Int) : Int :=
  let r := a % 65536; let q := r / 16384; let f := if q = 1 ∨ q = 3 then 16384 - r % 16384 else r % 16384
  if q = 2 ∨ q = 3 then IntKind.i32.wrap (IntKind.i64.wrap (0 - arcS f)) else IntKind.i32.wrap (arcS f)
theorem sin_is {N : Nat} (hN : 200 < N) (a : Int) (ha : -9223372036854775808 ≤ a ∧ a ≤ 9223372036854775807) : ref06_Sin N a = some (sinS a) := by
  have hr : 0 ≤ a % 65536 ∧ a % 65536 < 65536 := by omega
  unfold ref06_Sin sinS
  rw [rest_is a ha, Option.bind_some]
  generalize a % 65536 = r at hr ⊢
  dsimp only
  have eq : IntKind.i64.wrap (Int.tdiv r 16384) = r / 16384 := by rw [Int.tdiv_eq_ediv_of_nonneg hr.1, W_in (by omega)]
  have em : Int.tmod r 16384 = r % 16384 := Int.tmod_eq_emod_of_nonneg hr.1
  have hq : 0 ≤ r / 16384 ∧ r / 16384 ≤ 3 := by omega
  rw [eq, Option.bind_some]
  generalize r / 16384 = q at hq ⊢
  have j1 : ∀ f : Int, 0 ≤ f → f ≤ 16384 → ref06_Sin.J1 N q f = some (if q = 2 ∨ q = 3 then IntKind.i32.wrap (IntKind.i64.wrap (0 - arcS f)) else IntKind.i32.wrap (arcS f)) := by
    intro f h0 h1
    have j3 : ∀ z : Int, ref06_Sin.J3 q z = some (if q = 2 ∨ q = 3 then IntKind.i32.wrap (IntKind.i64.wrap (0 - z)) else IntKind.i32.wrap z) := by
      intro z
      unfold ref06_Sin.J3
      by_cases c2 : q = 2
      · rw [if_pos c2, ref06_Sin.J4, if_pos rfl, if_pos (.inl c2)]; rfl
      · rw [if_neg c2]
        by_cases c3 : q = 3
        · rw [decide_eq_true c3, ref06_Sin.J4, if_pos rfl, if_pos (.inr c3)]; rfl
        · rw [decide_eq_false c3, ref06_Sin.J4, if_neg (by decide), if_neg (by omega)]
    obtain ⟨i, hi⟩ := Int.eq_ofNat_of_zero_le (show 0 ≤ f / 512 by omega)
    have hi2 : i ≤ 32 := by omega
    have e11 : IntKind.i64.wrap (Int.tdiv f 512) = (i : Int) := by rw [Int.tdiv_eq_ediv_of_nonneg h0, hi, W_in (by omega)]
    unfold ref06_Sin.J1
    rw [e11, Option.bind_some, S_is i (by omega), Option.bind_some]
    unfold arcS
    by_cases c : f / 512 < 32
    · rw [if_pos (show (i : Int) < 32 by omega), W_succ i (by omega), S_is (i + 1) (by omega), Option.bind_some, Option.bind_some, refshift_is (by omega) _ _ (W_range _), Option.bind_some, j3, if_pos c, hi, Int.toNat_natCast, Int.tmod_eq_emod_of_nonneg h0]
      rfl
    · obtain rfl : i = 32 := by omega
      rw [if_neg (by decide), j3, if_neg c]
  by_cases c1 : q = 1
  · rw [if_pos c1, ref06_Sin.J2, if_pos rfl, em, W_in (by omega), Option.bind_some, j1 _ (by omega) (by omega), if_pos (show q = 1 ∨ q = 3 from .inl c1)]
  · rw [if_neg c1]
    by_cases c3 : q = 3
    · rw [decide_eq_true c3, ref06_Sin.J2, if_pos rfl, em, W_in (by omega), Option.bind_some, j1 _ (by omega) (by omega), if_pos (show q = 1 ∨ q = 3 from .inr c3)]
    · rw [decide_eq_false c3, ref06_Sin.J2, if_neg (by decide), em, j1 _ (by omega) (by omega), if_neg (show ¬ (q = 1 ∨ q = 3) by omega)]
def cosS (a : Int) : Int := sinS (a % 65536 + 16384)
theorem cos_is {N : Nat} (hN : 200 < N) (a : Int) (ha : -9223372036854775808 ≤ a ∧ a ≤ 9223372036854775807) : ref06_Cos N a = some (cosS a) := by
  unfold ref06_Cos cosS
  rw [rest_is a ha, Option.bind_some, W_in (by omega), sin_is hN _ (by omega), Option.bind_some]
/-- A row of pairs, turned at a place. -/
def turnA (place : Nat) (x : List Int) (i : Nat) : Int := IntKind.i8.wrap (min (max (sh (IntKind.i64.wrap (IntKind.i64.wrap (IntKind.i64.wrap (x.getD (2 * i) 0) * IntKind.i64.wrap (cosS (angS place i))) - IntKind.i64.wrap (IntKind.i64.wrap (x.getD (2 * i + 1) 0) * IntKind.i64.wrap (sinS (angS place i))))) 14) (-128)) 127)
def turnB (place : Nat) (x : List Int) (i : Nat) : Int := IntKind.i8.wrap (min (max (sh (IntKind.i64.wrap (IntKind.i64.wrap (IntKind.i64.wrap (x.getD (2 * i) 0) * IntKind.i64.wrap (sinS (angS place i))) + IntKind.i64.wrap (IntKind.i64.wrap (x.getD (2 * i + 1) 0) * IntKind.i64.wrap (cosS (angS place i))))) 14) (-128)) 127)
def turnS (place : Nat) (x : List Int) : List Int := tabl (2 * (x.length / 2)) fun k => if k % 2 = 0 then turnA place x (k / 2) else turnB place x (k / 2)
theorem turn_is {N : Nat} (hN : 200 < N) (place : Nat) (hp : place ≤ 1000) (x : List Int) (hx : x.length ≤ 26) : ref06_Turn N (place : Int) x = some (turnS place x) := by
  unfold ref06_Turn
  obtain ⟨m', s', hs, e⟩ := loop_to (fun m (s : List Int) i => ref06_Turn.L1 N (place : Int) x m s i) (fun i => ((2 * i : Nat) : Int)) (x.length / 2) (fun i s => s = tabl (2 * i) fun k => if k % 2 = 0 then turnA place x (k / 2) else turnB place x (k / 2)) (fun m i s hi hs => by
    refine ⟨_, rfl, ?_⟩
    subst hs
    have ha : 0 ≤ angS place i ∧ angS place i < 65536 := by unfold angS; omega
    have e1 : IntKind.i64.wrap (((2 * i : Nat) : Int) + 1) = ((2 * i + 1 : Nat) : Int) := W_succ _ (by omega)
    have e2 : IntKind.i64.wrap (((2 * i : Nat) : Int) + 2) = ((2 * (i + 1) : Nat) : Int) := by rw [W_in (by omega)]; omega
    have e3 : IntKind.i64.wrap (Int.tdiv ((2 * i : Nat) : Int) 2) = (i : Int) := by rw [Int.tdiv_eq_ediv_of_nonneg (by omega), W_in (by omega)]; omega
    show ref06_Turn.L1 N _ x (m + 1) _ ((2 * i : Nat) : Int) = ref06_Turn.L1 N _ x m _ _
    rw [ref06_Turn.L1, e1, if_pos (by omega), e3, angle_is place i hp (by omega) hN, Option.bind_some, cos_is hN _ (by omega), Option.bind_some, sin_is hN _ (by omega), Option.bind_some, idx_d x 0 (by omega), Option.bind_some, idx_d x 0 (by omega), Option.bind_some,
      refshift_is (by omega) _ _ (W_range _), Option.bind_some, near_is _ _ _ (by decide), Option.bind_some, app_ok _ _ (by rw [tabl_len]; simp only [List.length_cons, List.length_nil]; omega), Option.bind_some, refshift_is (by omega) _ _ (W_range _), Option.bind_some, near_is _ _ _ (by decide), Option.bind_some, app_ok _ _ (by rw [List.length_append, tabl_len]; simp only [List.length_cons, List.length_nil]; omega), Option.bind_some, e2]
    congr 1
    rw [show 2 * (i + 1) = 2 * i + 1 + 1 by omega, tabl_succ, tabl_succ, if_pos (by omega), if_neg (by omega), show 2 * i / 2 = i by omega, show (2 * i + 1) / 2 = i by omega]
    rfl) N [] (by omega) rfl
  subst hs
  refine Eq.trans e ?_
  show ref06_Turn.L1 N _ x (m' + 1) _ ((2 * (x.length / 2) : Nat) : Int) = _
  rw [ref06_Turn.L1, W_succ _ (by omega), if_neg (by omega)]
  rfl
theorem turnS_len (place : Nat) (x : List Int) : (turnS place x).length = 2 * (x.length / 2) := tabl_len _ _
/-- A part of a row. -/
def part (x : List Int) (w h : Nat) : List Int := (x.take ((h + 1) * w)).drop (h * w)
theorem part_len (x : List Int) (w h k : Nat) (hx : x.length = k * w) (hh : h < k) : (part x w h).length = w := by
  have : (h + 1) * w ≤ k * w := Nat.mul_le_mul_right w (by omega)
  unfold part
  rw [List.length_drop, List.length_take, Nat.min_eq_left (by omega), Nat.succ_mul]
  omega
def turnedS (place w : Nat) (x : List Int) : Nat → List Int
  | 0 => []
  | k + 1 => turnedS place w x k ++ turnS place (part x w k)
theorem turnedS_len (place w : Nat) (x : List Int) (n : Nat) (hx : x.length = n * w) (hw : w % 2 = 0) : ∀ k, k ≤ n → (turnedS place w x k).length = k * w
  | 0, _ => by simp [turnedS]
  | k + 1, hk => by
    rw [turnedS, List.length_append, turnedS_len place w x n hx hw k (by omega), turnS_len, part_len x w k n hx (by omega)]
    have : (k + 1) * w = k * w + w := Nat.succ_mul k w
    have : 2 * (w / 2) = w := by omega
    omega
theorem turned_is {N : Nat} (hN : 200 < N) (place w n : Nat) (hp : place ≤ 1000) (x : List Int) (hx : x.length = n * w) (hn : n ≤ 150) (hw : 0 < w) (hw2 : w % 2 = 0) (hw3 : w ≤ 26) : ref08_turned N (place : Int) (w : Int) x = some (turnedS place w x n) := by
  unfold ref08_turned
  have hnw : ∀ i, i ≤ n → i * w ≤ n * w := fun i hi => Nat.mul_le_mul_right w hi
  have hb : n * w ≤ 150 * 26 := Nat.mul_le_mul hn hw3
  obtain ⟨m', s', hs, e⟩ := loop_to (fun m (s : List Int) i => ref08_turned.L1 N (place : Int) (w : Int) x m s i) (fun i => ((i * w : Nat) : Int)) n (fun i s => s = turnedS place w x i) (fun m i s hi hs => by
    refine ⟨_, rfl, ?_⟩
    subst hs
    have h1 := hnw (i + 1) (by omega)
    have h2 : (i + 1) * w = i * w + w := Nat.succ_mul i w
    have e1 : IntKind.i64.wrap (((i * w : Nat) : Int) + (w : Int)) = (((i + 1) * w : Nat) : Int) := by rw [W_in (by omega)]; omega
    have hpl := part_len x w i n hx hi
    show ref08_turned.L1 N _ _ x (m + 1) _ ((i * w : Nat) : Int) = ref08_turned.L1 N _ _ x m _ _
    rw [ref08_turned.L1, if_pos (by omega), e1, chk_ok _ (by omega), Int.toNat_natCast, Int.toNat_natCast]
    have ht := turn_is hN place hp (part x w i) (by omega)
    rw [show (x.take ((i + 1) * w)).drop (i * w) = part x w i from rfl, ht, Option.bind_some, app_ok _ _ (by rw [turnedS_len place w x n hx hw2 i (by omega), turnS_len]; omega), Option.bind_some]
    rfl) N [] (by omega) rfl
  subst hs
  have e0 : ((0 * w : Nat) : Int) = 0 := by simp
  rw [show ref08_turned.L1 N (place : Int) (w : Int) x N [] 0 = ref08_turned.L1 N (place : Int) (w : Int) x N [] ((0 * w : Nat) : Int) by rw [e0]]
  refine Eq.trans e ?_
  show ref08_turned.L1 N _ _ x (m' + 1) _ ((n * w : Nat) : Int) = _
  rw [ref08_turned.L1, if_neg (by omega)]
end Go.Proofs.Ytfhpmaphgkiegaa
