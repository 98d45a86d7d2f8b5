/- Plain facts on a shift to the nearest, and on powers by a table. -/
import Derived.Test.YtmpdkjcobpghaaaEPlain
namespace Go.Proofs.YtmpdkjcobpghaaaPlain
open Go.RowKit Go.Proofs.YtmpdkjcobpghaaaW.PrintWords Go.Proofs.YtmpdkjcobpghaaaW.PrintMore

/-- A shift down, to the nearest, of two the even one. -/
def sh (x : Int) (n : Nat) : Int := if x % 2 ^ n > 2 ^ n / 2 then x / 2 ^ n + 1 else if x % 2 ^ n = 2 ^ n / 2 then (if 0 < n then (if x / 2 ^ n % 2 = 1 then x / 2 ^ n + 1 else x / 2 ^ n) else x / 2 ^ n) else x / 2 ^ n

theorem pow_pos' (n : Nat) : (0 : Int) < 2 ^ n := by
  have : 0 < 2 ^ n := Nat.two_pow_pos n
  exact_mod_cast this
theorem sh_ge (x : Int) (n : Nat) : x / 2 ^ n ≤ sh x n := by
  unfold sh
  split
  · omega
  · split
    · split
      · split <;> omega
      · omega
    · omega
theorem sh_le (x : Int) (n : Nat) : sh x n ≤ x / 2 ^ n + 1 := by
  unfold sh
  split
  · omega
  · split
    · split
      · split <;> omega
      · omega
    · omega
theorem sh_mono {x y : Int} (h : x ≤ y) (n : Nat) : sh x n ≤ sh y n := by
  have hp := pow_pos' n
  have hd : x / 2 ^ n ≤ y / 2 ^ n := Int.ediv_le_ediv hp h
  rcases Int.lt_or_eq_of_le hd with hlt | heq
  · have := sh_le x n
    have := sh_ge y n
    omega
  · have ex := Int.emod_add_mul_ediv x (2 ^ n)
    have ey := Int.emod_add_mul_ediv y (2 ^ n)
    rw [← heq] at ey
    have hr : x % 2 ^ n ≤ y % 2 ^ n := by
      generalize 2 ^ n * (x / 2 ^ n) = A at *
      omega
    unfold sh
    rw [← heq]
    generalize x / 2 ^ n = d at *
    generalize x % 2 ^ n = r at *
    generalize y % 2 ^ n = s at *
    generalize (2 : Int) ^ n / 2 = h at *
    repeat' split
    all_goals omega
theorem sh_mul (x : Int) (n : Nat) : sh (x * 2 ^ n) n = x := by
  have hp := pow_pos' n
  have h1 : x * 2 ^ n % 2 ^ n = 0 := Int.mul_emod_left _ _
  have h2 : x * 2 ^ n / 2 ^ n = x := Int.mul_ediv_cancel _ (by omega)
  unfold sh
  rw [h1, h2]
  rw [if_neg (by omega)]
  split
  · rename_i h
    cases n with
    | zero => rfl
    | succ n =>
      exfalso
      have e : (2 : Int) ^ (n + 1) = 2 ^ n * 2 := Int.pow_succ 2 n
      have := pow_pos' n
      rw [e] at h
      omega
  · rfl
theorem sh_zero (n : Nat) : sh 0 n = 0 := by have := sh_mul 0 n; rwa [Int.zero_mul] at this
theorem sh_nonneg {x : Int} (h : 0 ≤ x) (n : Nat) : 0 ≤ sh x n := by have := sh_mono h n; rwa [sh_zero] at this
theorem sh_self {x : Int} (h : 0 ≤ x) (n : Nat) : sh x n ≤ x := by
  have hp := pow_pos' n
  have := sh_mul x n
  have hm : x ≤ x * 2 ^ n := by
    have h1 : x * 1 ≤ x * 2 ^ n := Int.mul_le_mul_of_nonneg_left (by omega) h
    omega
  have := sh_mono hm n
  omega
theorem sh_low {x : Int} (h : -9223372036854775808 ≤ x ∧ x < 9223372036854775808) (n : Nat) : -9223372036854775808 ≤ sh x n ∧ sh x n < 9223372036854775808 := by
  rcases Int.le_total 0 x with h0 | h0
  · have := sh_nonneg h0 n
    have := sh_self h0 n
    omega
  · have hp := pow_pos' n
    have h1 := sh_mono h0 n
    rw [sh_zero] at h1
    have h2 := sh_ge x n
    have hm : x * 2 ^ n ≤ x * 1 := Int.mul_le_mul_of_nonpos_left h0 (by omega)
    have h3 := Int.ediv_le_ediv hp (show x * 2 ^ n ≤ x by omega)
    rw [Int.mul_ediv_cancel _ (by omega)] at h3
    omega

theorem and_any (k : IntKind) (hk : k = .i64 ∨ k = .u64) (i : Nat) (hi : i < 63) (x : Int) : Go.bits .and k x (2 ^ i - 1) = x % 2 ^ i := by
  have hb : k.bits = 64 := by rcases hk with rfl | rfl <;> rfl
  have hpos : 0 < 2 ^ i := Nat.two_pow_pos i
  have hlt : 2 ^ i ≤ 2 ^ 62 := Nat.pow_le_pow_right (by decide) (by omega)
  have hc : ((2 : Int) ^ i - 1) = ((2 ^ i - 1 : Nat) : Int) := by
    rw [Int.natCast_sub hpos]; simp
  have hnn : 0 ≤ x % 18446744073709551616 := Int.emod_nonneg _ (by decide)
  obtain ⟨a, ha⟩ := Int.eq_ofNat_of_zero_le hnn
  have hal : a < 18446744073709551616 := by omega
  have e1 : (BitVec.ofInt 64 x).toNat = a := by
    rw [BitVec.toNat_ofInt]
    show (x % ((2 ^ 64 : Nat) : Int)).toNat = a
    have : ((2 ^ 64 : Nat) : Int) = 18446744073709551616 := by decide
    rw [this, ha]
    rfl
  have e2 : (BitVec.ofInt 64 (((2 ^ i - 1 : Nat) : Int))).toNat = 2 ^ i - 1 := by
    rw [BitVec.ofInt_natCast, BitVec.toNat_ofNat]
    exact Nat.mod_eq_of_lt (by omega)
  have hdvd : (2 : Int) ^ i ∣ 18446744073709551616 := by
    refine ⟨2 ^ (64 - i), ?_⟩
    rw [← Int.pow_add, show i + (64 - i) = 64 by omega]
    decide
  have hmm : x % 2 ^ i = ((a % 2 ^ i : Nat) : Int) := by
    rw [← Int.emod_emod_of_dvd x hdvd, ha]
    simp
  have hml : a % 2 ^ i < 2 ^ i := Nat.mod_lt _ hpos
  rw [hc, hmm]
  have hw : ∀ z : Nat, z < 2 ^ 62 → k.wrap (z : Int) = (z : Int) := by
    intro z hz
    rcases hk with rfl | rfl
    · rw [IntKind.wrap_i64]; omega
    · rw [IntKind.wrap_u64]; omega
  have e3 : (BitVec.ofInt 64 x &&& BitVec.ofInt 64 (((2 ^ i - 1 : Nat) : Int))).toNat = a % 2 ^ i := by rw [BitVec.toNat_and, e1, e2, Nat.and_two_pow_sub_one_eq_mod]
  have e4 : Go.bits .and k x (((2 ^ i - 1 : Nat) : Int)) = k.wrap ((BitVec.ofInt 64 x &&& BitVec.ofInt 64 (((2 ^ i - 1 : Nat) : Int))).toNat : Int) := by rcases hk with rfl | rfl <;> rfl
  rw [e4, e3]
  exact hw _ (by omega)

/-- Powers by the table. -/
def tbl : List Int := [65536, 64132, 62757, 61413, 60097, 58809, 57549, 56316, 55109, 53928, 52773, 51642, 50535, 49452, 48393, 47356, 46341, 45348, 44376, 43425, 42495, 41584, 40693, 39821, 38968, 38133, 37316, 36516, 35734, 34968, 34219, 33486, 32768]
def tb (i : Nat) : Int := tbl.getD i 0
theorem tb_range (i : Nat) (h : i < 33) : 32768 ≤ tb i ∧ tb i ≤ 65536 := by
  have k : ∀ i : Fin 33, 32768 ≤ tb i.val ∧ tb i.val ≤ 65536 := by decide +kernel
  exact k ⟨i, h⟩
theorem tb_falls (i j : Nat) (hij : i ≤ j) (h : j < 33) : tb j ≤ tb i := by
  have k : ∀ i j : Fin 33, i.val ≤ j.val → tb j.val ≤ tb i.val := by decide +kernel
  exact k ⟨i, by omega⟩ ⟨j, h⟩ hij
/-- What is left of one, f 65536ths of a halving on. -/
def vf (f : Nat) : Int := tb (f / 2048) - sh ((tb (f / 2048) - tb (f / 2048 + 1)) * ((f % 2048 : Nat) : Int)) 11
theorem vf_bounds (f : Nat) (h : f < 65536) : tb (f / 2048 + 1) ≤ vf f ∧ vf f ≤ tb (f / 2048) := by
  have hd := tb_falls (f / 2048) (f / 2048 + 1) (by omega) (by omega)
  unfold vf
  generalize hD : tb (f / 2048) - tb (f / 2048 + 1) = D at *
  have h0 : 0 ≤ D := by omega
  have e11 : (2 : Int) ^ 11 = 2048 := by decide
  have h1 : 0 ≤ D * ((f % 2048 : Nat) : Int) := Int.mul_nonneg h0 (by omega)
  have h2 : D * ((f % 2048 : Nat) : Int) ≤ D * 2 ^ 11 := Int.mul_le_mul_of_nonneg_left (by rw [e11]; omega) h0
  have h3 := sh_mono h2 11
  rw [sh_mul] at h3
  have h4 := sh_nonneg h1 11
  omega
theorem vf_range (f : Nat) (h : f < 65536) : 32768 ≤ vf f ∧ vf f ≤ 65536 := by
  have := vf_bounds f h
  have := tb_range (f / 2048) (by omega)
  have := tb_range (f / 2048 + 1) (by omega)
  omega
theorem vf_falls (f g : Nat) (hfg : f ≤ g) (h : g < 65536) : vf g ≤ vf f := by
  rcases Nat.lt_or_eq_of_le (Nat.div_le_div_right (c := 2048) hfg) with hlt | heq
  · have h1 := (vf_bounds f (by omega)).1
    have h2 := (vf_bounds g h).2
    have h3 := tb_falls (f / 2048 + 1) (g / 2048) (by omega) (by omega)
    omega
  · have hd := tb_falls (f / 2048) (f / 2048 + 1) (by omega) (by omega)
    unfold vf
    rw [← heq]
    have h1 : (tb (f / 2048) - tb (f / 2048 + 1)) * ((f % 2048 : Nat) : Int) ≤ (tb (f / 2048) - tb (f / 2048 + 1)) * ((g % 2048 : Nat) : Int) := Int.mul_le_mul_of_nonneg_left (by omega) (by omega)
    have := sh_mono h1 11
    omega
/-- A power of a half: t in 65536ths. -/
def pw (t : Nat) : Int := if t / 65536 > 31 then 0 else sh (vf (t % 65536)) (t / 65536)
theorem pw_range (t : Nat) : 0 ≤ pw t ∧ pw t ≤ 65536 := by
  unfold pw
  split
  · omega
  · have h := vf_range (t % 65536) (Nat.mod_lt _ (by decide))
    have h1 := sh_nonneg (x := vf (t % 65536)) (by omega) (t / 65536)
    have h2 := sh_self (x := vf (t % 65536)) (by omega) (t / 65536)
    omega
theorem sh_tops : ∀ a b : Fin 32, a.val < b.val → sh 65536 b.val ≤ sh 32768 a.val := by decide +kernel
theorem pw_falls (s t : Nat) (h : s ≤ t) : pw t ≤ pw s := by
  by_cases ht : t / 65536 > 31
  · have := (pw_range s).1
    have e : pw t = 0 := by unfold pw; rw [if_pos ht]
    omega
  · have hs : ¬ s / 65536 > 31 := by have := Nat.div_le_div_right (c := 65536) h; omega
    unfold pw
    rw [if_neg ht, if_neg hs]
    rcases Nat.lt_or_eq_of_le (Nat.div_le_div_right (c := 65536) h) with hlt | heq
    · have h1 := vf_range (t % 65536) (Nat.mod_lt _ (by decide))
      have h2 := vf_range (s % 65536) (Nat.mod_lt _ (by decide))
      have h3 := sh_mono h1.2 (t / 65536)
      have h4 := sh_mono h2.1 (s / 65536)
      have h5 := sh_tops ⟨s / 65536, by omega⟩ ⟨t / 65536, by omega⟩ hlt
      simp only at h5
      omega
    · rw [← heq]
      exact sh_mono (vf_falls _ _ (by omega) (Nat.mod_lt _ (by decide))) _
/-- e to a power that isn't above 0, in 65536ths. -/
def ep (x : Int) : Int := if 0 ≤ x then 65536 else pw ((-x * 94548 / 65536).toNat)
theorem ep_range (x : Int) : 0 ≤ ep x ∧ ep x ≤ 65536 := by
  unfold ep
  split
  · omega
  · exact pw_range _
theorem ep_rises {x y : Int} (h : x ≤ y) : ep x ≤ ep y := by
  by_cases hy : 0 ≤ y
  · have := (ep_range x).2
    have e : ep y = 65536 := by unfold ep; rw [if_pos hy]
    omega
  · unfold ep
    rw [if_neg hy, if_neg (by omega)]
    refine pw_falls _ _ (Int.toNat_le_toNat (Int.ediv_le_ediv (by decide) (by omega)))
end Go.Proofs.YtmpdkjcobpghaaaPlain
