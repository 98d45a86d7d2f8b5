/- What the law needs. -/
import Derived.Test.YtbfiagimgokccaaGreatMBlockWholea
import Derived.Test.YtbfiagimgokccaaGreatMBlockWholec
import Derived.Test.YtbfiagimgokccaaGreatMBlockWholed
section
namespace Go.Proofs.YtbfiagimgokccaaGreat
open Go Go.RowKit Go.Hp
theorem Ctx_of_below {w w' : World} {l : List HP} (hb : Below w.heap.size w w') (h : Ctx w l) : Ctx w' l := by
  obtain ⟨R, Ss, hc⟩ := h
  refine ⟨R, Ss, All.kept hc.all ⟨hb.os, hb.tape, hb.output, hb.size, fun b hk => ?_⟩ fun _ h => h, hc.nodup, fun b hk => ⟨Nat.lt_of_lt_of_le (hc.own b hk).1 hb.size, (hc.own b hk).2⟩, fun b hk => Nat.lt_of_lt_of_le (hc.fz b hk) hb.size⟩
  rcases hk with hk | hk
  · exact hb.block b (hc.own b hk).1
  · exact hb.block b (hc.fz b hk)
def curve_step (x0 : Int) : Option Int := YtbfiagimgokccaaGreatE.curve_stepf x0
theorem curve_step_any {x0 : Int} {Fr : List HP} {w : World} {r : Int} {K : Value → World → Prop} (hc : Ctx w Fr) (hp : curve_step x0 = some r)
    (k : ∀ w', Ctx w' Fr → K (.int .i64 r) w') : Calls Tryz.prog 127 #[.int .i64 x0] w (Ret K) :=
  (YtbfiagimgokccaaGreatE.curve_step.calls x0 r w hp).mono fun _ w' ⟨he, hb⟩ => ⟨_, he, k w' (Ctx_of_below hb hc)⟩
def rope_step (x0 : Int) : Option Int := YtbfiagimgokccaaGreatE.rope_stepf x0
theorem rope_step_any {x0 : Int} {Fr : List HP} {w : World} {r : Int} {K : Value → World → Prop} (hc : Ctx w Fr) (hp : rope_step x0 = some r)
    (k : ∀ w', Ctx w' Fr → K (.int .i64 r) w') : Calls Tryz.prog 126 #[.int .i64 x0] w (Ret K) :=
  (YtbfiagimgokccaaGreatE.rope_step.calls x0 r w hp).mono fun _ w' ⟨he, hb⟩ => ⟨_, he, k w' (Ctx_of_below hb hc)⟩
def bits_Len64 (x0 : Int) : Option Int := if 0 ≤ x0 ∧ x0 ≤ 18446744073709551615 then some (Lib.bitLen x0.toNat : Int) else none
theorem bits_Len64_any {x0 : Int} {Fr : List HP} {w : World} {r : Int} {K : Value → World → Prop} (hc : Ctx w Fr) (hp : bits_Len64 x0 = some r)
    (k : ∀ w', Ctx w' Fr → K (.int .i64 r) w') : Calls Tryz.prog 124 #[.int .u64 x0] w (Ret K) := by
  unfold bits_Len64 at hp
  by_cases h : 0 ≤ x0 ∧ x0 ≤ 18446744073709551615
  · rw [if_pos h] at hp
    injection hp with hp; subst hp
    exact (YtbfiagimgokccaaGreatE.len64 x0 w h.1 h.2).mono fun _ w' ⟨he, hw⟩ => ⟨_, he, hw ▸ k w hc⟩
  · rw [if_neg h] at hp; cases hp
end Go.Proofs.YtbfiagimgokccaaGreat
end
