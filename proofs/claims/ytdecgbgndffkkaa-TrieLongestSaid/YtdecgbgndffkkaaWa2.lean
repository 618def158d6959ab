/- What layer 1 computes: Sane, is, Bit, Set, tail, Mask, Fill. -/
import Derived.Test.YtdecgbgndffkkaaWa1
import Derived.Test.YtdecgbgndffkkaaEq
set_option linter.unusedVariables false
set_option linter.unusedSimpArgs false
namespace Go.Proofs.Ytdecgbgndffkkaa
open Go.RowKit

def saneB (a : Ad) : Bool := eqAd a.rd a

set_option maxHeartbeats 1000000 in
theorem sane_c (hi lo : BitVec 64) (v6 : Bool) (w : World) : Calls Try.prog 62 #[.agg #[.int .u64 (hi.toNat : Int), .int .u64 (lo.toNat : Int), .bool v6]] w fun e w' =>
    e = .returned (.bool (saneB ⟨hi, lo, v6⟩)) ∧ Gr w w' := by
  go_enter Try.func62, Try.ntmps62
  go_wp2_with fail
  obtain ⟨W, hW, hB, k0⟩ := box1 w #[Value.int IntKind.u64 ↑hi.toNat, Value.int IntKind.u64 ↑lo.toNat, Value.bool v6] 25
  rw [← hW]
  clear hW
  have c0 := kept k0
  go_region_held3 (fun w' => Gr W w') (first | exact (Gr.refl _).drew | exact Gr.trans (by assumption) (by assumption)) (first
    | (go_at_call 117; refine (read_c _ _ _ _).mono ?_; rintro e w1 ⟨rfl, hb1⟩)
    | (go_at_call 119; refine (of_c _ _ _ _).mono ?_; rintro e w1 ⟨rfl, hb1⟩))
  go_wp2
  go_returns
  exact ⟨rfl, hB.trans (by assumption)⟩

def isB (a : Ad) (i : Int) : Bool := decide (0 ≤ i) && decide (i < widthI a.v6)

set_option maxHeartbeats 1000000 in
theorem is_c (hi lo : BitVec 64) (v6 : Bool) (i : Int) (w : World) : Calls Try.prog 172 #[.agg #[.int .u64 (hi.toNat : Int), .int .u64 (lo.toNat : Int), .bool v6], .int .i64 i] w fun e w' =>
    e = .returned (.bool (isB ⟨hi, lo, v6⟩ i)) ∧ Gr w w' := by
  by_cases h : 0 ≤ i
  · have hd : decide (0 ≤ i) = true := by simp [h]
    go_enter Try.func172, Try.ntmps172
    go_wp2_with (go_at_call 93; refine (width_c _ _).mono ?_; rintro e w' ⟨rfl, rfl⟩)
    go_ret
    exact ⟨by simp [isB, hd], ((Gr.refl _).alloc _)⟩
  · have hd : decide (0 ≤ i) = false := by simp; omega
    go_enter Try.func172, Try.ntmps172
    go_wp2_with (go_at_call 93; refine (width_c _ _).mono ?_; rintro e w' ⟨rfl, rfl⟩)
    go_ret
    exact ⟨by simp [isB, hd], ((Gr.refl _).alloc _)⟩

end Go.Proofs.Ytdecgbgndffkkaa
