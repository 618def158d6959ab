/- What layer 1 computes: tail, Mask, Fill. -/
import Derived.Test.YtdecgbgndffkkaaWa3
set_option linter.unusedVariables false
set_option linter.unusedSimpArgs false
namespace Go.Proofs.Ytdecgbgndffkkaa
open Go.RowKit

theorem widthI_eq (hi lo : BitVec 64) (v6 : Bool) : widthI v6 = ((Ad.mk hi lo v6).w : Int) := by cases v6 <;> rfl
theorem widthI_bd (v6 : Bool) : 0 ≤ widthI v6 ∧ widthI v6 ≤ 128 := by unfold widthI; split <;> omega

/-- the words behind the first n digits -/
def tailB (k : Nat) (v6 : Bool) (n : Int) : BitVec 64 := onesB k (max 0 (min n (widthI v6))).toNat (widthI v6).toNat

set_option maxHeartbeats 1000000 in
theorem tail_c (hi lo : BitVec 64) (v6 : Bool) (n : Int) (w : World) : Calls Try.prog 144 #[.agg #[.int .u64 (hi.toNat : Int), .int .u64 (lo.toNat : Int), .bool v6], .int .i64 n] w fun e w' =>
    e = .returned (.agg #[.int .u64 ((tailB 0 v6 n).toNat : Int), .int .u64 ((tailB 1 v6 n).toNat : Int)]) ∧ Gr w w' := by
  obtain ⟨hw0, hw1⟩ := widthI_bd v6
  go_enter Try.func144, Try.ntmps144
  go_wp2_with fail
  obtain ⟨W, hW, hB, k0, k1⟩ := box2 w #[Value.int IntKind.u64 (hi.toNat : Int), Value.int IntKind.u64 (lo.toNat : Int), Value.bool v6] #[Value.int IntKind.u64 0, Value.int IntKind.u64 0] 25 185
  rw [← hW]
  clear hW
  have c0 := kept k0
  have c1 := kept k1
  have f1 := kept_free k1
  refine (width_c _ _).mono ?_
  rintro e w' ⟨rfl, rfl⟩
  go_wp2_with fail
  refine (ones_c _ _ (by omega) (by omega) (by omega) (by omega) _).mono ?_
  rintro e w1 ⟨rfl, hb1⟩
  go_wp2_with fail
  have c1' := c1 w1 hb1
  refine bodyPost_ret (v := .agg #[.int .u64 ((tailB 0 v6 n).toNat : Int), .int .u64 ((tailB 1 v6 n).toNat : Int)]) (by simp [results, Try.results144, go_sem, c1', tailB]) rfl ⟨rfl, ?_⟩
  exact ((hB.trans hb1).set (by simp) _).set (by simp) _

def maskA (a : Ad) (n : Int) : Ad := a.mask (clampN a.w n)
def fillA (a : Ad) (n : Int) : Ad := a.fill (clampN a.w n)
theorem maskA_v6 (a : Ad) (n : Int) : (maskA a n).v6 = a.v6 := rfl
theorem fillA_v6 (a : Ad) (n : Int) : (fillA a n).v6 = a.v6 := rfl

theorem tailB_eq (hi lo : BitVec 64) (v6 : Bool) (k : Nat) (n : Int) : tailB k v6 n = onesB k (clampN (Ad.mk hi lo v6).w n) (Ad.mk hi lo v6).w := by
  unfold tailB clampN
  rw [widthI_eq hi lo v6]
  simp
theorem mask_hi (hi lo : BitVec 64) (v6 : Bool) (n : Int) : bits BinOp.andNot IntKind.u64 ((Ad.rd ⟨hi, lo, v6⟩).hi.toNat : Int) ((tailB 0 v6 n).toNat : Int) = ((maskA ⟨hi, lo, v6⟩ n).hi.toNat : Int) := by
  rw [u64_andNot_bv, tailB_eq hi lo]; rfl
theorem mask_lo (hi lo : BitVec 64) (v6 : Bool) (n : Int) : bits BinOp.andNot IntKind.u64 ((Ad.rd ⟨hi, lo, v6⟩).lo.toNat : Int) ((tailB 1 v6 n).toNat : Int) = ((maskA ⟨hi, lo, v6⟩ n).lo.toNat : Int) := by
  rw [u64_andNot_bv, tailB_eq hi lo]; rfl
theorem fill_hi (hi lo : BitVec 64) (v6 : Bool) (n : Int) : bits BinOp.or IntKind.u64 ((Ad.rd ⟨hi, lo, v6⟩).hi.toNat : Int) ((tailB 0 v6 n).toNat : Int) = ((fillA ⟨hi, lo, v6⟩ n).hi.toNat : Int) := by
  rw [u64_or_bv, tailB_eq hi lo]; rfl
theorem fill_lo (hi lo : BitVec 64) (v6 : Bool) (n : Int) : bits BinOp.or IntKind.u64 ((Ad.rd ⟨hi, lo, v6⟩).lo.toNat : Int) ((tailB 1 v6 n).toNat : Int) = ((fillA ⟨hi, lo, v6⟩ n).lo.toNat : Int) := by
  rw [u64_or_bv, tailB_eq hi lo]; rfl

set_option maxHeartbeats 2000000 in
theorem mask_c (hi lo : BitVec 64) (v6 : Bool) (n : Int) (w : World) : Calls Try.prog 94 #[.agg #[.int .u64 (hi.toNat : Int), .int .u64 (lo.toNat : Int), .bool v6], .int .i64 n] w fun e w' =>
    e = .returned (.agg #[Value.int IntKind.u64 ((maskA ⟨hi, lo, v6⟩ n).hi.toNat : Int), Value.int IntKind.u64 ((maskA ⟨hi, lo, v6⟩ n).lo.toNat : Int), Value.bool v6]) ∧ Gr w w' := by
  have i0 := index_w0
  have i1 := index_w1
  have r0 := mask_hi hi lo v6 n
  have r1 := mask_lo hi lo v6 n
  go_enter Try.func94, Try.ntmps94
  go_wp2_with fail
  obtain ⟨W, hW, hB, k0, k1⟩ := box2 w #[Value.int IntKind.u64 (hi.toNat : Int), Value.int IntKind.u64 (lo.toNat : Int), Value.bool v6] #[Value.int IntKind.u64 0, Value.int IntKind.u64 0, Value.bool false] 25 25
  rw [← hW]
  clear hW
  have c0 := kept k0
  have c1 := kept k1
  have f1 := kept_free k1
  have z1 := blk_lt k1
  refine (read_c _ _ _ _).mono ?_
  rintro e w1 ⟨rfl, hb1⟩
  go_wp2_with fail
  have gk := blk_new w1 (Obj.cells #[Value.int IntKind.u64 ((Ad.rd ⟨hi, lo, v6⟩).hi.toNat : Int), Value.int IntKind.u64 ((Ad.rd ⟨hi, lo, v6⟩).lo.toNat : Int)] 185)
  have gb := (Gr.refl w1).alloc (Obj.cells #[Value.int IntKind.u64 ((Ad.rd ⟨hi, lo, v6⟩).hi.toNat : Int), Value.int IntKind.u64 ((Ad.rd ⟨hi, lo, v6⟩).lo.toNat : Int)] 185)
  generalize gh : w1.alloc (Obj.cells #[Value.int IntKind.u64 ((Ad.rd ⟨hi, lo, v6⟩).hi.toNat : Int), Value.int IntKind.u64 ((Ad.rd ⟨hi, lo, v6⟩).lo.toNat : Int)] 185) = W1 at gk gb ⊢
  clear gh
  have gc := kept gk
  have gf := kept_free gk
  have gz := blk_lt gk
  have hk1 := hb1.trans gb
  have n1 : w.heap.size ≠ w1.heap.size := by have := hb1.size; omega
  refine (tail_c _ _ _ _ _).mono ?_
  rintro e w2 ⟨rfl, hb2⟩
  have hk2 := hk1.trans hb2
  go_wp2_with fail
  refine wp_loop_rounds 3 ?_
  repeat any_goals (rw [rounds_succ]; go_wp2_with fail)
  refine (of_c _ _ _ _).mono ?_
  rintro e w3 ⟨rfl, hb3⟩
  have hk3 := ((hk2.set hb1.size _).set hb1.size _).trans hb3
  go_wp2_with fail
  have c1' := c1 w3 hk3
  refine bodyPost_ret (v := .agg #[Value.int IntKind.u64 ((maskA ⟨hi, lo, v6⟩ n).hi.toNat : Int), Value.int IntKind.u64 ((maskA ⟨hi, lo, v6⟩ n).lo.toNat : Int), Value.bool v6]) (by simp [results, Try.results94, go_sem, c1']) rfl ⟨rfl, ?_⟩
  exact (((hB.trans hk3).set (by simp) _).set (by simp) _).set (by simp) _

set_option maxHeartbeats 2000000 in
theorem fill_c (hi lo : BitVec 64) (v6 : Bool) (n : Int) (w : World) : Calls Try.prog 112 #[.agg #[.int .u64 (hi.toNat : Int), .int .u64 (lo.toNat : Int), .bool v6], .int .i64 n] w fun e w' =>
    e = .returned (.agg #[Value.int IntKind.u64 ((fillA ⟨hi, lo, v6⟩ n).hi.toNat : Int), Value.int IntKind.u64 ((fillA ⟨hi, lo, v6⟩ n).lo.toNat : Int), Value.bool v6]) ∧ Gr w w' := by
  have i0 := index_w0
  have i1 := index_w1
  have r0 := fill_hi hi lo v6 n
  have r1 := fill_lo hi lo v6 n
  go_enter Try.func112, Try.ntmps112
  go_wp2_with fail
  obtain ⟨W, hW, hB, k0, k1⟩ := box2 w #[Value.int IntKind.u64 (hi.toNat : Int), Value.int IntKind.u64 (lo.toNat : Int), Value.bool v6] #[Value.int IntKind.u64 0, Value.int IntKind.u64 0, Value.bool false] 25 25
  rw [← hW]
  clear hW
  have c0 := kept k0
  have c1 := kept k1
  have f1 := kept_free k1
  have z1 := blk_lt k1
  refine (read_c _ _ _ _).mono ?_
  rintro e w1 ⟨rfl, hb1⟩
  go_wp2_with fail
  have gk := blk_new w1 (Obj.cells #[Value.int IntKind.u64 ((Ad.rd ⟨hi, lo, v6⟩).hi.toNat : Int), Value.int IntKind.u64 ((Ad.rd ⟨hi, lo, v6⟩).lo.toNat : Int)] 185)
  have gb := (Gr.refl w1).alloc (Obj.cells #[Value.int IntKind.u64 ((Ad.rd ⟨hi, lo, v6⟩).hi.toNat : Int), Value.int IntKind.u64 ((Ad.rd ⟨hi, lo, v6⟩).lo.toNat : Int)] 185)
  generalize gh : w1.alloc (Obj.cells #[Value.int IntKind.u64 ((Ad.rd ⟨hi, lo, v6⟩).hi.toNat : Int), Value.int IntKind.u64 ((Ad.rd ⟨hi, lo, v6⟩).lo.toNat : Int)] 185) = W1 at gk gb ⊢
  clear gh
  have gc := kept gk
  have gf := kept_free gk
  have gz := blk_lt gk
  have hk1 := hb1.trans gb
  have n1 : w.heap.size ≠ w1.heap.size := by have := hb1.size; omega
  refine (tail_c _ _ _ _ _).mono ?_
  rintro e w2 ⟨rfl, hb2⟩
  have hk2 := hk1.trans hb2
  go_wp2_with fail
  refine wp_loop_rounds 3 ?_
  repeat any_goals (rw [rounds_succ]; go_wp2_with fail)
  refine (of_c _ _ _ _).mono ?_
  rintro e w3 ⟨rfl, hb3⟩
  have hk3 := ((hk2.set hb1.size _).set hb1.size _).trans hb3
  go_wp2_with fail
  have c1' := c1 w3 hk3
  refine bodyPost_ret (v := .agg #[Value.int IntKind.u64 ((fillA ⟨hi, lo, v6⟩ n).hi.toNat : Int), Value.int IntKind.u64 ((fillA ⟨hi, lo, v6⟩ n).lo.toNat : Int), Value.bool v6]) (by simp [results, Try.results112, go_sem, c1']) rfl ⟨rfl, ?_⟩
  exact (((hB.trans hk3).set (by simp) _).set (by simp) _).set (by simp) _

end Go.Proofs.Ytdecgbgndffkkaa
