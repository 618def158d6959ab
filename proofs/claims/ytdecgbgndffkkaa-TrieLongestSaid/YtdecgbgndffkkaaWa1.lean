/- What layer 1's words compute: Width, high, ones, read, of. -/
import Derived.Test.YtdecgbgndffkkaaB
set_option linter.unusedVariables false
set_option linter.unusedSimpArgs false
namespace Go.Proofs.Ytdecgbgndffkkaa
open Go.RowKit

def widthI (v6 : Bool) : Int := if v6 then 128 else 32

theorem width_c (v6 : Bool) (w : World) : Calls Try.prog 93 #[.bool v6] w fun e w' => e = .returned (.int .i64 (widthI v6)) ∧ w = w' := by
  cases v6
  · go_enter Try.func93, Try.ntmps93
    go_wp2
    go_ret
    exact ⟨rfl, rfl⟩
  · go_enter Try.func93, Try.ntmps93
    go_wp2
    go_ret
    exact ⟨rfl, rfl⟩

theorem high_c (n : Int) (h0 : 0 ≤ n) (h1 : n ≤ 64) (w : World) : Calls Try.prog 183 #[.int .i64 n] w fun e w' => e = .returned (.int .u64 ((highB n.toNat).toNat : Int)) ∧ w = w' := by
  by_cases hz : n = 0
  · have hb : (n == 0) = true := by simp [hz]
    go_enter Try.func183, Try.ntmps183
    go_wp2
    go_ret
    refine ⟨?_, rfl⟩
    subst hz
    have e : (highB (0 : Int).toNat).toNat = 0 := by decide
    rw [e]; rfl
  · have hb : (n == 0) = false := by simp [hz]
    go_enter Try.func183, Try.ntmps183
    go_wp2
    go_ret
    refine ⟨?_, rfl⟩
    rw [← high_eq]
    have e : (64 - n).toNat = 64 - n.toNat := by omega
    show Ending.returned (Value.int IntKind.u64 (IntKind.u64.wrap (18446744073709551615 * 2 ^ (64 - n).toNat))) = _
    rw [e]

theorem of_c (x y : BitVec 64) (v6 : Bool) (w : World) : Calls Try.prog 119 #[.agg #[.int .u64 (x.toNat : Int), .int .u64 (y.toNat : Int)], .bool v6] w fun e w' =>
    e = .returned (.agg #[.int .u64 (x.toNat : Int), .int .u64 (y.toNat : Int), .bool v6]) ∧ Gr w w' := by
  go_enter Try.func119, Try.ntmps119
  go_wp2
  refine bodyPost_ret (v := .agg #[.int .u64 (x.toNat : Int), .int .u64 (y.toNat : Int), .bool v6]) (by simp [results, Try.results119, go_sem]) rfl ⟨rfl, ?_⟩
  exact ((Gr.refl _).alloc _).alloc _

theorem ones_fin (k f t p q : Nat) (hp : p = min (t - 64 * k) 64) (hq : q = min (f - 64 * k) 64) :
    bits BinOp.andNot IntKind.u64 ((highB p).toNat : Int) ((highB q).toNat : Int) = ((onesB k f t).toNat : Int) := by
  rw [u64_andNot_bv]
  unfold onesB
  rw [hp, hq]

set_option maxHeartbeats 1000000 in
theorem ones_c (f t : Int) (hf0 : 0 ≤ f) (hf1 : f ≤ 128) (ht0 : 0 ≤ t) (ht1 : t ≤ 128) (w : World) : Calls Try.prog 159 #[.int .i64 f, .int .i64 t] w fun e w' =>
    e = .returned (.agg #[.int .u64 ((onesB 0 f.toNat t.toNat).toNat : Int), .int .u64 ((onesB 1 f.toNat t.toNat).toNat : Int)]) ∧ Gr w w' := by
  go_enter Try.func159, Try.ntmps159
  go_wp2
  refine wp_loop_rounds 3 ?_
  repeat any_goals (rw [rounds_succ]; go_wp2_with (go_at_call 183; refine (high_c _ (by omega) (by omega) _).mono ?_; rintro e w' ⟨rfl, rfl⟩))
  all_goals go_returns
  all_goals refine ⟨?_, ((Gr.refl _).alloc _).alloc _⟩
  all_goals (rw [ones_fin 0 f.toNat t.toNat]; rw [ones_fin 1 f.toNat t.toNat])
  all_goals omega

theorem rd_hi (hi lo : BitVec 64) (v6 : Bool) : bits BinOp.and IntKind.u64 (hi.toNat : Int) ((onesB 0 0 (widthI v6).toNat).toNat : Int) = ((Ad.rd ⟨hi, lo, v6⟩).hi.toNat : Int) := by
  rw [u64_and_bv]
  cases v6 <;> (unfold Ad.rd Ad.w widthI; simp)
theorem rd_lo (hi lo : BitVec 64) (v6 : Bool) : bits BinOp.and IntKind.u64 (lo.toNat : Int) ((onesB 1 0 (widthI v6).toNat).toNat : Int) = ((Ad.rd ⟨hi, lo, v6⟩).lo.toNat : Int) := by
  rw [u64_and_bv]
  cases v6 <;> (unfold Ad.rd Ad.w widthI; simp)

theorem index_w0 (x y : Value) (w : World) : (Instr.index 185 (.agg #[x, y]) (.int .i64 0)).run Try.prog w = .ok x w := by kernel_rfl
theorem index_w1 (x y : Value) (w : World) : (Instr.index 185 (.agg #[x, y]) (.int .i64 1)).run Try.prog w = .ok y w := by kernel_rfl

set_option maxHeartbeats 1000000 in
theorem read_c (hi lo : BitVec 64) (v6 : Bool) (w : World) : Calls Try.prog 117 #[.agg #[.int .u64 (hi.toNat : Int), .int .u64 (lo.toNat : Int), .bool v6]] w fun e w' =>
    e = .returned (.agg #[.int .u64 ((Ad.rd ⟨hi, lo, v6⟩).hi.toNat : Int), .int .u64 ((Ad.rd ⟨hi, lo, v6⟩).lo.toNat : Int)]) ∧ Gr w w' := by
  have hw : 0 ≤ widthI v6 ∧ widthI v6 ≤ 128 := by unfold widthI; split <;> omega
  obtain ⟨hw0, hw1⟩ := hw
  have i0 := index_w0
  have i1 := index_w1
  go_enter Try.func117, Try.ntmps117
  go_wp2_with fail
  refine (width_c _ _).mono ?_
  rintro e w' ⟨rfl, rfl⟩
  go_wp2_with fail
  obtain ⟨W, hW, hB, k0, k1, k2⟩ := box3 w #[Value.int IntKind.u64 ↑hi.toNat, Value.int IntKind.u64 ↑lo.toNat, Value.bool v6] #[Value.int IntKind.u64 0, Value.int IntKind.u64 0] #[Value.int IntKind.u64 ↑hi.toNat, Value.int IntKind.u64 ↑lo.toNat] 25 185 185
  rw [← hW]
  clear hW
  have c1 := kept k1
  have c2 := kept k2
  have f1 := kept_free k1
  have f2 := kept_free k2
  refine (ones_c _ _ (by omega) (by omega) (by omega) (by omega) _).mono ?_
  rintro e w1 ⟨rfl, hb⟩
  go_wp2_with fail
  refine wp_loop_rounds 3 ?_
  repeat any_goals (rw [rounds_succ]; go_wp2)
  have c1' := c1 w1 hb
  refine bodyPost_ret (v := .agg #[.int .u64 (bits BinOp.and IntKind.u64 (hi.toNat : Int) ((onesB 0 0 (widthI v6).toNat).toNat : Int)), .int .u64 (bits BinOp.and IntKind.u64 (lo.toNat : Int) ((onesB 1 0 (widthI v6).toNat).toNat : Int))]) (by simp [results, Try.results117, go_sem, c1']) rfl ⟨?_, ?_⟩
  · rw [rd_hi, rd_lo]
  · exact ((((hB.trans hb).set (by simp; omega) _).set (by simp; omega) _).set (by simp) _).set (by simp) _

end Go.Proofs.Ytdecgbgndffkkaa
