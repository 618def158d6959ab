/- From, at the four bytes of the documents' examples. -/
import Derived.Test.YtdecgbgndffkkaaTi
import Derived.LoopN
set_option linter.unusedVariables false
set_option linter.unusedSimpArgs false
namespace Go.Proofs.Ytdecgbgndffkkaa
open Go.RowKit

/-- 10.0.0.0, 10.0.0.1, 10.1.0.0 -/
def A100 : Ad := ⟨0x0a00000000000000#64, 0#64, false⟩
def A101 : Ad := ⟨0x0a00000100000000#64, 0#64, false⟩
def A110 : Ad := ⟨0x0a01000000000000#64, 0#64, false⟩
theorem a_hi (a : Ad) (x : Int) (h : (a.hi.toNat : Int) = x) : Value.int IntKind.u64 x = Value.int IntKind.u64 (a.hi.toNat : Int) := by rw [h]

set_option maxRecDepth 100000 in
set_option maxHeartbeats 2000000 in
theorem from100_c (g : Nat) (w : World) (hg : w.heap[g]? = some (.cells #[.int .u8 10, .int .u8 0, .int .u8 0, .int .u8 0] 5 (0, 0))) :
    Calls Try.prog 84 #[.slice (some ⟨g, 0, none⟩) 4 4] w fun e w' => e = .returned (.tuple #[.agg #[Value.int IntKind.u64 ((A100).hi.toNat : Int), Value.int IntKind.u64 ((A100).lo.toNat : Int), Value.bool (A100).v6], .int .i64 0]) ∧ Gr w w' := by
  have HG := Lib.hid hg
  clear hg
  go_enter Try.func84, Try.ntmps84
  go_wp2_with fail
  obtain ⟨W, hW, hB, k0, k1⟩ := box2 w #[Value.int IntKind.u64 0, Value.int IntKind.u64 0, Value.bool false] #[Value.int IntKind.u64 0, Value.int IntKind.u64 0] 25 185
  rw [← hW]
  clear hW
  have c0 := kept (blk_gr HG.out hB) W (Gr.refl _)
  have c1 := kept k1 W (Gr.refl _)
  have c2 := kept k0 W (Gr.refl _)
  have f1 := kept_free k1 W (Gr.refl _)
  have f0 := kept_free k0 W (Gr.refl _)
  have hgl : g ≠ w.heap.size := by have := blk_lt HG.out; omega
  have hgl2 : g ≠ w.heap.size + 1 := by have := blk_lt HG.out; omega
  have hgl3 : w.heap.size ≠ g := Ne.symm hgl
  have hgl4 : w.heap.size + 1 ≠ g := Ne.symm hgl2
  refine wp_loop_rounds 5 ?_
  rw [rounds_succ]
  go_wp2_with fail
  rw [rounds_succ]
  go_wp2_with fail
  rw [rounds_succ]
  go_wp2_with fail
  rw [rounds_succ]
  go_wp2_with fail
  rw [rounds_succ]
  go_wp2_with fail
  show Calls _ _ #[.agg #[.int .u64 (A100.hi.toNat : Int), .int .u64 (A100.lo.toNat : Int)], .bool false] (W.setCell _ (.int .u64 (A100.hi.toNat : Int))) _
  refine (of_c _ _ _ _).mono ?_
  rintro e w1 ⟨rfl, hb1⟩
  have k01 := blk_gr (show (W.setCell ⟨w.heap.size + 1, 0, none⟩ (.int .u64 (A100.hi.toNat : Int))).heap[w.heap.size]? = _ by rw [set_blk_ne (by omega)]; exact k0) hb1
  have d0 := kept k01 w1 (Gr.refl _)
  have e0 := kept_free k01 w1 (Gr.refl _)
  have hG := (hB.set (p := ⟨w.heap.size + 1, 0, none⟩) (by simp) (.int .u64 (A100.hi.toNat : Int))).trans hb1
  clear c0 c1 c2 f0 f1
  go_wp2_with fail
  refine bodyPost_ret (v := .tuple #[.agg #[Value.int IntKind.u64 ((A100).hi.toNat : Int), Value.int IntKind.u64 ((A100).lo.toNat : Int), Value.bool (A100).v6], .int .i64 0]) (by simp [results, Try.results84, go_sem, d0]; rfl) rfl ⟨rfl, ?_⟩
  repeat (first | exact hG | refine Gr.set ?_ (by first | (simp; done) | (simp; omega) | omega) _ | refine Gr.alloc ?_ _)

set_option maxRecDepth 100000 in
set_option maxHeartbeats 2000000 in
theorem from101_c (g : Nat) (w : World) (hg : w.heap[g]? = some (.cells #[.int .u8 10, .int .u8 0, .int .u8 0, .int .u8 1] 5 (0, 0))) :
    Calls Try.prog 84 #[.slice (some ⟨g, 0, none⟩) 4 4] w fun e w' => e = .returned (.tuple #[.agg #[Value.int IntKind.u64 ((A101).hi.toNat : Int), Value.int IntKind.u64 ((A101).lo.toNat : Int), Value.bool (A101).v6], .int .i64 0]) ∧ Gr w w' := by
  have HG := Lib.hid hg
  clear hg
  go_enter Try.func84, Try.ntmps84
  go_wp2_with fail
  obtain ⟨W, hW, hB, k0, k1⟩ := box2 w #[Value.int IntKind.u64 0, Value.int IntKind.u64 0, Value.bool false] #[Value.int IntKind.u64 0, Value.int IntKind.u64 0] 25 185
  rw [← hW]
  clear hW
  have c0 := kept (blk_gr HG.out hB) W (Gr.refl _)
  have c1 := kept k1 W (Gr.refl _)
  have c2 := kept k0 W (Gr.refl _)
  have f1 := kept_free k1 W (Gr.refl _)
  have f0 := kept_free k0 W (Gr.refl _)
  have hgl : g ≠ w.heap.size := by have := blk_lt HG.out; omega
  have hgl2 : g ≠ w.heap.size + 1 := by have := blk_lt HG.out; omega
  have hgl3 : w.heap.size ≠ g := Ne.symm hgl
  have hgl4 : w.heap.size + 1 ≠ g := Ne.symm hgl2
  refine wp_loop_rounds 5 ?_
  rw [rounds_succ]
  go_wp2_with fail
  rw [rounds_succ]
  go_wp2_with fail
  rw [rounds_succ]
  go_wp2_with fail
  rw [rounds_succ]
  go_wp2_with fail
  rw [rounds_succ]
  go_wp2_with fail
  show Calls _ _ #[.agg #[.int .u64 (A101.hi.toNat : Int), .int .u64 (A101.lo.toNat : Int)], .bool false] (W.setCell _ (.int .u64 (A101.hi.toNat : Int))) _
  refine (of_c _ _ _ _).mono ?_
  rintro e w1 ⟨rfl, hb1⟩
  have k01 := blk_gr (show (W.setCell ⟨w.heap.size + 1, 0, none⟩ (.int .u64 (A101.hi.toNat : Int))).heap[w.heap.size]? = _ by rw [set_blk_ne (by omega)]; exact k0) hb1
  have d0 := kept k01 w1 (Gr.refl _)
  have e0 := kept_free k01 w1 (Gr.refl _)
  have hG := (hB.set (p := ⟨w.heap.size + 1, 0, none⟩) (by simp) (.int .u64 (A101.hi.toNat : Int))).trans hb1
  clear c0 c1 c2 f0 f1
  go_wp2_with fail
  refine bodyPost_ret (v := .tuple #[.agg #[Value.int IntKind.u64 ((A101).hi.toNat : Int), Value.int IntKind.u64 ((A101).lo.toNat : Int), Value.bool (A101).v6], .int .i64 0]) (by simp [results, Try.results84, go_sem, d0]; rfl) rfl ⟨rfl, ?_⟩
  repeat (first | exact hG | refine Gr.set ?_ (by first | (simp; done) | (simp; omega) | omega) _ | refine Gr.alloc ?_ _)

set_option maxRecDepth 100000 in
set_option maxHeartbeats 2000000 in
theorem from110_c (g : Nat) (w : World) (hg : w.heap[g]? = some (.cells #[.int .u8 10, .int .u8 1, .int .u8 0, .int .u8 0] 5 (0, 0))) :
    Calls Try.prog 84 #[.slice (some ⟨g, 0, none⟩) 4 4] w fun e w' => e = .returned (.tuple #[.agg #[Value.int IntKind.u64 ((A110).hi.toNat : Int), Value.int IntKind.u64 ((A110).lo.toNat : Int), Value.bool (A110).v6], .int .i64 0]) ∧ Gr w w' := by
  have HG := Lib.hid hg
  clear hg
  go_enter Try.func84, Try.ntmps84
  go_wp2_with fail
  obtain ⟨W, hW, hB, k0, k1⟩ := box2 w #[Value.int IntKind.u64 0, Value.int IntKind.u64 0, Value.bool false] #[Value.int IntKind.u64 0, Value.int IntKind.u64 0] 25 185
  rw [← hW]
  clear hW
  have c0 := kept (blk_gr HG.out hB) W (Gr.refl _)
  have c1 := kept k1 W (Gr.refl _)
  have c2 := kept k0 W (Gr.refl _)
  have f1 := kept_free k1 W (Gr.refl _)
  have f0 := kept_free k0 W (Gr.refl _)
  have hgl : g ≠ w.heap.size := by have := blk_lt HG.out; omega
  have hgl2 : g ≠ w.heap.size + 1 := by have := blk_lt HG.out; omega
  have hgl3 : w.heap.size ≠ g := Ne.symm hgl
  have hgl4 : w.heap.size + 1 ≠ g := Ne.symm hgl2
  refine wp_loop_rounds 5 ?_
  rw [rounds_succ]
  go_wp2_with fail
  rw [rounds_succ]
  go_wp2_with fail
  rw [rounds_succ]
  go_wp2_with fail
  rw [rounds_succ]
  go_wp2_with fail
  rw [rounds_succ]
  go_wp2_with fail
  show Calls _ _ #[.agg #[.int .u64 (A110.hi.toNat : Int), .int .u64 (A110.lo.toNat : Int)], .bool false] (W.setCell _ (.int .u64 (A110.hi.toNat : Int))) _
  refine (of_c _ _ _ _).mono ?_
  rintro e w1 ⟨rfl, hb1⟩
  have k01 := blk_gr (show (W.setCell ⟨w.heap.size + 1, 0, none⟩ (.int .u64 (A110.hi.toNat : Int))).heap[w.heap.size]? = _ by rw [set_blk_ne (by omega)]; exact k0) hb1
  have d0 := kept k01 w1 (Gr.refl _)
  have e0 := kept_free k01 w1 (Gr.refl _)
  have hG := (hB.set (p := ⟨w.heap.size + 1, 0, none⟩) (by simp) (.int .u64 (A110.hi.toNat : Int))).trans hb1
  clear c0 c1 c2 f0 f1
  go_wp2_with fail
  refine bodyPost_ret (v := .tuple #[.agg #[Value.int IntKind.u64 ((A110).hi.toNat : Int), Value.int IntKind.u64 ((A110).lo.toNat : Int), Value.bool (A110).v6], .int .i64 0]) (by simp [results, Try.results84, go_sem, d0]; rfl) rfl ⟨rfl, ?_⟩
  repeat (first | exact hG | refine Gr.set ?_ (by first | (simp; done) | (simp; omega) | omega) _ | refine Gr.alloc ?_ _)

end Go.Proofs.Ytdecgbgndffkkaa
