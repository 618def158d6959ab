/- What layer 1 computes: Compare. -/
import Derived.Test.YtdecgbgndffkkaaWa5
set_option linter.unusedVariables false
set_option linter.unusedSimpArgs false
namespace Go.Proofs.Ytdecgbgndffkkaa
open Go.RowKit

theorem cell_gr {w w' : World} {a : Addr} {v : Value} (h : w.cell? a = some v) (g : Gr w w') : w'.cell? a = some v :=
  (Below.cell g (World.block_lt_of_cell? w a h)).trans h
theorem cell_all {w : World} {a : Addr} {v : Value} (h : w.cell? a = some v) : ∀ w', Gr w w' → w'.cell? a = some v := fun _ g => cell_gr h g

/-- which address is ahead: -1, 0, 1 -/
def cmpAd (a b : Ad) : Int := orI (cmpI (widthI a.v6) (widthI b.v6)) (orI (cmpI (a.rd.hi.toNat : Int) (b.rd.hi.toNat : Int)) (cmpI (a.rd.lo.toNat : Int) (b.rd.lo.toNat : Int)))

set_option maxHeartbeats 4000000 in
theorem cmpAd_c (h1 l1 : BitVec 64) (v1 : Bool) (h2 l2 : BitVec 64) (v2 : Bool) (w : World) : Calls Try.prog 97 #[.agg #[.int .u64 (h1.toNat : Int), .int .u64 (l1.toNat : Int), .bool v1], .agg #[.int .u64 (h2.toNat : Int), .int .u64 (l2.toNat : Int), .bool v2]] w fun e w' =>
    e = .returned (.int .i64 (cmpAd ⟨h1, l1, v1⟩ ⟨h2, l2, v2⟩)) ∧ Gr w w' := by
  go_enter Try.func97, Try.ntmps97
  go_wp2_with fail
  obtain ⟨W, hW, hB, k0, k1⟩ := box2 w #[Value.int IntKind.u64 (h1.toNat : Int), Value.int IntKind.u64 (l1.toNat : Int), Value.bool v1] #[Value.int IntKind.u64 (h2.toNat : Int), Value.int IntKind.u64 (l2.toNat : Int), Value.bool v2] 25 25
  rw [← hW]
  clear hW
  have c0 := kept k0
  have c1 := kept k1
  clear k0 k1
  go_cut [5, 6] (fun s5 s6 wx => ∃ b5 b6 : Nat, s5 = .pointer (some ⟨b5, 0, none⟩) ∧ s6 = .pointer (some ⟨b6, 0, none⟩) ∧
    wx.cell? ⟨b5, 0, none⟩ = some (.int .u64 ((Ad.rd ⟨h1, l1, v1⟩).hi.toNat : Int)) ∧ wx.cell? ⟨b5, 1, none⟩ = some (.int .u64 ((Ad.rd ⟨h1, l1, v1⟩).lo.toNat : Int)) ∧
    wx.cell? ⟨b6, 0, none⟩ = some (.int .u64 ((Ad.rd ⟨h2, l2, v2⟩).hi.toNat : Int)) ∧ wx.cell? ⟨b6, 1, none⟩ = some (.int .u64 ((Ad.rd ⟨h2, l2, v2⟩).lo.toNat : Int)) ∧ Gr W wx)
  case first =>
    go_region_held3 (fun w' => Gr W w') (first | exact (Gr.refl _).drew | assumption | exact Gr.trans (by assumption) (by assumption) | (repeat (first | assumption | exact Gr.refl _ | refine Gr.alloc ?_ _ | refine Gr.drew ?_ | refine Gr.set ?_ (by first | (simp; done) | (simp; omega) | omega) _))) (first
      | (go_at_call 117; refine (read_c _ _ _ _).mono ?_; rintro e w1 ⟨rfl, hb1⟩; have hk1 := Gr.trans (a := W) (by assumption) hb1; have hs1 := Gr.size hk1; obtain ⟨hcc, hff⟩ := gcell hb1; have hzz := Gr.size hb1; (try simp at hzz); (try (have hz3 := Nat.lt_of_succ_le hzz)); (try (have hz4 := Nat.lt_of_succ_lt hz3)); (try (have hz1 : W.heap.size < w1.heap.size := by omega)); (try (have hz2 : W.heap.size + 1 < w1.heap.size := by omega))))
    all_goals go_wp2
    all_goals go_meet
    all_goals refine ⟨_, _, rfl, rfl, ?_, ?_, ?_, ?_, by assumption⟩
    all_goals first | (go_simp; done) | simp (config := { maxDischargeDepth := 9 }) [go_sem, *]
  case rest =>
    obtain ⟨b5, b6, rfl, rfl, hx0, hx1, hy0, hy1, hg⟩ := hcut
    have d0 := fun w' g => c0 w' (hg.trans g)
    have d1 := fun w' g => c1 w' (hg.trans g)
    have x0 := cell_all hx0
    have x1 := cell_all hx1
    have y0 := cell_all hy0
    have y1 := cell_all hy1
    clear c0 c1 hx0 hx1 hy0 hy1
    go_wp2_with fail
    go_region_held3 (fun w' => Gr wc w') (first | exact (Gr.refl _).drew | assumption | exact Gr.trans (by assumption) (by assumption) | (repeat (first | assumption | exact Gr.refl _ | refine Gr.alloc ?_ _ | refine Gr.drew ?_ | refine Gr.set ?_ (by first | (simp; done) | (simp; omega) | omega) _))) (first
      | (go_at_call 93; refine (width_c _ _).mono ?_; rintro e w1 ⟨rfl, rfl⟩)
      | (go_at_call 98; refine (cmpI_c _ _ _).mono ?_; rintro e w1 ⟨rfl, rfl⟩)
      | (go_at_call 146; refine (cmpU_c _ _ _).mono ?_; rintro e w1 ⟨rfl, rfl⟩)
      | (go_at_call 96; refine (or3_b (blk_new_drew _ _)).mono ?_; rintro e w1 ⟨rfl, rfl⟩))
    go_wp2
    go_ret
    exact ⟨rfl, (hB.trans hg).trans (by assumption)⟩

end Go.Proofs.Ytdecgbgndffkkaa
