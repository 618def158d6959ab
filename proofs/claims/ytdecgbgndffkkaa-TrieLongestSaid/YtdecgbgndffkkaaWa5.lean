/- What layer 1 computes: Compare; the library's cmp. -/
import Derived.Test.YtdecgbgndffkkaaWa4
set_option linter.unusedVariables false
set_option linter.unusedSimpArgs false
namespace Go.Proofs.Ytdecgbgndffkkaa
open Go.RowKit

def cmpI (a b : Int) : Int := if a < b then -1 else if b < a then 1 else 0

theorem isNaNI_c (x : Int) (w : World) : Calls Try.prog 147 #[.int .i64 x] w fun e w' => e = .returned (.bool false) ∧ w = w' := by
  have h : (x != x) = false := by simp
  go_enter Try.func147, Try.ntmps147
  go_wp2
  go_ret
  exact ⟨rfl, rfl⟩
theorem isNaNU_c (x : Int) (w : World) : Calls Try.prog 175 #[.int .u64 x] w fun e w' => e = .returned (.bool false) ∧ w = w' := by
  have h : (x != x) = false := by simp
  go_enter Try.func175, Try.ntmps175
  go_wp2
  go_ret
  exact ⟨rfl, rfl⟩
theorem cmpI_c (x y : Int) (w : World) : Calls Try.prog 98 #[.int .i64 x, .int .i64 y] w fun e w' => e = .returned (.int .i64 (cmpI x y)) ∧ w = w' := by
  unfold cmpI
  by_cases h1 : x < y
  · rw [if_pos h1]
    go_enter Try.func98, Try.ntmps98
    go_wp2_with (go_at_call 147; refine (isNaNI_c _ _).mono ?_; rintro e w' ⟨rfl, rfl⟩)
    go_ret
    exact ⟨rfl, rfl⟩
  · rw [if_neg h1]
    by_cases h2 : y < x
    · rw [if_pos h2]
      go_enter Try.func98, Try.ntmps98
      go_wp2_with (go_at_call 147; refine (isNaNI_c _ _).mono ?_; rintro e w' ⟨rfl, rfl⟩)
      go_ret
      exact ⟨rfl, rfl⟩
    · rw [if_neg h2]
      go_enter Try.func98, Try.ntmps98
      go_wp2_with (go_at_call 147; refine (isNaNI_c _ _).mono ?_; rintro e w' ⟨rfl, rfl⟩)
      go_ret
      exact ⟨rfl, rfl⟩
theorem cmpU_c (x y : Int) (w : World) : Calls Try.prog 146 #[.int .u64 x, .int .u64 y] w fun e w' => e = .returned (.int .i64 (cmpI x y)) ∧ w = w' := by
  unfold cmpI
  by_cases h1 : x < y
  · rw [if_pos h1]
    go_enter Try.func146, Try.ntmps146
    go_wp2_with (go_at_call 175; refine (isNaNU_c _ _).mono ?_; rintro e w' ⟨rfl, rfl⟩)
    go_ret
    exact ⟨rfl, rfl⟩
  · rw [if_neg h1]
    by_cases h2 : y < x
    · rw [if_pos h2]
      go_enter Try.func146, Try.ntmps146
      go_wp2_with (go_at_call 175; refine (isNaNU_c _ _).mono ?_; rintro e w' ⟨rfl, rfl⟩)
      go_ret
      exact ⟨rfl, rfl⟩
    · rw [if_neg h2]
      go_enter Try.func146, Try.ntmps146
      go_wp2_with (go_at_call 175; refine (isNaNU_c _ _).mono ?_; rintro e w' ⟨rfl, rfl⟩)
      go_ret
      exact ⟨rfl, rfl⟩

/-- the first that is not 0 -/
def orI (x y : Int) : Int := if x = 0 then y else x

set_option maxHeartbeats 1000000 in
theorem or2_c (b : Nat) (x y : Int) (w : World) (c0 : w.cell? ⟨b, 0, none⟩ = some (.int .i64 x)) (c1 : w.cell? ⟨b, 1, none⟩ = some (.int .i64 y)) :
    Calls Try.prog 96 #[.slice (some ⟨b, 0, none⟩) 2 2] w fun e w' => e = .returned (.int .i64 (orI x y)) ∧ w = w' := by
  by_cases hx : x = 0
  · have hx1 : (x != 0) = false := by simp [hx]
    by_cases hy : y = 0
    · have hy1 : (y != 0) = false := by simp [hy]
      go_enter Try.func96, Try.ntmps96
      go_wp2_with fail
      refine wp_loop_rounds 3 ?_
      repeat any_goals (rw [rounds_succ]; go_wp2_with fail)
      go_ret
      exact ⟨by simp [orI, hx, hy], rfl⟩
    · have hy1 : (y != 0) = true := by simp [hy]
      go_enter Try.func96, Try.ntmps96
      go_wp2_with fail
      refine wp_loop_rounds 3 ?_
      repeat any_goals (rw [rounds_succ]; go_wp2_with fail)
      go_ret
      exact ⟨by simp [orI, hx], rfl⟩
  · have hx1 : (x != 0) = true := by simp [hx]
    go_enter Try.func96, Try.ntmps96
    go_wp2_with fail
    refine wp_loop_rounds 3 ?_
    repeat any_goals (rw [rounds_succ]; go_wp2_with fail)
    go_ret
    exact ⟨by simp [orI, hx], rfl⟩
set_option maxHeartbeats 1000000 in
theorem or3_c (b : Nat) (x y z : Int) (w : World) (c0 : w.cell? ⟨b, 0, none⟩ = some (.int .i64 x)) (c1 : w.cell? ⟨b, 1, none⟩ = some (.int .i64 y)) (c2 : w.cell? ⟨b, 2, none⟩ = some (.int .i64 z)) :
    Calls Try.prog 96 #[.slice (some ⟨b, 0, none⟩) 3 3] w fun e w' => e = .returned (.int .i64 (orI x (orI y z))) ∧ w = w' := by
  by_cases hx : x = 0
  · have hx1 : (x != 0) = false := by simp [hx]
    by_cases hy : y = 0
    · have hy1 : (y != 0) = false := by simp [hy]
      by_cases hz : z = 0
      · have hz1 : (z != 0) = false := by simp [hz]
        go_enter Try.func96, Try.ntmps96
        go_wp2_with fail
        refine wp_loop_rounds 4 ?_
        repeat any_goals (rw [rounds_succ]; go_wp2_with fail)
        go_ret
        exact ⟨by simp [orI, hx, hy, hz], rfl⟩
      · have hz1 : (z != 0) = true := by simp [hz]
        go_enter Try.func96, Try.ntmps96
        go_wp2_with fail
        refine wp_loop_rounds 4 ?_
        repeat any_goals (rw [rounds_succ]; go_wp2_with fail)
        go_ret
        exact ⟨by simp [orI, hx, hy], rfl⟩
    · have hy1 : (y != 0) = true := by simp [hy]
      go_enter Try.func96, Try.ntmps96
      go_wp2_with fail
      refine wp_loop_rounds 4 ?_
      repeat any_goals (rw [rounds_succ]; go_wp2_with fail)
      go_ret
      exact ⟨by simp [orI, hx, hy], rfl⟩
  · have hx1 : (x != 0) = true := by simp [hx]
    go_enter Try.func96, Try.ntmps96
    go_wp2_with fail
    refine wp_loop_rounds 4 ?_
    repeat any_goals (rw [rounds_succ]; go_wp2_with fail)
    go_ret
    exact ⟨by simp [orI, hx], rfl⟩

theorem or2_b {b : Nat} {x y : Int} {t : TypeId} {fr : Nat × Nat} {w : World} (h : w.heap[b]? = some (.cells #[.int .i64 x, .int .i64 y] t fr)) :
    Calls Try.prog 96 #[.slice (some ⟨b, 0, none⟩) 2 2] w fun e w' => e = .returned (.int .i64 (orI x y)) ∧ w = w' :=
  or2_c b x y w (kept h w (Gr.refl w) 0) (kept h w (Gr.refl w) 1)
theorem or3_b {b : Nat} {x y z : Int} {t : TypeId} {fr : Nat × Nat} {w : World} (h : w.heap[b]? = some (.cells #[.int .i64 x, .int .i64 y, .int .i64 z] t fr)) :
    Calls Try.prog 96 #[.slice (some ⟨b, 0, none⟩) 3 3] w fun e w' => e = .returned (.int .i64 (orI x (orI y z))) ∧ w = w' :=
  or3_c b x y z w (kept h w (Gr.refl w) 0) (kept h w (Gr.refl w) 1) (kept h w (Gr.refl w) 2)

end Go.Proofs.Ytdecgbgndffkkaa
