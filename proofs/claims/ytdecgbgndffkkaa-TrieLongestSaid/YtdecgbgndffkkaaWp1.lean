/- What layer 2 computes: Of, Sane, Contains, Child, Compare. -/
import Derived.Test.YtdecgbgndffkkaaQ
set_option linter.unusedVariables false
set_option linter.unusedSimpArgs false
namespace Go.Proofs.Ytdecgbgndffkkaa
open Go.RowKit

theorem mask_x (hi lo : BitVec 64) (v6 : Bool) (n : Int) (w : World) : Calls Try.prog 94 #[.agg #[.int .u64 (hi.toNat : Int), .int .u64 (lo.toNat : Int), .bool v6], .int .i64 n] w fun e w' =>
    e = .returned (.agg #[Value.int IntKind.u64 ((maskA ⟨hi, lo, v6⟩ n).hi.toNat : Int), Value.int IntKind.u64 ((maskA ⟨hi, lo, v6⟩ n).lo.toNat : Int), Value.bool (maskA ⟨hi, lo, v6⟩ n).v6]) ∧ Gr w w' := mask_c hi lo v6 n w
theorem fill_x (hi lo : BitVec 64) (v6 : Bool) (n : Int) (w : World) : Calls Try.prog 112 #[.agg #[.int .u64 (hi.toNat : Int), .int .u64 (lo.toNat : Int), .bool v6], .int .i64 n] w fun e w' =>
    e = .returned (.agg #[Value.int IntKind.u64 ((fillA ⟨hi, lo, v6⟩ n).hi.toNat : Int), Value.int IntKind.u64 ((fillA ⟨hi, lo, v6⟩ n).lo.toNat : Int), Value.bool (fillA ⟨hi, lo, v6⟩ n).v6]) ∧ Gr w w' := fill_c hi lo v6 n w
theorem set_x (hi lo : BitVec 64) (v6 : Bool) (i u : Int) (hu : u = 0 ∨ u = 1 ∨ u = 2) (w : World) : Calls Try.prog 174 #[.agg #[.int .u64 (hi.toNat : Int), .int .u64 (lo.toNat : Int), .bool v6], .int .i64 i, .int .i64 u] w fun e w' =>
    e = .returned (.agg #[Value.int IntKind.u64 ((setA ⟨hi, lo, v6⟩ i u).hi.toNat : Int), Value.int IntKind.u64 ((setA ⟨hi, lo, v6⟩ i u).lo.toNat : Int), Value.bool (setA ⟨hi, lo, v6⟩ i u).v6]) ∧ Gr w w' := (set_c hi lo v6 i u hu w).mono fun _ _ ⟨h, g⟩ => ⟨by rw [h, setA_v6], g⟩

/-- the first digits of an address -/
def ofP (a : Ad) (n : Int) : Px := ⟨maskA a (max 0 (min n (widthI a.v6))), max 0 (min n (widthI a.v6))⟩

set_option maxHeartbeats 1000000 in
theorem ofP_c (hi lo : BitVec 64) (v6 : Bool) (n : Int) (w : World) : Calls Try.prog 24 #[.agg #[.int .u64 (hi.toNat : Int), .int .u64 (lo.toNat : Int), .bool v6], .int .i64 n] w fun e w' =>
    e = .returned (.agg #[Value.int IntKind.u64 ((ofP ⟨hi, lo, v6⟩ n).a.hi.toNat : Int), Value.int IntKind.u64 ((ofP ⟨hi, lo, v6⟩ n).a.lo.toNat : Int), Value.bool (ofP ⟨hi, lo, v6⟩ n).a.v6, Value.int IntKind.i64 (ofP ⟨hi, lo, v6⟩ n).n]) ∧ Gr w w' := by
  obtain ⟨hw0, hw1⟩ := widthI_bd v6
  go_enter Try.func24, Try.ntmps24
  go_wp2_with fail
  obtain ⟨W, hW, hB, k0, k1⟩ := box2 w #[Value.int IntKind.u64 (hi.toNat : Int), Value.int IntKind.u64 (lo.toNat : Int), Value.bool v6] #[Value.int IntKind.u64 0, Value.int IntKind.u64 0, Value.bool false, Value.int IntKind.i64 0] 25 32
  rw [← hW]
  clear hW
  have c0 := kept k0
  have c1 := kept k1
  have f1 := kept_free k1
  refine (width_c _ _).mono ?_
  rintro e w' ⟨rfl, rfl⟩
  go_wp2_with fail
  refine (mask_x _ _ _ _ _).mono ?_
  rintro e w1 ⟨rfl, hb1⟩
  go_wp2_with fail
  have c1' := c1 w1 hb1
  refine bodyPost_ret (v := .agg #[Value.int IntKind.u64 ((ofP ⟨hi, lo, v6⟩ n).a.hi.toNat : Int), Value.int IntKind.u64 ((ofP ⟨hi, lo, v6⟩ n).a.lo.toNat : Int), Value.bool (ofP ⟨hi, lo, v6⟩ n).a.v6, Value.int IntKind.i64 (ofP ⟨hi, lo, v6⟩ n).n]) (by simp [results, Try.results24, go_sem, c1', ofP]) rfl ⟨rfl, ?_⟩
  exact ((((hB.trans hb1).set (by simp) _).set (by simp) _).set (by simp) _).set (by simp) _

/-- may a prefix be? -/
def sanePx (p : Px) : Bool := eqPx p (ofP p.a p.n)

set_option maxHeartbeats 1000000 in
theorem sanePx_c (hi lo : BitVec 64) (v6 : Bool) (n : Int) (w : World) : Calls Try.prog 47 #[.agg #[.int .u64 (hi.toNat : Int), .int .u64 (lo.toNat : Int), .bool v6, .int .i64 n]] w fun e w' =>
    e = .returned (.bool (sanePx ⟨⟨hi, lo, v6⟩, n⟩)) ∧ Gr w w' := by
  go_enter Try.func47, Try.ntmps47
  go_wp2_with fail
  obtain ⟨W, hW, hB, k0⟩ := box1 w #[Value.int IntKind.u64 (hi.toNat : Int), Value.int IntKind.u64 (lo.toNat : Int), Value.bool v6, Value.int IntKind.i64 n] 32
  rw [← hW]
  clear hW
  have c0 := kept k0
  go_region_held3 (fun w' => Gr W w') (first | exact (Gr.refl _).drew | assumption | exact Gr.trans (by assumption) (by assumption) | (repeat (first | assumption | exact Gr.refl _ | refine Gr.alloc ?_ _ | refine Gr.drew ?_ | refine Gr.set ?_ (by first | (simp; done) | (simp; omega) | omega) _))) (first
    | (go_at_call 24; refine (ofP_c _ _ _ _ _).mono ?_; rintro e w1 ⟨rfl, hb1⟩))
  go_wp2
  go_ret
  exact ⟨rfl, hB.trans (by assumption)⟩

/-- has an address these first digits? -/
def hasPx (p : Px) (a : Ad) : Bool := sanePx p && eqPx p (ofP a p.n)

set_option maxHeartbeats 1000000 in
theorem hasPx_c (hi lo : BitVec 64) (v6 : Bool) (n : Int) (h2 l2 : BitVec 64) (v2 : Bool) (w : World) : Calls Try.prog 28 #[.agg #[.int .u64 (hi.toNat : Int), .int .u64 (lo.toNat : Int), .bool v6, .int .i64 n], .agg #[.int .u64 (h2.toNat : Int), .int .u64 (l2.toNat : Int), .bool v2]] w fun e w' =>
    e = .returned (.bool (hasPx ⟨⟨hi, lo, v6⟩, n⟩ ⟨h2, l2, v2⟩)) ∧ Gr w w' := by
  cases hs : sanePx ⟨⟨hi, lo, v6⟩, n⟩
  all_goals
    go_enter Try.func28, Try.ntmps28
    go_wp2_with fail
    obtain ⟨W, hW, hB, k0, k1⟩ := box2 w #[Value.int IntKind.u64 (hi.toNat : Int), Value.int IntKind.u64 (lo.toNat : Int), Value.bool v6, Value.int IntKind.i64 n] #[Value.int IntKind.u64 (h2.toNat : Int), Value.int IntKind.u64 (l2.toNat : Int), Value.bool v2] 32 25
    rw [← hW]
    clear hW
    have c0 := kept k0
    have c1 := kept k1
    refine wp_region_gr (by kernel_rfl) (by kernel_rfl) ?_
    repeat (first | (refine qs_skip (by with_unfolding_all rfl) ?_; simp only [Act.put, List.setIfInBounds_toArray, List.set_cons_zero, List.set_cons_succ]) | (refine qs_val (by rfl) ?_; apply Exists.intro; refine ⟨fun wq hq => ?_, ?_⟩; (· (go_simp; with_reducible rfl)); simp only [Act.put, List.setIfInBounds_toArray, List.set_cons_zero, List.set_cons_succ]) | (refine qs_call (by rfl) ?_; apply Exists.intro; refine ⟨fun wq hq => ?_, ?_⟩; (· (go_simp; first | (refine gr_call hq (sanePx_c _ _ _ _ _)) | (refine gr_call hq (ofP_c _ _ _ _ _)))); simp only [Act.put, List.setIfInBounds_toArray, List.set_cons_zero, List.set_cons_succ]))
    refine wpQuiet_nil ?_
    intro w1 hk1
    go_wp2
    go_ret
    exact ⟨by simp [hasPx, hs], hB.trans hk1⟩

/-- which prefix is ahead -/
def cmpPx (p q : Px) : Int := orI (cmpAd p.a q.a) (cmpI p.n q.n)

set_option maxHeartbeats 1000000 in
theorem cmpPx_c (h1 l1 : BitVec 64) (v1 : Bool) (n1 : Int) (h2 l2 : BitVec 64) (v2 : Bool) (n2 : Int) (w : World) : Calls Try.prog 27 #[.agg #[.int .u64 (h1.toNat : Int), .int .u64 (l1.toNat : Int), .bool v1, .int .i64 n1], .agg #[.int .u64 (h2.toNat : Int), .int .u64 (l2.toNat : Int), .bool v2, .int .i64 n2]] w fun e w' =>
    e = .returned (.int .i64 (cmpPx ⟨⟨h1, l1, v1⟩, n1⟩ ⟨⟨h2, l2, v2⟩, n2⟩)) ∧ Gr w w' := by
  go_enter Try.func27, Try.ntmps27
  go_wp2_with fail
  obtain ⟨W, hW, hB, k0, k1⟩ := box2 w #[Value.int IntKind.u64 (h1.toNat : Int), Value.int IntKind.u64 (l1.toNat : Int), Value.bool v1, Value.int IntKind.i64 n1] #[Value.int IntKind.u64 (h2.toNat : Int), Value.int IntKind.u64 (l2.toNat : Int), Value.bool v2, Value.int IntKind.i64 n2] 32 32
  rw [← hW]
  clear hW
  have c0 := kept k0
  have c1 := kept k1
  go_region_held3 (fun w' => Gr W w') (first | exact (Gr.refl _).drew | assumption | exact Gr.trans (by assumption) (by assumption) | (repeat (first | assumption | exact Gr.refl _ | refine Gr.alloc ?_ _ | refine Gr.drew ?_ | refine Gr.set ?_ (by first | (simp; done) | (simp; omega) | omega) _))) (first
    | (go_at_call 97; refine (cmpAd_c _ _ _ _ _ _ _).mono ?_; rintro e w1 ⟨rfl, hb1⟩)
    | (go_at_call 98; refine (cmpI_c _ _ _).mono ?_; rintro e w1 ⟨rfl, rfl⟩)
    | (go_at_call 96; refine (or2_b (by first | exact blk_new _ _ | exact blk_new_drew _ _)).mono ?_; rintro e w1 ⟨rfl, rfl⟩))
  go_wp2
  go_ret
  exact ⟨rfl, hB.trans (by assumption)⟩

theorem sanePx_n {p : Px} (h : sanePx p = true) : 0 ≤ p.n ∧ p.n ≤ widthI p.a.v6 := by
  have := (eqPx_iff _ _).1 h
  have hn : p.n = max 0 (min p.n (widthI p.a.v6)) := congrArg Px.n this
  obtain ⟨h0, h1⟩ := widthI_bd p.a.v6
  omega

/-- one digit more -/
def childP (p : Px) (v : Int) : Px := ⟨setA p.a p.n v, p.n + 1⟩
def hasChild (p : Px) : Bool := sanePx p && !(p.n == widthI p.a.v6)
def zeroP : Px := ⟨⟨0, 0, false⟩, 0⟩

set_option maxHeartbeats 2000000 in
theorem child_no (hi lo : BitVec 64) (v6 : Bool) (n v : Int) (w : World) (h : hasChild ⟨⟨hi, lo, v6⟩, n⟩ = false) : Calls Try.prog 145 #[.agg #[.int .u64 (hi.toNat : Int), .int .u64 (lo.toNat : Int), .bool v6, .int .i64 n], .int .i64 v] w fun e w' =>
    e = .returned (.tuple #[.agg #[Value.int IntKind.u64 0, Value.int IntKind.u64 0, Value.bool false, Value.int IntKind.i64 0], .bool false]) ∧ Gr w w' := by
  have hz : sanePx ⟨⟨hi, lo, v6⟩, n⟩ = true → (n == widthI v6) = true := by
    intro hs
    simpa [hasChild, hs] using h
  cases hs : sanePx ⟨⟨hi, lo, v6⟩, n⟩
  all_goals
    have hz' := hz
    simp only [hs, true_implies, false_implies, Bool.false_eq_true] at hz'
    go_enter Try.func145, Try.ntmps145
    go_wp2_with fail
    obtain ⟨W, hW, hB, k0, k1⟩ := box2 w #[Value.int IntKind.u64 (hi.toNat : Int), Value.int IntKind.u64 (lo.toNat : Int), Value.bool v6, Value.int IntKind.i64 n] #[Value.int IntKind.u64 0, Value.int IntKind.u64 0, Value.bool false, Value.int IntKind.i64 0] 32 32
    rw [← hW]
    clear hW hz
    have c0 := kept k0
    have c1 := kept k1
    have f1 := kept_free k1
    refine wp_region_gr (by kernel_rfl) (by kernel_rfl) ?_
    repeat (first | (refine qs_skip (by with_unfolding_all rfl) ?_; simp only [Act.put, List.setIfInBounds_toArray, List.set_cons_zero, List.set_cons_succ]) | (refine qs_val (by rfl) ?_; apply Exists.intro; refine ⟨fun wq hq => ?_, ?_⟩; (· (go_simp; with_reducible rfl)); simp only [Act.put, List.setIfInBounds_toArray, List.set_cons_zero, List.set_cons_succ]) | (refine qs_call (by rfl) ?_; apply Exists.intro; refine ⟨fun wq hq => ?_, ?_⟩; (· (go_simp; first | (refine gr_call hq (sanePx_c _ _ _ _ _)) | (refine gr_call_same hq (width_c _ _)))); simp only [Act.put, List.setIfInBounds_toArray, List.set_cons_zero, List.set_cons_succ]))
    refine wpQuiet_nil ?_
    intro w1 hk1
    go_wp2
    have c1' := c1 w1 hk1
    refine bodyPost_ret (v := .tuple #[.agg #[Value.int IntKind.u64 0, Value.int IntKind.u64 0, Value.bool false, Value.int IntKind.i64 0], .bool false]) (by simp [results, Try.results145, go_sem, c1']) rfl ⟨rfl, ?_⟩
    exact ((((hB.trans hk1).set (by simp) _).set (by simp) _).set (by simp) _).set (by simp) _

set_option maxHeartbeats 2000000 in
theorem child_yes (hi lo : BitVec 64) (v6 : Bool) (n v : Int) (w : World) (h : hasChild ⟨⟨hi, lo, v6⟩, n⟩ = true) (hv : v = 0 ∨ v = 1 ∨ v = 2) : Calls Try.prog 145 #[.agg #[.int .u64 (hi.toNat : Int), .int .u64 (lo.toNat : Int), .bool v6, .int .i64 n], .int .i64 v] w fun e w' =>
    e = .returned (.tuple #[.agg #[Value.int IntKind.u64 ((childP ⟨⟨hi, lo, v6⟩, n⟩ v).a.hi.toNat : Int), Value.int IntKind.u64 ((childP ⟨⟨hi, lo, v6⟩, n⟩ v).a.lo.toNat : Int), Value.bool (childP ⟨⟨hi, lo, v6⟩, n⟩ v).a.v6, Value.int IntKind.i64 (childP ⟨⟨hi, lo, v6⟩, n⟩ v).n], .bool true]) ∧ Gr w w' := by
  have hs : sanePx ⟨⟨hi, lo, v6⟩, n⟩ = true := by
    cases hh : sanePx ⟨⟨hi, lo, v6⟩, n⟩
    · simp [hasChild, hh] at h
    · rfl
  have hz : (n == widthI v6) = false := by
    rw [hasChild, hs] at h
    simpa using h
  have hn := sanePx_n hs
  have hw := widthI_bd v6
  have hn0 : 0 ≤ n := hn.1
  have hn1 : n ≤ 128 := Int.le_trans hn.2 hw.2
  clear hn hw
  have HV := Lib.hid hv
  clear hv h
  go_enter Try.func145, Try.ntmps145
  go_wp2_with fail
  obtain ⟨W, hW, hB, k0, k1⟩ := box2 w #[Value.int IntKind.u64 (hi.toNat : Int), Value.int IntKind.u64 (lo.toNat : Int), Value.bool v6, Value.int IntKind.i64 n] #[Value.int IntKind.u64 0, Value.int IntKind.u64 0, Value.bool false, Value.int IntKind.i64 0] 32 32
  rw [← hW]
  clear hW
  have c0 := kept k0
  have c1 := kept k1
  have f1 := kept_free k1
  refine wp_region_gr (by kernel_rfl) (by kernel_rfl) ?_
  repeat (first | (refine qs_skip (by with_unfolding_all rfl) ?_; simp only [Act.put, List.setIfInBounds_toArray, List.set_cons_zero, List.set_cons_succ]) | (refine qs_val (by rfl) ?_; apply Exists.intro; refine ⟨fun wq hq => ?_, ?_⟩; (· (go_simp; with_reducible rfl)); simp only [Act.put, List.setIfInBounds_toArray, List.set_cons_zero, List.set_cons_succ]) | (refine qs_call (by rfl) ?_; apply Exists.intro; refine ⟨fun wq hq => ?_, ?_⟩; (· (go_simp; first | (refine gr_call hq (sanePx_c _ _ _ _ _)) | (refine gr_call_same hq (width_c _ _)))); simp only [Act.put, List.setIfInBounds_toArray, List.set_cons_zero, List.set_cons_succ]))
  refine wpQuiet_nil ?_
  intro w1 hk1
  have d0 := fun w' (g : Gr w1 w') => c0 w' (hk1.trans g)
  have d1 := fun w' (g : Gr w1 w') => c1 w' (hk1.trans g)
  have e1 := fun w' (g : Gr w1 w') => f1 w' (hk1.trans g)
  clear c0 c1 f1
  have hk0 := hB.trans hk1
  clear hk1 hB k0 k1
  go_wp2_with fail
  obtain ⟨W1, hW1⟩ : ∃ W1, W1 = w1 := ⟨_, rfl⟩
  rw [← hW1] at d0 d1 e1 hk0 ⊢
  clear hW1 w1
  refine wp_region_gr_tail 10 (by kernel_rfl) (by kernel_rfl) ?_
  simp only [List.take_succ_cons, List.take_zero]
  repeat (first | (refine qs_skip (by with_unfolding_all rfl) ?_; simp only [Act.put, List.setIfInBounds_toArray, List.set_cons_zero, List.set_cons_succ]) | (refine qs_val (by rfl) ?_; apply Exists.intro; refine ⟨fun wq hq => ?_, ?_⟩; (· (go_simp; with_reducible rfl)); simp only [Act.put, List.setIfInBounds_toArray, List.set_cons_zero, List.set_cons_succ]) | (refine qs_call (by rfl) ?_; apply Exists.intro; refine ⟨fun wq hq => ?_, ?_⟩; (· (go_simp; first | (refine gr_call hq (set_x _ _ _ _ _ HV.out _)))); simp only [Act.put, List.setIfInBounds_toArray, List.set_cons_zero, List.set_cons_succ]))
  refine wpQuiet_nil ?_
  intro w1 hk1
  simp only [List.drop_succ_cons, List.drop_zero]
  go_wp2
  have c1' := d1 w1 hk1
  refine bodyPost_ret (v := .tuple #[.agg #[Value.int IntKind.u64 ((childP ⟨⟨hi, lo, v6⟩, n⟩ v).a.hi.toNat : Int), Value.int IntKind.u64 ((childP ⟨⟨hi, lo, v6⟩, n⟩ v).a.lo.toNat : Int), Value.bool (childP ⟨⟨hi, lo, v6⟩, n⟩ v).a.v6, Value.int IntKind.i64 (childP ⟨⟨hi, lo, v6⟩, n⟩ v).n], .bool true]) (by simp [results, Try.results145, go_sem, c1', childP]) rfl ⟨rfl, ?_⟩
  exact ((((hk0.trans hk1).set (by simp) _).set (by simp) _).set (by simp) _).set (by simp) _

end Go.Proofs.Ytdecgbgndffkkaa
