/- What layer 1 computes: Bit, Set. -/
import Derived.Test.YtdecgbgndffkkaaWa2
set_option linter.unusedVariables false
set_option linter.unusedSimpArgs false
namespace Go.Proofs.Ytdecgbgndffkkaa
open Go.RowKit

theorem and_one (x : BitVec 64) (k : Nat) : bits BinOp.and IntKind.u64 ((x.toNat : Int) / 2 ^ k) 1 = if x.getLsbD k then 1 else 0 := by
  have e : ((x.toNat : Int) / 2 ^ k) = ((x.toNat / 2 ^ k : Nat) : Int) := by simp
  have hx := x.isLt
  have hl : x.toNat / 2 ^ k < 18446744073709551616 := Nat.lt_of_le_of_lt (Nat.div_le_self _ _) hx
  have h1 := u64_and_nat (x.toNat / 2 ^ k) 1 hl (by omega)
  rw [e]
  rw [show ((1 : Nat) : Int) = (1 : Int) from rfl] at h1
  rw [h1, nat_mask1]
  rw [BitVec.getLsbD, Nat.testBit_eq_decide_div_mod_eq]
  by_cases h : x.toNat / 2 ^ k % 2 = 1
  · simp [h]
  · have h0 : x.toNat / 2 ^ k % 2 = 0 := by omega
    simp [h0]

/-- the i-th digit as a number; 0, if there is none -/
def bitI (a : Ad) (i : Int) : Int := if isB a i = true then (if a.bit i.toNat then 1 else 0) else 0
theorem bitI_01 (a : Ad) (i : Int) : 0 ≤ bitI a i ∧ bitI a i ≤ 1 := by unfold bitI; split <;> (try split) <;> omega

theorem isB_iff (a : Ad) (i : Int) : isB a i = true ↔ 0 ≤ i ∧ i < a.w := by
  have : widthI a.v6 = a.w := by unfold widthI Ad.w; split <;> rfl
  simp [isB, this]

theorem bit_lt (a : Ad) (i : Nat) (h : i < 64) : a.bit i = a.hi.getLsbD (63 - i) := by
  unfold Ad.bit
  rw [if_pos h, BitVec.getMsbD_eq_getLsbD]
  simp [h]
theorem bit_ge (a : Ad) (i : Nat) (h : 64 ≤ i) (h2 : i < 128) : a.bit i = a.lo.getLsbD (127 - i) := by
  unfold Ad.bit
  rw [if_neg (by omega), BitVec.getMsbD_eq_getLsbD]
  have e : 64 - 1 - (i - 64) = 127 - i := by omega
  have : i - 64 < 64 := by omega
  rw [e]
  simp [this]
theorem wrap_01 (b : Bool) : wrap64 (if b = true then 1 else 0) = if b = true then 1 else 0 := by cases b <;> simp [wrap64]
theorem bit_hi (hi lo : BitVec 64) (v6 : Bool) (i : Int) (h : isB ⟨hi, lo, v6⟩ i = true) (h6 : i < 64) (h0 : 0 ≤ i) :
    wrap64 (bits BinOp.and IntKind.u64 (((Ad.rd ⟨hi, lo, v6⟩).hi.toNat : Int) / 2 ^ (63 - i).toNat) 1) = bitI ⟨hi, lo, v6⟩ i := by
  have hw := (isB_iff _ _).1 h
  have hl := Ad.w_le ⟨hi, lo, v6⟩
  have hr := Ad.rd_bit ⟨hi, lo, v6⟩ i.toNat (by omega)
  have hlt : i.toNat < (Ad.mk hi lo v6).w := by omega
  simp only [hlt, decide_true, Bool.and_true] at hr
  rw [and_one]
  unfold bitI
  rw [if_pos h, ← hr, bit_lt _ _ (by omega), wrap_01]
  have e : 63 - i.toNat = (63 - i).toNat := by omega
  rw [e]
theorem bit_lo (hi lo : BitVec 64) (v6 : Bool) (i : Int) (h : isB ⟨hi, lo, v6⟩ i = true) (h6 : 64 ≤ i) (k : Nat) (hk : i < 128 → k = (127 - i).toNat) :
    wrap64 (bits BinOp.and IntKind.u64 (((Ad.rd ⟨hi, lo, v6⟩).lo.toNat : Int) / 2 ^ k) 1) = bitI ⟨hi, lo, v6⟩ i := by
  have hw := (isB_iff _ _).1 h
  have hl := Ad.w_le ⟨hi, lo, v6⟩
  have hr := Ad.rd_bit ⟨hi, lo, v6⟩ i.toNat (by omega)
  have hlt : i.toNat < (Ad.mk hi lo v6).w := by omega
  simp only [hlt, decide_true, Bool.and_true] at hr
  rw [and_one]
  unfold bitI
  rw [if_pos h, ← hr, bit_ge _ _ (by omega) (by omega), wrap_01]
  have e : 127 - i.toNat = k := by have := hk (by omega); omega
  rw [e]

set_option maxHeartbeats 1000000 in
theorem bit_c (hi lo : BitVec 64) (v6 : Bool) (i : Int) (w : World) : Calls Try.prog 140 #[.agg #[.int .u64 (hi.toNat : Int), .int .u64 (lo.toNat : Int), .bool v6], .int .i64 i] w fun e w' =>
    e = .returned (.int .i64 (bitI ⟨hi, lo, v6⟩ i)) ∧ Gr w w' := by
  cases h : isB ⟨hi, lo, v6⟩ i
  · go_enter Try.func140, Try.ntmps140
    go_wp2_with fail
    obtain ⟨W, hW, hB, k0⟩ := box1 w #[Value.int IntKind.u64 ↑hi.toNat, Value.int IntKind.u64 ↑lo.toNat, Value.bool v6] 25
    rw [← hW]
    clear hW
    have c0 := kept k0
    refine (is_c _ _ _ _ _).mono ?_
    rintro e w1 ⟨rfl, hb1⟩
    go_wp2_with fail
    go_ret
    exact ⟨by simp [bitI, h], hB.trans hb1⟩
  · have hr : 0 ≤ i ∧ i < widthI v6 := by simpa [isB] using h
    obtain ⟨hr0, hr1⟩ := hr
    have hr2 : i < 128 := by unfold widthI at hr1; split at hr1 <;> omega
    by_cases h6 : i < 64
    · have hq : i / 64 = 0 := by omega
      have hm : i % 64 = i := by omega
      go_enter Try.func140, Try.ntmps140
      go_wp2_with fail
      obtain ⟨W, hW, hB, k0⟩ := box1 w #[Value.int IntKind.u64 ↑hi.toNat, Value.int IntKind.u64 ↑lo.toNat, Value.bool v6] 25
      rw [← hW]
      clear hW
      have c0 := kept k0
      refine (is_c _ _ _ _ _).mono ?_
      rintro e w1 ⟨rfl, hb1⟩
      go_wp2_with (go_at_call 117; refine (read_c _ _ _ _).mono ?_; rintro e w2 ⟨rfl, hb2⟩)
      go_ret
      refine ⟨congrArg (fun x => Ending.returned (Value.int IntKind.i64 x)) (bit_hi hi lo v6 i h h6 hr0), ?_⟩
      exact ((hB.trans hb1).trans hb2).alloc _
    · have hq : i / 64 = 1 := by omega
      have hm : i % 64 = i - 64 := by omega
      go_enter Try.func140, Try.ntmps140
      go_wp2_with fail
      obtain ⟨W, hW, hB, k0⟩ := box1 w #[Value.int IntKind.u64 ↑hi.toNat, Value.int IntKind.u64 ↑lo.toNat, Value.bool v6] 25
      rw [← hW]
      clear hW
      have c0 := kept k0
      refine (is_c _ _ _ _ _).mono ?_
      rintro e w1 ⟨rfl, hb1⟩
      go_wp2_with (go_at_call 117; refine (read_c _ _ _ _).mono ?_; rintro e w2 ⟨rfl, hb2⟩)
      go_ret
      refine ⟨congrArg (fun x => Ending.returned (Value.int IntKind.i64 x)) (bit_lo hi lo v6 i h (by omega) _ (fun _ => by omega)), ?_⟩
      exact ((hB.trans hb1).trans hb2).alloc _

/-- with v modulo 2 as the i-th digit; without what is no digit, if there is none -/
def setA (a : Ad) (i : Int) (v : Int) : Ad := if isB a i = true then a.set i.toNat (v % 2 == 1) else a.rd

theorem setA_v6 (a : Ad) (i v : Int) : (setA a i v).v6 = a.v6 := by unfold setA; split <;> simp

set_option maxHeartbeats 2000000 in
theorem set_no (hi lo : BitVec 64) (v6 : Bool) (i u : Int) (w : World) (h : isB ⟨hi, lo, v6⟩ i = false) : Calls Try.prog 174 #[.agg #[.int .u64 (hi.toNat : Int), .int .u64 (lo.toNat : Int), .bool v6], .int .i64 i, .int .i64 u] w fun e w' =>
    e = .returned (.agg #[Value.int IntKind.u64 ((setA ⟨hi, lo, v6⟩ i u).hi.toNat : Int), Value.int IntKind.u64 ((setA ⟨hi, lo, v6⟩ i u).lo.toNat : Int), Value.bool v6]) ∧ Gr w w' := by
  go_enter Try.func174, Try.ntmps174
  go_wp2_with fail
  obtain ⟨W, hW, hB, k0, k1⟩ := box2 w #[Value.int IntKind.u64 (hi.toNat : Int), Value.int IntKind.u64 (lo.toNat : Int), Value.bool v6] #[Value.int IntKind.u64 0, Value.int IntKind.u64 0, Value.bool false] 25 25
  rw [← hW]
  clear hW
  have c0 := kept k0
  have c1 := kept k1
  have f1 := kept_free k1
  have z1 := blk_lt k1
  refine (read_c _ _ _ _).mono ?_
  rintro e w1 ⟨rfl, hb1⟩
  go_wp2_with fail
  have gk := blk_new w1 (Obj.cells #[Value.int IntKind.u64 ((Ad.rd ⟨hi, lo, v6⟩).hi.toNat : Int), Value.int IntKind.u64 ((Ad.rd ⟨hi, lo, v6⟩).lo.toNat : Int)] 185)
  have gb := (Gr.refl w1).alloc (Obj.cells #[Value.int IntKind.u64 ((Ad.rd ⟨hi, lo, v6⟩).hi.toNat : Int), Value.int IntKind.u64 ((Ad.rd ⟨hi, lo, v6⟩).lo.toNat : Int)] 185)
  generalize gh : w1.alloc (Obj.cells #[Value.int IntKind.u64 ((Ad.rd ⟨hi, lo, v6⟩).hi.toNat : Int), Value.int IntKind.u64 ((Ad.rd ⟨hi, lo, v6⟩).lo.toNat : Int)] 185) = W1 at gk gb ⊢
  clear gh
  have gc := kept gk
  have gf := kept_free gk
  have gz := blk_lt gk
  have hk1 := hb1.trans gb
  refine (is_c _ _ _ _ _).mono ?_
  rintro e w2 ⟨rfl, hb2⟩
  have hk2 := hk1.trans hb2
  go_wp2_with (go_at_call 119; refine (of_c _ _ _ _).mono ?_; rintro e w3 ⟨rfl, hb3⟩; have hk3 := hk2.trans hb3)
  have c1' := c1 w3 hk3
  refine bodyPost_ret (v := .agg #[Value.int IntKind.u64 ((Ad.rd ⟨hi, lo, v6⟩).hi.toNat : Int), Value.int IntKind.u64 ((Ad.rd ⟨hi, lo, v6⟩).lo.toNat : Int), Value.bool v6]) (by simp [results, Try.results174, go_sem, c1']) rfl ⟨?_, ?_⟩
  · simp [setA, h]
  · exact (((hB.trans hk3).set (by simp) _).set (by simp) _).set (by simp) _

theorem clr_rule (x : BitVec 64) (k : Nat) : bits BinOp.andNot IntKind.u64 (x.toNat : Int) ((oneB k).toNat : Int) = ((setB x k false).toNat : Int) := by
  rw [u64_andNot_bv]; rfl
theorem put_rule (x : BitVec 64) (k : Nat) : bits BinOp.or IntKind.u64 ((setB x k false).toNat : Int) ((oneB k).toNat : Int) = ((setB x k true).toNat : Int) := by
  rw [u64_or_bv]; rfl
theorem one_rule (q k : Nat) (h : q = 63 - k) : IntKind.u64.wrap (2 ^ q) = ((oneB k).toNat : Int) := by
  subst h
  unfold oneB
  rw [← shl_bv]
  congr 1
  simp

set_option maxHeartbeats 2000000 in
theorem set_yes0 (hi lo : BitVec 64) (v6 : Bool) (i u : Int) (w : World) (h : isB ⟨hi, lo, v6⟩ i = true) (hu : u = 0 ∨ u = 1 ∨ u = 2) (h6 : i < 64) : Calls Try.prog 174 #[.agg #[.int .u64 (hi.toNat : Int), .int .u64 (lo.toNat : Int), .bool v6], .int .i64 i, .int .i64 u] w fun e w' =>
    e = .returned (.agg #[Value.int IntKind.u64 ((setA ⟨hi, lo, v6⟩ i u).hi.toNat : Int), Value.int IntKind.u64 ((setA ⟨hi, lo, v6⟩ i u).lo.toNat : Int), Value.bool v6]) ∧ Gr w w' := by
  have hr := (isB_iff _ _).1 h
  have hw := Ad.w_le ⟨hi, lo, v6⟩
  obtain ⟨hr0, hr1⟩ := hr
  have hq : i / 64 = 0 := by omega
  have hm : i % 64 = i := by omega
  have r1 : ∀ x : BitVec 64, bits BinOp.andNot IntKind.u64 (x.toNat : Int) ((oneB i.toNat).toNat : Int) = ((setB x i.toNat false).toNat : Int) := fun x => clr_rule x _
  have r2 : ∀ x : BitVec 64, bits BinOp.or IntKind.u64 ((setB x i.toNat false).toNat : Int) ((oneB i.toNat).toNat : Int) = ((setB x i.toNat true).toNat : Int) := fun x => put_rule x _
  have r3 : ∀ q : Nat, q = (63 - i).toNat → IntKind.u64.wrap (2 ^ q) = ((oneB i.toNat).toNat : Int) := fun q hq => one_rule _ _ (by omega)
  have r4 := r3 _ rfl
  clear r3
  rcases hu with rfl | rfl | rfl
  · have hbb : (bits BinOp.and IntKind.i64 0 1 == 1) = false := by decide
    have hH : setA ⟨hi, lo, v6⟩ i 0 = ⟨(setB (Ad.rd ⟨hi, lo, v6⟩).hi i.toNat false), (Ad.rd ⟨hi, lo, v6⟩).lo, v6⟩ := by
      unfold setA Ad.set
      rw [if_pos h, if_pos (by omega)]
      rfl
    clear hw
    have HH := Lib.hid hH
    clear hH
    go_enter Try.func174, Try.ntmps174
    go_wp2_with fail
    obtain ⟨W, hW, hB, k0, k1⟩ := box2 w #[Value.int IntKind.u64 (hi.toNat : Int), Value.int IntKind.u64 (lo.toNat : Int), Value.bool v6] #[Value.int IntKind.u64 0, Value.int IntKind.u64 0, Value.bool false] 25 25
    rw [← hW]
    clear hW
    have c0 := kept k0
    have c1 := kept k1
    have f1 := kept_free k1
    have z1 := blk_lt k1
    refine (read_c _ _ _ _).mono ?_
    rintro e w1 ⟨rfl, hb1⟩
    go_wp2_with fail
    have gk := blk_new w1 (Obj.cells #[Value.int IntKind.u64 ((Ad.rd ⟨hi, lo, v6⟩).hi.toNat : Int), Value.int IntKind.u64 ((Ad.rd ⟨hi, lo, v6⟩).lo.toNat : Int)] 185)
    have gb := (Gr.refl w1).alloc (Obj.cells #[Value.int IntKind.u64 ((Ad.rd ⟨hi, lo, v6⟩).hi.toNat : Int), Value.int IntKind.u64 ((Ad.rd ⟨hi, lo, v6⟩).lo.toNat : Int)] 185)
    generalize gh : w1.alloc (Obj.cells #[Value.int IntKind.u64 ((Ad.rd ⟨hi, lo, v6⟩).hi.toNat : Int), Value.int IntKind.u64 ((Ad.rd ⟨hi, lo, v6⟩).lo.toNat : Int)] 185) = W1 at gk gb ⊢
    clear gh
    have gc := kept gk
    have gf := kept_free gk
    have gz := blk_lt gk
    have hk1 := hb1.trans gb
    refine (is_c _ _ _ _ _).mono ?_
    rintro e w2 ⟨rfl, hb2⟩
    have hk2 := hk1.trans hb2
    have n1 : w.heap.size ≠ w1.heap.size := by have := hb1.size; omega
    go_wp2_with fail
    refine (of_c _ _ _ _).mono ?_
    rintro e w3 ⟨rfl, hb3⟩
    have hk3 := (hk2.set hb1.size _).trans hb3
    go_wp2_with fail
    have c1' := c1 w3 hk3
    refine bodyPost_ret (v := .agg #[Value.int IntKind.u64 ((setB (Ad.rd ⟨hi, lo, v6⟩).hi i.toNat false).toNat : Int), Value.int IntKind.u64 ((Ad.rd ⟨hi, lo, v6⟩).lo.toNat : Int), Value.bool v6]) (by simp [results, Try.results174, go_sem, c1']) rfl ⟨?_, ?_⟩
    · rw [HH.out]
    · exact (((hB.trans hk3).set (by simp) _).set (by simp) _).set (by simp) _
  · have hbb : (bits BinOp.and IntKind.i64 1 1 == 1) = true := by decide
    have hH : setA ⟨hi, lo, v6⟩ i 1 = ⟨(setB (Ad.rd ⟨hi, lo, v6⟩).hi i.toNat true), (Ad.rd ⟨hi, lo, v6⟩).lo, v6⟩ := by
      unfold setA Ad.set
      rw [if_pos h, if_pos (by omega)]
      rfl
    clear hw
    have HH := Lib.hid hH
    clear hH
    go_enter Try.func174, Try.ntmps174
    go_wp2_with fail
    obtain ⟨W, hW, hB, k0, k1⟩ := box2 w #[Value.int IntKind.u64 (hi.toNat : Int), Value.int IntKind.u64 (lo.toNat : Int), Value.bool v6] #[Value.int IntKind.u64 0, Value.int IntKind.u64 0, Value.bool false] 25 25
    rw [← hW]
    clear hW
    have c0 := kept k0
    have c1 := kept k1
    have f1 := kept_free k1
    have z1 := blk_lt k1
    refine (read_c _ _ _ _).mono ?_
    rintro e w1 ⟨rfl, hb1⟩
    go_wp2_with fail
    have gk := blk_new w1 (Obj.cells #[Value.int IntKind.u64 ((Ad.rd ⟨hi, lo, v6⟩).hi.toNat : Int), Value.int IntKind.u64 ((Ad.rd ⟨hi, lo, v6⟩).lo.toNat : Int)] 185)
    have gb := (Gr.refl w1).alloc (Obj.cells #[Value.int IntKind.u64 ((Ad.rd ⟨hi, lo, v6⟩).hi.toNat : Int), Value.int IntKind.u64 ((Ad.rd ⟨hi, lo, v6⟩).lo.toNat : Int)] 185)
    generalize gh : w1.alloc (Obj.cells #[Value.int IntKind.u64 ((Ad.rd ⟨hi, lo, v6⟩).hi.toNat : Int), Value.int IntKind.u64 ((Ad.rd ⟨hi, lo, v6⟩).lo.toNat : Int)] 185) = W1 at gk gb ⊢
    clear gh
    have gc := kept gk
    have gf := kept_free gk
    have gz := blk_lt gk
    have hk1 := hb1.trans gb
    refine (is_c _ _ _ _ _).mono ?_
    rintro e w2 ⟨rfl, hb2⟩
    have hk2 := hk1.trans hb2
    have n1 : w.heap.size ≠ w1.heap.size := by have := hb1.size; omega
    go_wp2_with fail
    refine (of_c _ _ _ _).mono ?_
    rintro e w3 ⟨rfl, hb3⟩
    have hk3 := (hk2.set hb1.size _).trans hb3
    go_wp2_with fail
    have c1' := c1 w3 hk3
    refine bodyPost_ret (v := .agg #[Value.int IntKind.u64 ((setB (Ad.rd ⟨hi, lo, v6⟩).hi i.toNat true).toNat : Int), Value.int IntKind.u64 ((Ad.rd ⟨hi, lo, v6⟩).lo.toNat : Int), Value.bool v6]) (by simp [results, Try.results174, go_sem, c1']) rfl ⟨?_, ?_⟩
    · rw [HH.out]
    · exact (((hB.trans hk3).set (by simp) _).set (by simp) _).set (by simp) _
  · have hbb : (bits BinOp.and IntKind.i64 2 1 == 1) = false := by decide
    have hH : setA ⟨hi, lo, v6⟩ i 2 = ⟨(setB (Ad.rd ⟨hi, lo, v6⟩).hi i.toNat false), (Ad.rd ⟨hi, lo, v6⟩).lo, v6⟩ := by
      unfold setA Ad.set
      rw [if_pos h, if_pos (by omega)]
      rfl
    clear hw
    have HH := Lib.hid hH
    clear hH
    go_enter Try.func174, Try.ntmps174
    go_wp2_with fail
    obtain ⟨W, hW, hB, k0, k1⟩ := box2 w #[Value.int IntKind.u64 (hi.toNat : Int), Value.int IntKind.u64 (lo.toNat : Int), Value.bool v6] #[Value.int IntKind.u64 0, Value.int IntKind.u64 0, Value.bool false] 25 25
    rw [← hW]
    clear hW
    have c0 := kept k0
    have c1 := kept k1
    have f1 := kept_free k1
    have z1 := blk_lt k1
    refine (read_c _ _ _ _).mono ?_
    rintro e w1 ⟨rfl, hb1⟩
    go_wp2_with fail
    have gk := blk_new w1 (Obj.cells #[Value.int IntKind.u64 ((Ad.rd ⟨hi, lo, v6⟩).hi.toNat : Int), Value.int IntKind.u64 ((Ad.rd ⟨hi, lo, v6⟩).lo.toNat : Int)] 185)
    have gb := (Gr.refl w1).alloc (Obj.cells #[Value.int IntKind.u64 ((Ad.rd ⟨hi, lo, v6⟩).hi.toNat : Int), Value.int IntKind.u64 ((Ad.rd ⟨hi, lo, v6⟩).lo.toNat : Int)] 185)
    generalize gh : w1.alloc (Obj.cells #[Value.int IntKind.u64 ((Ad.rd ⟨hi, lo, v6⟩).hi.toNat : Int), Value.int IntKind.u64 ((Ad.rd ⟨hi, lo, v6⟩).lo.toNat : Int)] 185) = W1 at gk gb ⊢
    clear gh
    have gc := kept gk
    have gf := kept_free gk
    have gz := blk_lt gk
    have hk1 := hb1.trans gb
    refine (is_c _ _ _ _ _).mono ?_
    rintro e w2 ⟨rfl, hb2⟩
    have hk2 := hk1.trans hb2
    have n1 : w.heap.size ≠ w1.heap.size := by have := hb1.size; omega
    go_wp2_with fail
    refine (of_c _ _ _ _).mono ?_
    rintro e w3 ⟨rfl, hb3⟩
    have hk3 := (hk2.set hb1.size _).trans hb3
    go_wp2_with fail
    have c1' := c1 w3 hk3
    refine bodyPost_ret (v := .agg #[Value.int IntKind.u64 ((setB (Ad.rd ⟨hi, lo, v6⟩).hi i.toNat false).toNat : Int), Value.int IntKind.u64 ((Ad.rd ⟨hi, lo, v6⟩).lo.toNat : Int), Value.bool v6]) (by simp [results, Try.results174, go_sem, c1']) rfl ⟨?_, ?_⟩
    · rw [HH.out]
    · exact (((hB.trans hk3).set (by simp) _).set (by simp) _).set (by simp) _

set_option maxHeartbeats 2000000 in
theorem set_yes1 (hi lo : BitVec 64) (v6 : Bool) (i u : Int) (w : World) (h : isB ⟨hi, lo, v6⟩ i = true) (hu : u = 0 ∨ u = 1 ∨ u = 2) (h6 : 64 ≤ i) : Calls Try.prog 174 #[.agg #[.int .u64 (hi.toNat : Int), .int .u64 (lo.toNat : Int), .bool v6], .int .i64 i, .int .i64 u] w fun e w' =>
    e = .returned (.agg #[Value.int IntKind.u64 ((setA ⟨hi, lo, v6⟩ i u).hi.toNat : Int), Value.int IntKind.u64 ((setA ⟨hi, lo, v6⟩ i u).lo.toNat : Int), Value.bool v6]) ∧ Gr w w' := by
  have hr := (isB_iff _ _).1 h
  have hw := Ad.w_le ⟨hi, lo, v6⟩
  obtain ⟨hr0, hr1⟩ := hr
  have hq : i / 64 = 1 := by omega
  have hm : i % 64 = i - 64 := by omega
  have r1 : ∀ x : BitVec 64, bits BinOp.andNot IntKind.u64 (x.toNat : Int) ((oneB (i.toNat - 64)).toNat : Int) = ((setB x (i.toNat - 64) false).toNat : Int) := fun x => clr_rule x _
  have r2 : ∀ x : BitVec 64, bits BinOp.or IntKind.u64 ((setB x (i.toNat - 64) false).toNat : Int) ((oneB (i.toNat - 64)).toNat : Int) = ((setB x (i.toNat - 64) true).toNat : Int) := fun x => put_rule x _
  have r3 : ∀ q : Nat, q = (63 - (i - 64)).toNat → IntKind.u64.wrap (2 ^ q) = ((oneB (i.toNat - 64)).toNat : Int) := fun q hq => one_rule _ _ (by omega)
  have r4 := r3 _ rfl
  clear r3
  rcases hu with rfl | rfl | rfl
  · have hbb : (bits BinOp.and IntKind.i64 0 1 == 1) = false := by decide
    have hH : setA ⟨hi, lo, v6⟩ i 0 = ⟨(Ad.rd ⟨hi, lo, v6⟩).hi, (setB (Ad.rd ⟨hi, lo, v6⟩).lo (i.toNat - 64) false), v6⟩ := by
      unfold setA Ad.set
      rw [if_pos h, if_neg (by omega)]
      rfl
    clear hw
    have HH := Lib.hid hH
    clear hH
    go_enter Try.func174, Try.ntmps174
    go_wp2_with fail
    obtain ⟨W, hW, hB, k0, k1⟩ := box2 w #[Value.int IntKind.u64 (hi.toNat : Int), Value.int IntKind.u64 (lo.toNat : Int), Value.bool v6] #[Value.int IntKind.u64 0, Value.int IntKind.u64 0, Value.bool false] 25 25
    rw [← hW]
    clear hW
    have c0 := kept k0
    have c1 := kept k1
    have f1 := kept_free k1
    have z1 := blk_lt k1
    refine (read_c _ _ _ _).mono ?_
    rintro e w1 ⟨rfl, hb1⟩
    go_wp2_with fail
    have gk := blk_new w1 (Obj.cells #[Value.int IntKind.u64 ((Ad.rd ⟨hi, lo, v6⟩).hi.toNat : Int), Value.int IntKind.u64 ((Ad.rd ⟨hi, lo, v6⟩).lo.toNat : Int)] 185)
    have gb := (Gr.refl w1).alloc (Obj.cells #[Value.int IntKind.u64 ((Ad.rd ⟨hi, lo, v6⟩).hi.toNat : Int), Value.int IntKind.u64 ((Ad.rd ⟨hi, lo, v6⟩).lo.toNat : Int)] 185)
    generalize gh : w1.alloc (Obj.cells #[Value.int IntKind.u64 ((Ad.rd ⟨hi, lo, v6⟩).hi.toNat : Int), Value.int IntKind.u64 ((Ad.rd ⟨hi, lo, v6⟩).lo.toNat : Int)] 185) = W1 at gk gb ⊢
    clear gh
    have gc := kept gk
    have gf := kept_free gk
    have gz := blk_lt gk
    have hk1 := hb1.trans gb
    refine (is_c _ _ _ _ _).mono ?_
    rintro e w2 ⟨rfl, hb2⟩
    have hk2 := hk1.trans hb2
    have n1 : w.heap.size ≠ w1.heap.size := by have := hb1.size; omega
    go_wp2_with fail
    refine (of_c _ _ _ _).mono ?_
    rintro e w3 ⟨rfl, hb3⟩
    have hk3 := (hk2.set hb1.size _).trans hb3
    go_wp2_with fail
    have c1' := c1 w3 hk3
    refine bodyPost_ret (v := .agg #[Value.int IntKind.u64 ((Ad.rd ⟨hi, lo, v6⟩).hi.toNat : Int), Value.int IntKind.u64 ((setB (Ad.rd ⟨hi, lo, v6⟩).lo (i.toNat - 64) false).toNat : Int), Value.bool v6]) (by simp [results, Try.results174, go_sem, c1']) rfl ⟨?_, ?_⟩
    · rw [HH.out]
    · exact (((hB.trans hk3).set (by simp) _).set (by simp) _).set (by simp) _
  · have hbb : (bits BinOp.and IntKind.i64 1 1 == 1) = true := by decide
    have hH : setA ⟨hi, lo, v6⟩ i 1 = ⟨(Ad.rd ⟨hi, lo, v6⟩).hi, (setB (Ad.rd ⟨hi, lo, v6⟩).lo (i.toNat - 64) true), v6⟩ := by
      unfold setA Ad.set
      rw [if_pos h, if_neg (by omega)]
      rfl
    clear hw
    have HH := Lib.hid hH
    clear hH
    go_enter Try.func174, Try.ntmps174
    go_wp2_with fail
    obtain ⟨W, hW, hB, k0, k1⟩ := box2 w #[Value.int IntKind.u64 (hi.toNat : Int), Value.int IntKind.u64 (lo.toNat : Int), Value.bool v6] #[Value.int IntKind.u64 0, Value.int IntKind.u64 0, Value.bool false] 25 25
    rw [← hW]
    clear hW
    have c0 := kept k0
    have c1 := kept k1
    have f1 := kept_free k1
    have z1 := blk_lt k1
    refine (read_c _ _ _ _).mono ?_
    rintro e w1 ⟨rfl, hb1⟩
    go_wp2_with fail
    have gk := blk_new w1 (Obj.cells #[Value.int IntKind.u64 ((Ad.rd ⟨hi, lo, v6⟩).hi.toNat : Int), Value.int IntKind.u64 ((Ad.rd ⟨hi, lo, v6⟩).lo.toNat : Int)] 185)
    have gb := (Gr.refl w1).alloc (Obj.cells #[Value.int IntKind.u64 ((Ad.rd ⟨hi, lo, v6⟩).hi.toNat : Int), Value.int IntKind.u64 ((Ad.rd ⟨hi, lo, v6⟩).lo.toNat : Int)] 185)
    generalize gh : w1.alloc (Obj.cells #[Value.int IntKind.u64 ((Ad.rd ⟨hi, lo, v6⟩).hi.toNat : Int), Value.int IntKind.u64 ((Ad.rd ⟨hi, lo, v6⟩).lo.toNat : Int)] 185) = W1 at gk gb ⊢
    clear gh
    have gc := kept gk
    have gf := kept_free gk
    have gz := blk_lt gk
    have hk1 := hb1.trans gb
    refine (is_c _ _ _ _ _).mono ?_
    rintro e w2 ⟨rfl, hb2⟩
    have hk2 := hk1.trans hb2
    have n1 : w.heap.size ≠ w1.heap.size := by have := hb1.size; omega
    go_wp2_with fail
    refine (of_c _ _ _ _).mono ?_
    rintro e w3 ⟨rfl, hb3⟩
    have hk3 := (hk2.set hb1.size _).trans hb3
    go_wp2_with fail
    have c1' := c1 w3 hk3
    refine bodyPost_ret (v := .agg #[Value.int IntKind.u64 ((Ad.rd ⟨hi, lo, v6⟩).hi.toNat : Int), Value.int IntKind.u64 ((setB (Ad.rd ⟨hi, lo, v6⟩).lo (i.toNat - 64) true).toNat : Int), Value.bool v6]) (by simp [results, Try.results174, go_sem, c1']) rfl ⟨?_, ?_⟩
    · rw [HH.out]
    · exact (((hB.trans hk3).set (by simp) _).set (by simp) _).set (by simp) _
  · have hbb : (bits BinOp.and IntKind.i64 2 1 == 1) = false := by decide
    have hH : setA ⟨hi, lo, v6⟩ i 2 = ⟨(Ad.rd ⟨hi, lo, v6⟩).hi, (setB (Ad.rd ⟨hi, lo, v6⟩).lo (i.toNat - 64) false), v6⟩ := by
      unfold setA Ad.set
      rw [if_pos h, if_neg (by omega)]
      rfl
    clear hw
    have HH := Lib.hid hH
    clear hH
    go_enter Try.func174, Try.ntmps174
    go_wp2_with fail
    obtain ⟨W, hW, hB, k0, k1⟩ := box2 w #[Value.int IntKind.u64 (hi.toNat : Int), Value.int IntKind.u64 (lo.toNat : Int), Value.bool v6] #[Value.int IntKind.u64 0, Value.int IntKind.u64 0, Value.bool false] 25 25
    rw [← hW]
    clear hW
    have c0 := kept k0
    have c1 := kept k1
    have f1 := kept_free k1
    have z1 := blk_lt k1
    refine (read_c _ _ _ _).mono ?_
    rintro e w1 ⟨rfl, hb1⟩
    go_wp2_with fail
    have gk := blk_new w1 (Obj.cells #[Value.int IntKind.u64 ((Ad.rd ⟨hi, lo, v6⟩).hi.toNat : Int), Value.int IntKind.u64 ((Ad.rd ⟨hi, lo, v6⟩).lo.toNat : Int)] 185)
    have gb := (Gr.refl w1).alloc (Obj.cells #[Value.int IntKind.u64 ((Ad.rd ⟨hi, lo, v6⟩).hi.toNat : Int), Value.int IntKind.u64 ((Ad.rd ⟨hi, lo, v6⟩).lo.toNat : Int)] 185)
    generalize gh : w1.alloc (Obj.cells #[Value.int IntKind.u64 ((Ad.rd ⟨hi, lo, v6⟩).hi.toNat : Int), Value.int IntKind.u64 ((Ad.rd ⟨hi, lo, v6⟩).lo.toNat : Int)] 185) = W1 at gk gb ⊢
    clear gh
    have gc := kept gk
    have gf := kept_free gk
    have gz := blk_lt gk
    have hk1 := hb1.trans gb
    refine (is_c _ _ _ _ _).mono ?_
    rintro e w2 ⟨rfl, hb2⟩
    have hk2 := hk1.trans hb2
    have n1 : w.heap.size ≠ w1.heap.size := by have := hb1.size; omega
    go_wp2_with fail
    refine (of_c _ _ _ _).mono ?_
    rintro e w3 ⟨rfl, hb3⟩
    have hk3 := (hk2.set hb1.size _).trans hb3
    go_wp2_with fail
    have c1' := c1 w3 hk3
    refine bodyPost_ret (v := .agg #[Value.int IntKind.u64 ((Ad.rd ⟨hi, lo, v6⟩).hi.toNat : Int), Value.int IntKind.u64 ((setB (Ad.rd ⟨hi, lo, v6⟩).lo (i.toNat - 64) false).toNat : Int), Value.bool v6]) (by simp [results, Try.results174, go_sem, c1']) rfl ⟨?_, ?_⟩
    · rw [HH.out]
    · exact (((hB.trans hk3).set (by simp) _).set (by simp) _).set (by simp) _

theorem set_c (hi lo : BitVec 64) (v6 : Bool) (i u : Int) (hu : u = 0 ∨ u = 1 ∨ u = 2) (w : World) : Calls Try.prog 174 #[.agg #[.int .u64 (hi.toNat : Int), .int .u64 (lo.toNat : Int), .bool v6], .int .i64 i, .int .i64 u] w fun e w' =>
    e = .returned (.agg #[Value.int IntKind.u64 ((setA ⟨hi, lo, v6⟩ i u).hi.toNat : Int), Value.int IntKind.u64 ((setA ⟨hi, lo, v6⟩ i u).lo.toNat : Int), Value.bool v6]) ∧ Gr w w' := by
  cases h : isB ⟨hi, lo, v6⟩ i
  · exact set_no hi lo v6 i u w h
  · by_cases h6 : i < 64
    · exact set_yes0 hi lo v6 i u w h hu h6
    · exact set_yes1 hi lo v6 i u w h hu (by omega)

end Go.Proofs.Ytdecgbgndffkkaa
