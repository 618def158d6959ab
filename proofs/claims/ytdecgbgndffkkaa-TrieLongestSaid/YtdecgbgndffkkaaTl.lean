/- What reads the tree: Longest, Get, Inside, Len, Nodes, Slots. -/
import Derived.Test.YtdecgbgndffkkaaTa
import Derived.IntWalk
import Derived.ChangeKeysEq
set_option linter.unusedVariables false
set_option linter.unusedSimpArgs false
namespace Go.Proofs.Ytdecgbgndffkkaa
open Go.RowKit

theorem eqKin (d : Nat) (a b c d' : Int) (w : World) : (Op.equalIn (d + 1 + 1) 151 (.agg #[.int .i64 a, .int .i64 b]) (.agg #[.int .i64 c, .int .i64 d'])).run Try.prog w = .ok (decide (a = c) && decide (b = d')) w := by
  obtain ⟨i, _, hi, _⟩ := intT.inf
  rw [run_equalIn_array w (d + 1) _ _ Try.underlying151 hi]
  have hc : Try.prog.cellsOf 3 = 1 := by kernel_rfl
  rw [hc]
  by_cases e1 : a = c <;> by_cases e2 : b = d' <;> simp [Op.eqItems, List.range, List.range.loop, go_sem, e1, e2]
theorem neqK_run (a b c d : Int) (w : World) :
    (binOp .neq 151 (.agg #[.int .i64 a, .int .i64 b]) (.agg #[.int .i64 c, .int .i64 d])).run Try.prog w = .ok (.bool (!(decide (a = c) && decide (b = d)))) w := by
  have := eqKin 9998 a b c d w
  simp only [Nat.reduceAdd] at this
  simp [go_sem, this]
theorem eqK_run (a b c d : Int) (w : World) :
    (binOp .eql 151 (.agg #[.int .i64 a, .int .i64 b]) (.agg #[.int .i64 c, .int .i64 d])).run Try.prog w = .ok (.bool (decide (a = c) && decide (b = d))) w := by
  have := eqKin 9998 a b c d w
  simp only [Nat.reduceAdd] at this
  simp [go_sem, this]
attribute [go_sem ↓] neqK_run eqK_run

def wholeP (a : Ad) : Px := ofP a (widthI a.v6)
/-- a pair, and whether there is one -/
def longI (ar : List Nd) (a : Ad) : Option (Px × Int) := (aboveI ar (wholeP a)).getLast?
def zeroPx : Px := ⟨⟨0, 0, false⟩, 0⟩
def prV (o : Option (Px × Int)) : Value := .agg ((prC (o.getD (zeroPx, 0))).toArray)

set_option maxHeartbeats 2000000 in
theorem longest_c {base tb : Nat} {t : TS} {va vf : Value} (hk : kidsOk t) (hi lo : BitVec 64) (v6 : Bool) (w : World) (hT : TrieAt w base tb t va vf) :
    Calls Try.prog 25 #[.pointer (some ⟨tb, 0, none⟩), .agg #[.int .u64 (hi.toNat : Int), .int .u64 (lo.toNat : Int), .bool v6]] w fun e w' =>
      e = .returned (.tuple #[prV (longI t.ar ⟨hi, lo, v6⟩), .bool (longI t.ar ⟨hi, lo, v6⟩).isSome]) ∧ Gr w w' := by
  have hlen := hk.1
  have HT := Lib.hid hT
  have HK := Lib.hid hk
  clear hT hk
  go_enter Try.func25, Try.ntmps25
  go_wp2_with fail
  obtain ⟨W, hW, hB, k0, k1⟩ := box2 w #[Value.int IntKind.u64 (hi.toNat : Int), Value.int IntKind.u64 (lo.toNat : Int), Value.bool v6] #[Value.int IntKind.u64 0, Value.int IntKind.u64 0, Value.bool false, Value.int IntKind.i64 0, Value.int IntKind.i64 0] 25 39
  rw [← hW]
  clear hW
  have c0 := kept k0
  have f1 := kept_free k1
  have c1 := kept k1
  refine wp_region_mix [(0, 0), (1, 1), (2, 0), (3, 1), (4, 2), (5, 2), (6, 2), (7, 0)] 6 (fun w' => Gr W w') (by kernel_rfl) (by kernel_rfl) (Gr.refl _).drew (fun wz hwz => ?_)
  have hS : Gr W wz := by rw [hwz]; exact (Gr.refl _).drew
  clear hwz
  simp only [pickL, pick1]
  repeat (first | (refine mx_skip0 (by with_unfolding_all rfl) ?_; try simp only [Act.put, List.setIfInBounds_toArray, List.set_cons_zero, List.set_cons_succ]) | (refine mx_skip1 (by with_unfolding_all rfl) ?_; try simp only [Act.put, List.setIfInBounds_toArray, List.set_cons_zero, List.set_cons_succ]) | (refine mx_pure (by rfl) ?_; apply Exists.intro; refine ⟨fun wq => ?_, ?_⟩; (· (go_simp; with_reducible rfl)); try simp only [Act.put, List.setIfInBounds_toArray, List.set_cons_zero, List.set_cons_succ]) | (refine mx_load (by rfl) ?_; apply Exists.intro; refine ⟨fun wq hq => ?_, ?_⟩; (· (go_simp; with_reducible rfl)); try simp only [Act.put, List.setIfInBounds_toArray, List.set_cons_zero, List.set_cons_succ]))
  refine mx_act (by rfl) (by rfl) (fun K hK => ?_)
  go_simp
  (go_at_call 93; refine (width_c v6 _).mono ?_; rintro e w1 ⟨rfl, rfl⟩)
  try (go_wp2_with fail)
  refine hK.out _ _ (fun _ => hS) ?_
  clear hK K
  try simp only [Act.put, List.setIfInBounds_toArray, List.set_cons_zero, List.set_cons_succ]
  repeat (first | (refine mx_skip0 (by with_unfolding_all rfl) ?_; try simp only [Act.put, List.setIfInBounds_toArray, List.set_cons_zero, List.set_cons_succ]) | (refine mx_skip1 (by with_unfolding_all rfl) ?_; try simp only [Act.put, List.setIfInBounds_toArray, List.set_cons_zero, List.set_cons_succ]) | (refine mx_pure (by rfl) ?_; apply Exists.intro; refine ⟨fun wq => ?_, ?_⟩; (· (go_simp; with_reducible rfl)); try simp only [Act.put, List.setIfInBounds_toArray, List.set_cons_zero, List.set_cons_succ]) | (refine mx_load (by rfl) ?_; apply Exists.intro; refine ⟨fun wq hq => ?_, ?_⟩; (· (go_simp; with_reducible rfl)); try simp only [Act.put, List.setIfInBounds_toArray, List.set_cons_zero, List.set_cons_succ]))
  refine mx_act (by rfl) (by rfl) (fun K hK => ?_)
  go_simp
  (go_at_call 24; refine (ofP_c hi lo v6 _ _).mono ?_; rintro e w1 ⟨rfl, hb1⟩)
  try (go_wp2_with fail)
  refine hK.out _ _ (fun _ => hS.trans hb1) ?_
  clear hK K
  try simp only [Act.put, List.setIfInBounds_toArray, List.set_cons_zero, List.set_cons_succ]
  repeat (first | (refine mx_skip0 (by with_unfolding_all rfl) ?_; try simp only [Act.put, List.setIfInBounds_toArray, List.set_cons_zero, List.set_cons_succ]) | (refine mx_skip1 (by with_unfolding_all rfl) ?_; try simp only [Act.put, List.setIfInBounds_toArray, List.set_cons_zero, List.set_cons_succ]) | (refine mx_pure (by rfl) ?_; apply Exists.intro; refine ⟨fun wq => ?_, ?_⟩; (· (go_simp; with_reducible rfl)); try simp only [Act.put, List.setIfInBounds_toArray, List.set_cons_zero, List.set_cons_succ]) | (refine mx_load (by rfl) ?_; apply Exists.intro; refine ⟨fun wq hq => ?_, ?_⟩; (· (go_simp; with_reducible rfl)); try simp only [Act.put, List.setIfInBounds_toArray, List.set_cons_zero, List.set_cons_succ]))
  have hS1 := hS.trans hb1
  refine mx_act (by rfl) (by rfl) (fun K hK => ?_)
  go_simp
  (go_at_call 23; refine (above_c HK.out _ _ _ _ _ (HT.out.gr (hB.trans hS1))).mono ?_; rintro e w2 ⟨v, rfl, hown, hb2⟩)
  try (go_wp2_with fail)
  refine hK.out _ _ (fun _ => hS1.trans hb2) ?_
  clear hK K
  try simp only [Act.put, List.setIfInBounds_toArray, List.set_cons_zero, List.set_cons_succ]
  repeat (first | (refine mx_skip0 (by with_unfolding_all rfl) ?_; try simp only [Act.put, List.setIfInBounds_toArray, List.set_cons_zero, List.set_cons_succ]) | (refine mx_skip1 (by with_unfolding_all rfl) ?_; try simp only [Act.put, List.setIfInBounds_toArray, List.set_cons_zero, List.set_cons_succ]) | (refine mx_pure (by rfl) ?_; apply Exists.intro; refine ⟨fun wq => ?_, ?_⟩; (· (go_simp; with_reducible rfl)); try simp only [Act.put, List.setIfInBounds_toArray, List.set_cons_zero, List.set_cons_succ]) | (refine mx_load (by rfl) ?_; apply Exists.intro; refine ⟨fun wq hq => ?_, ?_⟩; (· (go_simp; with_reducible rfl)); try simp only [Act.put, List.setIfInBounds_toArray, List.set_cons_zero, List.set_cons_succ]))
  refine mx_end ?_
  have HL := Lib.hid (show longI t.ar ⟨hi, lo, v6⟩ = (aboveI t.ar (ofP ⟨hi, lo, v6⟩ (widthI v6))).getLast? from rfl)
  generalize hl : aboveI t.ar (ofP ⟨hi, lo, v6⟩ (widthI v6)) = l at HL hown
  have hk1 := blk_gr k1 (hS1.trans hb2)
  have d1 := kept hk1
  have e1 := kept_free hk1
  have HG := Lib.hid (hB.trans (hS1.trans hb2))
  rcases List.eq_nil_or_concat l with rfl | ⟨l', x, rfl⟩
  · obtain ⟨a', cap', rfl, _⟩ := hown.lenv
    simp only [List.length_nil] at hown ⊢
    go_wp2_with fail
    rw [HL.out]
    refine bodyPost_ret (v := .tuple #[prV none, .bool false]) (by simp [results, Try.results25, go_sem, d1 w2 (Gr.refl _), prV, prC, zeroPx]) rfl ⟨by simp, ?_⟩
    repeat (first | exact HG.out | refine Gr.set ?_ (by first | (simp; done) | (simp; omega) | omega) _ | refine Gr.alloc ?_ _)
  · obtain ⟨a0, cap0, hv0, hm0⟩ := hown.lenv
    obtain ⟨g, cap, rfl, _, hgl⟩ := hown.form (by simp)
    have x0 := cell_all (hown.at prE rfl l'.length x (by simp) 0 (by omega))
    have x1 := cell_all (hown.at prE rfl l'.length x (by simp) 1 (by omega))
    have x2 := cell_all (hown.at prE rfl l'.length x (by simp) 2 (by omega))
    have x3 := cell_all (hown.at prE rfl l'.length x (by simp) 3 (by omega))
    have x4 := cell_all (hown.at prE rfl l'.length x (by simp) 4 (by omega))
    have HO := Lib.hid hown
    clear hown hv0
    rw [List.concat_eq_append, List.getLast?_concat] at HL
    simp only [prC, List.getElem?_cons_succ, List.getElem?_cons_zero, List.length_append, List.length_singleton, List.concat_eq_append, Nat.add_zero] at x0 x1 x2 x3 x4 hm0 ⊢
    generalize hm : l'.length = m at x0 x1 x2 x3 x4 hm0 ⊢
    clear hm hl
    have hb : ((m : Int) + 1 == 0) = false := by simp; omega
    have hx : wrap64 (m : Int) = (m : Int) := IntWalk.wrap64_in _ (by simp only [maxLen] at hm0; omega)
    have hx2 : (0 : Int) ≤ (m : Int) := by omega
    have hx3 : (m : Int) < (m : Int) + 1 := by omega
    have HM := Lib.hid hm0
    clear hm0
    go_wp2_with fail
    rw [HL.out]
    refine bodyPost_ret (v := .tuple #[prV (some x), .bool true]) (by simp [results, Try.results25, go_sem, d1 w2 (Gr.refl _), prV, prC, zeroPx]) rfl ⟨by simp, ?_⟩
    repeat (first | exact HG.out | refine Gr.set ?_ (by first | (simp; done) | (simp; omega) | omega) _ | refine Gr.alloc ?_ _)

set_option maxHeartbeats 1000000 in
theorem len_c {base tb : Nat} {t : TS} {va vf : Value} (hk : kidsOk t) (w : World) (hT : TrieAt w base tb t va vf) :
    Calls Try.prog 136 #[.pointer (some ⟨tb, 0, none⟩)] w fun e w' => e = .returned (.int .i64 t.n) ∧ w = w' := by
  have hlen := hk.1
  have HT := Lib.hid hT
  have c0 := kept hT.blk
  clear hT hk
  go_enter Try.func136, Try.ntmps136
  go_wp2_with (go_at_call 90; refine (made_c _ HT.out (by omega)).mono ?_; rintro e w' ⟨rfl, rfl⟩)
  go_ret
  exact ⟨rfl, rfl⟩

/-- what is put there -/
def getI (ar : List Nd) (p : Px) : Option Int := match ar[(findI ar p).toNat]? with
  | some x => if findI ar p = -1 then none else if x.ends then some x.v else none
  | none => none
theorem getI_eq (ar : List Nd) (p : Px) (x : Int) (h : findI ar p = x) : getI ar p = match ar[x.toNat]? with
  | some nd => if x = -1 then none else if nd.ends then some nd.v else none
  | none => none := by subst h; rfl
/-- a found node is a node -/
theorem pathF_ok {t : TS} (hk : kidsOk t) (a : Ad) : ∀ (d k : Nat) (at_ : Int), (at_ = -1 ∨ (0 ≤ at_ ∧ at_ < t.ar.length)) → ∀ x ∈ pathF t.ar a d k at_, 0 ≤ x ∧ x < t.ar.length := by
  intro d
  induction d with
  | zero =>
    intro k at_ h x hx
    unfold pathF at hx
    split at hx
    · simp at hx
    · simp at hx; subst hx; omega
  | succ d ih =>
    intro k at_ h x hx
    unfold pathF at hx
    split at hx
    · simp at hx
    · simp only [List.mem_cons] at hx
      rcases hx with rfl | hx
      · omega
      · exact ih (k + 1) _ (hk.kid _ _) x hx
theorem findI_ok {t : TS} (hk : kidsOk t) (p : Px) : findI t.ar p = -1 ∨ (0 ≤ findI t.ar p ∧ findI t.ar p < t.ar.length) := by
  unfold findI
  split
  · unfold nodeOf
    cases h : (pathF t.ar p.a p.n.toNat 0 (rootI p.a.v6))[p.n.toNat]? with
    | none => exact .inl rfl
    | some x =>
      refine .inr (pathF_ok hk p.a _ _ _ (.inr ?_) x (List.mem_of_getElem? h))
      have := hk.1
      unfold rootI
      split <;> omega
  · exact .inl rfl

set_option maxHeartbeats 2000000 in
theorem get_c {base tb : Nat} {t : TS} {va vf : Value} (hk : kidsOk t) (hi lo : BitVec 64) (v6 : Bool) (n : Int) (w : World) (hT : TrieAt w base tb t va vf) :
    Calls Try.prog 103 #[.pointer (some ⟨tb, 0, none⟩), .agg #[.int .u64 (hi.toNat : Int), .int .u64 (lo.toNat : Int), .bool v6, .int .i64 n]] w fun e w' =>
      e = .returned (.tuple #[.int .i64 ((getI t.ar ⟨⟨hi, lo, v6⟩, n⟩).getD 0), .bool (getI t.ar ⟨⟨hi, lo, v6⟩, n⟩).isSome]) ∧ Gr w w' := by
  have hlen := hk.1
  have HT := Lib.hid hT
  have HK := Lib.hid hk
  obtain ⟨g, cap, rfl, hg, hgl⟩ := hT.slice_ (by omega)
  have hok := findI_ok hk ⟨⟨hi, lo, v6⟩, n⟩
  clear hT hk
  generalize hf : findI t.ar ⟨⟨hi, lo, v6⟩, n⟩ = x at hok
  have HF := Lib.hid hf
  have HG := Lib.hid (getI_eq _ _ _ hf)
  clear hf
  rcases hok with rfl | ⟨h0, h1⟩
  · go_enter Try.func103, Try.ntmps103
    go_wp2_with fail
    obtain ⟨W, hW, hB, k0⟩ := box1 w #[Value.int IntKind.u64 (hi.toNat : Int), Value.int IntKind.u64 (lo.toNat : Int), Value.bool v6, Value.int IntKind.i64 n] 32
    rw [← hW]
    clear hW
    have c0 := kept k0
    refine (find_c HK.out _ _ _ _ _ (HT.out.gr hB)).mono ?_
    rintro e w1 ⟨rfl, hb1⟩
    rw [HF.out]
    go_wp2_with fail
    have hg : getI t.ar ⟨⟨hi, lo, v6⟩, n⟩ = none := by rw [HG.out]; split <;> simp
    rw [hg]
    go_ret2
    exact ⟨rfl, hB.trans hb1⟩
  · obtain ⟨i, rfl⟩ := Int.eq_ofNat_of_zero_le h0
    have hil : i < t.ar.length := by omega
    have hnd : t.ar[i]? = some t.ar[i] := List.getElem?_eq_getElem hil
    have hb : ((i : Int) == -1) = false := by simp
    go_enter Try.func103, Try.ntmps103
    go_wp2_with fail
    obtain ⟨W, hW, hB, k0⟩ := box1 w #[Value.int IntKind.u64 (hi.toNat : Int), Value.int IntKind.u64 (lo.toNat : Int), Value.bool v6, Value.int IntKind.i64 n] 32
    rw [← hW]
    clear hW
    have c0 := kept k0
    refine (find_c HK.out _ _ _ _ _ (HT.out.gr hB)).mono ?_
    rintro e w1 ⟨rfl, hb1⟩
    rw [HF.out]
    have hT1 := HT.out.gr (hB.trans hb1)
    have cT := kept hT1.blk
    have nI := hT1.node rfl i _ hnd
    have n3 := cell_all nI.ends
    have n4 := cell_all nI.v
    have HB := Lib.hid (hB.trans hb1)
    clear hb1 hB hT1 nI
    cases he : t.ar[i].ends
    · rw [he] at n3
      go_wp2_with fail
      have hg : getI t.ar ⟨⟨hi, lo, v6⟩, n⟩ = none := by rw [HG.out]; simp [hnd, he]
      rw [hg]
      go_ret2
      exact ⟨rfl, HB.out⟩
    · rw [he] at n3
      go_wp2_with fail
      have hg : getI t.ar ⟨⟨hi, lo, v6⟩, n⟩ = some t.ar[i].v := by rw [HG.out]; simp [hnd, he]
      rw [hg]
      go_ret2
      exact ⟨rfl, HB.out⟩

def insideI (ar : List Nd) (p : Px) : Bool := match ar[(findI ar p).toNat]? with
  | some x => decide (findI ar p ≠ -1) && !(decide (x.k0 = -1) && decide (x.k1 = -1))
  | none => false

theorem insideI_eq (ar : List Nd) (p : Px) (x : Int) (h : findI ar p = x) : insideI ar p = match ar[x.toNat]? with
  | some nd => decide (x ≠ -1) && !(decide (nd.k0 = -1) && decide (nd.k1 = -1))
  | none => false := by subst h; rfl

set_option maxHeartbeats 2000000 in
theorem inside_c {base tb : Nat} {t : TS} {va vf : Value} (hk : kidsOk t) (hi lo : BitVec 64) (v6 : Bool) (n : Int) (w : World) (hT : TrieAt w base tb t va vf) :
    Calls Try.prog 116 #[.pointer (some ⟨tb, 0, none⟩), .agg #[.int .u64 (hi.toNat : Int), .int .u64 (lo.toNat : Int), .bool v6, .int .i64 n]] w fun e w' =>
      e = .returned (.bool (insideI t.ar ⟨⟨hi, lo, v6⟩, n⟩)) ∧ Gr w w' := by
  have hlen := hk.1
  have HT := Lib.hid hT
  have HK := Lib.hid hk
  obtain ⟨g, cap, rfl, hg, hgl⟩ := hT.slice_ (by omega)
  have hok := findI_ok hk ⟨⟨hi, lo, v6⟩, n⟩
  clear hT hk
  generalize hf : findI t.ar ⟨⟨hi, lo, v6⟩, n⟩ = x at hok
  have HF := Lib.hid hf
  have HG := Lib.hid (insideI_eq _ _ _ hf)
  clear hf
  rcases hok with rfl | ⟨h0, h1⟩
  · go_enter Try.func116, Try.ntmps116
    go_wp2_with fail
    obtain ⟨W, hW, hB, k0⟩ := box1 w #[Value.int IntKind.u64 (hi.toNat : Int), Value.int IntKind.u64 (lo.toNat : Int), Value.bool v6, Value.int IntKind.i64 n] 32
    rw [← hW]
    clear hW
    have c0 := kept k0
    refine (find_c HK.out _ _ _ _ _ (HT.out.gr hB)).mono ?_
    rintro e w1 ⟨rfl, hb1⟩
    rw [HF.out]
    go_wp2_with fail
    have hg : insideI t.ar ⟨⟨hi, lo, v6⟩, n⟩ = false := by rw [HG.out]; split <;> simp
    rw [hg]
    go_ret
    exact ⟨rfl, hB.trans hb1⟩
  · obtain ⟨i, rfl⟩ := Int.eq_ofNat_of_zero_le h0
    have hil : i < t.ar.length := by omega
    have hnd : t.ar[i]? = some t.ar[i] := List.getElem?_eq_getElem hil
    have hb : ((i : Int) != -1) = true := by simp
    go_enter Try.func116, Try.ntmps116
    go_wp2_with fail
    obtain ⟨W, hW, hB, k0⟩ := box1 w #[Value.int IntKind.u64 (hi.toNat : Int), Value.int IntKind.u64 (lo.toNat : Int), Value.bool v6, Value.int IntKind.i64 n] 32
    rw [← hW]
    clear hW
    have c0 := kept k0
    refine (find_c HK.out _ _ _ _ _ (HT.out.gr hB)).mono ?_
    rintro e w1 ⟨rfl, hb1⟩
    rw [HF.out]
    have hT1 := HT.out.gr (hB.trans hb1)
    have cT := kept hT1.blk
    have nI := hT1.node rfl i _ hnd
    have n3 := cell_all nI.k0
    have n4 := cell_all nI.k1
    have HB := Lib.hid (hB.trans hb1)
    clear hb1 hB hT1 nI
    have hg : insideI t.ar ⟨⟨hi, lo, v6⟩, n⟩ = !(decide (t.ar[i].k0 = -1) && decide (t.ar[i].k1 = -1)) := by rw [HG.out]; simp [hnd]
    have HG2 := Lib.hid hg
    clear hg
    go_wp2_with fail
    go_ret
    exact ⟨by rw [HG2.out, Bool.not_and]; rfl, HB.out⟩

set_option maxHeartbeats 1000000 in
theorem nodes_c {base tb : Nat} {t : TS} {va vf : Value} (hk : kidsOk t) (w : World) (hT : TrieAt w base tb t va vf) :
    Calls Try.prog 86 #[.pointer (some ⟨tb, 0, none⟩)] w fun e w' => e = .returned (.int .i64 ((t.ar.length : Int) - t.fr.length)) ∧ Gr w w' := by
  have hlen := hk.1
  have HT := Lib.hid hT
  have c0 := kept hT.blk
  obtain ⟨a, cap, rfl, h1⟩ := Own.lenv (f := Nd.cells) (l := t.ar) hT.ar
  obtain ⟨a', cap', rfl, h2⟩ := Own.lenv (f := intC) (l := t.fr) (by have := hT.fr; unfold Own; rw [show t.fr.flatMap intC = t.fr.map (Value.int .i64) by induction t.fr with | nil => rfl | cons x l ih => rw [List.flatMap_cons, ih]; rfl]; exact this)
  clear hT hk
  go_enter Try.func86, Try.ntmps86
  go_wp2_with (go_at_call 90; refine (made_c _ HT.out (by omega)).mono ?_; rintro e w' ⟨rfl, rfl⟩)
  have hsub : IntKind.i64.wrap ((t.ar.length : Int) - t.fr.length) = (t.ar.length : Int) - t.fr.length := IntWalk.i64_in _ (by simp only [maxLen] at h1 h2; omega)
  clear h1 h2
  refine wp_region_gr (by kernel_rfl) (by kernel_rfl) ?_
  repeat (first | (refine qs_skip (by with_unfolding_all rfl) ?_; simp only [Act.put, List.setIfInBounds_toArray, List.set_cons_zero, List.set_cons_succ]) | (refine qs_val (by rfl) ?_; apply Exists.intro; refine ⟨fun wq hq => ?_, ?_⟩; (· (go_simp; with_reducible rfl)); simp only [Act.put, List.setIfInBounds_toArray, List.set_cons_zero, List.set_cons_succ]) | (refine qs_call (by rfl) ?_; apply Exists.intro; refine ⟨fun wq hq => ?_, ?_⟩; (· (go_simp; first | fail)); simp only [Act.put, List.setIfInBounds_toArray, List.set_cons_zero, List.set_cons_succ]))
  refine wpQuiet_nil ?_
  intro w1 hk1
  go_wp2_with fail
  go_ret
  exact ⟨rfl, hk1⟩

set_option maxHeartbeats 1000000 in
theorem slots_c {base tb : Nat} {t : TS} {va vf : Value} (hk : kidsOk t) (w : World) (hT : TrieAt w base tb t va vf) :
    Calls Try.prog 88 #[.pointer (some ⟨tb, 0, none⟩)] w fun e w' => e = .returned (.int .i64 (t.ar.length : Int)) ∧ w = w' := by
  have hlen := hk.1
  have HT := Lib.hid hT
  have c0 := kept hT.blk
  obtain ⟨a, cap, rfl, h1⟩ := Own.lenv (f := Nd.cells) (l := t.ar) hT.ar
  clear hT hk h1
  go_enter Try.func88, Try.ntmps88
  go_wp2_with (go_at_call 90; refine (made_c _ HT.out (by omega)).mono ?_; rintro e w' ⟨rfl, rfl⟩)
  go_ret
  exact ⟨rfl, rfl⟩

end Go.Proofs.Ytdecgbgndffkkaa
