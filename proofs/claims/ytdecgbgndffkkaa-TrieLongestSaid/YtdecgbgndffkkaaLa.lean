/- The statements of layer 5 (kedgelaw05): do, all, awake. -/
import Derived.Test.YtdecgbgndffkkaaAn
set_option linter.unusedVariables false
set_option linter.unusedSimpArgs false
namespace Go.Proofs.Ytdecgbgndffkkaa
open Go.RowKit

structure Act5 where
  out : Bool
  p : Px
  v : Int
def act5C (o : Act5) : List Value := [.bool o.out, Value.int IntKind.u64 ((o.p).a.hi.toNat : Int), Value.int IntKind.u64 ((o.p).a.lo.toNat : Int), Value.bool (o.p).a.v6, Value.int IntKind.i64 (o.p).n, .int .i64 o.v]
theorem act5E : Enc act5C 6 := ⟨fun _ => rfl, fun x u h => by simp [act5C] at h; rcases h with h | h | h | h | h | h <;> subst h <;> rfl, by omega⟩
/-- one thing done -/
def doF (F : Bool → Sh) (o : Act5) : Bool → Sh := if o.out then delS F o.p else putS F o.p o.v

set_option maxHeartbeats 2000000 in
theorem do5_c {base tb : Nat} {F : Bool → Sh} {k : Nat} {S : Nat → Prop} (hk : k ≤ 890000) (o : Act5) (w : World) (h : TI w base tb F k S) :
    Calls Try.prog 22 #[.pointer (some ⟨tb, 0, none⟩), .agg (act5C o).toArray] w fun e w' =>
      (∃ v, e = .returned v) ∧ ∃ k' S', TI w' base tb (doF F o) k' S' ∧ Fr w w' S S' ∧ k' ≤ k + 128 := by
  obtain ⟨out, ⟨⟨hi, lo, v6⟩, n⟩, v⟩ := o
  have HK := Lib.hid hk
  have H := Lib.hid h
  clear hk h
  cases out
  · simp only [act5C]
    go_enter Try.func22, Try.ntmps22
    go_wp2_with fail
    obtain ⟨W, hW, hB, k0⟩ := box1 w #[.bool false, Value.int IntKind.u64 (hi.toNat : Int), Value.int IntKind.u64 (lo.toNat : Int), Value.bool v6, Value.int IntKind.i64 n, .int .i64 v] 34
    rw [← hW]
    clear hW
    have c0 := kept k0 W (Gr.refl _)
    go_wp2_with fail
    refine ((putT_c HK.out hi lo v6 n v _ (H.out.gr hB)).mono fun e w' h => (And.intro (Exists.intro _ h.1) h.2 : (∃ v, e = .returned v) ∧ _)).mono ?_
    rintro e w1 ⟨⟨rv, rfl⟩, k', S', h1, h2, h3, _⟩
    have H1 := Lib.hid h1
    have H2 := Lib.hid h2
    clear h1 h2
    go_wp2_with fail
    go_ret
    exact ⟨⟨_, rfl⟩, k', S', H1.out, (Fr.of_gr hB _).trans H2.out, h3⟩
  · simp only [act5C]
    go_enter Try.func22, Try.ntmps22
    go_wp2_with fail
    obtain ⟨W, hW, hB, k0⟩ := box1 w #[.bool true, Value.int IntKind.u64 (hi.toNat : Int), Value.int IntKind.u64 (lo.toNat : Int), Value.bool v6, Value.int IntKind.i64 n, .int .i64 v] 34
    rw [← hW]
    clear hW
    have c0 := kept k0 W (Gr.refl _)
    go_wp2_with fail
    refine ((delT_c HK.out hi lo v6 n _ (H.out.gr hB)).mono fun e w' h => (And.intro (Exists.intro _ h.1) h.2 : (∃ v, e = .returned v) ∧ _)).mono ?_
    rintro e w1 ⟨⟨rv, rfl⟩, S', h1, h2⟩
    have H1 := Lib.hid h1
    have H2 := Lib.hid h2
    clear h1 h2
    go_wp2_with fail
    go_ret
    exact ⟨⟨_, rfl⟩, k, S', H1.out, (Fr.of_gr hB _).trans H2.out, by omega⟩

set_option maxHeartbeats 2000000 in
theorem all5_c {base tb : Nat} {F : Bool → Sh} {k : Nat} {S : Nat → Prop} (hk : k ≤ 890000) (w : World) (h : TI w base tb F k S) :
    Calls Try.prog 26 #[.pointer (some ⟨tb, 0, none⟩)] w fun e w' =>
      ∃ v l1 l2, e = .returned v ∧ UnderR F (topP false) l1 ∧ UnderR F (topP true) l2 ∧ Own w' w.heap.size 39 5 prC v (l1 ++ l2) ∧ Gr w w' := by
  have HK := Lib.hid hk
  have H := Lib.hid h
  clear hk h
  go_enter Try.func26, Try.ntmps26
  go_wp2_with fail
  have h0 := own_lit0 (f := prC) (k := 5) (e := 39) w w.heap.size (Nat.le_refl _)
  have hB := (Gr.refl w).alloc (Obj.cells #[] 39)
  generalize w.alloc (Obj.cells #[] 39) = W at h0 hB ⊢
  refine (underT_c HK.out 0#64 0#64 false 0 W (H.out.gr hB)).mono ?_
  rintro e w1 ⟨v1, l1, rfl, hu1, ho1, hl1, hb1⟩
  have hk := HK.out
  have hz1 := hB.size
  have hz2 := hb1.size
  have HU1 := Lib.hid hu1
  have h01 := h0.gr hb1
  have hr1 := ho1.rd prE
  clear hu1 h0 ho1
  go_wp2_with (at_builtin; refine wpList_appN pairT prE w.heap.size rfl (.tmp 4) (.tmp 7) rfl (.slice (some ⟨w.heap.size, 0, none⟩) 0 0) rfl h01 v1 rfl hr1 (by simp only [List.length_nil]; omega) (by omega) ?_; intro v2 w2 hown2 hgrew2 hloc2)
  have hG2 := hgrew2.gr (hB.trans hb1) (fun b hb => by simp [Value.ownBlock] at hb; omega)
  rw [List.nil_append] at hown2
  clear h01 hr1 hgrew2 hloc2 hz1 hz2 hb1 hB
  refine (underT_c HK.out 0#64 0#64 true 0 w2 (H.out.gr hG2)).mono ?_
  rintro e w3 ⟨v3, l3, rfl, hu3, ho3, hl3, hb3⟩
  have hz1 := hG2.size
  have hz2 := hb3.size
  have HU3 := Lib.hid hu3
  have h03 := hown2.gr hb3
  have hr3 := ho3.rd prE
  clear hu3 ho3
  go_wp2_with (at_builtin; refine wpList_appN pairT prE w.heap.size rfl (.tmp 9) (.tmp 13) rfl v2 rfl h03 v3 rfl hr3 (by omega) (by omega) ?_; intro v4 w4 hown4 hgrew4 hloc4)
  go_ret
  exact ⟨v4, l1, l3, rfl, HU1.out, HU3.out, hown4, hgrew4.gr (hG2.trans hb3) (fun b hb => (hown2.block hb).1)⟩

/-! ### the document's example -/
def P8 : Px := ofP A100 8
def F8 : Bool → Sh := putS F0 P8 7
theorem aw_sane : sanePx ⟨⟨P8.a.hi, P8.a.lo, P8.a.v6⟩, P8.n⟩ = true := by kernel_rfl
theorem aw_sz : szF F8 = 10 := by kernel_rfl
theorem aw_long : longV F8 A100 = some (P8, 7) := by kernel_rfl
theorem aw_V : (V F8 ⟨⟨P8.a.hi, P8.a.lo, P8.a.v6⟩, P8.n⟩).isSome = true := by kernel_rfl
theorem aw_sz2 : szF (delS F8 P8) = 2 := by kernel_rfl
theorem aw_n : P8.n = 8 := by kernel_rfl

set_option maxHeartbeats 2000000 in
theorem awake5_c (w : World) : Calls Try.prog 20 #[] w fun e w' => e = .returned (.bool true) ∧ Gr w w' := by
  go_enter Try.func20, Try.ntmps20
  go_wp2_with fail
  refine (from100_c w.heap.size _ (blk_new _ _)).mono ?_
  rintro e w1 ⟨rfl, hb1⟩
  have hG1 := ((Gr.refl w).alloc _).trans hb1
  clear hb1
  go_wp2_with fail
  obtain ⟨W, hW, hB, k0⟩ := box1 w1 #[Value.int IntKind.u64 ((A100).hi.toNat : Int), Value.int IntKind.u64 ((A100).lo.toNat : Int), Value.bool (A100).v6] 25
  rw [← hW]
  clear hW
  refine (newT_c W).mono ?_
  rintro e w2 ⟨tb, S, rfl, hb2, hT2⟩
  have k02 := blk_gr k0 hb2
  have hG2 := (hG1.trans hB).trans hb2
  have hlow := Nat.le_trans (hG1.trans hB).size hT2.low.1
  have c2 := kept k02 w2 (Gr.refl _)
  have HT2 := Lib.hid hT2
  clear hT2 k0 hb2
  go_wp2_with fail
  refine (ofP_c _ _ _ _ _).mono ?_
  rintro e w3 ⟨rfl, hb3⟩
  rw [show ofP ⟨A100.hi, A100.lo, A100.v6⟩ 8 = P8 from rfl]
  go_wp2_with fail
  refine (putT_c (by omega) P8.a.hi P8.a.lo P8.a.v6 P8.n 7 w3 (HT2.out.gr hb3)).mono ?_
  rintro e w4 ⟨rfl, kk, S4, hT4, hF4, _, hkk⟩
  rw [if_pos aw_sane]
  have hk10 : kk = 10 := by
    rw [hkk aw_sane, show szF (putS F0 ⟨⟨P8.a.hi, P8.a.lo, P8.a.v6⟩, P8.n⟩ 7) = 10 from aw_sz]
    rfl
  subst hk10
  replace hT4 : TI w4 W.heap.size tb F8 10 S4 := hT4
  have hn4 : ¬ S w1.heap.size := HT2.out.off k02 (by decide) (by decide) (by decide)
  have k04 := hF4.blk (blk_gr k02 hb3) hn4
  have hG4 : Gr w w4 := hF4.gr_of (hG2.trans hb3) (fun b hb => by have := (HT2.out.foot hb).1; have := (hG1.trans hB).size; omega)
  have hS4 : ¬ S4 w1.heap.size := hF4.off (blk_lt (blk_gr k02 hb3)) hn4
  have c4 := kept k04 w4 (Gr.refl _)
  have HT4 := Lib.hid hT4
  clear hT4 hF4 hkk c2 hn4
  go_wp2_with fail
  refine (nodesT_c w4 HT4.out).mono ?_
  rintro e w5 ⟨rfl, hb5⟩
  rw [aw_sz]
  have c5 := kept (blk_gr k04 hb5) w5 (Gr.refl _)
  clear c4
  go_wp2_with fail
  refine (longT_c _ _ _ w5 (HT4.out.gr hb5)).mono ?_
  rintro e w6 ⟨rfl, hb6⟩
  rw [show longV F8 ⟨A100.hi, A100.lo, A100.v6⟩ = some (P8, 7) from aw_long]
  simp only [prV, prC, Option.getD_some, Option.isSome_some]
  clear c5
  go_upto_region 6 with fail
  obtain ⟨W7, hW7, hB7, k7⟩ := box1 w6 #[Value.int IntKind.u64 ((P8).a.hi.toNat : Int), Value.int IntKind.u64 ((P8).a.lo.toNat : Int), Value.bool (P8).a.v6, Value.int IntKind.i64 (P8).n, .int .i64 7] 39
  rw [← hW7]
  clear hW7
  have hb7 := (hb5.trans hb6).trans hB7
  have k17 := blk_gr k04 hb7
  have c7 := kept k17 W7 (Gr.refl _)
  go_wp2_with fail
  refine (ofP_c _ _ _ _ _).mono ?_
  rintro e w8 ⟨rfl, hb8⟩
  rw [show ofP ⟨A100.hi, A100.lo, A100.v6⟩ 8 = P8 from rfl]
  clear c7
  go_wp2_with fail
  refine (delT_c (by omega) P8.a.hi P8.a.lo P8.a.v6 P8.n w8 (HT4.out.gr (hb7.trans hb8))).mono ?_
  rintro e w9 ⟨rfl, S9, hT9, hF9⟩
  rw [if_pos aw_sane, if_pos aw_V]
  have k79 := hF9.blk (blk_gr k7 hb8) ((HT4.out.gr (hb7.trans hb8)).off (blk_gr k7 hb8) (by decide) (by decide) (by decide))
  have hG9 := hF9.gr_of (hG4.trans (hb7.trans hb8)) (fun b hb => by have := ((HT4.out.gr (hb7.trans hb8)).foot hb).1; have := (hG1.trans hB).size; omega)
  have HT9 := Lib.hid hT9
  have c9 := kept k79 w9 (Gr.refl _)
  have hn8 := aw_n
  clear hT9 hF9
  go_wp2_with (first | (go_at_call 86; refine (nodesT_c w9 HT9.out).mono ?_; rintro e w10 ⟨rfl, hb10⟩; rw [show szF (delS F8 ⟨⟨P8.a.hi, P8.a.lo, P8.a.v6⟩, P8.n⟩) = 2 from aw_sz2]) | (go_at_call 88; refine (slotsT_c _ (HT9.out.gr hb10)).mono ?_; rintro e w' ⟨rfl, rfl⟩))
  go_ret
  exact ⟨rfl, hG9.trans hb10⟩

end Go.Proofs.Ytdecgbgndffkkaa
