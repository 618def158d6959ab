/- TrieLongest: the law's own body. -/
import Derived.Test.YtdecgbgndffkkaaLa
import Derived.Test.YtdecgbgndffkkaaPl
import Derived.Test.YtdecgbgndffkkaaEs
set_option linter.unusedVariables false
set_option linter.unusedSimpArgs false
namespace Go.Proofs.Ytdecgbgndffkkaa
open Go.RowKit

def runF (F : Bool → Sh) (l : List Act5) : Bool → Sh := l.foldl doF F
theorem runF_snoc (F : Bool → Sh) (l : List Act5) (x : Act5) : runF F (l ++ [x]) = doF (runF F l) x := by simp [runF, List.foldl_append]

set_option maxRecDepth 1000000 in
set_option maxHeartbeats 4000000 in
theorem trieLongest_c (l : List Act5) (hi lo : BitVec 64) (v6 : Bool) (av : Value) (w : World) (hr : Rd w 6 act5C av l) :
    Calls Try.prog 3 #[av, .agg #[.int .u64 (hi.toNat : Int), .int .u64 (lo.toNat : Int), .bool v6]] w fun e w' => e = .returned (.bool true) ∧ Gr w w' := by
  obtain ⟨aa, cap, rfl, _⟩ := id hr
  have HR := Lib.hid hr
  clear hr
  by_cases h60 : l.length ≤ 60
  · have hb60 : decide (60 < (l.length : Int)) = false := by simp; omega
    go_enter Try.func3, Try.ntmps3
    go_wp2_with fail
    obtain ⟨W, hW, hB, k0⟩ := box1 w #[Value.int IntKind.u64 (hi.toNat : Int), Value.int IntKind.u64 (lo.toNat : Int), Value.bool v6] 25
    rw [← hW]
    clear hW
    refine (awake5_c W).mono ?_
    rintro e w1 ⟨rfl, hb1⟩
    go_wp2_with fail
    refine (newT_c w1).mono ?_
    rintro e w2 ⟨tb, S, rfl, hb2, hT2⟩
    have k02 := blk_gr (blk_gr k0 hb1) hb2
    have hG2 := (hB.trans hb1).trans hb2
    have hlow := (hB.trans hb1).size
    have HT2 := Lib.hid hT2
    have HK2 := Lib.hid k02
    have HG2 := Lib.hid hG2
    clear hT2 k02 hG2 k0 hb1 hb2 hB
    go_wp2_with fail
    go_loopg [7] l.length (fun gg s7 wr => ∃ (i k : Nat) (S' : Nat → Prop), s7 = .int .i64 (i : Int) ∧ i + gg = l.length ∧ TI wr w1.heap.size tb (runF F0 (l.take i)) k S' ∧ k ≤ 2 + 128 * i ∧ Gr w wr ∧ wr.heap[w.heap.size]? = some (.cells #[Value.int IntKind.u64 (hi.toNat : Int), Value.int IntKind.u64 (lo.toNat : Int), Value.bool v6] 25 (0, 0)))
    case atStart => exact ⟨0, 2, S, rfl, by omega, HT2.out, by omega, HG2.out, HK2.out⟩
    case round =>
      obtain ⟨i, k, S', rfl, hi0, hT, hk, hg, hbx⟩ := hrel
      clear HT2 HK2 HG2
      by_cases hlt : i < l.length
      · have hd : decide ((i : Int) < (l.length : Int)) = true := by simp; omega
        have hx : l[i]? = some l[i] := List.getElem?_eq_getElem hlt
        obtain ⟨_, bb, bo, rfl, hc⟩ := HR.out.at act5E i _ hx
        have y0 := cell_gr (hc 0 _ rfl) hg
        have y1 := cell_gr (hc 1 _ rfl) hg
        have y2 := cell_gr (hc 2 _ rfl) hg
        have y3 := cell_gr (hc 3 _ rfl) hg
        have y4 := cell_gr (hc 4 _ rfl) hg
        have y5 := cell_gr (hc 5 _ rfl) hg
        simp only [Nat.add_zero] at y0
        clear hc
        have HT := Lib.hid hT
        have HX := Lib.hid hx
        have HB := Lib.hid hbx
        clear hT hx hbx
        go_wp2_with fail
        refine (do5_c (by omega) l[i] wr HT.out).mono ?_
        rintro e w3 ⟨⟨rv, rfl⟩, k3, S3, hT3, hF3, hk3⟩
        have hn3 := HT.out.off HB.out (by decide) (by decide) (by decide)
        have hb3 := hF3.blk HB.out hn3
        have hg3 := hF3.gr_of hg (fun b hb => by have := (HT.out.foot hb).1; omega)
        have HT3 := Lib.hid hT3
        have HB3 := Lib.hid hb3
        have HG3 := Lib.hid hg3
        clear hT3 hF3 hn3 hb3 hg3 y0 y1 y2 y3 y4 y5
        have hw : wrap64 ((i : Int) + 1) = (i : Int) + 1 := IntWalk.wrap64_in _ (by omega)
        have HW := Lib.hid hw
        go_wp2_with fail
        clear hw
        go_roundg (gk - 1)
        case measure => omega
        case rel =>
          refine ⟨i + 1, k3, S3, by simp [HW.out], by omega, ?_, by omega, HG3.out, HB3.out⟩
          have e1 : l.take (i + 1) = l.take i ++ [l[i]] := List.take_succ_eq_append_getElem hlt
          rw [e1, runF_snoc]
          exact HT3.out
      · have hd : decide ((i : Int) < (l.length : Int)) = false := by simp; omega
        have hil : i = l.length := by omega
        subst hil
        rw [List.take_length] at hT
        generalize hFF : runF F0 l = F at hT
        clear hFF
        have hkk : k ≤ 890000 := by omega
        have HT := Lib.hid hT
        have HB := Lib.hid hbx
        have HG := Lib.hid hg
        have HKK := Lib.hid hkk
        have cb := kept hbx wr (Gr.refl _)
        clear hT hbx hg hkk hk hi0 h60
        go_wp2_with fail
        refine (ofP_c _ _ _ _ _).mono ?_
        rintro e w3 ⟨rfl, hb3⟩
        clear cb
        go_wp2_with fail
        refine (aboveT_c _ _ _ _ w3 (HT.out.gr hb3)).mono ?_
        rintro e w4 ⟨v8, rfl, ho8, hb4⟩
        have hb34 := hb3.trans hb4
        have cb := kept (blk_gr HB.out hb34) w4 (Gr.refl _)
        have e8 : aboveP F ⟨⟨(ofP ⟨hi, lo, v6⟩ 128).a.hi, (ofP ⟨hi, lo, v6⟩ 128).a.lo, (ofP ⟨hi, lo, v6⟩ 128).a.v6⟩, (ofP ⟨hi, lo, v6⟩ 128).n⟩ = aboveV F ⟨hi, lo, v6⟩ (Ad.mk hi lo v6).w := by
          show aboveP F (ofP ⟨hi, lo, v6⟩ 128) = _
          unfold aboveP
          rw [if_pos (ofP_sane _ _), ofP_128, ofP_n _ _ (Nat.le_refl _), Int.toNat_natCast, aboveV_of _ _ _ (Nat.le_refl _)]
        rw [e8] at ho8
        clear e8
        have hz4 := hb3.size
        have ho8' := ho8.mono_base (b' := w.heap.size) (by have := HG.out.size; omega)
        have HO8 := Lib.hid ho8'
        clear ho8 ho8' hz4
        go_wp2_with fail
        refine (longT_c _ _ _ w4 (HT.out.gr hb34)).mono ?_
        rintro e w5 ⟨rfl, hb5⟩
        clear cb
        simp only [prV, prC]
        generalize hX : (longV F ⟨hi, lo, v6⟩).getD (zeroPx, 0) = X
        generalize hok : (longV F ⟨hi, lo, v6⟩).isSome = ok
        have HX := Lib.hid (And.intro hX hok)
        clear hX hok
        go_upto_region 11 with fail
        obtain ⟨W6, hW6, hB6, k6⟩ := box1 w5 #[Value.int IntKind.u64 ((X.1).a.hi.toNat : Int), Value.int IntKind.u64 ((X.1).a.lo.toNat : Int), Value.bool (X.1).a.v6, Value.int IntKind.i64 (X.1).n, .int .i64 X.2] 39
        rw [← hW6]
        clear hW6
        have hb6 := hb34.trans (hb5.trans hB6)
        have K6 := Lib.hid k6
        have HB6 := Lib.hid (blk_gr HB.out hb6)
        have HO6 := Lib.hid (HO8.out.gr (hb5.trans hB6))
        have HG6 := Lib.hid (HG.out.trans hb6)
        replace HT := Lib.hid (HT.out.gr hb6)
        clear hb6 hb34 hb5 hB6 k6 hb3 hb4 HO8 HG HB
        go_wp2_with fail
        refine (all5_c HKK.out W6 HT.out).mono ?_
        rintro e w7 ⟨v11, l1, l2, rfl, hu1, hu2, ho7, hb7⟩
        have hA := Lib.hid (allL (hu1.1 (topP_sane _)) (hu2.1 (topP_sane _)))
        generalize l1 ++ l2 = m at ho7 hA
        have k67 := blk_gr K6.out hb7
        have HK7 := Lib.hid k67
        have HB7 := Lib.hid (blk_gr HB6.out hb7)
        have HO7 := Lib.hid (HO6.out.gr hb7)
        have HG7 := Lib.hid (HG6.out.trans hb7)
        have HM7 := Lib.hid (ho7.mono_base (b' := w.heap.size) HG6.out.size)
        have hfil := Lib.hid (has_above hA.out ⟨hi, lo, v6⟩)
        have hris := Lib.hid (above_rise F ⟨hi, lo, v6⟩ (Ad.mk hi lo v6).w (Nat.le_refl _))
        have hlen := Lib.hid (above_len F ⟨hi, lo, v6⟩ (Ad.mk hi lo v6).w)
        have hlv := Lib.hid (show longV F ⟨hi, lo, v6⟩ = (aboveV F ⟨hi, lo, v6⟩ (Ad.mk hi lo v6).w).getLast? from rfl)
        generalize aboveV F ⟨hi, lo, v6⟩ (Ad.mk hi lo v6).w = ab at hfil hris hlen hlv HO7 HO6
        obtain ⟨a11, cap11, rfl, hml⟩ := HM7.out.lenv
        clear hu1 hu2 ho7 k67 HO6 HB6 HG6 K6 HT hb7
        go_wp2_with fail
        have HML := Lib.hid hml
        clear hml hlt hd hb60
        go_loopg [12, 13] m.length (fun gg s12 s13 wr => ∃ i : Nat, s12 = .int .i64 (((m.take i).filter fun x => hasPx x.1 ⟨hi, lo, v6⟩).length : Int) ∧ s13 = .int .i64 (i : Int) ∧ i + gg = m.length ∧ Gr w7 wr)
        case atStart => exact ⟨0, by simp, rfl, by omega, Gr.refl _⟩
        case round =>
          obtain ⟨i, rfl, rfl, hi0, hg⟩ := hrel
          generalize hcnt : ((m.take i).filter fun x => hasPx x.1 ⟨hi, lo, v6⟩).length = cnt
          have HCN := Lib.hid hcnt
          clear hcnt
          by_cases hlt : i < m.length
          · obtain ⟨g, cap', hv, _, _⟩ := HM7.out.form (by omega)
            simp only [Value.slice.injEq] at hv
            obtain ⟨rfl, _, _⟩ := hv
            have hmo := HM7.out.gr hg
            have hx : m[i]? = some m[i] := List.getElem?_eq_getElem hlt
            have x0 := cell_all (hmo.at prE rfl i _ hx 0 (by omega))
            have x1 := cell_all (hmo.at prE rfl i _ hx 1 (by omega))
            have x2 := cell_all (hmo.at prE rfl i _ hx 2 (by omega))
            have x3 := cell_all (hmo.at prE rfl i _ hx 3 (by omega))
            have cb := kept (blk_gr HB7.out hg)
            have hd : decide ((i : Int) < (m.length : Int)) = true := by simp; omega
            have hil : (i : Int) < (m.length : Int) := by omega
            have hsn : (m.take (i + 1)).filter (fun x => hasPx x.1 ⟨hi, lo, v6⟩) = (m.take i).filter (fun x => hasPx x.1 ⟨hi, lo, v6⟩) ++ if hasPx m[i].1 ⟨hi, lo, v6⟩ then [m[i]] else [] := by
              rw [List.take_succ_eq_append_getElem hlt, List.filter_append]
              congr 1
              cases hq : hasPx m[i].1 ⟨hi, lo, v6⟩ <;> simp [List.filter_cons, hq]
            have HSN := Lib.hid hsn
            have hcl : cnt ≤ i := by
              rw [← HCN.out]
              exact Nat.le_trans (List.length_filter_le _ _) (by simp; omega)
            have HCL := Lib.hid hcl
            have hml2 : m.length ≤ 9223372036854775807 := by have := HML.out; simp only [maxLen] at this; omega
            have HW1 := Lib.hid (show wrap64 ((i : Int) + 1) = (i : Int) + 1 from IntWalk.wrap64_in _ (by omega))
            have HW2 := Lib.hid (show wrap64 ((cnt : Int) + 1) = (cnt : Int) + 1 from IntWalk.wrap64_in _ (by omega))
            simp only [prC, List.getElem?_cons_succ, List.getElem?_cons_zero, Nat.add_zero] at x0 x1 x2 x3
            generalize hxx : m[i] = x at hx x0 x1 x2 x3 HSN
            clear hxx hsn hcl
            by_cases h0 : 0 < i
            · obtain ⟨j, hj⟩ : ∃ j, i = j + 1 := ⟨i - 1, by omega⟩
              have hy : m[j]? = some m[j] := List.getElem?_eq_getElem (by omega)
              have y0 := cell_all (hmo.at prE rfl j _ hy 0 (by omega))
              have y1 := cell_all (hmo.at prE rfl j _ hy 1 (by omega))
              have y2 := cell_all (hmo.at prE rfl j _ hy 2 (by omega))
              have y3 := cell_all (hmo.at prE rfl j _ hy 3 (by omega))
              simp only [prC, List.getElem?_cons_succ, List.getElem?_cons_zero, Nat.add_zero] at y0 y1 y2 y3
              generalize hyy : m[j] = y at hy y0 y1 y2 y3
              have hris2 := Lib.hid (hA.out.rise (i := j) hy (by rw [← hj]; exact hx))
              have HCMP := Lib.hid (fun W => (cmpPx_c y.1.a.hi y.1.a.lo y.1.a.v6 y.1.n x.1.a.hi x.1.a.lo x.1.a.v6 x.1.n W).mono fun e w' h => (And.intro (h.1.trans (congrArg (fun z => Ending.returned (.int .i64 z)) hris2.out)) h.2 : e = .returned (.int .i64 (-1)) ∧ Gr W w'))
              have hd0 : decide (0 < (i : Int)) = true := by simp; omega
              have q0 : (0 : Int) ≤ (j : Int) := by omega
              have q1 : (j : Int) < (m.length : Int) := by omega
              have hw5 : IntKind.i64.wrap ((i : Int) - 1) = (j : Int) := by rw [hj]; have := IntWalk.i64_in ((j : Int)) (by omega); simpa using this
              have hw6 : wrap64 ((i : Int) - 1) = (j : Int) := by rw [hj]; have := IntWalk.wrap64_in ((j : Int)) (by omega); simpa using this
              have HX := Lib.hid hx
              clear hx hmo hy hyy hj
              go_wp2_with fail
              refine wp_region_gr (by kernel_rfl) (by kernel_rfl) ?_
              refine qs_val (by kernel_rfl) ?_; apply Exists.intro; refine ⟨fun wq hq => ?_, ?_⟩; (· (go_simp; with_reducible rfl)); simp only [Act.put, List.setIfInBounds_toArray, List.set_cons_zero, List.set_cons_succ]
              refine qs_val (by kernel_rfl) ?_; apply Exists.intro; refine ⟨fun wq hq => ?_, ?_⟩; (· (go_simp; with_reducible rfl)); simp only [Act.put, List.setIfInBounds_toArray, List.set_cons_zero, List.set_cons_succ]
              refine qs_val (by kernel_rfl) ?_; apply Exists.intro; refine ⟨fun wq hq => ?_, ?_⟩; (· (go_simp; with_reducible rfl)); simp only [Act.put, List.setIfInBounds_toArray, List.set_cons_zero, List.set_cons_succ]
              refine qs_val (by kernel_rfl) ?_; apply Exists.intro; refine ⟨fun wq hq => ?_, ?_⟩; (· (go_simp; with_reducible rfl)); simp only [Act.put, List.setIfInBounds_toArray, List.set_cons_zero, List.set_cons_succ]
              refine qs_val (by kernel_rfl) ?_; apply Exists.intro; refine ⟨fun wq hq => ?_, ?_⟩; (· (go_simp; with_reducible rfl)); simp only [Act.put, List.setIfInBounds_toArray, List.set_cons_zero, List.set_cons_succ]
              refine qs_val (by kernel_rfl) ?_; apply Exists.intro; refine ⟨fun wq hq => ?_, ?_⟩; (· (go_simp; with_reducible rfl)); simp only [Act.put, List.setIfInBounds_toArray, List.set_cons_zero, List.set_cons_succ]
              refine qs_val (by kernel_rfl) ?_; apply Exists.intro; refine ⟨fun wq hq => ?_, ?_⟩; (· (go_simp; with_reducible rfl)); simp only [Act.put, List.setIfInBounds_toArray, List.set_cons_zero, List.set_cons_succ]
              refine qs_val (by kernel_rfl) ?_; apply Exists.intro; refine ⟨fun wq hq => ?_, ?_⟩; (· (go_simp; with_reducible rfl)); simp only [Act.put, List.setIfInBounds_toArray, List.set_cons_zero, List.set_cons_succ]
              refine qs_val (by kernel_rfl) ?_; apply Exists.intro; refine ⟨fun wq hq => ?_, ?_⟩; (· (go_simp; with_reducible rfl)); simp only [Act.put, List.setIfInBounds_toArray, List.set_cons_zero, List.set_cons_succ]
              refine qs_val (by kernel_rfl) ?_; apply Exists.intro; refine ⟨fun wq hq => ?_, ?_⟩; (· (go_simp; with_reducible rfl)); simp only [Act.put, List.setIfInBounds_toArray, List.set_cons_zero, List.set_cons_succ]
              refine qs_val (by kernel_rfl) ?_; apply Exists.intro; refine ⟨fun wq hq => ?_, ?_⟩; (· (go_simp; with_reducible rfl)); simp only [Act.put, List.setIfInBounds_toArray, List.set_cons_zero, List.set_cons_succ]
              refine qs_val (by kernel_rfl) ?_; apply Exists.intro; refine ⟨fun wq hq => ?_, ?_⟩; (· (go_simp; with_reducible rfl)); simp only [Act.put, List.setIfInBounds_toArray, List.set_cons_zero, List.set_cons_succ]
              refine qs_val (by kernel_rfl) ?_; apply Exists.intro; refine ⟨fun wq hq => ?_, ?_⟩; (· (go_simp; with_reducible rfl)); simp only [Act.put, List.setIfInBounds_toArray, List.set_cons_zero, List.set_cons_succ]
              refine qs_val (by kernel_rfl) ?_; apply Exists.intro; refine ⟨fun wq hq => ?_, ?_⟩; (· (go_simp; with_reducible rfl)); simp only [Act.put, List.setIfInBounds_toArray, List.set_cons_zero, List.set_cons_succ]
              refine qs_call (by kernel_rfl) ?_; apply Exists.intro; refine ⟨fun wq hq => ?_, ?_⟩; (· (go_simp; first | (refine gr_call hq (HCMP.out _)))); simp only [Act.put, List.setIfInBounds_toArray, List.set_cons_zero, List.set_cons_succ]
              refine qs_val (by kernel_rfl) ?_; apply Exists.intro; refine ⟨fun wq hq => ?_, ?_⟩; (· (go_simp; with_reducible rfl)); simp only [Act.put, List.setIfInBounds_toArray, List.set_cons_zero, List.set_cons_succ]
              refine qs_val (by kernel_rfl) ?_; apply Exists.intro; refine ⟨fun wq hq => ?_, ?_⟩; (· (go_simp; with_reducible rfl)); simp only [Act.put, List.setIfInBounds_toArray, List.set_cons_zero, List.set_cons_succ]
              refine wpQuiet_nil ?_
              intro w1 hk1
              clear hw5 hw6 y0 y1 y2 y3
              go_wp2_with fail
              clear cb x0 x1 x2 x3 hd0
              have hmo1 := HM7.out.gr (hg.trans hk1)
              have x0 := cell_all (hmo1.at prE rfl i _ HX.out 0 (by omega))
              have x1 := cell_all (hmo1.at prE rfl i _ HX.out 1 (by omega))
              have x2 := cell_all (hmo1.at prE rfl i _ HX.out 2 (by omega))
              have x3 := cell_all (hmo1.at prE rfl i _ HX.out 3 (by omega))
              simp only [prC, List.getElem?_cons_succ, List.getElem?_cons_zero, Nat.add_zero] at x0 x1 x2 x3
              have cb := kept (blk_gr HB7.out (hg.trans hk1))
              have HG1 := Lib.hid (hg.trans hk1)
              clear hmo1 hg hk1
              cases hq : hasPx x.1 ⟨hi, lo, v6⟩
              · have HCT := Lib.hid (fun W => (hasPx_c x.1.a.hi x.1.a.lo x.1.a.v6 x.1.n hi lo v6 W).mono fun e w' h => (And.intro (h.1.trans (congrArg (fun z => Ending.returned (.bool z)) hq)) h.2 : e = .returned (.bool false) ∧ Gr W w'))
                have HQ := Lib.hid hq
                clear hq
                refine wp_region_gr (by kernel_rfl) (by kernel_rfl) ?_
                refine qs_val (by kernel_rfl) ?_; apply Exists.intro; refine ⟨fun wq hq => ?_, ?_⟩; (· (go_simp; with_reducible rfl)); simp only [Act.put, List.setIfInBounds_toArray, List.set_cons_zero, List.set_cons_succ]
                refine qs_val (by kernel_rfl) ?_; apply Exists.intro; refine ⟨fun wq hq => ?_, ?_⟩; (· (go_simp; with_reducible rfl)); simp only [Act.put, List.setIfInBounds_toArray, List.set_cons_zero, List.set_cons_succ]
                refine qs_val (by kernel_rfl) ?_; apply Exists.intro; refine ⟨fun wq hq => ?_, ?_⟩; (· (go_simp; with_reducible rfl)); simp only [Act.put, List.setIfInBounds_toArray, List.set_cons_zero, List.set_cons_succ]
                refine qs_val (by kernel_rfl) ?_; apply Exists.intro; refine ⟨fun wq hq => ?_, ?_⟩; (· (go_simp; with_reducible rfl)); simp only [Act.put, List.setIfInBounds_toArray, List.set_cons_zero, List.set_cons_succ]
                refine qs_val (by kernel_rfl) ?_; apply Exists.intro; refine ⟨fun wq hq => ?_, ?_⟩; (· (go_simp; with_reducible rfl)); simp only [Act.put, List.setIfInBounds_toArray, List.set_cons_zero, List.set_cons_succ]
                refine qs_val (by kernel_rfl) ?_; apply Exists.intro; refine ⟨fun wq hq => ?_, ?_⟩; (· (go_simp; with_reducible rfl)); simp only [Act.put, List.setIfInBounds_toArray, List.set_cons_zero, List.set_cons_succ]
                refine qs_call (by kernel_rfl) ?_; apply Exists.intro; refine ⟨fun wq hq => ?_, ?_⟩; (· (go_simp; first | (refine gr_call hq (HCT.out _)))); simp only [Act.put, List.setIfInBounds_toArray, List.set_cons_zero, List.set_cons_succ]
                refine wpQuiet_nil ?_
                intro w1 hk1
                go_wp2_with fail
                go_roundg (gk - 1)
                case measure => omega
                case rel => exact ⟨i + 1, by rw [HSN.out, HQ.out]; simp [HCN.out], by simp [HW1.out], by omega, HG1.out.trans hk1⟩
              · have HCT := Lib.hid (fun W => (hasPx_c x.1.a.hi x.1.a.lo x.1.a.v6 x.1.n hi lo v6 W).mono fun e w' h => (And.intro (h.1.trans (congrArg (fun z => Ending.returned (.bool z)) hq)) h.2 : e = .returned (.bool true) ∧ Gr W w'))
                have HQ := Lib.hid hq
                clear hq
                refine wp_region_gr (by kernel_rfl) (by kernel_rfl) ?_
                refine qs_val (by kernel_rfl) ?_; apply Exists.intro; refine ⟨fun wq hq => ?_, ?_⟩; (· (go_simp; with_reducible rfl)); simp only [Act.put, List.setIfInBounds_toArray, List.set_cons_zero, List.set_cons_succ]
                refine qs_val (by kernel_rfl) ?_; apply Exists.intro; refine ⟨fun wq hq => ?_, ?_⟩; (· (go_simp; with_reducible rfl)); simp only [Act.put, List.setIfInBounds_toArray, List.set_cons_zero, List.set_cons_succ]
                refine qs_val (by kernel_rfl) ?_; apply Exists.intro; refine ⟨fun wq hq => ?_, ?_⟩; (· (go_simp; with_reducible rfl)); simp only [Act.put, List.setIfInBounds_toArray, List.set_cons_zero, List.set_cons_succ]
                refine qs_val (by kernel_rfl) ?_; apply Exists.intro; refine ⟨fun wq hq => ?_, ?_⟩; (· (go_simp; with_reducible rfl)); simp only [Act.put, List.setIfInBounds_toArray, List.set_cons_zero, List.set_cons_succ]
                refine qs_val (by kernel_rfl) ?_; apply Exists.intro; refine ⟨fun wq hq => ?_, ?_⟩; (· (go_simp; with_reducible rfl)); simp only [Act.put, List.setIfInBounds_toArray, List.set_cons_zero, List.set_cons_succ]
                refine qs_val (by kernel_rfl) ?_; apply Exists.intro; refine ⟨fun wq hq => ?_, ?_⟩; (· (go_simp; with_reducible rfl)); simp only [Act.put, List.setIfInBounds_toArray, List.set_cons_zero, List.set_cons_succ]
                refine qs_call (by kernel_rfl) ?_; apply Exists.intro; refine ⟨fun wq hq => ?_, ?_⟩; (· (go_simp; first | (refine gr_call hq (HCT.out _)))); simp only [Act.put, List.setIfInBounds_toArray, List.set_cons_zero, List.set_cons_succ]
                refine wpQuiet_nil ?_
                intro w1 hk1
                have hcl := HCL.out
                go_wp2_with fail
                go_roundg (gk - 1)
                case measure => omega
                case rel => exact ⟨i + 1, by rw [HSN.out, HQ.out]; simp [HCN.out, HW2.out], by simp [HW1.out], by omega, HG1.out.trans hk1⟩
            · have hd0 : decide (0 < (i : Int)) = false := by simp; omega
              have HX := Lib.hid hx
              clear hx hmo
              go_wp2_with fail
              go_quiet (fail)
              obtain ⟨w1, hw1⟩ : ∃ w1, w1 = wr.drewN nq := ⟨_, rfl⟩
              have hk1 : Gr wr w1 := hw1 ▸ (Gr.refl _).drewN _
              rw [← hw1]
              clear hw1
              go_wp2_with fail
              clear cb x0 x1 x2 x3 hd0
              have hmo1 := HM7.out.gr (hg.trans hk1)
              have x0 := cell_all (hmo1.at prE rfl i _ HX.out 0 (by omega))
              have x1 := cell_all (hmo1.at prE rfl i _ HX.out 1 (by omega))
              have x2 := cell_all (hmo1.at prE rfl i _ HX.out 2 (by omega))
              have x3 := cell_all (hmo1.at prE rfl i _ HX.out 3 (by omega))
              simp only [prC, List.getElem?_cons_succ, List.getElem?_cons_zero, Nat.add_zero] at x0 x1 x2 x3
              have cb := kept (blk_gr HB7.out (hg.trans hk1))
              have HG1 := Lib.hid (hg.trans hk1)
              clear hmo1 hg hk1
              cases hq : hasPx x.1 ⟨hi, lo, v6⟩
              · have HCT := Lib.hid (fun W => (hasPx_c x.1.a.hi x.1.a.lo x.1.a.v6 x.1.n hi lo v6 W).mono fun e w' h => (And.intro (h.1.trans (congrArg (fun z => Ending.returned (.bool z)) hq)) h.2 : e = .returned (.bool false) ∧ Gr W w'))
                have HQ := Lib.hid hq
                clear hq
                refine wp_region_gr (by kernel_rfl) (by kernel_rfl) ?_
                refine qs_val (by kernel_rfl) ?_; apply Exists.intro; refine ⟨fun wq hq => ?_, ?_⟩; (· (go_simp; with_reducible rfl)); simp only [Act.put, List.setIfInBounds_toArray, List.set_cons_zero, List.set_cons_succ]
                refine qs_val (by kernel_rfl) ?_; apply Exists.intro; refine ⟨fun wq hq => ?_, ?_⟩; (· (go_simp; with_reducible rfl)); simp only [Act.put, List.setIfInBounds_toArray, List.set_cons_zero, List.set_cons_succ]
                refine qs_val (by kernel_rfl) ?_; apply Exists.intro; refine ⟨fun wq hq => ?_, ?_⟩; (· (go_simp; with_reducible rfl)); simp only [Act.put, List.setIfInBounds_toArray, List.set_cons_zero, List.set_cons_succ]
                refine qs_val (by kernel_rfl) ?_; apply Exists.intro; refine ⟨fun wq hq => ?_, ?_⟩; (· (go_simp; with_reducible rfl)); simp only [Act.put, List.setIfInBounds_toArray, List.set_cons_zero, List.set_cons_succ]
                refine qs_val (by kernel_rfl) ?_; apply Exists.intro; refine ⟨fun wq hq => ?_, ?_⟩; (· (go_simp; with_reducible rfl)); simp only [Act.put, List.setIfInBounds_toArray, List.set_cons_zero, List.set_cons_succ]
                refine qs_val (by kernel_rfl) ?_; apply Exists.intro; refine ⟨fun wq hq => ?_, ?_⟩; (· (go_simp; with_reducible rfl)); simp only [Act.put, List.setIfInBounds_toArray, List.set_cons_zero, List.set_cons_succ]
                refine qs_call (by kernel_rfl) ?_; apply Exists.intro; refine ⟨fun wq hq => ?_, ?_⟩; (· (go_simp; first | (refine gr_call hq (HCT.out _)))); simp only [Act.put, List.setIfInBounds_toArray, List.set_cons_zero, List.set_cons_succ]
                refine wpQuiet_nil ?_
                intro w1 hk1
                go_wp2_with fail
                go_roundg (gk - 1)
                case measure => omega
                case rel => exact ⟨i + 1, by rw [HSN.out, HQ.out]; simp [HCN.out], by simp [HW1.out], by omega, HG1.out.trans hk1⟩
              · have HCT := Lib.hid (fun W => (hasPx_c x.1.a.hi x.1.a.lo x.1.a.v6 x.1.n hi lo v6 W).mono fun e w' h => (And.intro (h.1.trans (congrArg (fun z => Ending.returned (.bool z)) hq)) h.2 : e = .returned (.bool true) ∧ Gr W w'))
                have HQ := Lib.hid hq
                clear hq
                refine wp_region_gr (by kernel_rfl) (by kernel_rfl) ?_
                refine qs_val (by kernel_rfl) ?_; apply Exists.intro; refine ⟨fun wq hq => ?_, ?_⟩; (· (go_simp; with_reducible rfl)); simp only [Act.put, List.setIfInBounds_toArray, List.set_cons_zero, List.set_cons_succ]
                refine qs_val (by kernel_rfl) ?_; apply Exists.intro; refine ⟨fun wq hq => ?_, ?_⟩; (· (go_simp; with_reducible rfl)); simp only [Act.put, List.setIfInBounds_toArray, List.set_cons_zero, List.set_cons_succ]
                refine qs_val (by kernel_rfl) ?_; apply Exists.intro; refine ⟨fun wq hq => ?_, ?_⟩; (· (go_simp; with_reducible rfl)); simp only [Act.put, List.setIfInBounds_toArray, List.set_cons_zero, List.set_cons_succ]
                refine qs_val (by kernel_rfl) ?_; apply Exists.intro; refine ⟨fun wq hq => ?_, ?_⟩; (· (go_simp; with_reducible rfl)); simp only [Act.put, List.setIfInBounds_toArray, List.set_cons_zero, List.set_cons_succ]
                refine qs_val (by kernel_rfl) ?_; apply Exists.intro; refine ⟨fun wq hq => ?_, ?_⟩; (· (go_simp; with_reducible rfl)); simp only [Act.put, List.setIfInBounds_toArray, List.set_cons_zero, List.set_cons_succ]
                refine qs_val (by kernel_rfl) ?_; apply Exists.intro; refine ⟨fun wq hq => ?_, ?_⟩; (· (go_simp; with_reducible rfl)); simp only [Act.put, List.setIfInBounds_toArray, List.set_cons_zero, List.set_cons_succ]
                refine qs_call (by kernel_rfl) ?_; apply Exists.intro; refine ⟨fun wq hq => ?_, ?_⟩; (· (go_simp; first | (refine gr_call hq (HCT.out _)))); simp only [Act.put, List.setIfInBounds_toArray, List.set_cons_zero, List.set_cons_succ]
                refine wpQuiet_nil ?_
                intro w1 hk1
                have hcl := HCL.out
                go_wp2_with fail
                go_roundg (gk - 1)
                case measure => omega
                case rel => exact ⟨i + 1, by rw [HSN.out, HQ.out]; simp [HCN.out, HW2.out], by simp [HW1.out], by omega, HG1.out.trans hk1⟩
          · have hd : decide ((i : Int) < (m.length : Int)) = false := by simp; omega
            have hil : i = m.length := by omega
            have hca : cnt = ab.length := by
              rw [← HCN.out, hil, List.take_length, hfil.out]
            have HCA := Lib.hid hca
            have HO8 := Lib.hid (HO7.out.gr hg)
            have HK8 := Lib.hid (blk_gr HK7.out hg)
            have HG8 := Lib.hid (HG7.out.trans hg)
            obtain ⟨a8, cap8, rfl, hm8⟩ := HO8.out.lenv
            have hm8' : ab.length ≤ 9223372036854775807 := by have := hm8; simp only [maxLen] at this; omega
            clear hm8 hil hca HO7 HK7 HG7 HM7 HB7 HML HCN hg hi0
            go_wp2_with fail
            clear hd hlt
            go_loopg [14] ab.length (fun gg s14 wq => ∃ i : Nat, s14 = .int .i64 (i : Int) ∧ 1 ≤ i ∧ i + gg = ab.length + 1 ∧ Gr wr wq)
            case atStart => exact ⟨1, rfl, by omega, by omega, Gr.refl _⟩
            case round =>
              obtain ⟨i2, rfl, hi1, hi2, hg⟩ := hrel
              by_cases hlt : i2 < ab.length
              · have hd : decide ((i2 : Int) < (ab.length : Int)) = true := by simp; omega
                obtain ⟨g8, cap8', hv, _, _⟩ := HO8.out.form (by omega)
                simp only [Value.slice.injEq] at hv
                obtain ⟨rfl, _, _⟩ := hv
                have hmo := HO8.out.gr hg
                obtain ⟨j, hj⟩ : ∃ j, i2 = j + 1 := ⟨i2 - 1, by omega⟩
                have hx : ab[i2]? = some ab[i2] := List.getElem?_eq_getElem hlt
                have hy : ab[j]? = some ab[j] := List.getElem?_eq_getElem (by omega)
                have x3 := hmo.at prE rfl i2 _ hx 3 (by omega)
                have y3 := hmo.at prE rfl j _ hy 3 (by omega)
                simp only [prC, List.getElem?_cons_succ, List.getElem?_cons_zero, Nat.add_zero] at x3 y3
                have hlt2 : ab[j].1.n < ab[i2].1.n := (List.pairwise_iff_getElem.1 hris.out j i2 (by omega) hlt (by omega)).1
                have hd2 : decide (ab[i2].1.n ≤ ab[j].1.n) = false := by simp; omega
                have q0 : (0 : Int) ≤ (j : Int) := by omega
                have q1 : (j : Int) < (ab.length : Int) := by omega
                have q2 : (i2 : Int) < (ab.length : Int) := by omega
                have q3 : (0 : Int) ≤ (i2 : Int) := by omega
                have hw5 : IntKind.i64.wrap ((i2 : Int) - 1) = (j : Int) := by rw [hj]; have := IntWalk.i64_in ((j : Int)) (by omega); simpa using this
                generalize ab[i2].1.n = xn at x3 hd2 hlt2
                generalize ab[j].1.n = yn at y3 hd2 hlt2
                clear hx hy hj hmo hlt2
                go_wp2_with fail
                go_quiet (fail)
                clear hw5 x3 y3
                have hk1 := hg.drewN nq
                go_wp2_with fail
                go_roundg (gk - 1)
                case measure => omega
                case rel => exact ⟨i2 + 1, by simp, by omega, by omega, hk1⟩
              · have hd : decide ((i2 : Int) < (ab.length : Int)) = false := by simp; omega
                have hcnt := HCA.out
                have hlast : longV F ⟨hi, lo, v6⟩ = ab[ab.length - 1]? := by rw [hlv.out, List.getLast?_eq_getElem?]
                have hne : ((ab.length : Int) != (cnt : Int)) = false := by simp; omega
                obtain ⟨hX, hok⟩ := HX.out
                rw [hlast] at hX hok
                by_cases he : ab.length = 0
                · have hok2 : ok = false := by rw [← hok, List.getElem?_eq_none (by omega)]; rfl
                  have h0 : decide (0 < cnt) = false := by simp; omega
                  subst hok2
                  clear hcnt hlast hX hok he hm8'
                  go_wp2_with fail
                  go_quiet (fail)
                  go_wp2_with fail
                  go_ret
                  exact ⟨rfl, HG8.out.trans (hg.drewN nq)⟩
                · obtain ⟨q, hq⟩ : ∃ q, ab.length = q + 1 := ⟨ab.length - 1, by omega⟩
                  have hz : ab[q]? = some X := by
                    have e : ab[ab.length - 1]? = some ab[q] := by rw [show ab.length - 1 = q by omega]; exact List.getElem?_eq_getElem (by omega)
                    rw [e] at hX
                    rw [List.getElem?_eq_getElem (by omega)]
                    exact congrArg some hX
                  have hok2 : ok = true := by rw [← hok, show ab.length - 1 = q by omega, hz]; rfl
                  have h0 : decide (0 < cnt) = true := by simp; omega
                  obtain ⟨g8, cap8', hv, _, _⟩ := HO8.out.form (by omega)
                  simp only [Value.slice.injEq] at hv
                  obtain ⟨rfl, _, _⟩ := hv
                  have hmo := HO8.out.gr hg
                  have x0 := hmo.at prE rfl q _ hz 0 (by omega)
                  have x1 := hmo.at prE rfl q _ hz 1 (by omega)
                  have x2 := hmo.at prE rfl q _ hz 2 (by omega)
                  have x3 := hmo.at prE rfl q _ hz 3 (by omega)
                  have x4 := hmo.at prE rfl q _ hz 4 (by omega)
                  have cX := kept (blk_gr HK8.out hg) wr (Gr.refl _)
                  simp only [prC, List.getElem?_cons_succ, List.getElem?_cons_zero, Nat.add_zero] at x0 x1 x2 x3 x4
                  have hee : eqPr (⟨⟨X.1.a.hi, X.1.a.lo, X.1.a.v6⟩, X.1.n⟩, X.2) (⟨⟨X.1.a.hi, X.1.a.lo, X.1.a.v6⟩, X.1.n⟩, X.2) = true := by simp [eqPr]
                  have q0 : (0 : Int) ≤ (q : Int) := by omega
                  have q1 : (q : Int) < (ab.length : Int) := by omega
                  have hw5 : IntKind.i64.wrap ((cnt : Int) - 1) = (q : Int) := by rw [hcnt, hq]; have := IntWalk.i64_in ((q : Int)) (by omega); simpa using this
                  subst hok2
                  have hcl : cnt ≤ ab.length := by omega
                  clear hcnt hlast hX hok he hm8' hmo hz hq hcl
                  go_wp2_with fail
                  go_quiet (fail)
                  go_wp2_with fail
                  go_ret
                  exact ⟨rfl, HG8.out.trans (hg.drewN nq)⟩
  · have hb60 : decide (60 < (l.length : Int)) = true := by simp; omega
    go_enter Try.func3, Try.ntmps3
    go_wp2_with fail
    obtain ⟨W, hW, hB, k0⟩ := box1 w #[Value.int IntKind.u64 (hi.toNat : Int), Value.int IntKind.u64 (lo.toNat : Int), Value.bool v6] 25
    rw [← hW]
    clear hW
    refine (awake5_c W).mono ?_
    rintro e w1 ⟨rfl, hb1⟩
    go_wp2_with fail
    go_ret
    exact ⟨rfl, hB.trans hb1⟩

end Go.Proofs.Ytdecgbgndffkkaa
