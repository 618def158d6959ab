/- Put: what is put. -/
import Derived.Test.YtdecgbgndffkkaaTt
set_option linter.unusedVariables false
set_option linter.unusedSimpArgs false
namespace Go.Proofs.Ytdecgbgndffkkaa
open Go.RowKit

def Nd.setKid (x : Nd) (b c : Int) : Nd := if b = 0 then { x with k0 := c } else { x with k1 := c }
def setKidT (t : TS) (i : Nat) (b c : Int) : TS := match t.ar[i]? with
  | some x => { t with ar := t.ar.set i (x.setKid b c) }
  | none => t
/-- one digit further down, with a new node if there is none -/
def stepT (t : TS) (a : Ad) (k : Nat) (at_ : Int) : TS × Int :=
  if kidI t.ar at_ (bitI a k) = -1 then (setKidT (takeT t at_).1 at_.toNat (bitI a k) (takeT t at_).2, (takeT t at_).2) else (t, kidI t.ar at_ (bitI a k))
def downT (a : Ad) : Nat → Nat → TS × Int → TS × Int
  | 0, _, s => s
  | d + 1, k, s => downT a d (k + 1) (stepT s.1 a k s.2)
def endT (t : TS) (i : Nat) (v : Int) : TS := match t.ar[i]? with
  | some x => { t with n := if x.ends then t.n else t.n + 1, ar := t.ar.set i { x with ends := true, v := v } }
  | none => t
def putT (t : TS) (p : Px) (v : Int) : TS :=
  if sanePx p then endT (downT p.a p.n.toNat 0 (t, rootI p.a.v6)).1 (downT p.a p.n.toNat 0 (t, rootI p.a.v6)).2.toNat v else t

/-- kids and free ones lie in the arena -/
structure okT (t : TS) : Prop where
  kids : kidsOk t
  free : ∀ x ∈ t.fr, 0 ≤ x ∧ x < t.ar.length
theorem okT.len {t : TS} (h : okT t) : 2 ≤ t.ar.length := h.kids.1

def kidIn (n : Nat) (x : Int) : Prop := x = -1 ∨ (0 ≤ x ∧ x < n)
theorem kidIn.mono {n m : Nat} {x : Int} (h : kidIn n x) (hm : n ≤ m) : kidIn m x := h.imp id (fun h => ⟨h.1, by omega⟩)
theorem okT.set {t : TS} (h : okT t) (i : Nat) (x : Nd) (hx : kidIn t.ar.length x.k0 ∧ kidIn t.ar.length x.k1) : okT { t with ar := t.ar.set i x } := by
  refine ⟨⟨by simpa using h.len, fun y hy => ?_⟩, fun y hy => by simpa using h.free y hy⟩
  simp only [List.length_set]
  rcases List.mem_or_eq_of_mem_set hy with hy | rfl
  · exact h.kids.2 y hy
  · exact hx
theorem okT.take {t : TS} (h : okT t) (up : Int) : okT (takeT t up).1 ∧ (0 ≤ (takeT t up).2 ∧ (takeT t up).2 < (takeT t up).1.ar.length) ∧ t.ar.length ≤ (takeT t up).1.ar.length ∧ (takeT t up).1.ar.length ≤ t.ar.length + 1 := by
  unfold takeT
  cases hf : t.fr.getLast? with
  | some x =>
    have hx := h.free x (List.mem_of_getLast? hf)
    simp only
    have h1 : okT { t with fr := t.fr.dropLast, ar := t.ar } := ⟨h.kids, fun y hy => h.free y (List.dropLast_subset _ hy)⟩
    refine ⟨h1.set x.toNat (freshN up) ⟨.inl rfl, .inl rfl⟩, by simpa using hx, by simp, by simp⟩
  | none =>
    simp only
    have hl := h.len
    refine ⟨⟨⟨by simp; omega, fun y hy => ?_⟩, fun y hy => ?_⟩, by simp; omega, by simp, by simp⟩
    · simp only [List.mem_append, List.mem_singleton] at hy
      rcases hy with hy | rfl
      · have := h.kids.2 y hy
        simp only [List.length_append, List.length_singleton]
        exact ⟨(show kidIn _ _ from this.1).mono (by omega), (show kidIn _ _ from this.2).mono (by omega)⟩
      · exact ⟨.inl rfl, .inl rfl⟩
    · have := h.free y hy
      simp only [List.length_append, List.length_singleton]
      omega
theorem okT.setKid {t : TS} (h : okT t) (i : Nat) (b c : Int) (ht : kidIn t.ar.length c) : okT (setKidT t i b c) ∧ (setKidT t i b c).ar.length = t.ar.length := by
  unfold setKidT
  cases hx : t.ar[i]? with
  | none => exact ⟨h, rfl⟩
  | some x =>
    have hk := h.kids.2 x (List.mem_of_getElem? hx)
    refine ⟨h.set i _ ?_, by simp⟩
    unfold Nd.setKid
    split
    · exact ⟨ht, hk.2⟩
    · exact ⟨hk.1, ht⟩
theorem okT.step {t : TS} (h : okT t) (a : Ad) (k : Nat) (at_ : Int) : okT (stepT t a k at_).1 ∧ (0 ≤ (stepT t a k at_).2 ∧ (stepT t a k at_).2 < (stepT t a k at_).1.ar.length) ∧ (stepT t a k at_).1.ar.length ≤ t.ar.length + 1 := by
  unfold stepT
  split
  · obtain ⟨h1, h2, h3, h4⟩ := h.take at_
    obtain ⟨h5, h6⟩ := h1.setKid at_.toNat (bitI a k) (takeT t at_).2 (.inr h2)
    exact ⟨h5, by rw [h6]; exact h2, by rw [h6]; exact h4⟩
  · rename_i hn
    have := h.kids.kid at_ (bitI a k)
    simp only
    exact ⟨h, by omega, by omega⟩

theorem TR.store {w : World} {base tb g cap n : Nat} {t : TS} {vf : Value} (h : TR w base tb t (.slice (some ⟨g, 0, none⟩) n cap) vf) (i : Nat) (hi : i < t.ar.length) (b : Int) (hb : b = 0 ∨ b = 1) (c : Int) :
    TR (w.setCell ⟨g, i * 5 + b.toNat, none⟩ (.int .i64 c)) base tb (setKidT t i b c) (.slice (some ⟨g, 0, none⟩) n cap) vf := by
  have hx : t.ar[i]? = some t.ar[i] := List.getElem?_eq_getElem hi
  unfold setKidT
  rw [hx]
  rcases hb with rfl | rfl
  · exact h.put i _ _ hx 0 (by omega) _ rfl
  · exact h.put i _ _ hx 1 (by omega) _ rfl

theorem stepT_n (t : TS) (a : Ad) (k : Nat) (at_ : Int) : (stepT t a k at_).1.n = t.n := by
  unfold stepT setKidT takeT
  split
  · split <;> split <;> rfl
  · rfl
theorem meas_lt (N k : Nat) (h : k < N) (hw : wrap64 ((k : Int) + 1) = (k : Int) + 1) : N - (intOf (.int .i64 (wrap64 ((k : Int) + 1)))).toNat < N - (intOf (.int .i64 (k : Int))).toNat := by
  rw [hw]
  simp only [intOf]
  omega
theorem downT_succ (a : Ad) (d k : Nat) (s : TS × Int) : downT a (d + 1) k s = downT a d (k + 1) (stepT s.1 a k s.2) := rfl

set_option maxHeartbeats 4000000 in
theorem put_c {base tb : Nat} {t : TS} {va vf : Value} (hk : okT t) (hm : t.ar.length ≤ 900000) (hi lo : BitVec 64) (v6 : Bool) (n v : Int) (hn : -1000000 ≤ t.n ∧ t.n ≤ 1000000) (w : World) (hT : TR w base tb t va vf) :
    Calls Try.prog 85 #[.pointer (some ⟨tb, 0, none⟩), .agg #[.int .u64 (hi.toNat : Int), .int .u64 (lo.toNat : Int), .bool v6, .int .i64 n], .int .i64 v] w fun e w' =>
      e = .returned (.int .i64 (if sanePx ⟨⟨hi, lo, v6⟩, n⟩ then 0 else 1)) ∧ ∃ va' vf', TR w' base tb (putT t ⟨⟨hi, lo, v6⟩, n⟩ v) va' vf' ∧ Fr w w' (TF tb va vf) (TF tb va' vf') := by
  have hlen := hk.len
  have HT := Lib.hid hT
  have HK := Lib.hid hk
  have HM := Lib.hid hm
  have HN := Lib.hid hn
  clear hT hk hm hn
  by_cases hs : sanePx ⟨⟨hi, lo, v6⟩, n⟩ = true
  · have hbd := sanePx_bd hs
    have hwb := widthI_bd v6
    simp only at hbd
    obtain ⟨N, rfl⟩ := Int.eq_ofNat_of_zero_le hbd.1
    have HNN := Lib.hid (show N ≤ 128 by omega)
    have HP := Lib.hid (show putT t ⟨⟨hi, lo, v6⟩, (N : Int)⟩ v = endT (downT ⟨hi, lo, v6⟩ N 0 (t, rootI v6)).1 (downT ⟨hi, lo, v6⟩ N 0 (t, rootI v6)).2.toNat v by unfold putT; rw [if_pos hs]; simp)
    rw [if_pos hs]
    clear hbd hwb
    go_enter Try.func85, Try.ntmps85
    go_wp2_with fail
    obtain ⟨W, hW, hB, k0⟩ := box1 w #[Value.int IntKind.u64 (hi.toNat : Int), Value.int IntKind.u64 (lo.toNat : Int), Value.bool v6, Value.int IntKind.i64 (N : Int)] 32
    rw [← hW]
    clear hW
    have c0 := kept k0
    refine (made_c _ (HT.out.at.gr hB) (by omega)).mono ?_
    rintro e w' ⟨rfl, rfl⟩
    go_wp2_with fail
    refine (sanePx_c hi lo v6 (N : Int) _).mono ?_
    rintro e w1 ⟨rfl, hb1⟩
    rw [hs]
    have k01 := blk_gr k0 hb1
    have c01 := kept k01
    have hB1 := hB.trans hb1
    go_wp2_with fail
    refine (root_c _ _).mono ?_
    rintro e w' ⟨rfl, rfl⟩
    go_wp2_with fail
    go_loopw [7, 26] (fun s7 s26 wr => ∃ (k : Nat) (tk : TS) (x : Int) (va' vf' : Value), s7 = .int .i64 x ∧ s26 = .int .i64 (k : Int) ∧ k ≤ N ∧ downT ⟨hi, lo, v6⟩ (N - k) k (tk, x) = downT ⟨hi, lo, v6⟩ N 0 (t, rootI v6) ∧ okT tk ∧ (0 ≤ x ∧ x < tk.ar.length) ∧ tk.ar.length ≤ t.ar.length + k ∧ tk.n = t.n ∧
        TR wr base tb tk va' vf' ∧ Fr w wr (TF tb va vf) (TF tb va' vf') ∧ wr.heap[w.heap.size]? = some (.cells #[Value.int IntKind.u64 (hi.toNat : Int), Value.int IntKind.u64 (lo.toNat : Int), Value.bool v6, Value.int IntKind.i64 (N : Int)] 32 (0, 0)))
      (fun s7 s26 wr => N - (intOf s26).toNat)
    case atStart =>
      refine ⟨0, t, _, va, vf, rfl, rfl, Nat.zero_le _, rfl, HK.out, ?_, Nat.le_refl _, rfl, HT.out.gr hB1, Fr.of_gr hB1 _, k01⟩
      unfold rootI
      split <;> omega
    case round =>
      obtain ⟨k, tk, x, va', vf', rfl, rfl, hkN, hdown, hok, ⟨hx0, hx1⟩, hle, htn, hTk, hFk, hbox⟩ := hrel
      obtain ⟨i, rfl⟩ := Int.eq_ofNat_of_zero_le hx0
      have hil : i < tk.ar.length := by omega
      have HOK := Lib.hid hok
      have HLE := Lib.hid hle
      have HD := Lib.hid hdown
      have HTK := Lib.hid hTk
      have HFK := Lib.hid hFk
      have HTN := Lib.hid htn
      clear hok hle hdown hFk htn
      obtain ⟨g, cap, rfl, hg, hgl⟩ := hTk.ar.form (by omega)
      have cb := kept hbox
      clear hTk
      by_cases hlt : k < N
      · have hd : decide ((k : Int) < (N : Int)) = true := by simp; omega
        have hnd : tk.ar[i]? = some tk.ar[i] := List.getElem?_eq_getElem hil
        have hdn : downT ⟨hi, lo, v6⟩ (N - (k + 1)) (k + 1) (stepT tk ⟨hi, lo, v6⟩ k i) = downT ⟨hi, lo, v6⟩ N 0 (t, rootI v6) := by
          rw [← HD.out, show N - k = (N - (k + 1)) + 1 by omega, downT_succ]
        have HDN := Lib.hid hdn
        have HOK2 := Lib.hid (HOK.out.step ⟨hi, lo, v6⟩ k i)
        have HN2 := Lib.hid ((stepT_n tk ⟨hi, lo, v6⟩ k i).trans HTN.out)
        have hkd : kidI tk.ar i (bitI ⟨hi, lo, v6⟩ (k : Int)) = if bitI ⟨hi, lo, v6⟩ (k : Int) = 0 then tk.ar[i].k0 else tk.ar[i].k1 := by
          unfold kidI
          simp [hnd]
        have HWK := Lib.hid (show wrap64 ((k : Int) + 1) = (k : Int) + 1 from IntWalk.wrap64_in _ (by have := HNN.out; omega))
        have b01 := bitI_01 ⟨hi, lo, v6⟩ (k : Int)
        have hbit : bitI ⟨hi, lo, v6⟩ (k : Int) = 0 ∨ bitI ⟨hi, lo, v6⟩ (k : Int) = 1 := by omega
        have HBit := Lib.hid hbit
        clear hdn hbit b01
        go_wp2_with fail
        refine (bit_c _ _ _ _ _).mono ?_
        rintro e w2 ⟨rfl, hb2⟩
        have hT := HTK.out.gr hb2
        have nI := hT.at.node rfl i _ hnd
        have n0 := cell_all nI.k0
        have n1 := cell_all nI.k1
        have cT := kept hT.blk
        have cb2 := kept (blk_gr hbox hb2)
        have HT2 := Lib.hid hT
        clear hT nI
        have hstep : ∀ y, kidI tk.ar i (bitI ⟨hi, lo, v6⟩ (k : Int)) = y → stepT tk ⟨hi, lo, v6⟩ k i = if y = -1 then (setKidT (takeT tk i).1 i (bitI ⟨hi, lo, v6⟩ k) (takeT tk i).2, (takeT tk i).2) else (tk, y) := by
          intro y hy
          unfold stepT
          rw [hy]
          simp
        rcases HBit.out with hbit | hbit
        · rw [hbit, if_pos rfl] at hkd
          rw [hbit] at hstep ⊢
          by_cases hnone : tk.ar[i].k0 = -1
          · have hq : (tk.ar[i].k0 == -1) = true := by simp [hnone]
            have hS := Lib.hid (by have := hstep _ hkd; rw [if_pos hnone] at this; exact this)
            clear hstep hkd hnone
            go_wp2_with fail
            refine (take_c ⟨HOK.out.len, HOK.out.free, by have := HLE.out; have := HM.out; have := HNN.out; omega⟩ i w2 HT2.out).mono ?_
            obtain ⟨q1, q2, q3, q4⟩ := HOK.out.take i
            generalize takeT tk i = s at hS q1 q2 q3 q4 ⊢
            rintro e w3 ⟨rfl, va2, vf2, hT3, hF3⟩
            obtain ⟨g2, cap2, rfl, hg2, hgl2⟩ := hT3.ar.form (by omega)
            have hil2 : i < s.1.ar.length := by omega
            have hnd2 : s.1.ar[i]? = some s.1.ar[i] := List.getElem?_eq_getElem hil2
            have nI := hT3.at.node rfl i _ hnd2
            have n0 := nI.k0
            have n1 := nI.k1
            have cT := kept hT3.blk w3 (Gr.refl _)
            have fA : ∀ o, w3.frozen? ⟨g2, o, none⟩ = false := hT3.ar.free
            have hilI : (i : Int) < (s.1.ar.length : Int) := by omega
            have HT3 := Lib.hid hT3
            have HF3 := Lib.hid hF3
            have Q2 := Lib.hid q2
            have Q4 := Lib.hid q4
            clear hT3 hF3 nI q2 q3 q4
            have hwk := HWK.out
            go_wp2_with fail
            clear hwk
            go_roundw
            case rel =>
              have hT4 := HT3.out.store i hil2 0 (by omega) s.2
              have hF4 := (HFK.out.trans ((Fr.of_gr hb2 _).trans HF3.out)).set (p := ⟨g2, i * 5, none⟩) (.inr (.inl rfl)) (.int .i64 s.2)
              have hbox2 := HF3.out.blk (blk_gr hbox hb2) (HT2.out.off (blk_gr hbox hb2) (by decide) (by decide) (by decide))
              rw [hS.out] at HDN HOK2 HN2
              refine ⟨k + 1, _, s.2, _, _, rfl, by simp [HWK.out], hlt, HDN.out, HOK2.out.1, HOK2.out.2.1, ?_, HN2.out, by simpa using hT4, hF4, ?_⟩
              · have h1 := HOK2.out.2.2
                have h2 := HLE.out
                simp only at h1
                omega
              · rw [set_blk_ne]
                · exact hbox2
                · rintro rfl
                  obtain ⟨_, _, cs, hcs⟩ := HT3.out.ar.block rfl
                  rw [hbox2] at hcs
                  simp at hcs
            case measure => exact meas_lt N k hlt HWK.out
          · have hq : (tk.ar[i].k0 == -1) = false := by simp [hnone]
            have hS := Lib.hid (by have := hstep _ hkd; rw [if_neg hnone] at this; exact this)
            clear hstep hkd hnone
            have hwk := HWK.out
            go_wp2_with fail
            clear hwk
            go_roundw
            case rel =>
              rw [hS.out] at HDN HOK2 HN2
              exact ⟨k + 1, tk, _, _, _, rfl, by simp [HWK.out], hlt, HDN.out, HOK2.out.1, HOK2.out.2.1, by have := HLE.out; omega, HTN.out, HT2.out, HFK.out.gr hb2, blk_gr hbox hb2⟩
            case measure => exact meas_lt N k hlt HWK.out
        · rw [hbit, if_neg (by decide)] at hkd
          rw [hbit] at hstep ⊢
          by_cases hnone : tk.ar[i].k1 = -1
          · have hq : (tk.ar[i].k1 == -1) = true := by simp [hnone]
            have hS := Lib.hid (by have := hstep _ hkd; rw [if_pos hnone] at this; exact this)
            clear hstep hkd hnone
            go_wp2_with fail
            refine (take_c ⟨HOK.out.len, HOK.out.free, by have := HLE.out; have := HM.out; have := HNN.out; omega⟩ i w2 HT2.out).mono ?_
            obtain ⟨q1, q2, q3, q4⟩ := HOK.out.take i
            generalize takeT tk i = s at hS q1 q2 q3 q4 ⊢
            rintro e w3 ⟨rfl, va2, vf2, hT3, hF3⟩
            obtain ⟨g2, cap2, rfl, hg2, hgl2⟩ := hT3.ar.form (by omega)
            have hil2 : i < s.1.ar.length := by omega
            have hnd2 : s.1.ar[i]? = some s.1.ar[i] := List.getElem?_eq_getElem hil2
            have nI := hT3.at.node rfl i _ hnd2
            have n0 := nI.k0
            have n1 := nI.k1
            have cT := kept hT3.blk w3 (Gr.refl _)
            have fA : ∀ o, w3.frozen? ⟨g2, o, none⟩ = false := hT3.ar.free
            have hilI : (i : Int) < (s.1.ar.length : Int) := by omega
            have HT3 := Lib.hid hT3
            have HF3 := Lib.hid hF3
            have Q2 := Lib.hid q2
            have Q4 := Lib.hid q4
            clear hT3 hF3 nI q2 q3 q4
            have hwk := HWK.out
            go_wp2_with fail
            clear hwk
            go_roundw
            case rel =>
              have hT4 := HT3.out.store i hil2 1 (by omega) s.2
              have hF4 := (HFK.out.trans ((Fr.of_gr hb2 _).trans HF3.out)).set (p := ⟨g2, i * 5 + 1, none⟩) (.inr (.inl rfl)) (.int .i64 s.2)
              have hbox2 := HF3.out.blk (blk_gr hbox hb2) (HT2.out.off (blk_gr hbox hb2) (by decide) (by decide) (by decide))
              rw [hS.out] at HDN HOK2 HN2
              refine ⟨k + 1, _, s.2, _, _, rfl, by simp [HWK.out], hlt, HDN.out, HOK2.out.1, HOK2.out.2.1, ?_, HN2.out, by simpa using hT4, hF4, ?_⟩
              · have h1 := HOK2.out.2.2
                have h2 := HLE.out
                simp only at h1
                omega
              · rw [set_blk_ne]
                · exact hbox2
                · rintro rfl
                  obtain ⟨_, _, cs, hcs⟩ := HT3.out.ar.block rfl
                  rw [hbox2] at hcs
                  simp at hcs
            case measure => exact meas_lt N k hlt HWK.out
          · have hq : (tk.ar[i].k1 == -1) = false := by simp [hnone]
            have hS := Lib.hid (by have := hstep _ hkd; rw [if_neg hnone] at this; exact this)
            clear hstep hkd hnone
            have hwk := HWK.out
            go_wp2_with fail
            clear hwk
            go_roundw
            case rel =>
              rw [hS.out] at HDN HOK2 HN2
              exact ⟨k + 1, tk, _, _, _, rfl, by simp [HWK.out], hlt, HDN.out, HOK2.out.1, HOK2.out.2.1, by have := HLE.out; omega, HTN.out, HT2.out, HFK.out.gr hb2, blk_gr hbox hb2⟩
            case measure => exact meas_lt N k hlt HWK.out
      · have hd : decide ((k : Int) < (N : Int)) = false := by simp; omega
        have hnd : tk.ar[i]? = some tk.ar[i] := List.getElem?_eq_getElem hil
        have hT := HTK.out
        have nI := hT.at.node rfl i _ hnd
        have n3 := nI.ends
        have n4 := nI.v
        have cT := kept hT.blk wr (Gr.refl _)
        have fT := kept_free hT.blk wr (Gr.refl _)
        have fA : ∀ o, wr.frozen? ⟨g, o, none⟩ = false := hT.ar.free
        have hne : g ≠ tb := fun e => hT.apart.1 (by rw [e]; rfl)
        have hne2 : tb ≠ g := Ne.symm hne
        have HE := Lib.hid (show putT t ⟨⟨hi, lo, v6⟩, (N : Int)⟩ v = endT tk i v by
          rw [HP.out, ← HD.out, show N - k = 0 by omega]; rfl)
        have hb := HTN.out
        have hb2 := HN.out
        cases he : tk.ar[i].ends
        · rw [he] at n3
          have hw1 : wrap64 (tk.n + 1) = tk.n + 1 := IntWalk.wrap64_in _ (by omega)
          have hE : endT tk i v = { tk with n := tk.n + 1, ar := tk.ar.set i { tk.ar[i] with ends := true, v := v } } := by unfold endT; rw [hnd]; simp [he]
          have HE2 := Lib.hid hE
          clear hT nI hE hb hb2
          go_wp2_with fail
          go_ret
          have h3 := (HTK.out.setN (tk.n + 1)).put i tk.ar[i] { tk.ar[i] with ends := true } hnd 3 (by omega) (.bool true) rfl
          have h4 := h3.put i { tk.ar[i] with ends := true } { tk.ar[i] with ends := true, v := v } (by simp [hil]) 4 (by omega) (.int .i64 v) rfl
          have hF : Fr w _ _ _ := ((HFK.out.set (p := ⟨tb, 2, none⟩) (.inl rfl) (.int .i64 (tk.n + 1))).set (p := ⟨g, i * 5 + 3, none⟩) (.inr (.inl rfl)) (.bool true)).set (p := ⟨g, i * 5 + 4, none⟩) (.inr (.inl rfl)) (.int .i64 v)
          rw [HE.out, HE2.out]
          refine ⟨rfl, _, _, ?_, hF⟩
          simpa using h4
        · rw [he] at n3
          have hE : endT tk i v = { tk with ar := tk.ar.set i { tk.ar[i] with ends := true, v := v } } := by unfold endT; rw [hnd]; simp [he]
          have HE2 := Lib.hid hE
          clear hT nI hE hb hb2
          go_wp2_with fail
          go_ret
          have h3 := HTK.out.put i tk.ar[i] { tk.ar[i] with ends := true } hnd 3 (by omega) (.bool true) rfl
          have h4 := h3.put i { tk.ar[i] with ends := true } { tk.ar[i] with ends := true, v := v } (by simp [hil]) 4 (by omega) (.int .i64 v) rfl
          have hF : Fr w _ _ _ := (HFK.out.set (p := ⟨g, i * 5 + 3, none⟩) (.inr (.inl rfl)) (.bool true)).set (p := ⟨g, i * 5 + 4, none⟩) (.inr (.inl rfl)) (.int .i64 v)
          rw [HE.out, HE2.out]
          refine ⟨rfl, _, _, ?_, hF⟩
          simpa using h4
  · have hs' : sanePx ⟨⟨hi, lo, v6⟩, n⟩ = false := by simpa using hs
    have HP := Lib.hid (show putT t ⟨⟨hi, lo, v6⟩, n⟩ v = t by unfold putT; rw [if_neg hs])
    rw [if_neg hs]
    go_enter Try.func85, Try.ntmps85
    go_wp2_with fail
    obtain ⟨W, hW, hB, k0⟩ := box1 w #[Value.int IntKind.u64 (hi.toNat : Int), Value.int IntKind.u64 (lo.toNat : Int), Value.bool v6, Value.int IntKind.i64 n] 32
    rw [← hW]
    clear hW
    have c0 := kept k0
    refine (made_c _ (HT.out.at.gr hB) (by omega)).mono ?_
    rintro e w' ⟨rfl, rfl⟩
    go_wp2_with fail
    refine (sanePx_c hi lo v6 n _).mono ?_
    rintro e w1 ⟨rfl, hb1⟩
    rw [hs']
    go_wp2_with fail
    go_ret
    rw [HP.out]
    exact ⟨rfl, va, vf, HT.out.gr (hB.trans hb1), Fr.of_gr (hB.trans hb1) _⟩

end Go.Proofs.Ytdecgbgndffkkaa
