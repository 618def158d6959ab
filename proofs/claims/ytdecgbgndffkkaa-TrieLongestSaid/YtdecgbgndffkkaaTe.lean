/- Del. -/
import Derived.Test.YtdecgbgndffkkaaTd
set_option linter.unusedVariables false
set_option linter.unusedSimpArgs false
namespace Go.Proofs.Ytdecgbgndffkkaa
open Go.RowKit

def unendT (t : TS) (i : Nat) : TS := match t.ar[i]? with
  | some x => { t with n := t.n - 1, ar := t.ar.set i { x with ends := false } }
  | none => t
def delT (rk : Nat → Nat) (t : TS) (p : Px) : TS := if (getI t.ar p).isSome then pruneT (rk (findI t.ar p).toNat + 1) (unendT t (findI t.ar p).toNat) (findI t.ar p) else t
def delE (t : TS) (p : Px) : Int := if sanePx p then (if (getI t.ar p).isSome then 0 else 2) else 1

theorem okT.unend {t : TS} (h : okT t) (i : Nat) : okT (unendT t i) := by
  unfold unendT
  cases hx : t.ar[i]? with
  | none => exact h
  | some x =>
    have hk := h.kids.2 x (List.mem_of_getElem? hx)
    have := h.set i { x with ends := false } hk
    exact ⟨this.kids, this.free⟩
theorem upOk.unend {t : TS} {rk : Nat → Nat} (h : upOk t rk) (i : Nat) : upOk (unendT t i) rk := by
  unfold unendT
  cases hx : t.ar[i]? with
  | none => exact h
  | some y =>
    intro k x hi hr hu
    simp only [List.length_set] at hi ⊢
    by_cases he : i = k
    · subst he
      rw [List.getElem?_set_self (List.getElem?_eq_some_iff.1 hx).1] at hi
      simp only [Option.some.injEq] at hi
      subst hi
      exact h _ y hx hr hu
    · rw [List.getElem?_set_ne he] at hi
      exact h k x hi hr hu
theorem unendT_len (t : TS) (i : Nat) : (unendT t i).ar.length = t.ar.length ∧ (unendT t i).fr = t.fr := by
  unfold unendT
  split <;> simp

set_option maxHeartbeats 4000000 in
theorem del_c {base tb : Nat} {t : TS} {va vf : Value} (hk : okT t) (rk : Nat → Nat) (hr : upOk t rk) (hi lo : BitVec 64) (v6 : Bool) (n : Int) (hm : t.fr.length + t.ar.length + rk (findI t.ar ⟨⟨hi, lo, v6⟩, n⟩).toNat ≤ 4000000) (hrp : findI t.ar ⟨⟨hi, lo, v6⟩, n⟩ ≠ -1 → 0 < rk (findI t.ar ⟨⟨hi, lo, v6⟩, n⟩).toNat) (hn : -1000000 ≤ t.n ∧ t.n ≤ 1000000) (w : World) (hT : TR w base tb t va vf) :
    Calls Try.prog 87 #[.pointer (some ⟨tb, 0, none⟩), .agg #[.int .u64 (hi.toNat : Int), .int .u64 (lo.toNat : Int), .bool v6, .int .i64 n]] w fun e w' =>
      e = .returned (.int .i64 (delE t ⟨⟨hi, lo, v6⟩, n⟩)) ∧ ∃ va' vf', TR w' base tb (delT rk t ⟨⟨hi, lo, v6⟩, n⟩) va' vf' ∧ Fr w w' (TF tb va vf) (TF tb va' vf') := by
  have hlen := hk.len
  have HT := Lib.hid hT
  have HK := Lib.hid hk
  have HR := Lib.hid hr
  have HN := Lib.hid hn
  have HRP := Lib.hid hrp
  clear hk hr hn hrp
  obtain ⟨g, cap, rfl, hg, hgl⟩ := hT.ar.form (by omega)
  clear hT
  cases hs : sanePx ⟨⟨hi, lo, v6⟩, n⟩
  · have hg0 : getI t.ar ⟨⟨hi, lo, v6⟩, n⟩ = none := by
      rw [getI_eq t.ar ⟨⟨hi, lo, v6⟩, n⟩ (-1) (by simp [findI, hs])]
      split <;> simp
    have hE : delE t ⟨⟨hi, lo, v6⟩, n⟩ = 1 := by simp [delE, hs]
    have hD : delT rk t ⟨⟨hi, lo, v6⟩, n⟩ = t := by simp [delT, hg0]
    rw [hE, hD]
    clear hm hE hD hg0
    go_enter Try.func87, Try.ntmps87
    go_wp2_with fail
    obtain ⟨W, hW, hB, k0⟩ := box1 w #[Value.int IntKind.u64 (hi.toNat : Int), Value.int IntKind.u64 (lo.toNat : Int), Value.bool v6, Value.int IntKind.i64 n] 32
    rw [← hW]
    clear hW
    have c0 := kept k0
    refine (sanePx_c hi lo v6 n _).mono ?_
    rintro e w1 ⟨rfl, hb1⟩
    rw [hs]
    go_wp2_with fail
    go_ret
    exact ⟨rfl, _, _, HT.out.gr (hB.trans hb1), Fr.of_gr (hB.trans hb1) _⟩
  · have hok := findI_ok HK.out.kids ⟨⟨hi, lo, v6⟩, n⟩
    have HG := fun x h => Lib.hid (getI_eq t.ar ⟨⟨hi, lo, v6⟩, n⟩ x h)
    generalize hf : findI t.ar ⟨⟨hi, lo, v6⟩, n⟩ = x at hok HG hm HRP
    have HF := Lib.hid hf
    have HGx := HG x rfl
    clear HG hf
    rcases hok with rfl | ⟨h0, h1⟩
    · have hg0 : getI t.ar ⟨⟨hi, lo, v6⟩, n⟩ = none := by rw [HGx.out]; split <;> simp
      have hE : delE t ⟨⟨hi, lo, v6⟩, n⟩ = 2 := by simp [delE, hs, hg0]
      have hD : delT rk t ⟨⟨hi, lo, v6⟩, n⟩ = t := by simp [delT, hg0]
      rw [hE, hD]
      clear hm hE hD hg0
      go_enter Try.func87, Try.ntmps87
      go_wp2_with fail
      obtain ⟨W, hW, hB, k0⟩ := box1 w #[Value.int IntKind.u64 (hi.toNat : Int), Value.int IntKind.u64 (lo.toNat : Int), Value.bool v6, Value.int IntKind.i64 n] 32
      rw [← hW]
      clear hW
      have c0 := kept k0
      refine (sanePx_c hi lo v6 n _).mono ?_
      rintro e w1 ⟨rfl, hb1⟩
      rw [hs]
      have c01 := kept (blk_gr k0 hb1)
      go_wp2_with fail
      refine (find_c HK.out.kids _ _ _ _ _ (HT.out.at.gr (hB.trans hb1))).mono ?_
      rintro e w2 ⟨rfl, hb2⟩
      rw [HF.out]
      go_wp2_with fail
      go_ret
      exact ⟨rfl, _, _, HT.out.gr ((hB.trans hb1).trans hb2), Fr.of_gr ((hB.trans hb1).trans hb2) _⟩
    · obtain ⟨i, rfl⟩ := Int.eq_ofNat_of_zero_le h0
      have hil : i < t.ar.length := by omega
      have hnd : t.ar[i]? = some t.ar[i] := List.getElem?_eq_getElem hil
      have hb : ((i : Int) == -1) = false := by simp
      have HM := Lib.hid hm
      clear hm
      cases he : t.ar[i].ends
      · have hg0 : getI t.ar ⟨⟨hi, lo, v6⟩, n⟩ = none := by rw [HGx.out]; simp [hnd, he]
        have hE : delE t ⟨⟨hi, lo, v6⟩, n⟩ = 2 := by simp [delE, hs, hg0]
        have hD : delT rk t ⟨⟨hi, lo, v6⟩, n⟩ = t := by simp [delT, hg0]
        rw [hE, hD]
        clear hE hD hg0
        go_enter Try.func87, Try.ntmps87
        go_wp2_with fail
        obtain ⟨W, hW, hB, k0⟩ := box1 w #[Value.int IntKind.u64 (hi.toNat : Int), Value.int IntKind.u64 (lo.toNat : Int), Value.bool v6, Value.int IntKind.i64 n] 32
        rw [← hW]
        clear hW
        have c0 := kept k0
        refine (sanePx_c hi lo v6 n _).mono ?_
        rintro e w1 ⟨rfl, hb1⟩
        rw [hs]
        have c01 := kept (blk_gr k0 hb1)
        go_wp2_with fail
        refine (find_c HK.out.kids _ _ _ _ _ (HT.out.at.gr (hB.trans hb1))).mono ?_
        rintro e w2 ⟨rfl, hb2⟩
        rw [HF.out]
        have hT2 := HT.out.gr ((hB.trans hb1).trans hb2)
        have n3 := (hT2.at.node rfl i _ hnd).ends
        rw [he] at n3
        have cT := kept hT2.blk w2 (Gr.refl _)
        clear hT2
        go_wp2_with fail
        go_ret
        exact ⟨rfl, _, _, HT.out.gr ((hB.trans hb1).trans hb2), Fr.of_gr ((hB.trans hb1).trans hb2) _⟩
      · have hg0 : getI t.ar ⟨⟨hi, lo, v6⟩, n⟩ = some t.ar[i].v := by rw [HGx.out]; simp [hnd, he]
        have hE : delE t ⟨⟨hi, lo, v6⟩, n⟩ = 0 := by simp [delE, hs, hg0]
        have hD : delT rk t ⟨⟨hi, lo, v6⟩, n⟩ = pruneT (rk i + 1) (unendT t i) i := by
          unfold delT
          rw [hg0, HF.out]
          simp
        have hU : unendT t i = { t with n := t.n - 1, ar := t.ar.set i { t.ar[i] with ends := false } } := by unfold unendT; rw [hnd]
        have HU := Lib.hid hU
        rw [hE, hD]
        clear hE hD hg0 hU
        go_enter Try.func87, Try.ntmps87
        go_wp2_with fail
        obtain ⟨W, hW, hB, k0⟩ := box1 w #[Value.int IntKind.u64 (hi.toNat : Int), Value.int IntKind.u64 (lo.toNat : Int), Value.bool v6, Value.int IntKind.i64 n] 32
        rw [← hW]
        clear hW
        have c0 := kept k0
        refine (sanePx_c hi lo v6 n _).mono ?_
        rintro e w1 ⟨rfl, hb1⟩
        rw [hs]
        have c01 := kept (blk_gr k0 hb1)
        go_wp2_with fail
        refine (find_c HK.out.kids _ _ _ _ _ (HT.out.at.gr (hB.trans hb1))).mono ?_
        rintro e w2 ⟨rfl, hb2⟩
        rw [HF.out]
        have hG := (hB.trans hb1).trans hb2
        have hT2 := HT.out.gr hG
        have n3 := (hT2.at.node rfl i _ hnd).ends
        rw [he] at n3
        have cT := kept hT2.blk w2 (Gr.refl _)
        have fT := kept_free hT2.blk w2 (Gr.refl _)
        have fA : ∀ o, w2.frozen? ⟨g, o, none⟩ = false := hT2.ar.free
        have hne : g ≠ tb := fun e => hT2.apart.1 (by rw [e]; rfl)
        have hne2 : tb ≠ g := Ne.symm hne
        have hw1 : wrap64 (t.n - 1) = t.n - 1 := IntWalk.wrap64_in _ (by have := HN.out; omega)
        have HT2 := Lib.hid hT2
        clear hT2
        have hTn : TR ((w2.setCell ⟨g, i * 5 + 3, none⟩ (.bool false)).setCell ⟨tb, 2, none⟩ (.int .i64 (t.n - 1))) base tb (unendT t i) (.slice (some ⟨g, 0, none⟩) t.ar.length cap) vf := by
          rw [HU.out]
          exact (HT2.out.put i t.ar[i] { t.ar[i] with ends := false } hnd 3 (by omega) (.bool false) rfl).setN (t.n - 1)
        have HTN := Lib.hid hTn
        have HF3 : Hid (Fr w _ _ _) := Lib.hid (((Fr.of_gr hG (TF tb (.slice (some ⟨g, 0, none⟩) t.ar.length cap) vf)).set (p := ⟨g, i * 5 + 3, none⟩) (.inr (.inl rfl)) (.bool false)).set (p := ⟨tb, 2, none⟩) (.inl rfl) (.int .i64 (t.n - 1)))
        clear hTn
        go_wp2_with fail
        refine (prune_c (HK.out.unend i) rk (HR.out.unend i) i (by rw [(unendT_len t i).1, (unendT_len t i).2]; have := HM.out; simpa using this) (by rw [(unendT_len t i).1]; exact hil) (by have := HRP.out (by simp); simpa using this) _ HTN.out).mono ?_
        rintro e w3 ⟨⟨v, rfl⟩, va3, vf3, hT4, hF4⟩
        have HT4 := Lib.hid hT4
        have HF4 := Lib.hid hF4
        clear hT4 hF4
        go_wp2_with fail
        go_ret
        exact ⟨rfl, _, _, HT4.out, HF3.out.trans HF4.out⟩

end Go.Proofs.Ytdecgbgndffkkaa
