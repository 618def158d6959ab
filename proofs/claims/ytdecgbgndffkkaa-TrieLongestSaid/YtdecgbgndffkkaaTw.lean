/- The walk down the tree, with each of its two closures. -/
import Derived.Test.YtdecgbgndffkkaaTr
set_option linter.unusedVariables false
set_option linter.unusedSimpArgs false
namespace Go.Proofs.Ytdecgbgndffkkaa
open Go.RowKit

def kidI (ar : List Nd) (at_ : Int) (b : Int) : Int := match ar[at_.toNat]? with
  | some x => if b = 0 then x.k0 else x.k1
  | none => -1
/-- the nodes that a walk comes to: d digits more, k gone, at a node -/
def pathF (ar : List Nd) (a : Ad) : Nat → Nat → Int → List Int
  | 0, _, at_ => if at_ = -1 then [] else [at_]
  | d + 1, k, at_ => if at_ = -1 then [] else at_ :: pathF ar a d (k + 1) (kidI ar at_ (bitI a k))

/-- kids lie in the arena -/
def kidsOk (t : TS) : Prop := 2 ≤ t.ar.length ∧ ∀ x ∈ t.ar, (x.k0 = -1 ∨ (0 ≤ x.k0 ∧ x.k0 < t.ar.length)) ∧ (x.k1 = -1 ∨ (0 ≤ x.k1 ∧ x.k1 < t.ar.length))
theorem kidsOk.kid {t : TS} (h : kidsOk t) (at_ b : Int) : kidI t.ar at_ b = -1 ∨ (0 ≤ kidI t.ar at_ b ∧ kidI t.ar at_ b < t.ar.length) := by
  unfold kidI
  cases hx : t.ar[at_.toNat]? with
  | none => exact .inl rfl
  | some x =>
    have := h.2 x (List.mem_of_getElem? hx)
    simp only
    split
    · exact this.1
    · exact this.2

set_option maxHeartbeats 1000000 in
theorem findc_c (at_ k : Int) (pb ob : Nat) (hi lo : BitVec 64) (v6 : Bool) (n : Int) (u : Int) (W : World) (hp : W.heap[pb]? = some (.cells #[Value.int IntKind.u64 (hi.toNat : Int), Value.int IntKind.u64 (lo.toNat : Int), Value.bool v6, Value.int IntKind.i64 n] 32 (0, 0))) (ho : W.heap[ob]? = some (.cells #[.int .i64 u] 3 (0, 0))) :
    Calls Try.prog 173 #[.int .i64 at_, .int .i64 k, .pointer (some ⟨pb, 0, none⟩), .pointer (some ⟨ob, 0, none⟩)] W fun e W' =>
      e = .returned (.bool true) ∧ W' = if k = n then W.setCell ⟨ob, 0, none⟩ (.int .i64 at_) else W := by
  have c0 := kept hp
  have c1 := kept ho
  have f1 := kept_free ho
  by_cases h : k = n
  · rw [if_pos h]
    have hb : (k == n) = true := by simp [h]
    clear h
    go_enter Try.func173, Try.ntmps173
    go_wp2
    go_ret
    exact ⟨rfl, rfl⟩
  · rw [if_neg h]
    have hb : (k == n) = false := by simp [h]
    clear h
    go_enter Try.func173, Try.ntmps173
    go_wp2
    go_ret
    exact ⟨rfl, rfl⟩

set_option maxHeartbeats 2000000 in
theorem walkf_c {base tb : Nat} {t : TS} {va vf : Value} (hk : kidsOk t) (hi lo : BitVec 64) (v6 : Bool) (N : Nat) (hN : N ≤ 128) (pb ob : Nat) (w : World)
    (J : List Int → World → Prop) (hT : ∀ pre W, J pre W → TrieAt W base tb t va vf) (hG : ∀ pre W W', J pre W → Gr W W' → J pre W')
    (hE : ∀ (pre : List Int) (x : Int) (W : World), 0 ≤ x → x < t.ar.length → J pre W → W.heap[w.heap.size]? = some (.cells #[Value.int IntKind.u64 (hi.toNat : Int), Value.int IntKind.u64 (lo.toNat : Int), Value.bool v6, Value.int IntKind.i64 (N : Int)] 32 (0, 0)) → pre.length ≤ N →
      Calls Try.prog 173 #[.int .i64 x, .int .i64 (pre.length : Int), .pointer (some ⟨pb, 0, none⟩), .pointer (some ⟨ob, 0, none⟩)] W fun e W' =>
        e = .returned (.bool true) ∧ J (pre ++ [x]) W' ∧ W'.heap[w.heap.size]? = W.heap[w.heap.size]? ∧ W.heap.size ≤ W'.heap.size) (h0 : J [] w) (PATH : List Int) (hPATH : PATH = pathF t.ar ⟨hi, lo, v6⟩ N 0 (rootI v6)) :
    Calls Try.prog 91 #[.pointer (some ⟨tb, 0, none⟩), .agg #[.int .u64 (hi.toNat : Int), .int .u64 (lo.toNat : Int), .bool v6, .int .i64 (N : Int)], .func (.func 173) #[] #[.pointer (some ⟨pb, 0, none⟩), .pointer (some ⟨ob, 0, none⟩)]] w fun e w' =>
      (∃ v, e = .returned v) ∧ J PATH w' := by
  have hlen := hk.1
  obtain ⟨g, cap, rfl, hg, hgl⟩ := (hT _ _ h0).slice_ (by omega)
  have HT := Lib.hid hT
  have HG := Lib.hid hG
  have HE := Lib.hid hE
  have HK := Lib.hid hk
  have HP := Lib.hid hPATH
  clear hT hG hE hk hPATH
  go_enter Try.func91, Try.ntmps91
  go_wp2_with fail
  obtain ⟨W, hW, hB, k0⟩ := box1 w #[Value.int IntKind.u64 (hi.toNat : Int), Value.int IntKind.u64 (lo.toNat : Int), Value.bool v6, Value.int IntKind.i64 (N : Int)] 32
  rw [← hW]
  clear hW
  have j0 := HG.out _ _ _ h0 hB
  have c0 := kept k0
  refine (root_c _ _).mono ?_
  rintro e w' ⟨rfl, rfl⟩
  go_wp2_with fail
  have hroot : rootI v6 = 0 ∨ rootI v6 = 1 := by cases v6 <;> simp [rootI]
  have HR := Lib.hid hroot
  clear hroot
  go_loopw [6, 7] (fun s6 s7 wr => ∃ (pre : List Int) (x : Int), s6 = .int .i64 x ∧ s7 = .int .i64 (pre.length : Int) ∧ pre.length ≤ N ∧ (x = -1 ∨ (0 ≤ x ∧ x < t.ar.length)) ∧
      pre ++ pathF t.ar ⟨hi, lo, v6⟩ (N - pre.length) pre.length x = PATH ∧ J pre wr ∧ wr.heap[w.heap.size]? = some (.cells #[Value.int IntKind.u64 (hi.toNat : Int), Value.int IntKind.u64 (lo.toNat : Int), Value.bool v6, Value.int IntKind.i64 (N : Int)] 32 (0, 0)))
    (fun s6 s7 wr => N + 1 - (intOf s7).toNat)
  case atStart =>
    refine ⟨[], _, rfl, rfl, Nat.zero_le _, ?_, ?_, j0, k0⟩
    · have := HR.out
      omega
    · rw [HP.out]; rfl
  case round =>
    obtain ⟨pre, x, rfl, rfl, hpl, hx, hpath, hJ, hbox⟩ := hrel
    have HPA := Lib.hid hpath
    clear hpath j0
    have hsz := blk_lt hbox
    by_cases hx1 : x = -1
    · have hb : (x != -1) = false := by simp [hx1]
      have hend : PATH = pre := by
        rw [← HPA.out, hx1]
        cases N - pre.length <;> simp [pathF]
      have HE1 := Lib.hid hend
      clear hend hx1 hx
      go_wp2_with fail
      go_end0
      exact ⟨⟨_, rfl⟩, by rw [HE1.out]; exact hJ⟩
    · have hx0 : 0 ≤ x ∧ x < t.ar.length := by omega
      have hb : (x != -1) = true := by simp [hx1]
      obtain ⟨hxa, hxb⟩ := hx0
      clear hx hx1
      obtain ⟨i, rfl⟩ := Int.eq_ofNat_of_zero_le hxa
      have hil : i < t.ar.length := by omega
      have hnd : t.ar[i]? = some t.ar[i] := List.getElem?_eq_getElem hil
      by_cases hlt : pre.length < N
      · have hd : decide ((pre.length : Int) < (N : Int)) = true := by simp; omega
        have hkid := HK.out.kid (i : Int) (bitI ⟨hi, lo, v6⟩ (pre.length : Int))
        have hpath2 : (pre ++ [(i : Int)]) ++ pathF t.ar ⟨hi, lo, v6⟩ (N - (pre ++ [(i : Int)]).length) (pre ++ [(i : Int)]).length (kidI t.ar i (bitI ⟨hi, lo, v6⟩ (pre.length : Int))) = PATH := by
          rw [← HPA.out]
          have e : N - pre.length = (N - (pre.length + 1)) + 1 := by omega
          simp only [List.length_append, List.length_singleton, List.append_assoc]
          rw [e]
          simp [pathF, show ¬ ((i : Int) = -1) by omega]
        have hkd : kidI t.ar i (bitI ⟨hi, lo, v6⟩ (pre.length : Int)) = if bitI ⟨hi, lo, v6⟩ (pre.length : Int) = 0 then t.ar[i].k0 else t.ar[i].k1 := by
          unfold kidI
          simp [hnd]
        have HK1 := Lib.hid hkid
        have HP2 := Lib.hid hpath2
        clear hkid hpath2
        go_wp2_with (go_at_call 173; refine (HE.out pre i wr hxa hxb hJ hbox hpl).mono ?_; rintro e w1 ⟨rfl, hJ1, hbk, hsz1⟩; have hbox1 := hbk.trans hbox; have cb := kept hbox1)
        have hT1 := HT.out _ _ hJ1
        have cT := kept hT1.blk
        have nI := hT1.node rfl i _ hnd
        have n0 := cell_all nI.k0
        have n1 := cell_all nI.k1
        have b01 := bitI_01 ⟨hi, lo, v6⟩ (pre.length : Int)
        have hbit : bitI ⟨hi, lo, v6⟩ (pre.length : Int) = 0 ∨ bitI ⟨hi, lo, v6⟩ (pre.length : Int) = 1 := by omega
        rcases hbit with hbit | hbit
        · rw [hbit] at hkd
          rw [hbit, hkd] at HK1 HP2
          refine wp_region_gr (by kernel_rfl) (by kernel_rfl) ?_
          repeat (first | (refine qs_skip (by with_unfolding_all rfl) ?_; simp only [Act.put, List.setIfInBounds_toArray, List.set_cons_zero, List.set_cons_succ]) | (refine qs_val (by rfl) ?_; apply Exists.intro; refine ⟨fun wq hq => ?_, ?_⟩; (· (go_simp; with_reducible rfl)); simp only [Act.put, List.setIfInBounds_toArray, List.set_cons_zero, List.set_cons_succ]) | (refine qs_call (by rfl) ?_; apply Exists.intro; refine ⟨fun wq hq => ?_, ?_⟩; (· (go_simp; first | (refine gr_call hq ((bit_c hi lo v6 (pre.length : Int) wq).mono fun e w' ⟨h1, h2⟩ => ⟨by rw [h1, hbit], h2⟩)))); simp only [Act.put, List.setIfInBounds_toArray, List.set_cons_zero, List.set_cons_succ]))
          refine wpQuiet_nil ?_
          intro w1 hk1
          go_wp2_with fail
          go_roundw
          case rel => exact ⟨pre ++ [(i : Int)], t.ar[i].k0, rfl, by simp, by simp; omega, HK1.out, HP2.out, HG.out _ _ _ hJ1 hk1, blk_gr hbox1 hk1⟩
          case measure => simp [intOf]; omega
        · rw [hbit] at hkd
          rw [hbit, hkd] at HK1 HP2
          refine wp_region_gr (by kernel_rfl) (by kernel_rfl) ?_
          repeat (first | (refine qs_skip (by with_unfolding_all rfl) ?_; simp only [Act.put, List.setIfInBounds_toArray, List.set_cons_zero, List.set_cons_succ]) | (refine qs_val (by rfl) ?_; apply Exists.intro; refine ⟨fun wq hq => ?_, ?_⟩; (· (go_simp; with_reducible rfl)); simp only [Act.put, List.setIfInBounds_toArray, List.set_cons_zero, List.set_cons_succ]) | (refine qs_call (by rfl) ?_; apply Exists.intro; refine ⟨fun wq hq => ?_, ?_⟩; (· (go_simp; first | (refine gr_call hq ((bit_c hi lo v6 (pre.length : Int) wq).mono fun e w' ⟨h1, h2⟩ => ⟨by rw [h1, hbit], h2⟩)))); simp only [Act.put, List.setIfInBounds_toArray, List.set_cons_zero, List.set_cons_succ]))
          refine wpQuiet_nil ?_
          intro w1 hk1
          go_wp2_with fail
          go_roundw
          case rel => exact ⟨pre ++ [(i : Int)], t.ar[i].k1, rfl, by simp, by simp; omega, HK1.out, HP2.out, HG.out _ _ _ hJ1 hk1, blk_gr hbox1 hk1⟩
          case measure => simp [intOf]; omega
      · have hle : N ≤ pre.length := by omega
        have hd : decide ((pre.length : Int) < (N : Int)) = false := by simp; omega
        have hend : PATH = pre ++ [(i : Int)] := by
          rw [← HPA.out, show N - pre.length = 0 by omega]
          simp [pathF, show ¬ ((i : Int) = -1) by omega]
        have HE1 := Lib.hid hend
        clear hend
        go_wp2_with (go_at_call 173; refine (HE.out pre i wr hxa hxb hJ hbox hpl).mono ?_; rintro e w1 ⟨rfl, hJ1, hbk, hsz1⟩; have cb := kept (hbk.trans hbox))
        go_end0
        exact ⟨⟨_, rfl⟩, by rw [HE1.out]; exact hJ1⟩

end Go.Proofs.Ytdecgbgndffkkaa
