/- find: the node of a prefix. -/
import Derived.Test.YtdecgbgndffkkaaTw
set_option linter.unusedVariables false
set_option linter.unusedSimpArgs false
namespace Go.Proofs.Ytdecgbgndffkkaa
open Go.RowKit

/-- the node of the first n digits of a, or -1 -/
def nodeOf (ar : List Nd) (a : Ad) (n : Nat) : Int := ((pathF ar a n 0 (rootI a.v6))[n]?).getD (-1)
def findI (ar : List Nd) (p : Px) : Int := if sanePx p then nodeOf ar p.a p.n.toNat else -1

theorem sanePx_bd {p : Px} (h : sanePx p = true) : 0 ≤ p.n ∧ p.n ≤ widthI p.a.v6 := sanePx_n h

theorem set_blk {w : World} {b : Nat} {x : Value} {t : TypeId} {fr : Nat × Nat} (h : w.heap[b]? = some (.cells #[x] t fr)) (u : Value) : (w.setCell ⟨b, 0, none⟩ u).heap[b]? = some (.cells #[u] t fr) := by
  unfold World.setCell
  simp [Array.getElem?_modify, h]
theorem set_blk_ne {w : World} {b c : Nat} (h : c ≠ b) (o : Nat) (u : Value) : (w.setCell ⟨b, o, none⟩ u).heap[c]? = w.heap[c]? := by
  unfold World.setCell
  simp [Array.getElem?_modify, Ne.symm h]

theorem nodeOf_app (pre : List Int) (x : Int) (N : Nat) (h : pre.length ≤ N) : ((pre ++ [x])[N]?).getD (-1) = if (pre.length : Int) = N then x else (pre[N]?).getD (-1) := by
  split
  · have : N = pre.length := by omega
    subst this
    simp
  · rw [List.getElem?_eq_none (by simp; omega), List.getElem?_eq_none (by omega)]

set_option maxHeartbeats 2000000 in
theorem find_c {base tb : Nat} {t : TS} {va vf : Value} (hk : kidsOk t) (hi lo : BitVec 64) (v6 : Bool) (n : Int) (w : World) (hT : TrieAt w base tb t va vf) :
    Calls Try.prog 142 #[.pointer (some ⟨tb, 0, none⟩), .agg #[.int .u64 (hi.toNat : Int), .int .u64 (lo.toNat : Int), .bool v6, .int .i64 n]] w fun e w' =>
      e = .returned (.int .i64 (findI t.ar ⟨⟨hi, lo, v6⟩, n⟩)) ∧ Gr w w' := by
  have hlen := hk.1
  have HT := Lib.hid hT
  have HK := Lib.hid hk
  clear hT hk
  by_cases hs : sanePx ⟨⟨hi, lo, v6⟩, n⟩ = true
  · have hbd := sanePx_bd hs
    have hwb := widthI_bd v6
    simp only at hbd
    obtain ⟨N, rfl⟩ := Int.eq_ofNat_of_zero_le hbd.1
    have HN := Lib.hid (show N ≤ 128 by omega)
    clear hbd hwb
    go_enter Try.func142, Try.ntmps142
    go_wp2_with fail
    obtain ⟨W, hW, hB, k0, k1⟩ := box2 w #[Value.int IntKind.u64 (hi.toNat : Int), Value.int IntKind.u64 (lo.toNat : Int), Value.bool v6, Value.int IntKind.i64 (N : Int)] #[Value.int IntKind.i64 (-1)] 32 3
    rw [← hW]
    clear hW
    have c0 := kept k0
    refine (made_c _ (HT.out.gr hB) (by omega)).mono ?_
    rintro e w' ⟨rfl, rfl⟩
    go_wp2_with fail
    refine (sanePx_c hi lo v6 (N : Int) _).mono ?_
    rintro e w1 ⟨rfl, hb1⟩
    rw [hs]
    have hB1 := hB.trans hb1
    have k01 := blk_gr k0 hb1
    have k11 := blk_gr k1 hb1
    have c01 := kept k01
    go_wp2_with fail
    refine (walkf_c HK.out hi lo v6 N HN.out w.heap.size (w.heap.size + 1) w1
      (fun pre W' => Gr w W' ∧ W'.heap[w.heap.size]? = some (.cells #[Value.int IntKind.u64 (hi.toNat : Int), Value.int IntKind.u64 (lo.toNat : Int), Value.bool v6, Value.int IntKind.i64 (N : Int)] 32 (0, 0)) ∧ W'.heap[w.heap.size + 1]? = some (.cells #[.int .i64 ((pre[N]?).getD (-1))] 3 (0, 0)))
      (fun pre W' h => HT.out.gr h.1) (fun pre W' W'' h g => ⟨h.1.trans g, blk_gr h.2.1 g, blk_gr h.2.2 g⟩) ?_ ⟨hB1, k01, k11⟩ _ rfl).mono ?_
    · rintro pre x W' _ _ ⟨g1, g2, g3⟩ hsz hpl
      refine (findc_c x pre.length _ _ hi lo v6 N _ W' g2 g3).mono ?_
      rintro e W'' ⟨rfl, rfl⟩
      refine ⟨rfl, ?_⟩
      rw [nodeOf_app pre x N hpl]
      by_cases h : (pre.length : Int) = N
      · rw [if_pos h, if_pos h]
        refine ⟨⟨g1.set (by simp) _, ?_, set_blk g3 _⟩, ?_, by simp⟩
        · rw [set_blk_ne (by simp)]; exact g2
        · rw [set_blk_ne]
          have := blk_lt k11
          omega
      · rw [if_neg h, if_neg h]
        exact ⟨⟨g1, g2, g3⟩, rfl, Nat.le_refl _⟩
    · rintro e w2 ⟨⟨v, rfl⟩, g1, g2, g3⟩
      have c2 := kept g3
      go_wp2_with fail
      go_ret
      refine ⟨?_, g1⟩
      simp [findI, hs, nodeOf]
  · have hs' : sanePx ⟨⟨hi, lo, v6⟩, n⟩ = false := by simpa using hs
    go_enter Try.func142, Try.ntmps142
    go_wp2_with fail
    obtain ⟨W, hW, hB, k0, k1⟩ := box2 w #[Value.int IntKind.u64 (hi.toNat : Int), Value.int IntKind.u64 (lo.toNat : Int), Value.bool v6, Value.int IntKind.i64 n] #[Value.int IntKind.i64 (-1)] 32 3
    rw [← hW]
    clear hW
    have c0 := kept k0
    refine (made_c _ (HT.out.gr hB) (by omega)).mono ?_
    rintro e w' ⟨rfl, rfl⟩
    go_wp2_with fail
    refine (sanePx_c hi lo v6 n _).mono ?_
    rintro e w1 ⟨rfl, hb1⟩
    rw [hs']
    have hB1 := hB.trans hb1
    have k11 := blk_gr k1 hb1
    have c01 := kept k11
    go_wp2_with fail
    go_ret
    exact ⟨by simp [findI, hs'], hB1⟩

end Go.Proofs.Ytdecgbgndffkkaa
