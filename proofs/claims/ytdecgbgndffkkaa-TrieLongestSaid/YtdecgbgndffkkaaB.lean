/- What all walks of this seat share: words of 64 digits as the model computes them, the cells of addresses and prefixes, worlds that only grow. -/
import Derived.Test.YtdecgbgndffkkaaProg
import Derived.Test.YtdecgbgndffkkaaAd
import Derived.WalkKit
import Derived.WalkSpells
import Derived.Handy
import Derived.Below
import Derived.Lib.Hide
import Derived.Outline
import Derived.Deep.DeepCutAuto
import Derived.Deep.RegionHeld3
import Derived.BigQuiet
import Derived.Deep.Light
namespace Go.Proofs.Ytdecgbgndffkkaa
open Go.RowKit

/-- a word's number, as a cell bears it -/
abbrev bI (x : BitVec 64) : Int := (x.toNat : Int)

theorem bI_inj (x y : BitVec 64) : (bI x = bI y) ↔ x = y := by
  constructor
  · intro h; apply BitVec.eq_of_toNat_eq; unfold bI at h; omega
  · rintro rfl; rfl
theorem bI_beq (x y : BitVec 64) : ((x.toNat : Int) == (y.toNat : Int)) = decide (x = y) := by
  rw [Bool.eq_iff_iff]; simp only [beq_iff_eq, decide_eq_true_eq]; exact bI_inj x y

theorem ofInt_toNat (x : BitVec 64) : BitVec.ofInt 64 (x.toNat : Int) = x := by
  rw [BitVec.ofInt_natCast]; simp
theorem u64_and_bv (x y : BitVec 64) : bits .and .u64 (x.toNat : Int) (y.toNat : Int) = ((x &&& y).toNat : Int) := by
  rw [u64_and_nat _ _ x.isLt y.isLt]; simp
theorem u64_or_bv (x y : BitVec 64) : bits .or .u64 (x.toNat : Int) (y.toNat : Int) = ((x ||| y).toNat : Int) := by
  rw [u64_or_nat _ _ x.isLt y.isLt]; simp
theorem u64_xor_bv (x y : BitVec 64) : bits .xor .u64 (x.toNat : Int) (y.toNat : Int) = ((x ^^^ y).toNat : Int) := by
  rw [u64_xor_nat _ _ x.isLt y.isLt]; simp
theorem u64_andNot_bv (x y : BitVec 64) : bits .andNot .u64 (x.toNat : Int) (y.toNat : Int) = ((x &&& ~~~ y).toNat : Int) := by
  rw [u64_andNot_nat _ _ x.isLt y.isLt]
  rw [BitVec.toNat_and, BitVec.toNat_not]
theorem u64_wrap_bv (x : BitVec 64) : IntKind.u64.wrap (x.toNat : Int) = (x.toNat : Int) := by
  have := x.isLt
  rw [IntKind.wrap_u64]; omega
theorem shl_bv (x : BitVec 64) (n : Nat) : IntKind.u64.wrap ((x.toNat : Int) * 2 ^ n) = ((x <<< n).toNat : Int) := by
  rw [IntKind.wrap_u64, BitVec.toNat_shiftLeft, Nat.shiftLeft_eq]
  rw [show ((x.toNat : Int) * 2 ^ n) = ((x.toNat * 2 ^ n : Nat) : Int) by simp]
  omega
theorem high_eq (n : Nat) : IntKind.u64.wrap (18446744073709551615 * 2 ^ (64 - n)) = ((highB n).toNat : Int) := by
  unfold highB
  rw [← shl_bv]; rfl

theorem ite_min (a b : Int) : (if b < a then b else a) = min a b := by split <;> omega
theorem ite_max (a b : Int) : (if a < b then b else a) = max a b := by split <;> omega
attribute [go_sem] ite_min ite_max

/-- The world has grown: nothing that was there has turned. -/
def Gr (W w' : World) : Prop := Below W.heap.size W w'
theorem Gr.refl (W : World) : Gr W W := Below.refl _ _
theorem Gr.trans {a b c : World} (h : Gr a b) (k : Gr b c) : Gr a c := Below.trans h (Below.mono k (Below.size h))
theorem Gr.size {a b : World} (h : Gr a b) : a.heap.size ≤ b.heap.size := Below.size h
theorem Gr.alloc {a b : World} (h : Gr a b) (o : Obj) : Gr a (b.alloc o) := Below.alloc h h.size o
theorem Gr.drew {a b : World} (h : Gr a b) : Gr a b.drew := Below.drew h
theorem Gr.drewN {a b : World} (h : Gr a b) (n : Nat) : Gr a (b.drewN n) := ⟨h.os, h.tape, h.output, h.size, h.block⟩
theorem Gr.set {a b : World} (h : Gr a b) {p : Addr} (hp : a.heap.size ≤ p.block) (u : Value) : Gr a (b.setCell p u) := Below.setCell h hp u
theorem Gr.below {a b : World} (h : Gr a b) : Below a.heap.size a b := h
theorem gr_refl' (W : World) : Gr W W ↔ True := ⟨fun _ => trivial, fun _ => Gr.refl W⟩

theorem gcell {W w1 : World} (hb : Gr W w1) : (∀ b o, b < W.heap.size → w1.cell? ⟨b, o, none⟩ = W.cell? ⟨b, o, none⟩) ∧ (∀ b o, b < W.heap.size → w1.frozen? ⟨b, o, none⟩ = W.frozen? ⟨b, o, none⟩) :=
  ⟨fun b o h => Below.cell hb (p := ⟨b, o, none⟩) h, fun b o h => Below.frozen hb (p := ⟨b, o, none⟩) h⟩

theorem blk_lt {w : World} {b : Nat} {x : Obj} (h : w.heap[b]? = some x) : b < w.heap.size := (Array.getElem?_eq_some_iff.1 h).1
theorem blk_gr {w w1 : World} {b : Nat} {x : Obj} (h : w.heap[b]? = some x) (hb : Gr w w1) : w1.heap[b]? = some x :=
  (Below.block hb b (blk_lt h)).trans h
theorem blk_new (w : World) (o : Obj) : (w.alloc o).heap[w.heap.size]? = some o := heap_alloc_new w o
theorem blk_new_drew (w : World) (o : Obj) : (w.alloc o).drew.heap[w.heap.size]? = some o := heap_alloc_new w o
theorem blk_old {w : World} {b : Nat} {x : Obj} (h : w.heap[b]? = some x) (o : Obj) : (w.alloc o).heap[b]? = some x :=
  (Below.heap_alloc w o b (blk_lt h)).trans h
/-- Block b of W is these cells: so it is in every world that has grown out of W. -/
theorem kept {W : World} {b : Nat} {cs : Array Value} {t : TypeId} {fr : Nat × Nat} (h : W.heap[b]? = some (.cells cs t fr)) :
    ∀ w' : World, Gr W w' → ∀ o, w'.cell? ⟨b, o, none⟩ = cs[o]? := by
  intro w' hb o
  have h2 := blk_gr h hb
  simp [World.cell?, h2]
theorem kept_free {W : World} {b : Nat} {cs : Array Value} {t : TypeId} (h : W.heap[b]? = some (.cells cs t (0, 0))) :
    ∀ w' : World, Gr W w' → ∀ o, w'.frozen? ⟨b, o, none⟩ = false := by
  intro w' hb o
  have h2 := blk_gr h hb
  simp [World.frozen?, h2]
/-- One box, two boxes behind a world. -/
theorem box1 (w : World) (c : Array Value) (t : TypeId) : ∃ W, W = w.alloc (.cells c t) ∧ Gr w W ∧ W.heap[w.heap.size]? = some (.cells c t (0, 0)) :=
  ⟨_, rfl, (Gr.refl _).alloc _, blk_new _ _⟩
theorem box2 (w : World) (c d : Array Value) (t u : TypeId) : ∃ W, W = (w.alloc (.cells c t)).alloc (.cells d u) ∧ Gr w W ∧ W.heap[w.heap.size]? = some (.cells c t (0, 0)) ∧ W.heap[w.heap.size + 1]? = some (.cells d u (0, 0)) :=
  ⟨_, rfl, ((Gr.refl _).alloc _).alloc _, blk_old (blk_new _ _) _, by have := blk_new (w.alloc (.cells c t)) (.cells d u); simpa using this⟩
theorem box3 (w : World) (c d e : Array Value) (t u v : TypeId) : ∃ W, W = ((w.alloc (.cells c t)).alloc (.cells d u)).alloc (.cells e v) ∧ Gr w W ∧ W.heap[w.heap.size]? = some (.cells c t (0, 0)) ∧ W.heap[w.heap.size + 1]? = some (.cells d u (0, 0)) ∧ W.heap[w.heap.size + 1 + 1]? = some (.cells e v (0, 0)) := by
  obtain ⟨W, hW, hb, h0, h1⟩ := box2 w c d t u
  refine ⟨_, rfl, ?_, ?_, ?_, ?_⟩
  · rw [← hW]; exact hb.alloc _
  · rw [← hW]; exact blk_old h0 _
  · rw [← hW]; exact blk_old h1 _
  · have := blk_new ((w.alloc (.cells c t)).alloc (.cells d u)) (.cells e v); simpa using this
attribute [go_sem] gr_refl' Gr.alloc Gr.drew Gr.drewN

theorem setCell_twice (w : World) (a : Addr) (x y : Value) : (w.setCell a x).setCell a y = w.setCell a y := by
  unfold World.setCell
  congr 1
  apply Array.ext_getElem?
  intro k
  simp only [Array.getElem?_modify]
  by_cases hk : a.block = k
  · subst hk
    simp only [if_true]
    cases w.heap[a.block]? with
    | none => rfl
    | some o => cases o <;> simp <;> (try split) <;> simp_all
  · simp [hk]
theorem lt_two (n : Nat) : (n < n + 1 + 1) = True := by simp; omega
theorem lt_three (n : Nat) : (n < n + 1 + 1 + 1) = True := by simp; omega
theorem lt_one_of (a b : Nat) (h : a < b) : (a < b + 1) = True := by simp; omega
theorem lt_two_of (a b : Nat) (h : a < b) : (a < b + 1 + 1) = True := by simp; omega
attribute [go_sem] setCell_twice lt_two lt_three lt_one_of lt_two_of

/-- '==' of addresses, of prefixes, as one Bool that the walk does not open. -/
def eqAd (a b : Ad) : Bool := decide (a = b)
def eqPx (p q : Px) : Bool := decide (p = q)
theorem eqAd_iff (a b : Ad) : eqAd a b = true ↔ a = b := by simp [eqAd]
theorem eqPx_iff (p q : Px) : eqPx p q = true ↔ p = q := by simp [eqPx]

@[simp] theorem Ad.eta (a : Ad) : (⟨a.hi, a.lo, a.v6⟩ : Ad) = a := rfl
@[simp] theorem Px.eta (p : Px) : (⟨p.a, p.n⟩ : Px) = p := rfl

end Go.Proofs.Ytdecgbgndffkkaa
