/- The tree in memory: an arena of nodes, the free ones, a count. -/
import Derived.Test.YtdecgbgndffkkaaWp1
import Derived.Deep.AppendLies
import Derived.Maps.AppendAt
import Derived.Laws.OwnMore
set_option linter.unusedVariables false
set_option linter.unusedSimpArgs false
namespace Go.Proofs.Ytdecgbgndffkkaa
open Go.RowKit

structure Nd where
  k0 : Int
  k1 : Int
  up : Int
  ends : Bool
  v : Int
  deriving DecidableEq

def Nd.cells (x : Nd) : List Value := [.int .i64 x.k0, .int .i64 x.k1, .int .i64 x.up, .bool x.ends, .int .i64 x.v]
def flat (l : List Nd) : List Value := l.flatMap Nd.cells
theorem flat_nil : flat [] = [] := rfl
theorem flat_cons (x : Nd) (l : List Nd) : flat (x :: l) = x.cells ++ flat l := rfl
theorem flat_append (l m : List Nd) : flat (l ++ m) = flat l ++ flat m := by simp [flat]
theorem flat_length (l : List Nd) : (flat l).length = l.length * 5 := by
  induction l with
  | nil => rfl
  | cons x l ih => rw [flat_cons, List.length_append, ih]; simp [Nd.cells]; omega
theorem flat_get (l : List Nd) (i : Nat) (x : Nd) (h : l[i]? = some x) (j : Nat) (hj : j < 5) : (flat l)[i * 5 + j]? = x.cells[j]? := by
  induction l generalizing i with
  | nil => simp at h
  | cons y l ih =>
    rw [flat_cons]
    cases i with
    | zero =>
      have hy : y = x := by simpa using h
      subst hy
      rw [List.getElem?_append_left (by simp [Nd.cells]; omega)]
      simp
    | succ i =>
      have hl : y.cells.length = 5 := by simp [Nd.cells]
      rw [List.getElem?_append_right (by rw [hl]; omega), hl]
      have e : (i + 1) * 5 + j - 5 = i * 5 + j := by omega
      rw [e]
      exact ih i (by simpa using h)

structure TS where
  ar : List Nd
  fr : List Int
  n : Int

structure TrieAt (w : World) (base tb : Nat) (t : TS) (va vf : Value) : Prop where
  low : base ≤ tb
  blk : w.heap[tb]? = some (.cells #[va, vf, .int .i64 t.n] 157 (0, 0))
  ar : w.ownsRow base 153 5 va t.ar.length (flat t.ar)
  fr : w.ownsRow base 3 1 vf t.fr.length (t.fr.map (Value.int .i64))

theorem grownBy_of_gr {w w' : World} (h : Gr w w') (row : Option Nat) : w.grownBy w' row := ⟨h.os, h.tape, h.output, h.size, fun i hi _ => Below.block h i hi⟩
theorem own_gr {w w' : World} {base : Nat} {e : TypeId} {size : Nat} {v : Value} {n : Nat} {xs : List Value} (h : w.ownsRow base e size v n xs) (g : Gr w w') : w'.ownsRow base e size v n xs :=
  h.kept (grownBy_of_gr g none) (by cases v.ownBlock <;> simp)
theorem TrieAt.gr {w w' : World} {base tb : Nat} {t : TS} {va vf : Value} (h : TrieAt w base tb t va vf) (g : Gr w w') : TrieAt w' base tb t va vf :=
  ⟨h.low, blk_gr h.blk g, own_gr h.ar g, own_gr h.fr g⟩

def freshN (up : Int) : Nd := ⟨-1, -1, up, false, 0⟩

set_option maxHeartbeats 1000000 in
theorem fresh_c (up : Int) (w : World) : Calls Try.prog 89 #[.int .i64 up] w fun e w' =>
    e = .returned (.agg #[.int .i64 (-1), .int .i64 (-1), .int .i64 up, .bool false, .int .i64 0]) ∧ Gr w w' := by
  go_enter Try.func89, Try.ntmps89
  go_wp2
  refine bodyPost_ret (v := .agg #[.int .i64 (-1), .int .i64 (-1), .int .i64 up, .bool false, .int .i64 0]) (by simp [results, Try.results89, go_sem]) rfl ⟨rfl, ?_⟩
  exact (Gr.refl _).alloc _

def rootI (v6 : Bool) : Int := if v6 then 1 else 0
theorem root_c (v6 : Bool) (w : World) : Calls Try.prog 139 #[.bool v6] w fun e w' => e = .returned (.int .i64 (rootI v6)) ∧ w = w' := by
  cases v6
  · go_enter Try.func139, Try.ntmps139
    go_wp2
    go_ret
    exact ⟨rfl, rfl⟩
  · go_enter Try.func139, Try.ntmps139
    go_wp2
    go_ret
    exact ⟨rfl, rfl⟩

def newTS : TS := ⟨[freshN (-1), freshN (-1)], [], 0⟩

set_option maxHeartbeats 1000000 in
theorem new_c (w : World) : Calls Try.prog 21 #[] w fun e w' =>
    ∃ tb va vf, e = .returned (.pointer (some ⟨tb, 0, none⟩)) ∧ Gr w w' ∧ TrieAt w' w.heap.size tb newTS va vf := by
  go_enter Try.func21, Try.ntmps21
  go_wp2_with fail
  refine (fresh_c _ _).mono ?_
  rintro e w1 ⟨rfl, hb1⟩
  go_wp2_with fail
  refine (fresh_c _ _).mono ?_
  rintro e w2 ⟨rfl, hb2⟩
  go_wp2_with fail
  go_ret
  have hg := hb1.trans hb2
  refine ⟨_, .slice (some ⟨w2.heap.size, 0, none⟩) 2 2, .slice none 0 0, rfl, (hg.alloc _).alloc _, ?_⟩
  have hs := hg.size
  refine ⟨by omega, ?_, ?_, ?_⟩
  · have := blk_new (w2.alloc (Obj.cells #[Value.int IntKind.i64 (-1), Value.int IntKind.i64 (-1), Value.int IntKind.i64 (-1), Value.bool false, Value.int IntKind.i64 0, Value.int IntKind.i64 (-1), Value.int IntKind.i64 (-1), Value.int IntKind.i64 (-1), Value.bool false, Value.int IntKind.i64 0] 153)) (Obj.cells #[Value.slice (some { block := w2.heap.size, off := 0 }) 2 2, Value.slice none 0 0, Value.int IntKind.i64 0] 157)
    rw [World.size_alloc] at this
    exact this
  · refine World.ownsRow.alloc ?_ _
    exact World.ownsRow_lit (base := w.heap.size) (e := 153) (size := 5) w2 #[Value.int IntKind.i64 (-1), Value.int IntKind.i64 (-1), Value.int IntKind.i64 (-1), Value.bool false, Value.int IntKind.i64 0, Value.int IntKind.i64 (-1), Value.int IntKind.i64 (-1), Value.int IntKind.i64 (-1), Value.bool false, Value.int IntKind.i64 0] 2 hs (by decide) rfl
  · exact World.ownsRow_nil _ _ _ _

set_option maxHeartbeats 1000000 in
theorem made_c {base tb : Nat} {t : TS} {va vf : Value} (w : World) (h : TrieAt w base tb t va vf) (hp : 0 < t.ar.length) : Calls Try.prog 90 #[.pointer (some ⟨tb, 0, none⟩)] w fun e w' => e = .returned (.bool true) ∧ w = w' := by
  obtain ⟨g, cap, rfl, hg, hgl⟩ := h.ar.form hp
  have c0 := kept h.blk
  have HH := Lib.hid h
  clear h
  go_enter Try.func90, Try.ntmps90
  go_wp2
  go_ret
  exact ⟨rfl, rfl⟩

/-! ### One node's cells -/
theorem own_node {w : World} {base g cap n : Nat} {ar : List Nd} (h : w.ownsRow base 153 5 (.slice (some ⟨g, 0, none⟩) n cap) n (flat ar)) (i : Nat) (x : Nd) (hx : ar[i]? = some x) (j : Nat) (hj : j < 5) :
    w.cell? ⟨g, i * 5 + j, none⟩ = x.cells[j]? := by
  have hi : i < ar.length := (List.getElem?_eq_some_iff.1 hx).1
  have hl : (flat ar).length = n * 5 := h.1
  rw [flat_length] at hl
  rw [h.cellAt (i * 5 + j) (by omega), flat_get ar i x hx j hj]

/-- what a walk that only reads wants of node i -/
structure NodeIs (w : World) (g i : Nat) (x : Nd) : Prop where
  k0 : w.cell? ⟨g, i * 5, none⟩ = some (.int .i64 x.k0)
  k1 : w.cell? ⟨g, i * 5 + 1, none⟩ = some (.int .i64 x.k1)
  up : w.cell? ⟨g, i * 5 + 2, none⟩ = some (.int .i64 x.up)
  ends : w.cell? ⟨g, i * 5 + 3, none⟩ = some (.bool x.ends)
  v : w.cell? ⟨g, i * 5 + 4, none⟩ = some (.int .i64 x.v)
theorem TrieAt.node {w : World} {base tb g cap n : Nat} {t : TS} {vf : Value} (h : TrieAt w base tb t (.slice (some ⟨g, 0, none⟩) n cap) vf) (hn : n = t.ar.length) (i : Nat) (x : Nd) (hx : t.ar[i]? = some x) : NodeIs w g i x := by
  subst hn
  exact ⟨own_node h.ar i x hx 0 (by omega), own_node h.ar i x hx 1 (by omega), own_node h.ar i x hx 2 (by omega), own_node h.ar i x hx 3 (by omega), own_node h.ar i x hx 4 (by omega)⟩

/-- the arena's slice -/
theorem TrieAt.slice_ {w : World} {base tb : Nat} {t : TS} {va vf : Value} (h : TrieAt w base tb t va vf) (hp : 0 < t.ar.length) :
    ∃ g cap, va = .slice (some ⟨g, 0, none⟩) t.ar.length cap ∧ base ≤ g ∧ g < w.heap.size := h.ar.form hp

end Go.Proofs.Ytdecgbgndffkkaa
