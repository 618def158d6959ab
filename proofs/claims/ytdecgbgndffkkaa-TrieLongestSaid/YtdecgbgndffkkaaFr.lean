/- What a writer may turn: a footprint; a cell of a row of the call's own. -/
import Derived.Test.YtdecgbgndffkkaaTl
set_option linter.unusedVariables false
set_option linter.unusedSimpArgs false
namespace Go.Proofs.Ytdecgbgndffkkaa
open Go.RowKit

/-- w' has come out of w by writes to blocks of F alone, and new ones; F' is what is written now: of F, or new -/
structure Fr (w w' : World) (F F' : Nat → Prop) : Prop where
  os : w'.os = w.os
  tape : w'.tape = w.tape
  output : w'.output = w.output
  size : w.heap.size ≤ w'.heap.size
  block : ∀ k, k < w.heap.size → ¬ F k → w'.heap[k]? = w.heap[k]?
  new : ∀ k, F' k → F k ∨ w.heap.size ≤ k

theorem Fr.refl (w : World) (F : Nat → Prop) : Fr w w F F := ⟨rfl, rfl, rfl, Nat.le_refl _, fun _ _ _ => rfl, fun _ h => .inl h⟩
theorem Fr.of_gr {w w' : World} (h : Gr w w') (F : Nat → Prop) : Fr w w' F F := ⟨h.os, h.tape, h.output, h.size, fun k hk _ => Below.block h k hk, fun _ h => .inl h⟩
theorem Fr.trans {a b c : World} {F G H : Nat → Prop} (h : Fr a b F G) (k : Fr b c G H) : Fr a c F H := by
  refine ⟨k.os.trans h.os, k.tape.trans h.tape, k.output.trans h.output, Nat.le_trans h.size k.size, fun i hi hn => ?_, fun i hi => ?_⟩
  · rw [k.block i (Nat.lt_of_lt_of_le hi h.size), h.block i hi hn]
    intro hg
    rcases h.new i hg with h1 | h1
    · exact hn h1
    · omega
  · rcases k.new i hi with h1 | h1
    · exact h.new i h1
    · exact .inr (Nat.le_trans h.size h1)
theorem Fr.gr {a b c : World} {F G : Nat → Prop} (h : Fr a b F G) (g : Gr b c) : Fr a c F G := h.trans (Fr.of_gr g G)
theorem Fr.mono {a b : World} {F G F2 : Nat → Prop} (h : Fr a b F G) (hF : ∀ k, F k → F2 k) : Fr a b F2 G :=
  ⟨h.os, h.tape, h.output, h.size, fun k hk hn => h.block k hk (fun hf => hn (hF k hf)), fun k hk => (h.new k hk).imp (hF k) id⟩
theorem Fr.less {a b : World} {F G G2 : Nat → Prop} (h : Fr a b F G) (hG : ∀ k, G2 k → G k) : Fr a b F G2 :=
  ⟨h.os, h.tape, h.output, h.size, h.block, fun k hk => h.new k (hG k hk)⟩
/-- what is written stays off what is not written -/
theorem Fr.off {a b : World} {F G : Nat → Prop} (h : Fr a b F G) {k : Nat} (hk : k < a.heap.size) (hn : ¬ F k) : ¬ G k := by
  intro hg
  rcases h.new k hg with h1 | h1
  · exact hn h1
  · omega
theorem Fr.blk {a b : World} {F G : Nat → Prop} (h : Fr a b F G) {k : Nat} {x : Obj} (hk : a.heap[k]? = some x) (hn : ¬ F k) : b.heap[k]? = some x := by
  rw [h.block k (blk_lt hk) hn]; exact hk
theorem Fr.below {a b : World} {F G : Nat → Prop} (h : Fr a b F G) {B : Nat} (hB : B ≤ a.heap.size) (hF : ∀ k, F k → B ≤ k) : Below B a b :=
  ⟨h.os, h.tape, h.output, h.size, fun k hk => h.block k (by omega) (fun hf => by have := hF k hf; omega)⟩
theorem Fr.gr_of {a b : World} {F G : Nat → Prop} (h : Fr a b F G) {W : World} (g : Gr W a) (hF : ∀ k, F k → W.heap.size ≤ k) : Gr W b :=
  Below.trans g (h.below g.size hF)
theorem Fr.own {a b : World} {F G : Nat → Prop} (h : Fr a b F G) {α : Type} {base : Nat} {e : TypeId} {k : Nat} {f : α → List Value} {v : Value} {l : List α} (ho : Own a base e k f v l) (hn : ∀ x, v.ownBlock = some x → ¬ F x) : Own b base e k f v l := by
  refine ⟨ho.1, ?_⟩
  rcases ho.2 with hh | ⟨g, cap, cur, rfl, h1, h2, h3⟩
  · exact .inl hh
  · exact .inr ⟨g, cap, cur, rfl, h1, h.blk h2 (hn g rfl), h3⟩
theorem Fr.set {a b : World} {F G : Nat → Prop} (h : Fr a b F G) {p : Addr} (hp : G p.block) (u : Value) : Fr a (b.setCell p u) F G := by
  refine ⟨h.os, h.tape, h.output, by simpa using h.size, fun k hk hn => ?_, h.new⟩
  rw [← h.block k hk hn]
  have : ¬ (p.block = k) := by
    rintro rfl
    exact h.off hk hn hp
  unfold World.setCell
  simp [Array.getElem?_modify, this]
theorem Fr.of_grew {w w' : World} {v : Value} (h : Grew w w' v) {F G : Nat → Prop} (hF : ∀ k, v.ownBlock = some k → F k) (hG : ∀ k, G k → F k ∨ w.heap.size ≤ k) : Fr w w' F G :=
  ⟨h.by_.os, h.by_.tape, h.by_.output, h.by_.size, fun k hk hn => h.by_.block k hk (fun e => hn (hF k e.symm)), hG⟩

section
variable {α : Type} {w : World} {base : Nat} {e : TypeId} {k : Nat} {f : α → List Value} {l : List α} {g cap n : Nat}
theorem Enc.flat_set {f : α → List Value} {k : Nat} (h : Enc f k) (l : List α) (i : Nat) (x x' : α) (hx : l[i]? = some x) (j : Nat) (hj : j < k) (u : Value) (hu : f x' = (f x).set j u) : (l.set i x').flatMap f = (l.flatMap f).set (i * k + j) u := by
  induction l generalizing i with
  | nil => simp at hx
  | cons y l ih =>
    cases i with
    | zero =>
      have hy : y = x := by simpa using hx
      subst hy
      simp only [List.set_cons_zero, List.flatMap_cons, hu, Nat.zero_mul, Nat.zero_add]
      rw [List.set_append_left _ _ (by rw [h.len]; exact hj)]
    | succ i =>
      have e0 : (i + 1) * k = i * k + k := Nat.succ_mul i k
      simp only [List.set_cons_succ, List.flatMap_cons]
      rw [List.set_append_right _ _ (by rw [h.len]; omega), h.len, ih i (by simpa using hx)]
      congr 2
      omega
/-- one cell of one element is written -/
theorem Own.put (hf : Enc f k) (h : Own w base e k f (.slice (some ⟨g, 0, none⟩) n cap) l) (i : Nat) (x x' : α) (hx : l[i]? = some x) (j : Nat) (hj : j < k) (u : Value) (hu : f x' = (f x).set j u) :
    Own (w.setCell ⟨g, i * k + j, none⟩ u) base e k f (.slice (some ⟨g, 0, none⟩) n cap) (l.set i x') := by
  unfold Own at h ⊢
  rw [hf.flat_set l i x x' hx j hj u hu, List.length_set]
  have hn : n = l.length := by
    rcases h.2 with ⟨h0, _⟩ | ⟨g', cap', cur, hv, _⟩
    · cases h0
    · simp at hv; omega
  subst hn
  exact (World.ownsRow.stored h _ u).1
theorem Own.free (h : Own w base e k f (.slice (some ⟨g, 0, none⟩) n cap) l) (j : Nat) : w.frozen? ⟨g, j, none⟩ = false := by
  rcases h.2 with ⟨h', _⟩ | ⟨g', cap', cur, h', _, hg, _⟩
  · simp at h'
  · simp only [Value.slice.injEq, Option.some.injEq, Addr.mk.injEq, and_true, true_and] at h'
    obtain ⟨rfl, _⟩ := h'
    exact frozen_of_row w g j cur e hg
theorem Own.lenEq (h : Own w base e k f (.slice (some ⟨g, 0, none⟩) n cap) l) : n = l.length := by
  rcases h.2 with ⟨h0, _⟩ | ⟨g', cap', cur, hv, _⟩
  · cases h0
  · simp at hv; omega
theorem Own.room (h : Own w base e k f (.slice (some ⟨g, 0, none⟩) n cap) l) : n ≤ cap ∧ cap ≤ maxLen := by
  rcases h.2 with ⟨h0, _⟩ | ⟨g', cap', cur, hv, _, _, h1, h2, _⟩
  · cases h0
  · simp at hv
    omega
end

/-! ### The tree's blocks -/
def TF (tb : Nat) (va vf : Value) (k : Nat) : Prop := k = tb ∨ va.ownBlock = some k ∨ vf.ownBlock = some k

structure TR (w : World) (base tb : Nat) (t : TS) (va vf : Value) : Prop where
  low : base ≤ tb
  blk : w.heap[tb]? = some (.cells #[va, vf, .int .i64 t.n] 157 (0, 0))
  ar : Own w base 153 5 Nd.cells va t.ar
  fr : Own w base 3 1 intC vf t.fr

theorem fr_flat (l : List Int) : l.flatMap intC = l.map (Value.int .i64) := by
  induction l with
  | nil => rfl
  | cons x l ih => rw [List.flatMap_cons, ih]; rfl
theorem TrieAt.tr {w : World} {base tb : Nat} {t : TS} {va vf : Value} (h : TrieAt w base tb t va vf) : TR w base tb t va vf := ⟨h.low, h.blk, h.ar, by unfold Own; rw [fr_flat]; exact h.fr⟩
theorem TR.at {w : World} {base tb : Nat} {t : TS} {va vf : Value} (h : TR w base tb t va vf) : TrieAt w base tb t va vf := ⟨h.low, h.blk, h.ar, by have := h.fr; unfold Own at this; rw [fr_flat] at this; exact this⟩
theorem TR.gr {w w' : World} {base tb : Nat} {t : TS} {va vf : Value} (h : TR w base tb t va vf) (g : Gr w w') : TR w' base tb t va vf := (h.at.gr g).tr
theorem TR.foot {w : World} {base tb : Nat} {t : TS} {va vf : Value} (h : TR w base tb t va vf) {k : Nat} (hk : TF tb va vf k) : base ≤ k ∧ k < w.heap.size := by
  rcases hk with rfl | hk | hk
  · exact ⟨h.low, blk_lt h.blk⟩
  · exact ⟨(h.ar.block hk).1, (h.ar.block hk).2.1⟩
  · exact ⟨(h.fr.block hk).1, (h.fr.block hk).2.1⟩
/-- a block of another kind is none of the tree's -/
theorem TR.off {w : World} {base tb : Nat} {t : TS} {va vf : Value} (h : TR w base tb t va vf) {k : Nat} {cs : Array Value} {ty : TypeId} {fz : Nat × Nat} (hb : w.heap[k]? = some (.cells cs ty fz)) (h1 : ty ≠ 157) (h2 : ty ≠ 153) (h3 : ty ≠ 3) : ¬ TF tb va vf k := by
  rintro (rfl | hk | hk)
  · rw [h.blk] at hb; simp at hb; exact h1 hb.2.1.symm
  · exact h.ar.apart hb h2 hk
  · exact h.fr.apart hb h3 hk
/-- its own blocks are three -/
theorem TR.apart {w : World} {base tb : Nat} {t : TS} {va vf : Value} (h : TR w base tb t va vf) : va.ownBlock ≠ some tb ∧ vf.ownBlock ≠ some tb ∧ (∀ k, va.ownBlock = some k → vf.ownBlock ≠ some k) := by
  refine ⟨h.ar.apart h.blk (by decide), h.fr.apart h.blk (by decide), fun k hk hk2 => ?_⟩
  obtain ⟨_, _, cs, hb⟩ := h.ar.block hk
  exact h.fr.apart hb (by decide) hk2

/-- cells of the trie's own block -/
theorem TR.setN {w : World} {base tb : Nat} {t : TS} {va vf : Value} (h : TR w base tb t va vf) (n : Int) : TR (w.setCell ⟨tb, 2, none⟩ (.int .i64 n)) base tb { t with n := n } va vf :=
  ⟨h.low, by have := h.blk; simp [World.setCell, Array.getElem?_modify, this], h.ar.set _ _ _ h.apart.1, h.fr.set _ _ _ h.apart.2.1⟩

def takeT (t : TS) (up : Int) : TS × Int := match t.fr.getLast? with
  | some x => ({ t with fr := t.fr.dropLast, ar := t.ar.set x.toNat (freshN up) }, x)
  | none => ({ t with ar := t.ar ++ [freshN up] }, t.ar.length)

/-- what is free is a number of the arena -/
def frOk (t : TS) : Prop := 2 ≤ t.ar.length ∧ (∀ x ∈ t.fr, 0 ≤ x ∧ x < t.ar.length) ∧ t.ar.length ≤ 1000000

end Go.Proofs.Ytdecgbgndffkkaa
