/- Slices that a call has made, of whatever elements: each element is so many cells. -/
import Derived.Test.YtdecgbgndffkkaaTr
set_option linter.unusedVariables false
set_option linter.unusedSimpArgs false
namespace Go.Proofs.Ytdecgbgndffkkaa
open Go.RowKit

section
variable {α : Type}
/-- what an element is in cells -/
structure Enc (f : α → List Value) (k : Nat) : Prop where
  len : ∀ x, (f x).length = k
  one : ∀ x, ∀ u ∈ f x, u.oneCell' = true
  pos : 0 < k

theorem Enc.flat_length {f : α → List Value} {k : Nat} (h : Enc f k) (l : List α) : (l.flatMap f).length = l.length * k := by
  induction l with
  | nil => simp
  | cons x l ih => rw [List.flatMap_cons, List.length_append, ih, h.len, List.length_cons, Nat.succ_mul]; omega
theorem Enc.flat_get {f : α → List Value} {k : Nat} (h : Enc f k) (l : List α) (i : Nat) (x : α) (hx : l[i]? = some x) (j : Nat) (hj : j < k) : (l.flatMap f)[i * k + j]? = (f x)[j]? := by
  induction l generalizing i with
  | nil => simp at hx
  | cons y l ih =>
    rw [List.flatMap_cons]
    cases i with
    | zero =>
      have hy : y = x := by simpa using hx
      subst hy
      rw [List.getElem?_append_left (by rw [h.len]; omega)]
      simp
    | succ i =>
      have e0 : (i + 1) * k = i * k + k := Nat.succ_mul i k
      rw [List.getElem?_append_right (by rw [h.len]; omega), h.len]
      have e : (i + 1) * k + j - k = i * k + j := by omega
      rw [e]
      exact ih i (by simpa using hx)

/-- the call's own row -/
def Own (w : World) (base : Nat) (e : TypeId) (k : Nat) (f : α → List Value) (v : Value) (l : List α) : Prop := w.ownsRow base e k v l.length (l.flatMap f)

variable {w : World} {base : Nat} {e : TypeId} {k : Nat} {f : α → List Value} {v : Value} {l : List α}
theorem Own.gr {w' : World} (h : Own w base e k f v l) (g : Gr w w') : Own w' base e k f v l := own_gr h g
theorem Own.mono_base {b' : Nat} (h : Own w base e k f v l) (hb : b' ≤ base) : Own w b' e k f v l := by
  refine ⟨h.1, ?_⟩
  rcases h.2 with h | ⟨g, cap, cur, h1, h2, h3⟩
  · exact .inl h
  · exact .inr ⟨g, cap, cur, h1, by omega, h3⟩
theorem Own.nil : Own w base e k f (.slice none 0 0) ([] : List α) := World.ownsRow_nil _ _ _ _
theorem Own.isNil (h : Own w base e k f v ([] : List α)) : (v = .slice none 0 0) ∨ ∃ g cap, v = .slice (some ⟨g, 0, none⟩) 0 cap := by
  rcases h.2 with h | ⟨g, cap, cur, h1, _⟩
  · exact .inl h.1
  · exact .inr ⟨g, cap, h1⟩
theorem Own.form (h : Own w base e k f v l) (hp : 0 < l.length) : ∃ g cap, v = .slice (some ⟨g, 0, none⟩) l.length cap ∧ base ≤ g ∧ g < w.heap.size := by
  obtain ⟨g, cap, h1, h2, h3⟩ := World.ownsRow.form h hp
  exact ⟨g, cap, h1, h2, h3⟩
theorem Own.lenv (h : Own w base e k f v l) : ∃ a cap, v = .slice a l.length cap ∧ l.length ≤ maxLen := by
  rcases h.2 with h | ⟨g, cap, cur, h1, _, _, h4, h5, _⟩
  · exact ⟨none, 0, by rw [h.1, h.2], by rw [h.2]; simp⟩
  · exact ⟨_, cap, h1, by omega⟩
theorem Own.at (h : Own w base e k f v l) (hf : Enc f k) {g cap : Nat} (hv : v = .slice (some ⟨g, 0, none⟩) l.length cap) (i : Nat) (x : α) (hx : l[i]? = some x) (j : Nat) (hj : j < k) :
    w.cell? ⟨g, i * k + j, none⟩ = (f x)[j]? := by
  subst hv
  have hi : i < l.length := (List.getElem?_eq_some_iff.1 hx).1
  have h2 : i * k + j < l.length * k := by
    have := Nat.mul_le_mul_right k (show i + 1 ≤ l.length by omega)
    rw [Nat.succ_mul] at this
    omega
  rw [World.ownsRow.cellAt h (i * k + j) h2, hf.flat_get l i x hx j hj]
theorem Own.set (h : Own w base e k f v l) (b o : Nat) (u : Value) (hb : v.ownBlock ≠ some b) : Own (w.setCell ⟨b, o, none⟩ u) base e k f v l := by
  refine World.ownsRow.kept h (w' := w.setCell ⟨b, o, none⟩ u) (row := some b) ⟨rfl, rfl, rfl, by simp, fun i _ hi => ?_⟩ ?_
  · unfold World.setCell
    have : ¬ (b = i) := by intro e; exact hi (by simp [e])
    simp [Array.getElem?_modify, this]
  · cases hv : v.ownBlock with
    | none => simp
    | some g =>
      simp only [hv] at hb
      simp
      intro e; exact hb (by simp [e])
theorem Own.block (h : Own w base e k f v l) {b : Nat} (hb : v.ownBlock = some b) : base ≤ b ∧ b < w.heap.size ∧ ∃ cs, w.heap[b]? = some (.cells cs e (0, 0)) := by
  rcases h.2 with ⟨rfl, _⟩ | ⟨g, cap, cur, rfl, h1, h2, _⟩
  · simp [Value.ownBlock] at hb
  · simp [Value.ownBlock] at hb
    subst hb
    exact ⟨h1, blk_lt h2, _, h2⟩
theorem Own.apart (h : Own w base e k f v l) {b : Nat} {cs : Array Value} {t : TypeId} {fr : Nat × Nat} (hb : w.heap[b]? = some (.cells cs t fr)) (hte : t ≠ e) : v.ownBlock ≠ some b := by
  intro hv
  obtain ⟨_, _, cs', h2⟩ := h.block hv
  rw [hb] at h2
  simp at h2
  exact hte h2.2.1
/-- the first m -/
theorem Own.take {m cap g n : Nat} (hf : Enc f k) (h : Own w base e k f (.slice (some ⟨g, 0, none⟩) n cap) l) (hm : m ≤ l.length) : Own w base e k f (.slice (some ⟨g, 0, none⟩) m cap) (l.take m) := by
  obtain ⟨h1, h2⟩ := h
  rcases h2 with ⟨h0, _⟩ | ⟨g', cap', cur, hv, hg, hh, hn, hcap, hsz, htake⟩
  · cases h0
  · cases hv
    have hl : (l.take m).length = m := by simp; omega
    refine ⟨by rw [hf.flat_length], .inr ⟨g, cap, cur, by rw [hl], hg, hh, by omega, hcap, hsz, ?_⟩⟩
    rw [hl]
    have e1 : m * k ≤ l.length * k := Nat.mul_le_mul_right _ hm
    have h3 : (cur.toList.take (l.length * k)).take (m * k) = (l.flatMap f).take (m * k) := by rw [htake]
    rw [List.take_take, Nat.min_eq_left e1] at h3
    rw [h3]
    have e2 : l.flatMap f = (l.take m).flatMap f ++ (l.drop m).flatMap f := by rw [← List.flatMap_append, List.take_append_drop]
    rw [e2, List.take_append_of_le_length (by rw [hf.flat_length, hl]; exact Nat.le_refl _), List.take_of_length_le (by rw [hf.flat_length, hl]; exact Nat.le_refl _)]
/-- one less at the end -/
theorem Own.pop {x : α} {n cap g : Nat} (hf : Enc f k) (h : Own w base e k f (.slice (some ⟨g, 0, none⟩) n cap) (l ++ [x])) : Own w base e k f (.slice (some ⟨g, 0, none⟩) l.length cap) l := by
  have := h.take (m := l.length) hf (by simp)
  simpa using this
end

/-- facts of a slice type t of elements e in the program's table -/
structure ElemT (P : Program) (t e : TypeId) (k bytes : Nat) : Prop where
  ul : P.underlying t = some (.slice e)
  inf : ∃ i z, P.info? e = some i ∧ i.zero = some z ∧ i.size = k ∧ i.bytes = bytes ∧ z.cells.size = k
theorem elemT {P : Program} {t e : TypeId} {k bytes : Nat} (hu : P.underlying t = some (.slice e)) (h : (P.info? e).map (fun i => (i.zero.map (·.cells.size), i.size, i.bytes)) = some (some k, k, bytes)) : ElemT P t e k bytes := by
  refine ⟨hu, ?_⟩
  cases hi : P.info? e with
  | none => simp [hi] at h
  | some i =>
    simp [hi] at h
    obtain ⟨⟨z, hz, hz2⟩, h1, h2⟩ := h
    exact ⟨i, z, rfl, hz, h1, h2, hz2⟩

/-- what has turned: the row of v alone, and new blocks -/
structure Grew (w w' : World) (v : Value) : Prop where
  by_ : w.grownBy w' v.ownBlock
theorem Grew.gr {w0 w w' : World} {v : Value} (h : Grew w w' v) (g : Gr w0 w) (hv : ∀ b, v.ownBlock = some b → w0.heap.size ≤ b) : Gr w0 w' :=
  Below.grown g h.by_ g.size hv
theorem Grew.blk {w w' : World} {v : Value} (h : Grew w w' v) {b : Nat} {x : Obj} (hb : w.heap[b]? = some x) (hv : v.ownBlock ≠ some b) : w'.heap[b]? = some x := by
  rw [h.by_.block b (blk_lt hb) (fun e => hv e.symm)]
  exact hb
theorem Grew.size {w w' : World} {v : Value} (h : Grew w w' v) : w.heap.size ≤ w'.heap.size := h.by_.size

/-- append of one element that has just been laid, to a row of the call's own -/
theorem wp_app {P : Program} {α : Type} {t e : TypeId} {k bytes : Nat} (he : ElemT P t e k bytes) {f : α → List Value} (hf : Enc f k) (base : Nat) {w : World} {o : Oper} {a : Act} {K : Act → World → Prop} {Q : Exit → Act → World → Prop} (s x : Operand)
    (ho : o.op = .call { callee := .builtin .append, args := #[s, x], argTypes := #[t, t] }) (v : Value) {l : List α} (hs : a.eval s = v) (hown : Own w base e k f v l)
    (g c : Nat) (hx : a.eval x = .slice (some ⟨g, 0, none⟩) 1 c) (y : α) (fr : Nat × Nat) (hg : w.heap[g]? = some (.cells (f y).toArray e fr)) (hmax : (l.length + 1) * (bytes + 1) ≤ 140737488355328) (hbase : base ≤ w.heap.size)
    (h : ∀ g' cap' w', Own w' base e k f (.slice (some ⟨g', 0, none⟩) (l.length + 1) cap') (l ++ [y]) → Grew w w' v → (v.ownBlock = some g' ∨ g' = w.heap.size) → K (a.put o.dst (.slice (some ⟨g', 0, none⟩) (l.length + 1) cap')) w') : o.wp P a w K Q := by
  obtain ⟨i, z, hi, hz, h1, h2, h3⟩ := he.inf
  have hb : (l.length + 1) * bytes ≤ (l.length + 1) * (bytes + 1) := Nat.mul_le_mul_left _ (by omega)
  have hc : l.length + 1 ≤ (l.length + 1) * (bytes + 1) := Nat.le_mul_of_pos_right _ (by omega)
  obtain ⟨v', w', hr, q1, q2, _, q4⟩ := run_append_own_at (P := P) w base t o.type e i z k bytes he.ul hi hz h1 h2 h3 hf.pos v l.length (l.flatMap f) hown ⟨g, 0, none⟩ 1 c (f y) (by rw [hf.len, Nat.one_mul]) (by
    intro j u hu
    have hc := cell_of_row w g j (f y).toArray e fr hg
    rw [show (Addr.add ⟨g, 0, none⟩ j) = (⟨g, j, none⟩ : Addr) by simp [Addr.add]; omega, hc]
    simpa using hu) (hf.one y) (by simp only [maxLen]; omega) (by omega) hbase
  unfold Oper.wp execOp
  simp only [ho, resolve, invoke, builtin, Sem.run_bind, Sem.run_pure, Result.andThen_ok, List.map_toArray, List.map_cons, List.map_nil, hs, hx, hr]
  have ho : Own w' base e k f v' (l ++ [y]) := by
    unfold Own
    simpa [List.flatMap_append] using q1
  obtain ⟨g', cap', rfl, _⟩ := ho.form (by simp)
  simp only [List.length_append, List.length_singleton] at ho ⊢
  refine h g' cap' w' ho ⟨q2⟩ ?_
  rcases q4 with h4 | h4
  · exact .inl (by rw [← h4]; rfl)
  · exact .inr (by simpa [Value.ownBlock] using h4)
theorem wpList_app {P : Program} {α : Type} {t e : TypeId} {k bytes : Nat} (he : ElemT P t e k bytes) {f : α → List Value} (hf : Enc f k) (base : Nat) {w : World} {ops : Array Oper} {rest : List Oper} {o : Oper} {a : Act} {Q : Exit → Act → World → Prop} (hgd : o.guard = none) (s x : Operand)
    (ho : o.op = .call { callee := .builtin .append, args := #[s, x], argTypes := #[t, t] }) (v : Value) {l : List α} (hs : a.eval s = v) (hown : Own w base e k f v l)
    (g c : Nat) (hx : a.eval x = .slice (some ⟨g, 0, none⟩) 1 c) (y : α) (fr : Nat × Nat) (hg : w.heap[g]? = some (.cells (f y).toArray e fr)) (hmax : (l.length + 1) * (bytes + 1) ≤ 140737488355328) (hbase : base ≤ w.heap.size)
    (h : ∀ g' cap' w', Own w' base e k f (.slice (some ⟨g', 0, none⟩) (l.length + 1) cap') (l ++ [y]) → Grew w w' v → (v.ownBlock = some g' ∨ g' = w.heap.size) → wpList P ops Q rest (a.put o.dst (.slice (some ⟨g', 0, none⟩) (l.length + 1) cap')) w') : wpList P ops Q (o :: rest) a w :=
  wpList_plain hgd fun _ hK => wp_app he hf base s x ho v hs hown g c hx y fr hg hmax hbase fun g' cap' w' h1 h2 h3 => hK _ _ (h g' cap' w' h1 h2 h3)
theorem step_app {P : Program} {α : Type} {t e : TypeId} {k bytes : Nat} (he : ElemT P t e k bytes) {f : α → List Value} (hf : Enc f k) (base : Nat) {w : World} {ops : Array Oper} {o : Oper} {a : Act} {K : Act → World → Prop} {Q : Exit → Act → World → Prop} {E : Prop} (hgd : o.guard = none) (s x : Operand)
    (ho : o.op = .call { callee := .builtin .append, args := #[s, x], argTypes := #[t, t] }) (v : Value) {l : List α} (hs : a.eval s = v) (hown : Own w base e k f v l)
    (g c : Nat) (hx : a.eval x = .slice (some ⟨g, 0, none⟩) 1 c) (y : α) (fr : Nat × Nat) (hg : w.heap[g]? = some (.cells (f y).toArray e fr)) (hmax : (l.length + 1) * (bytes + 1) ≤ 140737488355328) (hbase : base ≤ w.heap.size)
    (h : ∀ g' cap' w', Own w' base e k f (.slice (some ⟨g', 0, none⟩) (l.length + 1) cap') (l ++ [y]) → Grew w w' v → (v.ownBlock = some g' ∨ g' = w.heap.size) → K (a.put o.dst (.slice (some ⟨g', 0, none⟩) (l.length + 1) cap')) w') :
    if Region.wanted o (yielded ops a.tmps) = true then Oper.wp P o a w K Q else E := by
  have hw : Region.wanted o (yielded ops a.tmps) = true := by simp [Region.wanted, hgd]
  rw [if_pos hw]
  exact wp_app he hf base s x ho v hs hown g c hx y fr hg hmax hbase h

/-! ### Prefixes, pairs (and routes: the same cells) -/
def pxC (p : Px) : List Value := [Value.int IntKind.u64 ((p).a.hi.toNat : Int), Value.int IntKind.u64 ((p).a.lo.toNat : Int), Value.bool (p).a.v6, Value.int IntKind.i64 (p).n]
def prC (x : Px × Int) : List Value := [Value.int IntKind.u64 ((x.1).a.hi.toNat : Int), Value.int IntKind.u64 ((x.1).a.lo.toNat : Int), Value.bool (x.1).a.v6, Value.int IntKind.i64 (x.1).n, .int .i64 x.2]
def intC (x : Int) : List Value := [.int .i64 x]
theorem pxE : Enc pxC 4 := ⟨fun _ => rfl, fun x u h => by simp [pxC] at h; rcases h with h | h | h | h <;> subst h <;> rfl, by omega⟩
theorem prE : Enc prC 5 := ⟨fun _ => rfl, fun x u h => by simp [prC] at h; rcases h with h | h | h | h | h <;> subst h <;> rfl, by omega⟩
theorem ndE : Enc Nd.cells 5 := ⟨fun _ => rfl, fun x u h => by simp [Nd.cells] at h; rcases h with h | h | h | h | h <;> subst h <;> rfl, by omega⟩
theorem intE : Enc intC 1 := ⟨fun _ => rfl, fun x u h => by simp [intC] at h; subst h; rfl, by omega⟩
theorem pairT : ElemT Try.prog 35 39 5 40 := elemT Try.underlying35 (by kernel_rfl)
theorem nodeT : ElemT Try.prog 155 153 5 40 := elemT Try.underlying155 (by kernel_rfl)
theorem intT : ElemT Try.prog 143 3 1 8 := elemT Try.underlying143 (by kernel_rfl)

end Go.Proofs.Ytdecgbgndffkkaa
