/- append of a whole slice: its elements are known by what it owns. -/
import Derived.Test.YtdecgbgndffkkaaFm
set_option linter.unusedVariables false
set_option linter.unusedSimpArgs false
namespace Go.Proofs.Ytdecgbgndffkkaa
open Go.RowKit

/-- what a slice that is read bears: so many elements -/
def Rd {α : Type} (w : World) (k : Nat) (f : α → List Value) (v : Value) (l : List α) : Prop :=
  ∃ a cap, v = .slice a l.length cap ∧ (0 < l.length → ∃ bb bo, a = some ⟨bb, bo, none⟩ ∧ ∀ j u, (l.flatMap f)[j]? = some u → w.cell? ⟨bb, bo + j, none⟩ = some u)
theorem Own.rd {α : Type} {w : World} {base : Nat} {e : TypeId} {k : Nat} {f : α → List Value} {v : Value} {l : List α} (hf : Enc f k) (h : Own w base e k f v l) : Rd w k f v l := by
  obtain ⟨a, cap, hv, _⟩ := h.lenv
  refine ⟨a, cap, hv, fun hp => ?_⟩
  obtain ⟨g, cap', hv', _, _⟩ := h.form hp
  rw [hv] at hv'
  simp only [Value.slice.injEq] at hv'
  refine ⟨g, 0, hv'.1, fun j u hu => ?_⟩
  have hj : j < l.length * k := by
    have := (List.getElem?_eq_some_iff.1 hu).1
    rwa [hf.flat_length] at this
  rw [hv, hv'.1] at h
  have := World.ownsRow.cellAt h j hj
  rw [Nat.zero_add, this, hu]

theorem Rd.gr {α : Type} {w w' : World} {k : Nat} {f : α → List Value} {v : Value} {l : List α} (h : Rd w k f v l) (g : Gr w w') : Rd w' k f v l := by
  obtain ⟨a, cap, hv, hc⟩ := h
  refine ⟨a, cap, hv, fun hp => ?_⟩
  obtain ⟨bb, bo, hb, hcc⟩ := hc hp
  exact ⟨bb, bo, hb, fun j u hu => cell_gr (hcc j u hu) g⟩
/-- one element's cells -/
theorem Rd.at {α : Type} {w : World} {k : Nat} {f : α → List Value} {a : Option Addr} {n cap : Nat} {l : List α} (hf : Enc f k) (h : Rd w k f (.slice a n cap) l) (i : Nat) (x : α) (hx : l[i]? = some x) : n = l.length ∧ ∃ bb bo, a = some ⟨bb, bo, none⟩ ∧ ∀ j u, (f x)[j]? = some u → w.cell? ⟨bb, bo + i * k + j, none⟩ = some u := by
  obtain ⟨a', cap', hv, hc⟩ := h
  simp only [Value.slice.injEq] at hv
  obtain ⟨rfl, rfl, rfl⟩ := hv
  have hi : i < l.length := (List.getElem?_eq_some_iff.1 hx).1
  obtain ⟨bb, bo, hb, hcc⟩ := hc (by omega)
  refine ⟨rfl, bb, bo, hb, fun j u hu => ?_⟩
  rw [Nat.add_assoc]
  refine hcc _ u ?_
  have hj : j < k := by
    have := (List.getElem?_eq_some_iff.1 hu).1
    rwa [hf.len] at this
  rw [hf.flat_get l i x hx j hj, hu]
theorem run_append_rd {P : Program} {α : Type} {t e : TypeId} {k bytes : Nat} (he : ElemT P t e k bytes) {f : α → List Value} (hf : Enc f k) (base : Nat) (w : World) (ty : TypeId) (v : Value) (l : List α) (hown : Own w base e k f v l)
    (sv : Value) (l2 : List α) (hr : Rd w k f sv l2) (hmax : (l.length + l2.length) * (bytes + 1) ≤ 140737488355328) (hbase : base ≤ w.heap.size) :
    ∃ v' w', (Builtin.append_ #[t, t] ty #[v, sv]).run P w = .ok v' w' ∧ Own w' base e k f v' (l ++ l2) ∧ Grew w w' v ∧ (v'.ownBlock = v.ownBlock ∨ v'.ownBlock = some w.heap.size) := by
  obtain ⟨i, z, hi, hz, h1, h2, h3⟩ := he.inf
  have hb : (l.length + l2.length) * bytes ≤ (l.length + l2.length) * (bytes + 1) := Nat.mul_le_mul_left _ (by omega)
  have hc : l.length + l2.length ≤ (l.length + l2.length) * (bytes + 1) := Nat.le_mul_of_pos_right _ (by omega)
  obtain ⟨a, c, rfl, hcell⟩ := hr
  cases a with
  | none =>
    have hz0 : l2 = [] := by
      cases l2 with
      | nil => rfl
      | cons x r =>
        obtain ⟨bb, bo, hb, _⟩ := hcell (by simp)
        cases hb
    subst hz0
    refine ⟨v, w, ?_, by simpa using hown, ⟨World.grownBy.refl w _⟩, .inl rfl⟩
    have hown2 := hown.2
    simp only [List.length_nil]
    rcases hown2 with ⟨rfl, hn⟩ | ⟨g, cap, cur, rfl, _, _, hnc, _⟩
    · simp [Builtin.append_, run_underlying he.ul, sizeOf, typeInfo, hi, Builtin.lenOf, Builtin.firstCells]
    · simp [Builtin.append_, run_underlying he.ul, sizeOf, typeInfo, hi, Builtin.lenOf, Builtin.firstCells, hnc, storeCells]
  | some b =>
    obtain ⟨v', w', q0, q1, q2, _, q4⟩ := run_append_own_at (P := P) w base t ty e i z k bytes he.ul hi hz h1 h2 h3 hf.pos v l.length (l.flatMap f) hown b l2.length c (l2.flatMap f) (hf.flat_length l2) (by
      intro j u hu
      cases hl2 : l2 with
      | nil => rw [hl2] at hu; simp at hu
      | cons x r =>
        obtain ⟨bb, bo, hb', hcc⟩ := hcell (by rw [hl2]; simp)
        cases hb'
        rw [show (Addr.add ⟨bb, bo, none⟩ j) = (⟨bb, bo + j, none⟩ : Addr) by simp +contextual [Addr.add]]
        exact hcc j u hu) (by
      intro u hu
      obtain ⟨x, _, hx⟩ := List.mem_flatMap.1 hu
      exact hf.one x u hx) (by simp only [maxLen]; omega) (by omega) hbase
    refine ⟨v', w', q0, ?_, ⟨q2⟩, q4⟩
    unfold Own
    rw [List.length_append, List.flatMap_append]
    exact q1

theorem wp_appN {P : Program} {α : Type} {t e : TypeId} {k bytes : Nat} (he : ElemT P t e k bytes) {f : α → List Value} (hf : Enc f k) (base : Nat) {w : World} {o : Oper} {a : Act} {K : Act → World → Prop} {Q : Exit → Act → World → Prop} (s x : Operand)
    (ho : o.op = .call { callee := .builtin .append, args := #[s, x], argTypes := #[t, t] }) (v : Value) {l : List α} (hs : a.eval s = v) (hown : Own w base e k f v l)
    (sv : Value) {l2 : List α} (hx : a.eval x = sv) (hr : Rd w k f sv l2) (hmax : (l.length + l2.length) * (bytes + 1) ≤ 140737488355328) (hbase : base ≤ w.heap.size)
    (h : ∀ v' w', Own w' base e k f v' (l ++ l2) → Grew w w' v → (v'.ownBlock = v.ownBlock ∨ v'.ownBlock = some w.heap.size) → K (a.put o.dst v') w') : o.wp P a w K Q := by
  obtain ⟨v', w', hrun, h2, h3, h4⟩ := run_append_rd he hf base w o.type v l hown sv l2 hr hmax hbase
  unfold Oper.wp execOp
  simp only [ho, resolve, invoke, builtin, Sem.run_bind, Sem.run_pure, Result.andThen_ok, List.map_toArray, List.map_cons, List.map_nil, hs, hx, hrun]
  exact h v' w' h2 h3 h4
theorem wpList_appN {P : Program} {α : Type} {t e : TypeId} {k bytes : Nat} (he : ElemT P t e k bytes) {f : α → List Value} (hf : Enc f k) (base : Nat) {w : World} {ops : Array Oper} {rest : List Oper} {o : Oper} {a : Act} {Q : Exit → Act → World → Prop} (hgd : o.guard = none) (s x : Operand)
    (ho : o.op = .call { callee := .builtin .append, args := #[s, x], argTypes := #[t, t] }) (v : Value) {l : List α} (hs : a.eval s = v) (hown : Own w base e k f v l)
    (sv : Value) {l2 : List α} (hx : a.eval x = sv) (hr : Rd w k f sv l2) (hmax : (l.length + l2.length) * (bytes + 1) ≤ 140737488355328) (hbase : base ≤ w.heap.size)
    (h : ∀ v' w', Own w' base e k f v' (l ++ l2) → Grew w w' v → (v'.ownBlock = v.ownBlock ∨ v'.ownBlock = some w.heap.size) → wpList P ops Q rest (a.put o.dst v') w') : wpList P ops Q (o :: rest) a w :=
  wpList_plain hgd fun _ hK => wp_appN he hf base s x ho v hs hown sv hx hr hmax hbase fun v' w' h1 h2 h3 => hK _ _ (h v' w' h1 h2 h3)
/-- an empty literal -/
theorem own_lit0 {α : Type} {f : α → List Value} {k : Nat} {e : TypeId} (w : World) (base : Nat) (hb : base ≤ w.heap.size) : Own (w.alloc (.cells #[] e)) base e k f (.slice (some ⟨w.heap.size, 0, none⟩) 0 0) ([] : List α) :=
  ⟨by simp, .inr ⟨w.heap.size, 0, #[], rfl, hb, blk_new _ _, Nat.le_refl _, by decide, by simp, by simp⟩⟩

end Go.Proofs.Ytdecgbgndffkkaa
