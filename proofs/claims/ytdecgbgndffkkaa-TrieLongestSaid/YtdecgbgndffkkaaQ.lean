/- A region whose order Go leaves open, whose operations read and whose calls make memory alone: walked once, in the order of the text. -/
import Derived.Test.YtdecgbgndffkkaaWa6
import Derived.StillTail
set_option linter.unusedVariables false
set_option linter.unusedSimpArgs false
namespace Go.Proofs.Ytdecgbgndffkkaa
open Go.RowKit

section
variable {P : Program} {ops : Array Oper} {C : World → Prop} {Q : Act → Prop} {a : Act} {o : Oper} {rest : List Oper}
theorem qs_skip (hw : Region.wanted o (yielded ops a.tmps) = false) (h : wpQuiet P ops C Q rest (a.put o.dst undef)) : wpQuiet P ops C Q (o :: rest) a := by
  unfold wpQuiet
  rw [if_neg (by rw [hw]; simp)]
  exact h
theorem qs_val (hw : Region.wanted o (yielded ops a.tmps) = true) (h : ∃ v, (∀ w, C w → (execOp a.eval o).run P w = .ok (.value v) w) ∧ wpQuiet P ops C Q rest (a.put o.dst v)) : wpQuiet P ops C Q (o :: rest) a := by
  obtain ⟨v, h, hk⟩ := h
  unfold wpQuiet
  rw [if_pos hw]
  refine ⟨v, fun w hC => ?_, hk⟩
  unfold Oper.quietAt
  rw [h w hC]
  exact ⟨rfl, rfl⟩
theorem qs_call (hw : Region.wanted o (yielded ops a.tmps) = true) (h : ∃ v, (∀ w, C w → o.quietAt P a C w v) ∧ wpQuiet P ops C Q rest (a.put o.dst v)) : wpQuiet P ops C Q (o :: rest) a := by
  obtain ⟨v, h, hk⟩ := h
  unfold wpQuiet
  rw [if_pos hw]
  exact ⟨v, h, hk⟩
end
/-- the class: what has grown out of W -/
theorem wp_region_gr {P : Program} {id : Nat} {Q : Exit → Act → World → Prop} {a : Act} {W : World} {l : List Oper} (hm : P.follows .mixedOrders = true) (hB : Region.lexB .any l.toArray = true)
    (h : wpQuiet P l.toArray (fun w' => Gr W w') (fun a' => ∀ w', Gr W w' → Q .normal a' w') l a) : (Code.region id l.toArray true).wp P Q a W :=
  wp_region_quiet (C := fun w' => Gr W w') hm hB (Gr.refl W).drew (by simpa using h)
/-! ### Quiet operations first, in whatever order; then a tail in one forced order -/
section
variable {P : Program} {ops : Array Oper} {md : Region.Mode} {C : World → Prop}
/-- so many operations below n, in whatever order they come up; then L -/
def headQ (P : Program) (md : Region.Mode) (ops : Array Oper) (C : World → Prop) (n : Nat) (L : Array Bool → Act → Prop) : Nat → Array Bool → Act → Prop
  | 0, listed, a => L listed a
  | f + 1, listed, a => Region.ready md ops listed ≠ [] ∧ ∀ i ∈ Region.ready md ops listed, i < n ∧ qOp P ops C i (headQ P md ops C n L f (listed.setIfInBounds i true)) a

theorem any_of_headQ {n g : Nat} {L : Array Bool → Act → Prop} {Q' : Exit → Act → World → Prop} (hL : ∀ listed a w, C w → L listed a → wpAny P md ops Q' g listed a w) (f : Nat) :
    ∀ (listed : Array Bool) (a : Act) (w : World), C w → headQ P md ops C n L f listed a → wpAny P md ops Q' (f + g) listed a w := by
  induction f with
  | zero => intro listed a w hC h; rw [Nat.zero_add]; exact hL _ _ _ hC h
  | succ f ih =>
    intro listed a w hC h
    have e : f + 1 + g = (f + g) + 1 := by omega
    rw [e]
    refine ⟨fun h0 => absurd h0 h.1, fun i hi => ?_⟩
    exact wpOp_of_qOp hC (fun a' w' hC' h' => ih _ a' w' hC' h') (h.2 i hi).2

theorem headQ_take {n i : Nat} {oi : Oper} {v : Value} {L : Array Bool → Act → Prop} (hi : ops[i]? = some oi) (hsel : ∀ (j : Nat) (o : Oper) cs b, ops[j]? = some o → o.op ≠ .select cs b)
    (hs : Region.sinkB md ops n = true) (hc : Region.chainB md ops n = true) (hn : n < ops.size) (hin : i < n)
    (hdone : ∀ listed a, L listed a → ∀ j ∈ Region.ready md ops listed, n ≤ j) (f : Nat) :
    ∀ (listed : Array Bool) (a : Act), HeadInv md ops n listed →
      (∀ j oj, ops[j]? = some oj → j ≠ i → listed.getD j true = false → (∀ e ∈ oj.after, Region.binds md e = true → e.on ≠ i) → oi.apart ops oj = true) →
      i ∈ Region.ready md ops listed → YieldsIn P ops C oi v a →
      headQ P md ops C n L f (listed.setIfInBounds i true) (a.put oi.dst v) → headQ P md ops C n L (f + 1) listed a := by
  induction f with
  | zero =>
    intro listed a inv _ hr hy H
    have hun := (mem_ready.1 hr).1
    refine ⟨fun h => by simp [h] at hr, fun j hj => ?_⟩
    have hjn : j < n := Nat.lt_of_not_le fun h => tail_waits hs hc hn inv _ i rfl hin hun j h hj
    by_cases hji : j = i
    · subst hji
      exact ⟨hjn, hy.qOp hi H⟩
    · have := hdone _ _ H j (ready_mono hj hji)
      omega
  | succ f ih =>
    intro listed a inv hfree hr hy H
    have hun := (mem_ready.1 hr).1
    refine ⟨fun h => by simp [h] at hr, fun j hj => ?_⟩
    have hjn : j < n := Nat.lt_of_not_le fun h => tail_waits hs hc hn inv _ i rfl hin hun j h hj
    by_cases hji : j = i
    · subst hji
      exact ⟨hjn, hy.qOp hi H⟩
    · obtain ⟨hjun, oj, hoj, hall⟩ := mem_ready.1 hj
      have hnot : ∀ e ∈ oj.after, Region.binds md e = true → e.on ≠ i := by
        intro e he hb heq
        have h1 := hall e he hb
        rw [heq, getD_both hun] at h1
        cases h1
      have h2 := qOp_put hoj (hfree j oj hoj hji hjun hnot) (fun cs b => hsel i oi cs b hi) (fun cs b => hsel j oj cs b hoj) hy (H.2 j (ready_mono hj hji)).2
      refine ⟨hjn, qOp_mono (fun a' h3 => ih (listed.setIfInBounds j true) a' (inv.set hj hjn) (fun k ok hk hki hun' hno => hfree k ok hk hki ?_ hno) (ready_mono hr (Ne.symm hji)) h3.1 ?_) h2⟩
      · by_cases hjk : j = k
        · subst hjk; exact hjun
        · rwa [getD_set_ne true hjk] at hun'
      · rw [Array.setIfInBounds_comm _ _ hji]
        exact h3.2

theorem headQ_lex {n g : Nat} {K : Act → Prop} (hsel : Region.noSelect ops = true) (hs : Region.sinkB md ops n = true) (hc : Region.chainB md ops n = true) (hn : n < ops.size) (l : List Oper) :
    ∀ (k : Nat) (listed : Array Bool) (a : Act), (∀ j, j < l.length → l[j]? = ops[k + j]?) → k + l.length = n → HeadInv md ops n listed →
    Region.lexHead md ops g l.length k listed = true → wpQuiet P ops C K l a →
    headQ P md ops C n (fun listed' a' => Region.seqB md ops g n listed' = true ∧ K a') l.length listed a := by
  induction l with
  | nil =>
    intro k listed a _ hk _ hB h
    obtain rfl : k = n := by simpa using hk
    exact ⟨by simpa [Region.lexHead] using hB, h⟩
  | cons o l ih =>
    intro k listed a hl hk inv hB h
    have h0 : ops[k]? = some o := by simpa using (hl 0 (by simp)).symm
    simp only [List.length_cons, Region.lexHead, Bool.and_eq_true] at hB
    obtain ⟨⟨hr, hf⟩, hB'⟩ := hB
    simp only [List.length_cons] at hk
    have hkn : k < n := by omega
    have hr' : k ∈ Region.ready md ops listed := by simpa using hr
    have hst : qOp P ops C k (wpQuiet P ops C K l) a := by unfold qOp; simp only [h0]; exact h
    obtain ⟨v, hy, hK⟩ := yieldsIn_of_qOp h0 hst
    refine headQ_take h0 (Region.noSelect_spec hsel) hs hc hn hkn (fun listed' a' hL => seqB_ready hL.1) l.length listed a inv (Region.free_spec h0 hf) hr' hy ?_
    refine ih (k + 1) _ _ (fun j hj => ?_) (by omega) (inv.set hr' hkn) hB' hK
    have := hl (j + 1) (by simp; omega)
    simpa [Nat.add_assoc, Nat.add_comm 1 j] using this
end
/-- THE FIRST n OPERATIONS READ, OR CALL WHAT MAKES MEMORY ALONE; the others stand in one order behind them. -/
theorem wp_region_gr_tail {P : Program} {id : Nat} {Q : Exit → Act → World → Prop} {a : Act} {W : World} {l : List Oper} (n : Nat) (hm : P.follows .mixedOrders = true) (hB : Region.lexTailB .any l.toArray n = true)
    (h : wpQuiet P l.toArray (fun w' => Gr W w') (fun a' => ∀ w', Gr W w' → wpList P l.toArray Q (l.drop n) a' w') (l.take n) a) : (Code.region id l.toArray true).wp P Q a W := by
  simp only [Region.lexTailB, Bool.and_eq_true, decide_eq_true_eq] at hB
  obtain ⟨⟨⟨⟨hsel, hn⟩, hs⟩, hc⟩, hlex⟩ := hB
  have hn' : n < l.length := by simpa using hn
  have htl : (l.take n).length = n := by simp; omega
  have hdl : (l.drop n).length = l.toArray.size - n := by simp
  have inv0 : HeadInv .any l.toArray n (Array.replicate l.toArray.size false) := by
    refine ⟨by simp, fun j oj _ hl => ?_, fun t _ ht => getD_in (by simpa using ht) (getD_replicate_false _ _)⟩
    rw [getD_replicate_false] at hl
    cases hl
  have H := headQ_lex (md := .any) (g := l.toArray.size - n) hsel hs hc hn (l.take n) 0 _ a (fun j hj => by
    rw [htl] at hj
    simp [hj]) (by simpa using htl) inv0 (by rw [htl]; exact hlex) h
  refine wp_region_any hm ?_
  have hL : ∀ (listed : Array Bool) (a' : Act) (w' : World), Gr W w' → (Region.seqB .any l.toArray (l.toArray.size - n) n listed = true ∧ ∀ w', Gr W w' → wpList P l.toArray Q (l.drop n) a' w') → wpAny P .any l.toArray Q (l.toArray.size - n) listed a' w' := by
    intro listed a' w' hC hL
    have h3 := wpAny_of_seq (md := .any) (Q' := Q) (l.drop n) n listed a' w' (fun j => by simp [List.getElem?_drop]) (by rw [hdl]; exact hL.1) (hL.2 w' hC)
    rwa [hdl] at h3
  have h2 := any_of_headQ (C := fun w' => Gr W w') hL _ _ _ _ (Gr.refl W).drew H
  rw [htl] at h2
  have e : n + (l.toArray.size - n) = l.toArray.size := by omega
  rw [e] at h2
  exact h2

/-- a callee's contract in the class -/
theorem gr_call {P : Program} {f : FuncId} {args : Array Value} {W w : World} {v : Value} (hw : Gr W w) (h : Calls P f args w fun e w' => e = .returned v ∧ Gr w w') :
    Calls P f args w fun e w'' => e = .returned v ∧ Gr W w'' := h.mono fun _ _ ⟨h1, h2⟩ => ⟨h1, hw.trans h2⟩
theorem gr_call_same {P : Program} {f : FuncId} {args : Array Value} {W w : World} {v : Value} (hw : Gr W w) (h : Calls P f args w fun e w' => e = .returned v ∧ w = w') :
    Calls P f args w fun e w'' => e = .returned v ∧ Gr W w'' := h.mono fun _ _ ⟨h1, h2⟩ => ⟨h1, h2 ▸ hw⟩

end Go.Proofs.Ytdecgbgndffkkaa
