/- A region whose order Go leaves open, walked once, in ONE order that is named: copies and loads are taken first; of the operations that act (calls, what makes memory, append, stores) no two may come up at once. Behind operation z (the first that writes) nothing is loaded. -/
import Derived.Test.YtdecgbgndffkkaaTr
import Derived.OrdersHeld
set_option linter.unusedVariables false
set_option linter.unusedSimpArgs false
namespace Go.Proofs.Ytdecgbgndffkkaa
open Go.RowKit

section
variable {P : Program} {ops : Array Oper} {Q : Exit → Act → World → Prop} {md : Region.Mode} {S : World → Prop} {z : Nat}

def wpAnyV (P : Program) (md : Region.Mode) (ops : Array Oper) (Q : Exit → Act → World → Prop) (S : World → Prop) (z : Nat) : Nat → Array Bool → Act → World → Prop
  | 0, listed, a, w => Region.ready md ops listed = [] ∧ Q .normal a w
  | fuel + 1, listed, a, w =>
    (Region.ready md ops listed = [] → Q .normal a w) ∧
    ∀ i ∈ Region.ready md ops listed, wpOp P ops Q i (fun a' w' => ((listed.setIfInBounds i true).getD z true = false → S w') ∧ wpAnyV P md ops Q S z fuel (listed.setIfInBounds i true) a' w') a w

theorem wpAny_of_V : ∀ (fuel : Nat) (listed : Array Bool) (a : Act) (w : World), wpAnyV P md ops Q S z fuel listed a w → wpAny P md ops Q fuel listed a w
  | 0, _, _, _, h => h
  | fuel + 1, _, _, _, h => ⟨h.1, fun i hi => wpOp_mono (fun a' w' h' => wpAny_of_V fuel _ a' w' h'.2) (h.2 i hi)⟩

/-- what is listed is closed under 'waits for' -/
structure Shut (md : Region.Mode) (ops : Array Oper) (listed : Array Bool) : Prop where
  size : listed.size = ops.size
  shut : ∀ j o, ops[j]? = some o → listed.getD j false = true → ∀ e ∈ o.after, Region.binds md e = true → listed.getD e.on false = true

theorem Shut.set {listed : Array Bool} {i : Nat} (h : Shut md ops listed) (hr : i ∈ Region.ready md ops listed) : Shut md ops (listed.setIfInBounds i true) := by
  obtain ⟨h0, oi, hoi, hall⟩ := mem_ready.1 hr
  refine ⟨by simp [h.size], fun j o hj hl e he hb => ?_⟩
  by_cases hij : i = j
  · subst hij
    rw [hoi] at hj
    cases hj
    exact getD_set_true (hall e he hb)
  · rw [getD_set_ne false hij] at hl
    exact getD_set_true (h.shut j o hj hl e he hb)

def waitsB (md : Region.Mode) (ops : Array Oper) : Nat → Nat → Nat → Bool
  | 0, _, _ => false
  | f + 1, z, i => match ops[z]? with
    | none => false
    | some o => o.after.any fun e => Region.binds md e && (e.on == i || waitsB md ops f e.on i)

theorem waits_deps {listed : Array Bool} {i : Nat} (h : Shut md ops listed) (hi : listed.getD i false = false) : ∀ (f z : Nat) (o : Oper), ops[z]? = some o → waitsB md ops f z i = true → ∃ e ∈ o.after, Region.binds md e = true ∧ listed.getD e.on false = false := by
  intro f
  induction f with
  | zero => intro z o _ h0; simp [waitsB] at h0
  | succ f ih =>
    intro z o hz hw
    unfold waitsB at hw
    rw [hz] at hw
    simp only [Array.any_eq_true', Bool.and_eq_true, Bool.or_eq_true, beq_iff_eq] at hw
    obtain ⟨e, he, hb, hc⟩ := hw
    refine ⟨e, he, hb, ?_⟩
    rcases hc with hc | hc
    · rw [hc]; exact hi
    · cases hl : listed.getD e.on false with
      | false => rfl
      | true =>
        cases hoe : ops[e.on]? with
        | none =>
          cases f with
          | zero => simp [waitsB] at hc
          | succ f => simp [waitsB, hoe] at hc
        | some oe =>
          obtain ⟨e', he', hb', hl'⟩ := ih e.on oe hoe hc
          have := h.shut e.on oe hoe hl e' he' hb'
          rw [hl'] at this
          cases this

theorem unl {listed : Array Bool} {i : Nat} (h : listed.getD i true = false) : listed.getD i false = false := by
  rcases Nat.lt_or_ge i listed.size with h' | h'
  · simpa [h'] using h
  · simp [Array.getElem?_eq_none h'] at h

/-- z waits for i, which has not come up: z has not come up, and may not -/
theorem waits_not {listed : Array Bool} {i f : Nat} (h : Shut md ops listed) (hi : listed.getD i true = false) (hw : waitsB md ops f z i = true) : listed.getD z true = false ∧ z ∉ Region.ready md ops listed := by
  cases hoz : ops[z]? with
  | none =>
    cases f with
    | zero => simp [waitsB] at hw
    | succ f => simp [waitsB, hoz] at hw
  | some o =>
    obtain ⟨e, he, hb, hl⟩ := waits_deps h (unl hi) f z o hoz hw
    have hz : z < listed.size := by rw [h.size]; exact (Array.getElem?_eq_some_iff.1 hoz).1
    constructor
    · cases hq : listed.getD z true with
      | false => rfl
      | true =>
        have := h.shut z o hoz (by simpa [hz] using hq) e he hb
        rw [hl] at this
        cases this
    · intro hr
      obtain ⟨_, o', ho', hall⟩ := mem_ready.1 hr
      rw [hoz] at ho'
      cases ho'
      have := hall e he hb
      rw [hl] at this
      cases this

theorem not_after {listed : Array Bool} {i : Nat} {oj : Oper} (hr : i ∈ Region.ready md ops listed) (hall : ∀ e ∈ oj.after, Region.binds md e = true → listed.getD e.on false = true) : ∀ e ∈ oj.after, Region.binds md e = true → e.on ≠ i := fun e he hb heq => by
  have h1 := hall e he hb
  have h0 := (mem_ready.1 hr).1
  rw [heq, unl h0] at h1
  cases h1

/-- a copy, an address .. may be taken first; so may a load for which z waits -/
theorem wpAnyV_first {i : Nat} {oi : Oper} {v : Value} (T : World → Prop) (hi : ops[i]? = some oi) (hsel : ∀ (j : Nat) (o : Oper) cs b, ops[j]? = some o → o.op ≠ .select cs b)
    (hQ : ∀ c a w, Q (.panic c) (a.put oi.dst v) w → Q (.panic c) a w) (hiz : i ≠ z) (hT : (∀ w, T w) ∨ (T = S ∧ ∃ f, waitsB md ops f z i = true)) :
    ∀ (fuel : Nat) (listed : Array Bool) (a : Act) (w : World), Shut md ops listed → (listed.getD z true = false → S w) →
      (∀ j oj, ops[j]? = some oj → j ≠ i → listed.getD j true = false → (∀ e ∈ oj.after, Region.binds md e = true → e.on ≠ i) → oi.apart ops oj = true) →
      i ∈ Region.ready md ops listed → YieldsIf P ops T oi v a →
      wpAnyV P md ops Q S z fuel (listed.setIfInBounds i true) (a.put oi.dst v) w → wpAnyV P md ops Q S z (fuel + 1) listed a w := by
  have hTw : ∀ (listed : Array Bool) (w : World), Shut md ops listed → i ∈ Region.ready md ops listed → (listed.getD z true = false → S w) → T w := by
    intro listed w sh hr hV
    rcases hT with hT | ⟨rfl, f, hw⟩
    · exact hT w
    · exact hV (waits_not sh (mem_ready.1 hr).1 hw).1
  intro fuel
  induction fuel with
  | zero =>
    intro listed a w sh hV _ hr hy H
    refine ⟨fun h => (by rw [h] at hr; cases hr), fun j hj => ?_⟩
    by_cases hji : j = i
    · subst hji
      exact hy.wpOp hi (hTw _ _ sh hr hV) ⟨fun hz => hV (by rw [getD_set_ne true hiz] at hz; exact hz), H⟩
    · have := ready_mono hj hji
      rw [H.1] at this
      cases this
  | succ fuel ih =>
    intro listed a w sh hV hfree hr hy H
    refine ⟨fun h => (by rw [h] at hr; cases hr), fun j hj => ?_⟩
    by_cases hji : j = i
    · subst hji
      exact hy.wpOp hi (hTw _ _ sh hr hV) ⟨fun hz => hV (by rw [getD_set_ne true hiz] at hz; exact hz), H⟩
    · have h1 := H.2 j (ready_mono hj hji)
      obtain ⟨hjun, oj, hoj, hall⟩ := mem_ready.1 hj
      have hnot := not_after hr hall
      have h2 := wpOp_putIf hoj (hfree j oj hoj hji hjun hnot) (fun cs b => hsel i oi cs b hi) (fun cs b => hsel j oj cs b hoj) hQ hy h1
      have hfree' : ∀ k ok, ops[k]? = some ok → k ≠ i → (listed.setIfInBounds j true).getD k true = false →
          (∀ e ∈ ok.after, Region.binds md e = true → e.on ≠ i) → oi.apart ops ok = true := fun k ok hk hki hun hno => by
        refine hfree k ok hk hki ?_ hno
        by_cases hjk : j = k
        · subst hjk; exact hjun
        · rw [getD_set_ne true hjk] at hun; exact hun
      refine wpOp_mono (fun a' w' h3 => ?_) h2
      have hV' : (listed.setIfInBounds j true).getD z true = false → S w' := by
        intro hz
        refine h3.2.1 ?_
        rw [Array.setIfInBounds_comm _ _ (Ne.symm hji), getD_set_ne true hiz]
        exact hz
      refine ⟨hV', ih (listed.setIfInBounds j true) a' w' (sh.set hj) hV' hfree' (ready_mono hr (Ne.symm hji)) h3.1 ?_⟩
      rw [Array.setIfInBounds_comm _ _ hji]
      exact h3.2.2

/-- the walk in one order: 0: yields in whatever world · 1: yields where S holds · 2: acts -/
def wpMix (P : Program) (ops : Array Oper) (Q : Exit → Act → World → Prop) (S : World → Prop) (z : Nat) : Bool → List (Nat × Nat × Oper) → Act → World → Prop
  | _, [], a, w => Q .normal a w
  | zd, (_, 0, o) :: l, a, w => ∃ v, YieldsIf P ops (fun _ => True) o v a ∧ wpMix P ops Q S z zd l (a.put o.dst v) w
  | zd, (_, 1, o) :: l, a, w => ∃ v, YieldsIf P ops S o v a ∧ wpMix P ops Q S z zd l (a.put o.dst v) w
  | zd, (i, _, _) :: l, a, w => wpOp P ops Q i (fun a' w' => ((zd || i == z) = false → S w') ∧ wpMix P ops Q S z (zd || i == z) l a' w') a w

def mixB (md : Region.Mode) (ops : Array Oper) (z : Nat) : List (Nat × Nat) → Array Bool → Bool
  | [], listed => (Region.ready md ops listed).isEmpty
  | (i, k) :: l, listed => (if k == 2 then Region.ready md ops listed == [i] else i != z && Region.free md ops listed i && (Region.ready md ops listed).contains i && (k == 0 || (k == 1 && waitsB md ops ops.size z i))) && mixB md ops z l (listed.setIfInBounds i true)

def withOps (ops : Array Oper) : List (Nat × Nat) → List (Nat × Nat × Oper) → Bool
  | [], [] => true
  | (i, k) :: l, (j, m, _) :: r => i == j && k == m && withOps ops l r
  | _, _ => false

theorem mix_sound (hsel : Region.noSelect ops = true) (hQ : ∀ c a a' w, Q (.panic c) a w → Q (.panic c) a' w) :
    ∀ (l : List (Nat × Nat × Oper)) (listed : Array Bool) (a : Act) (w : World), (∀ x ∈ l, ops[x.1]? = some x.2.2) → mixB md ops z (l.map fun x => (x.1, x.2.1)) listed = true → Shut md ops listed → (listed.getD z true = false → S w) → z < ops.size →
      wpMix P ops Q S z (listed.getD z true) l a w → wpAnyV P md ops Q S z l.length listed a w := by
  intro l
  induction l with
  | nil =>
    intro listed a w _ hB sh hV hz h
    exact ⟨by simpa [mixB] using hB, h⟩
  | cons x l ih =>
    obtain ⟨i, k, o⟩ := x
    intro listed a w ho hB sh hV hz h
    have hoi : ops[i]? = some o := ho (i, k, o) (by simp)
    have hol : ∀ x ∈ l, ops[x.1]? = some x.2.2 := fun x hx => ho x (by simp [hx])
    simp only [List.map_cons, mixB, Bool.and_eq_true] at hB
    obtain ⟨hB, hB'⟩ := hB
    rw [List.length_cons]
    by_cases hk : k = 2
    · subst hk
      simp only [beq_self_eq_true, if_true, beq_iff_eq] at hB
      have hr : i ∈ Region.ready md ops listed := by rw [hB]; simp
      refine ⟨fun h0 => (by rw [h0] at hr; cases hr), fun j hj => ?_⟩
      rw [hB] at hj
      have hji : j = i := by simpa using hj
      subst hji
      simp only [wpMix] at h
      refine wpOp_mono (fun a' w' h' => ?_) h
      have hzz : (listed.setIfInBounds j true).getD z true = (listed.getD z true || j == z) := by
        by_cases hjz : j = z
        · subst hjz
          have : j < listed.size := by rw [sh.size]; exact hz
          simp [this]
        · rw [getD_set_ne true hjz]
          simp [hjz]
      have hV' : (listed.setIfInBounds j true).getD z true = false → S w' := fun h0 => h'.1 (by rw [← hzz]; exact h0)
      refine ⟨hV', ih _ _ _ hol hB' (sh.set hr) hV' hz ?_⟩
      rw [hzz]
      exact h'.2
    · have hk2 : (k == 2) = false := by simpa using hk
      rw [hk2] at hB
      simp only [Bool.false_eq_true, if_false, Bool.and_eq_true, bne_iff_ne, Bool.or_eq_true, beq_iff_eq] at hB
      obtain ⟨⟨⟨hiz, hfree⟩, hr⟩, hkk⟩ := hB
      have hr' : i ∈ Region.ready md ops listed := by simpa using hr
      have hzz : (listed.setIfInBounds i true).getD z true = listed.getD z true := getD_set_ne true hiz
      have hV' : (listed.setIfInBounds i true).getD z true = false → S w := by rw [hzz]; exact hV
      rcases hkk with hk0 | ⟨hk1, hw⟩
      · subst hk0
        simp only [wpMix] at h
        obtain ⟨v, hy, h⟩ := h
        refine wpAnyV_first (fun _ => True) hoi (Region.noSelect_spec hsel) (fun c a w h => hQ c _ _ w h) hiz (.inl fun _ => trivial) l.length listed a w sh hV (Region.free_spec hoi hfree) hr' hy ?_
        refine ih _ _ _ hol hB' (sh.set hr') hV' hz ?_
        rw [hzz]; exact h
      · subst hk1
        simp only [wpMix] at h
        obtain ⟨v, hy, h⟩ := h
        refine wpAnyV_first S hoi (Region.noSelect_spec hsel) (fun c a w h => hQ c _ _ w h) hiz (.inr ⟨rfl, ops.size, hw⟩) l.length listed a w sh hV (Region.free_spec hoi hfree) hr' hy ?_
        refine ih _ _ _ hol hB' (sh.set hr') hV' hz ?_
        rw [hzz]; exact h

def pick1 : Nat → List Oper → Option Oper
  | _, [] => none
  | 0, o :: _ => some o
  | n + 1, _ :: l => pick1 n l
theorem pick1_get : ∀ (n : Nat) (l : List Oper), pick1 n l = l[n]?
  | _, [] => by simp [pick1]
  | 0, o :: l => by simp [pick1]
  | n + 1, o :: l => by simp [pick1, pick1_get n l]
def pickL : List (Nat × Nat) → List Oper → List (Nat × Nat × Oper)
  | [], _ => []
  | (i, k) :: r, l => match pick1 i l with
    | some o => (i, k, o) :: pickL r l
    | none => pickL r l
theorem pickL_get : ∀ (r : List (Nat × Nat)) (l : List Oper), ∀ x ∈ pickL r l, l[x.1]? = some x.2.2
  | [], l => by simp [pickL]
  | (i, k) :: r, l => by
    intro x hx
    unfold pickL at hx
    cases h : pick1 i l with
    | none => rw [h] at hx; exact pickL_get r l x hx
    | some o =>
      rw [h] at hx
      simp only [List.mem_cons] at hx
      rcases hx with rfl | hx
      · rw [← pick1_get]; exact h
      · exact pickL_get r l x hx

/-- THE REGION IN ONE ORDER. -/
theorem wp_region_mix {id : Nat} {a : Act} {W : World} {l : List Oper} (ord : List (Nat × Nat)) (z : Nat) (S : World → Prop) (hm : P.follows .mixedOrders = true)
    (hB : (Region.noSelect l.toArray && (pickL ord l).length == l.length && decide (z < l.length) && mixB .any l.toArray z ((pickL ord l).map fun x => (x.1, x.2.1)) (Array.replicate l.length false)) = true)
    (hS : S W.drew) (h : ∀ w, w = W.drew → wpMix P l.toArray (NoPanic Q) S z false (pickL ord l) a w) : (Code.region id l.toArray true).wp P Q a W := by
  refine wp_region_noPanic ?_
  simp only [Bool.and_eq_true, beq_iff_eq, decide_eq_true_eq] at hB
  obtain ⟨⟨⟨hsel, hlen⟩, hz⟩, hmix⟩ := hB
  refine wp_region_any hm (wpAny_of_V (S := S) (z := z) _ _ _ _ ?_)
  have hz0 : (Array.replicate l.toArray.size false).getD z true = false := by simp [hz]
  have H := mix_sound (P := P) (Q := NoPanic Q) (md := .any) (S := S) (z := z) hsel (fun _ _ _ _ h => h) (pickL ord l) (Array.replicate l.toArray.size false) a W.drew (fun x hx => by simpa using pickL_get ord l x hx) (by simpa using hmix)
    ⟨by simp, fun j o hj hl => by
      exfalso
      have : j < l.length := by simpa using (Array.getElem?_eq_some_iff.1 hj).1
      simp [this] at hl⟩ (fun _ => hS) (by simpa using hz) (by rw [hz0]; exact h _ rfl)
  rw [hlen] at H
  simpa using H

/-! ### The steps -/
theorem mx_end {zd : Bool} {a : Act} {w : World} (h : Q .normal a w) : wpMix P ops (NoPanic Q) S z zd [] a w := h
variable {a : Act} {o : Oper} {i : Nat} {l : List (Nat × Nat × Oper)} {zd : Bool} {w : World}
theorem mx_pure (hw : Region.wanted o (yielded ops a.tmps) = true) (h : ∃ v, (∀ w, (execOp a.eval o).run P w = .ok (.value v) w) ∧ wpMix P ops Q S z zd l (a.put o.dst v) w) : wpMix P ops Q S z zd ((i, 0, o) :: l) a w := by
  obtain ⟨v, h1, h2⟩ := h
  exact ⟨v, .inl ⟨hw, fun w _ => h1 w⟩, h2⟩
theorem mx_load (hw : Region.wanted o (yielded ops a.tmps) = true) (h : ∃ v, (∀ w, S w → (execOp a.eval o).run P w = .ok (.value v) w) ∧ wpMix P ops Q S z zd l (a.put o.dst v) w) : wpMix P ops Q S z zd ((i, 1, o) :: l) a w := by
  obtain ⟨v, h1, h2⟩ := h
  exact ⟨v, .inl ⟨hw, h1⟩, h2⟩
theorem mx_skip0 (hw : Region.wanted o (yielded ops a.tmps) = false) (h : wpMix P ops Q S z zd l (a.put o.dst undef) w) : wpMix P ops Q S z zd ((i, 0, o) :: l) a w := ⟨undef, .inr ⟨hw, rfl⟩, h⟩
theorem mx_skip1 (hw : Region.wanted o (yielded ops a.tmps) = false) (h : wpMix P ops Q S z zd l (a.put o.dst undef) w) : wpMix P ops Q S z zd ((i, 1, o) :: l) a w := ⟨undef, .inr ⟨hw, rfl⟩, h⟩
theorem mx_act (hi : ops[i]? = some o) (hw : Region.wanted o (yielded ops a.tmps) = true) (h : ∀ K : Act → World → Prop, Hid (∀ a' w', ((zd || i == z) = false → S w') → wpMix P ops Q S z (zd || i == z) l a' w' → K a' w') → Oper.wp P o a w K Q) : wpMix P ops Q S z zd ((i, 2, o) :: l) a w := by
  show wpOp P ops Q i _ a w
  unfold wpOp
  rw [hi]
  simp only
  rw [if_pos hw]
  refine .inl (h _ (Lib.hid fun a' w' h1 h2 => ⟨h1, h2⟩))
theorem mx_skip2 (hi : ops[i]? = some o) (hw : Region.wanted o (yielded ops a.tmps) = false) (hS : (zd || i == z) = false → S w) (h : wpMix P ops Q S z (zd || i == z) l (a.put o.dst undef) w) : wpMix P ops Q S z zd ((i, 2, o) :: l) a w := by
  show wpOp P ops Q i _ a w
  unfold wpOp
  rw [hi]
  simp only
  rw [if_neg (by rw [hw]; simp)]
  exact ⟨hS, h⟩

end
end Go.Proofs.Ytdecgbgndffkkaa
