/- Trees of digits in plain Lean: what is put and taken out, what is there, above, under, inside. No memory, no program. -/
import Init.Data.List
namespace Go.Proofs.Ytdecgbgndffkkaa

inductive Sh where
  | nil
  | nd (o : Option Int) (l r : Sh)
  deriving DecidableEq

namespace Sh
def get : Sh → List Bool → Option Int
  | nil, _ => none
  | nd o _ _, [] => o
  | nd _ l _, false :: ds => l.get ds
  | nd _ _ r, true :: ds => r.get ds
def sub : Sh → List Bool → Sh
  | nil, _ => nil
  | nd o l r, [] => nd o l r
  | nd _ l _, false :: ds => l.sub ds
  | nd _ _ r, true :: ds => r.sub ds
def put : Sh → List Bool → Int → Sh
  | nil, [], v => nd (some v) nil nil
  | nil, false :: ds, v => nd none (put nil ds v) nil
  | nil, true :: ds, v => nd none nil (put nil ds v)
  | nd _ l r, [], v => nd (some v) l r
  | nd o l r, false :: ds, v => nd o (l.put ds v) r
  | nd o l r, true :: ds, v => nd o l (r.put ds v)
/-- a node, if anything needs it -/
def mk (o : Option Int) (l r : Sh) : Sh := if o = none ∧ l = nil ∧ r = nil then nil else nd o l r
def del : Sh → List Bool → Sh
  | nil, _ => nil
  | nd _ l r, [] => mk none l r
  | nd o l r, false :: ds => mk o (l.del ds) r
  | nd o l r, true :: ds => mk o l (r.del ds)
/-- a root stays -/
def rt : Sh → Sh
  | nil => nd none nil nil
  | nd o l r => nd o l r

@[simp] theorem get_nil (ds : List Bool) : nil.get ds = none := by cases ds <;> rfl
@[simp] theorem sub_nil (ds : List Bool) : nil.sub ds = nil := by cases ds <;> rfl
@[simp] theorem del_nil (ds : List Bool) : nil.del ds = nil := by cases ds <;> rfl
@[simp] theorem sub_e (T : Sh) : T.sub [] = T := by cases T <;> rfl
theorem get_mk (o : Option Int) (l r : Sh) (ds : List Bool) : (mk o l r).get ds = (nd o l r).get ds := by
  unfold mk
  split
  · rename_i h
    obtain ⟨rfl, rfl, rfl⟩ := h
    match ds with
    | [] => rfl
    | false :: ds => simp [get]
    | true :: ds => simp [get]
  · rfl
theorem get_rt (T : Sh) (ds : List Bool) : T.rt.get ds = T.get ds := by
  cases T with
  | nil => match ds with
    | [] => rfl
    | false :: ds => simp [rt, get]
    | true :: ds => simp [rt, get]
  | nd o l r => rfl
theorem get_sub (T : Sh) (ds es : List Bool) : T.get (ds ++ es) = (T.sub ds).get es := by
  induction ds generalizing T with
  | nil => simp
  | cons b ds ih => cases T <;> cases b <;> simp [get, sub, ih]
theorem sub_sub (T : Sh) (ds es : List Bool) : T.sub (ds ++ es) = (T.sub ds).sub es := by
  induction ds generalizing T with
  | nil => simp
  | cons b ds ih => cases T <;> cases b <;> simp [sub, ih]
theorem get_sub' (T : Sh) (ds : List Bool) : T.get ds = (T.sub ds).get [] := by
  have := T.get_sub ds []
  simpa using this

theorem get_put (T : Sh) (ds es : List Bool) (v : Int) : (T.put ds v).get es = if es = ds then some v else T.get es := by
  induction ds generalizing T es with
  | nil =>
    cases T <;> match es with
      | [] => simp [put, get]
      | false :: es => simp [put, get]
      | true :: es => simp [put, get]
  | cons b ds ih =>
    cases T <;> cases b <;> match es with
      | [] => simp [put, get]
      | false :: es => simp [put, get, ih]
      | true :: es => simp [put, get, ih]

theorem get_del (T : Sh) (ds es : List Bool) : (T.del ds).get es = if es = ds then none else T.get es := by
  induction ds generalizing T es with
  | nil =>
    cases T with
    | nil => simp
    | nd o l r =>
      simp only [del, get_mk]
      match es with
      | [] => simp [get]
      | false :: es => simp [get]
      | true :: es => simp [get]
  | cons b ds ih =>
    cases T with
    | nil => simp
    | nd o l r =>
      cases b <;> simp only [del, get_mk] <;> match es with
      | [] => simp [get]
      | false :: es => simp [get, ih]
      | true :: es => simp [get, ih]

/-- nothing there that nothing needs -/
def Prn : Sh → Prop
  | nil => True
  | nd o l r => (o ≠ none ∨ l ≠ nil ∨ r ≠ nil) ∧ l.Prn ∧ r.Prn
/-- likewise of a root -/
def PrnR : Sh → Prop
  | nil => False
  | nd _ l r => l.Prn ∧ r.Prn
theorem put_ne (T : Sh) (ds : List Bool) (v : Int) : T.put ds v ≠ nil := by
  cases T <;> match ds with
    | [] => simp [put]
    | false :: ds => simp [put]
    | true :: ds => simp [put]
theorem Prn.put {T : Sh} (h : T.Prn) (ds : List Bool) (v : Int) : (T.put ds v).Prn := by
  induction ds generalizing T with
  | nil =>
    cases T with
    | nil => exact ⟨.inl (by simp), trivial, trivial⟩
    | nd o l r => exact ⟨.inl (by simp), h.2⟩
  | cons b ds ih =>
    cases T with
    | nil =>
      cases b
      · exact ⟨.inr (.inl (put_ne _ _ _)), ih (T := nil) trivial, trivial⟩
      · exact ⟨.inr (.inr (put_ne _ _ _)), trivial, ih (T := nil) trivial⟩
    | nd o l r =>
      cases b
      · exact ⟨.inr (.inl (put_ne _ _ _)), ih h.2.1, h.2.2⟩
      · exact ⟨.inr (.inr (put_ne _ _ _)), h.2.1, ih h.2.2⟩
theorem PrnR.put {T : Sh} (h : T.PrnR) (ds : List Bool) (v : Int) : (T.put ds v).PrnR := by
  cases T with
  | nil => exact h.elim
  | nd o l r => match ds with
    | [] => exact h
    | false :: ds => exact ⟨Prn.put h.1 _ _, h.2⟩
    | true :: ds => exact ⟨h.1, Prn.put h.2 _ _⟩
theorem Prn.mk {o : Option Int} {l r : Sh} (hl : l.Prn) (hr : r.Prn) : (mk o l r).Prn := by
  unfold Sh.mk
  split
  · trivial
  · rename_i h
    refine ⟨?_, hl, hr⟩
    by_cases h1 : o = none
    · by_cases h2 : l = nil
      · exact .inr (.inr fun h3 => h ⟨h1, h2, h3⟩)
      · exact .inr (.inl h2)
    · exact .inl h1
theorem Prn.del {T : Sh} (h : T.Prn) (ds : List Bool) : (T.del ds).Prn := by
  induction ds generalizing T with
  | nil =>
    cases T with
    | nil => trivial
    | nd o l r => exact Prn.mk h.2.1 h.2.2
  | cons b ds ih =>
    cases T with
    | nil => trivial
    | nd o l r =>
      cases b
      · exact Prn.mk (ih h.2.1) h.2.2
      · exact Prn.mk h.2.1 (ih h.2.2)
theorem PrnR.rt {T : Sh} (h : T.Prn) : T.rt.PrnR := by
  cases T with
  | nil => exact ⟨trivial, trivial⟩
  | nd o l r => exact h.2
theorem PrnR.del {T : Sh} (h : T.PrnR) (ds : List Bool) : (T.del ds).rt.PrnR := by
  apply PrnR.rt
  cases T with
  | nil => exact h.elim
  | nd o l r => match ds with
    | [] => exact Prn.mk h.1 h.2
    | false :: ds => exact Prn.mk (Prn.del h.1 _) h.2
    | true :: ds => exact Prn.mk h.1 (Prn.del h.2 _)
theorem Prn.some {T : Sh} (h : T.Prn) (hn : T ≠ nil) : ∃ ds, T.get ds ≠ none := by
  induction T with
  | nil => exact (hn rfl).elim
  | nd o l r ihl ihr =>
    obtain ⟨h1 | h1 | h1, h2, h3⟩ := h
    · exact ⟨[], h1⟩
    · obtain ⟨ds, hd⟩ := ihl h2 h1; exact ⟨false :: ds, hd⟩
    · obtain ⟨ds, hd⟩ := ihr h3 h1; exact ⟨true :: ds, hd⟩
theorem Prn.sub {T : Sh} (h : T.Prn) (ds : List Bool) : (T.sub ds).Prn := by
  induction ds generalizing T with
  | nil => simpa using h
  | cons b ds ih =>
    cases T with
    | nil => trivial
    | nd o l r =>
      cases b
      · exact ih h.2.1
      · exact ih h.2.2

/-- has it a kid? -/
def kids : Sh → Bool
  | nil => false
  | nd _ l r => decide (l ≠ nil) || decide (r ≠ nil)
theorem kids_some {T : Sh} (h : T.PrnR ∨ T.Prn) : T.kids = true ↔ ∃ es, es ≠ [] ∧ T.get es ≠ none := by
  cases T with
  | nil => simp [kids]
  | nd o l r =>
    have hp : l.Prn ∧ r.Prn := by rcases h with h | h; exact h; exact h.2
    simp only [kids, Bool.or_eq_true, decide_eq_true_eq]
    constructor
    · rintro (h | h)
      · obtain ⟨ds, hd⟩ := Prn.some hp.1 h; exact ⟨false :: ds, by simp, hd⟩
      · obtain ⟨ds, hd⟩ := Prn.some hp.2 h; exact ⟨true :: ds, by simp, hd⟩
    · rintro ⟨es, h1, h2⟩
      match es with
      | [] => exact (h1 rfl).elim
      | false :: es =>
        left; rintro rfl; simp [get] at h2
      | true :: es =>
        right; rintro rfl; simp [get] at h2
theorem kids_sub {T : Sh} (h : T.PrnR) (ds : List Bool) : (T.sub ds).kids = true ↔ ∃ es, es ≠ [] ∧ T.get (ds ++ es) ≠ none := by
  have hp : (T.sub ds).PrnR ∨ (T.sub ds).Prn := by
    cases T with
    | nil => exact h.elim
    | nd o l r => match ds with
      | [] => exact .inl h
      | false :: ds => exact .inr (Prn.sub h.1 ds)
      | true :: ds => exact .inr (Prn.sub h.2 ds)
  rw [kids_some hp]
  simp only [get_sub]

/-! ### In order -/
/-- ahead: fewer digits of the same, or the first unlike digit 0 -/
def lt : List Bool → List Bool → Bool
  | _, [] => false
  | [], _ :: _ => true
  | false :: a, false :: b => lt a b
  | true :: a, true :: b => lt a b
  | false :: _, true :: _ => true
  | true :: _, false :: _ => false
def ents : Sh → List Bool → List (List Bool × Int)
  | nil, _ => []
  | nd o l r, p => (match o with | none => [] | some v => [(p, v)]) ++ (l.ents (p ++ [false]) ++ r.ents (p ++ [true]))
theorem lt_app (p : List Bool) (a b : List Bool) : lt (p ++ a) (p ++ b) = lt a b := by
  induction p with
  | nil => rfl
  | cons x p ih => cases x <;> simpa [lt] using ih
theorem mem_ents {T : Sh} {p ds : List Bool} {v : Int} : (ds, v) ∈ T.ents p ↔ ∃ es, ds = p ++ es ∧ T.get es = some v := by
  induction T generalizing p with
  | nil => simp [ents]
  | nd o l r ihl ihr =>
    simp only [ents, List.mem_append, ihl, ihr]
    constructor
    · rintro (h | ⟨es, rfl, h⟩ | ⟨es, rfl, h⟩)
      · cases o with
        | none => simp at h
        | some u => simp at h; exact ⟨[], by simp [h], by simp [get, h]⟩
      · exact ⟨false :: es, by simp, by simpa [get] using h⟩
      · exact ⟨true :: es, by simp, by simpa [get] using h⟩
    · rintro ⟨es, rfl, h⟩
      match es with
      | [] => left; simp only [get] at h; subst h; simp
      | false :: es => right; left; exact ⟨es, by simp, by simpa [get] using h⟩
      | true :: es => right; right; exact ⟨es, by simp, by simpa [get] using h⟩
theorem ents_sorted (T : Sh) (p : List Bool) : (T.ents p).Pairwise (fun x y => lt x.1 y.1 = true) := by
  induction T generalizing p with
  | nil => simp [ents]
  | nd o l r ihl ihr =>
    simp only [ents]
    rw [List.pairwise_append, List.pairwise_append]
    refine ⟨?_, ⟨ihl _, ihr _, ?_⟩, ?_⟩
    · cases o <;> simp
    · rintro ⟨a, u⟩ ha ⟨b, v⟩ hb
      obtain ⟨a', rfl, _⟩ := mem_ents.1 ha
      obtain ⟨b', rfl, _⟩ := mem_ents.1 hb
      simp only [List.append_assoc, lt_app]
      rfl
    · rintro ⟨a, u⟩ ha ⟨b, v⟩ hb
      have ha' : a = p := by
        cases o with
        | none => simp at ha
        | some u' => simp at ha; exact ha.1
      subst ha'
      rcases List.mem_append.1 hb with hb | hb
      · obtain ⟨b', rfl, _⟩ := mem_ents.1 hb
        have := lt_app a [] (false :: b')
        simpa [lt] using this
      · obtain ⟨b', rfl, _⟩ := mem_ents.1 hb
        have := lt_app a [] (true :: b')
        simpa [lt] using this

/-! ### Above: on the way down -/
def above : Sh → Nat → List Bool → List (Nat × Int)
  | nil, _, _ => []
  | nd o _ _, k, [] => (match o with | none => [] | some v => [(k, v)])
  | nd o l _, k, false :: ds => (match o with | none => [] | some v => [(k, v)]) ++ l.above (k + 1) ds
  | nd o _ r, k, true :: ds => (match o with | none => [] | some v => [(k, v)]) ++ r.above (k + 1) ds
@[simp] theorem above_nil (k : Nat) (ds : List Bool) : nil.above k ds = [] := by cases ds <;> rfl
/-- how many nodes, how many that end -/
def size : Sh → Nat
  | nil => 0
  | nd _ l r => 1 + l.size + r.size
def cnt : Sh → Nat
  | nil => 0
  | nd o l r => (if o = none then 0 else 1) + l.cnt + r.cnt
theorem cnt_ents (T : Sh) (p : List Bool) : (T.ents p).length = T.cnt := by
  induction T generalizing p with
  | nil => rfl
  | nd o l r ihl ihr => cases o <;> simp [ents, cnt, ihl, ihr] <;> omega
theorem cnt_put (T : Sh) (ds : List Bool) (v : Int) : (T.put ds v).cnt = T.cnt + if T.get ds = none then 1 else 0 := by
  induction ds generalizing T with
  | nil =>
    cases T with
    | nil => simp [put, cnt]
    | nd o l r => cases o <;> simp [put, cnt, get]; omega
  | cons b ds ih =>
    cases T with
    | nil =>
      have := ih nil
      cases b <;> simp [put, cnt] at this ⊢ <;> exact this
    | nd o l r =>
      cases b
      · cases h : l.get ds <;> simp [put, cnt, get, ih, h] <;> omega
      · cases h : r.get ds <;> simp [put, cnt, get, ih, h] <;> omega
theorem cnt_mk (o : Option Int) (l r : Sh) : (mk o l r).cnt = (nd o l r).cnt := by
  unfold mk
  split
  · rename_i h
    obtain ⟨rfl, rfl, rfl⟩ := h
    simp [cnt]
  · rfl
theorem cnt_rt (T : Sh) : T.rt.cnt = T.cnt := by cases T <;> simp [rt, cnt]
theorem cnt_del (T : Sh) (ds : List Bool) : (T.del ds).cnt = T.cnt - if T.get ds = none then 0 else 1 := by
  induction ds generalizing T with
  | nil =>
    cases T with
    | nil => simp [cnt]
    | nd o l r => cases o <;> simp [del, cnt_mk, cnt, get]; omega
  | cons b ds ih =>
    have hc : ∀ (T : Sh), T.get ds ≠ none → 1 ≤ T.cnt := by
      intro T h
      rw [← T.cnt_ents []]
      cases h' : T.get ds with
      | none => exact (h h').elim
      | some v =>
        have : (ds, v) ∈ T.ents [] := mem_ents.2 ⟨ds, by simp, h'⟩
        exact List.length_pos_of_mem this
    cases T with
    | nil => simp [cnt]
    | nd o l r =>
      cases b
      · have := hc l
        cases h : l.get ds <;> simp [h] at this <;> simp [del, cnt_mk, cnt, get, ih, h] <;> omega
      · have := hc r
        cases h : r.get ds <;> simp [h] at this <;> simp [del, cnt_mk, cnt, get, ih, h] <;> omega
end Sh

end Go.Proofs.Ytdecgbgndffkkaa
