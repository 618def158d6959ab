/- What a tree that lives in memory is, in terms of what it holds; sizes. Plain Lean. -/
import Derived.Test.YtdecgbgndffkkaaRt
set_option linter.unusedVariables false
set_option linter.unusedSimpArgs false
namespace Go.Proofs.Ytdecgbgndffkkaa
open Tr

/-- the tree t holds F -/
structure Live (t : TS) (F : Bool → Sh) : Prop where
  holds : Holds t F
  ok : okT t

theorem Sh.cnt_le (T : Sh) : T.cnt ≤ T.size := by
  induction T with
  | nil => simp [Sh.cnt, Sh.size]
  | nd o l r ihl ihr => simp only [Sh.cnt, Sh.size]; split <;> omega
theorem cntF_le (F : Bool → Sh) : cntF F ≤ szF F := by
  have := (F false).cnt_le
  have := (F true).cnt_le
  unfold cntF szF
  omega
theorem Live.n {t : TS} {F : Bool → Sh} (h : Live t F) : t.n = (cntF F : Int) := by
  obtain ⟨T0, T1, H, h0, h1⟩ := h.holds
  rw [H.n, cntF, h0, h1]
  omega
theorem Live.nodes {t : TS} {F : Bool → Sh} (h : Live t F) : szF F + t.fr.length = t.ar.length := by
  obtain ⟨T0, T1, H, h0, h1⟩ := h.holds
  have := H.pm.length
  rw [List.length_append, idx_size, idx_size] at this
  rw [szF, h0, h1]
  exact this
theorem Live.new : Live newTS F0 := ⟨holds_new, ⟨⟨by decide, by decide⟩, by simp [newTS]⟩⟩
theorem Live.len2 {t : TS} {F : Bool → Sh} (h : Live t F) : 2 ≤ t.ar.length := h.ok.len
/-- with a prefix more, if it may be -/
def putS (F : Bool → Sh) (p : Px) (v : Int) : Bool → Sh := if sanePx p = true then putF F p v else F
def delS (F : Bool → Sh) (p : Px) : Bool → Sh := if V F p = none then F else delF F p
theorem Live.put {t : TS} {F : Bool → Sh} (h : Live t F) (p : Px) (v : Int) : Live (putT t p v) (putS F p v) ∧ (putT t p v).ar.length ≤ t.ar.length + 128 ∧ (sanePx p = true → (putT t p v).ar.length = max t.ar.length (szF (putS F p v))) := by
  by_cases hs : sanePx p = true
  · obtain ⟨h1, h2, h3⟩ := h.holds.put hs v
    unfold putS
    rw [if_pos hs]
    exact ⟨⟨h1, h.ok.put p v⟩, h2, fun _ => h3⟩
  · unfold putS putT
    rw [if_neg hs, if_neg hs]
    exact ⟨h, by omega, fun h => (hs h).elim⟩
theorem Live.rank {t : TS} {F : Bool → Sh} (h : Live t F) : ∃ rk : Nat → Nat, upOk t rk ∧ (∀ p, findI t.ar p ≠ -1 → 0 < rk (findI t.ar p).toNat) ∧ (∀ i, rk i ≤ t.ar.length + 2) ∧
    (∀ p, Live (delT rk t p) (delS F p) ∧ (delT rk t p).ar.length = t.ar.length) := by
  obtain ⟨rk, h1, h2, h3, h4⟩ := h.holds.rank
  refine ⟨rk, h1, h2, h3, fun p => ?_⟩
  by_cases hv : V F p = none
  · have : delT rk t p = t := by
      unfold delT
      rw [h.holds.get_, hv]
      rfl
    rw [this, delS, if_pos hv]
    exact ⟨h, rfl⟩
  · obtain ⟨q1, q2⟩ := h4 p hv
    rw [delS, if_neg hv]
    exact ⟨⟨q1, h.ok.del h1 h2 p⟩, q2⟩
theorem V_putS {F : Bool → Sh} (p : Px) (v : Int) (q : Px) : V (putS F p v) q = if sanePx p = true ∧ q = p then some v else V F q := by
  unfold putS
  by_cases hs : sanePx p = true
  · rw [if_pos hs, V_put hs]
    simp [hs]
  · rw [if_neg hs, if_neg (fun h => hs h.1)]
theorem V_delS {F : Bool → Sh} (p : Px) (q : Px) : V (delS F p) q = if q = p then none else V F q := by
  unfold delS
  by_cases hv : V F p = none
  · rw [if_pos hv]
    split
    · rename_i h; rw [h, hv]
    · rfl
  · rw [if_neg hv, V_del (V_sane hv)]

theorem size_put_le (T : Sh) (ds : List Bool) (v : Int) : (T.put ds v).size ≤ T.size + ds.length + 1 := by
  induction ds generalizing T with
  | nil => cases T <;> simp [Sh.put, Sh.size]
  | cons b ds ih =>
    cases T with
    | nil =>
      have := ih .nil
      cases b <;> simp only [Sh.put, Sh.size, List.length_cons] at this ⊢ <;> omega
    | nd o l r =>
      have hl := ih l
      have hr := ih r
      cases b <;> simp only [Sh.put, Sh.size, List.length_cons] <;> omega

/-! ### Under: what is still to be told -/
/-- of places that wait (the last one first), what they hold -/
def pend (l : List (Tr × Px)) : List (Px × Int) := l.reverse.flatMap fun x => entsP x.1 x.2
theorem pend_app (l : List (Tr × Px)) (x : Tr × Px) : pend (l ++ [x]) = entsP x.1 x.2 ++ pend l := by simp [pend]
theorem pend_nil : pend [] = [] := rfl
/-- a node is told: what is left -/
def kidsW (l r : Tr) (p : Px) : List (Tr × Px) := if hasChild p = true then (if r.isNil then [] else [(r, childP p 1)]) ++ (if l.isNil then [] else [(l, childP p 0)]) else []
theorem entsP_nil (p : Px) : entsP Tr.nil p = [] := rfl
theorem pend_kids (s : List (Tr × Px)) (i : Nat) (e : Bool) (v : Int) (l r : Tr) (p : Px) : (if e then [(p, v)] else []) ++ pend (s ++ kidsW l r p) = pend (s ++ [(nd i e v l r, p)]) := by
  rw [pend_app]
  simp only [entsP, kidsW]
  by_cases hc : hasChild p = true
  · rw [if_pos hc, if_pos hc]
    cases l <;> cases r <;> simp [isNil, pend, entsP_nil]
  · rw [if_neg hc, if_neg hc]
    simp
/-- nodes that wait -/
def wsize (l : List (Tr × Px)) : Nat := (l.map fun x => x.1.idx.length).sum
theorem wsize_app (l m : List (Tr × Px)) : wsize (l ++ m) = wsize l + wsize m := by simp [wsize]
theorem wsize_kids (l r : Tr) (p : Px) : wsize (kidsW l r p) ≤ l.idx.length + r.idx.length := by
  unfold kidsW
  by_cases hc : hasChild p = true
  · rw [if_pos hc]
    cases l <;> cases r <;> simp [isNil, wsize, idx] <;> omega
  · rw [if_neg hc]; simp [wsize]

theorem sub_len (T : Tr) (ds : List Bool) : (T.subT ds).idx.length ≤ T.idx.length := by
  induction ds generalizing T with
  | nil => simp
  | cons b ds ih =>
    cases T with
    | nil => simp
    | nd i e v l r =>
      have hl := ih l
      have hr := ih r
      cases b <;> simp only [subT, idx, List.length_cons, List.length_append] <;> omega
theorem entsP_len (T : Tr) (p : Px) : (entsP T p).length ≤ T.idx.length := by
  induction T generalizing p with
  | nil => simp [entsP, idx]
  | nd i e v l r ihl ihr =>
    have h1 := ihl (childP p 0)
    have h2 := ihr (childP p 1)
    simp only [entsP, idx, List.length_cons, List.length_append]
    by_cases hc : hasChild p = true
    · rw [if_pos hc]; cases e <;> simp <;> omega
    · rw [if_neg hc]; cases e <;> simp

theorem wlen {l : List (Tr × Px)} (h : ∀ x ∈ l, x.1 ≠ Tr.nil) : l.length ≤ wsize l := by
  induction l with
  | nil => simp
  | cons x l ih =>
    have h1 := ih fun y hy => h y (by simp [hy])
    have h2 : 1 ≤ x.1.idx.length := idx_pos fun e => h x (by simp) (at_ne.1 e)
    simp only [wsize, List.map_cons, List.sum_cons, List.length_cons] at h1 ⊢
    omega
theorem kidsW_mem {l r : Tr} {p : Px} {x : Tr × Px} (h : x ∈ kidsW l r p) : x.1 ≠ Tr.nil ∧ (x.1 = l ∨ x.1 = r) := by
  unfold kidsW at h
  split at h
  · simp only [List.mem_append] at h
    rcases h with h | h
    · split at h
      · simp at h
      · rename_i hn
        simp only [List.mem_singleton] at h
        subst h
        exact ⟨fun e => hn (isNil_iff.2 e), .inr rfl⟩
    · split at h
      · simp at h
      · rename_i hn
        simp only [List.mem_singleton] at h
        subst h
        exact ⟨fun e => hn (isNil_iff.2 e), .inl rfl⟩
  · simp at h
/-- what a round of Under hands on -/
structure UnNext (ar : List Nd) (TOT : List (Px × Int)) (NT kk : Nat) (out : List (Px × Int)) (stk : List (Tr × Px)) : Prop where
  all : ∀ x ∈ stk, x.1 ≠ Tr.nil ∧ ∃ up, Rep ar up x.1
  tot : out ++ pend stk = TOT
  size : out.length + wsize stk ≤ NT
  less : wsize stk < kk
theorem unNext {ar : List Nd} {TOT : List (Px × Int)} {NT kk : Nat} {out : List (Px × Int)} {stk : List (Tr × Px)} {i : Nat} {e : Bool} {u : Int} {l r : Tr} {p : Px} {up : Int}
    (hall : ∀ x ∈ stk ++ [(nd i e u l r, p)], x.1 ≠ Tr.nil ∧ ∃ up, Rep ar up x.1) (hR : Rep ar up (nd i e u l r)) (htot : out ++ pend (stk ++ [(nd i e u l r, p)]) = TOT) (hk : wsize (stk ++ [(nd i e u l r, p)]) = kk) (hsz : out.length + kk ≤ NT) :
    UnNext ar TOT NT kk (out ++ if e then [(p, u)] else []) (stk ++ kidsW l r p) := by
  have h1 := wsize_app stk [(nd i e u l r, p)]
  have h2 := wsize_app stk (kidsW l r p)
  have h3 := wsize_kids l r p
  have h4 : wsize [(nd i e u l r, p)] = 1 + (l.idx.length + r.idx.length) := by simp [wsize, idx]; omega
  refine ⟨fun x hx => ?_, ?_, ?_, ?_⟩
  · rcases List.mem_append.1 hx with hx | hx
    · exact hall x (by simp [hx])
    · obtain ⟨q1, q2⟩ := kidsW_mem hx
      refine ⟨q1, i, ?_⟩
      rcases q2 with q2 | q2
      · rw [q2]; exact hR.2.1
      · rw [q2]; exact hR.2.2
  · rw [← htot, ← pend_kids, List.append_assoc]
  · rw [List.length_append]
    have : (if e = true then [(p, u)] else []).length ≤ 1 := by split <;> simp
    omega
  · omega
/-- what the inner loop has pushed, k sides being to come -/
def pushed (k : Nat) (l r : Tr) (p : Px) : List (Tr × Px) := if k = 2 then [] else if k = 1 then (if hasChild p && !r.isNil then [(r, childP p 1)] else []) else kidsW l r p
theorem pushed1 (l r : Tr) (p : Px) : pushed 1 l r p = pushed 2 l r p ++ if hasChild p && !r.isNil then [(r, childP p 1)] else [] := by simp [pushed]
theorem pushed0 (l r : Tr) (p : Px) : pushed 0 l r p = pushed 1 l r p ++ if hasChild p && !l.isNil then [(l, childP p 0)] else [] := by
  simp only [pushed, kidsW]
  cases hasChild p <;> cases l <;> cases r <;> simp [isNil]
theorem pushed_len (k : Nat) (l r : Tr) (p : Px) : (pushed k l r p).length ≤ 2 := by
  unfold pushed kidsW
  cases hasChild p <;> cases l <;> cases r <;> simp [isNil] <;> (split <;> (try split)) <;> simp

end Go.Proofs.Ytdecgbgndffkkaa
