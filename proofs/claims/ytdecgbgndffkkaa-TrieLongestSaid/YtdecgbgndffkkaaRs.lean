/- The program's tree as a map from prefixes to numbers. Plain Lean. -/
import Derived.Test.YtdecgbgndffkkaaRd
import Derived.Test.YtdecgbgndffkkaaKy
set_option linter.unusedVariables false
set_option linter.unusedSimpArgs false
namespace Go.Proofs.Ytdecgbgndffkkaa
open Tr

/-! ### How deep a node lies -/
def Tr.dep : Tr → Nat → Nat → Nat
  | nil, _, _ => 0
  | nd j _ _ l r, k, i => if i = j then k else l.dep (k + 1) i + r.dep (k + 1) i
theorem dep_zero {T : Tr} {k i : Nat} (h : i ∉ T.idx) : T.dep k i = 0 := by
  induction T generalizing k with
  | nil => rfl
  | nd j e v l r ihl ihr =>
    simp only [idx, List.mem_cons, List.mem_append, not_or] at h
    simp [dep, h.1, ihl h.2.1, ihr h.2.2]
theorem dep_ge {T : Tr} {k i : Nat} (h : i ∈ T.idx) : k ≤ T.dep k i := by
  induction T generalizing k with
  | nil => simp [idx] at h
  | nd j e v l r ihl ihr =>
    simp only [idx, List.mem_cons, List.mem_append] at h
    unfold dep
    split
    · exact Nat.le_refl _
    · rcases h with h | h | h
      · contradiction
      · have := ihl (k := k + 1) h; omega
      · have := ihr (k := k + 1) h; omega
theorem dep_up {ar : List Nd} {up : Int} {T : Tr} (hr : Rep ar up T) (hn : T.idx.Nodup) {k i : Nat} (hi : i ∈ T.idx) {x : Nd} (hx : ar[i]? = some x) :
    (T.at_ = i ∧ x.up = up ∧ T.dep k i = k) ∨ (∃ j ∈ T.idx, x.up = (j : Int) ∧ T.dep k j < T.dep k i) := by
  induction T generalizing k up with
  | nil => simp [idx] at hi
  | nd j e v l r ihl ihr =>
    obtain ⟨h1, h2, h3⟩ := hr
    simp only [idx, List.nodup_cons, List.mem_append, not_or] at hn
    obtain ⟨⟨n1, n2⟩, n3⟩ := hn
    obtain ⟨n4, n5, n6⟩ := List.nodup_append.1 n3
    by_cases hij : i = j
    · subst hij
      rw [hx] at h1
      simp only [Option.some.injEq] at h1
      subst h1
      exact .inl ⟨rfl, rfl, by simp [dep]⟩
    · right
      simp only [idx, List.mem_cons, List.mem_append, hij, false_or] at hi
      rcases hi with hi | hi
      · have hz : r.dep (k + 1) i = 0 := dep_zero fun h => n6 _ hi _ h rfl
        rcases ihl h2 n4 hi (k := k + 1) with ⟨q1, q2, q3⟩ | ⟨m, q1, q2, q3⟩
        · refine ⟨j, by simp [idx], q2, ?_⟩
          simp only [dep, if_true, if_neg hij, q3]
          omega
        · refine ⟨m, by simp [idx, q1], q2, ?_⟩
          have hm : m ≠ j := by rintro rfl; exact n1 q1
          have hz2 : r.dep (k + 1) m = 0 := dep_zero fun h => n6 _ q1 _ h rfl
          simp only [dep, if_neg hm, if_neg hij]
          omega
      · have hz : l.dep (k + 1) i = 0 := dep_zero fun h => n6 _ h _ hi rfl
        rcases ihr h3 n5 hi (k := k + 1) with ⟨q1, q2, q3⟩ | ⟨m, q1, q2, q3⟩
        · refine ⟨j, by simp [idx], q2, ?_⟩
          simp only [dep, if_true, if_neg hij, q3]
          omega
        · refine ⟨m, by simp [idx, q1], q2, ?_⟩
          have hm : m ≠ j := by rintro rfl; exact n2 q1
          have hz2 : l.dep (k + 1) m = 0 := dep_zero fun h => n6 _ h _ q1 rfl
          simp only [dep, if_neg hm, if_neg hij]
          omega
theorem dep_sub {T : Tr} (hn : T.idx.Nodup) {ds : List Bool} {i : Nat} {e : Bool} {v : Int} {l r : Tr} (h : T.subT ds = nd i e v l r) (k : Nat) : T.dep k i = k + ds.length := by
  induction ds generalizing T k with
  | nil => rw [subT_e] at h; subst h; simp [dep]
  | cons b ds ih =>
    cases T with
    | nil => simp at h
    | nd j e' v' l' r' =>
      simp only [idx, List.nodup_cons, List.mem_append, not_or] at hn
      obtain ⟨⟨n1, n2⟩, n3⟩ := hn
      obtain ⟨n4, n5, n6⟩ := List.nodup_append.1 n3
      cases b
      · have hi : i ∈ l'.idx := sub_idx l' ds i (by simp only [subT] at h; rw [h]; simp [idx])
        have hij : i ≠ j := by rintro rfl; exact n1 hi
        have hz : r'.dep (k + 1) i = 0 := dep_zero fun h => n6 _ hi _ h rfl
        simp only [dep, if_neg hij, hz, ih n4 h (k + 1), List.length_cons]
        omega
      · have hi : i ∈ r'.idx := sub_idx r' ds i (by simp only [subT] at h; rw [h]; simp [idx])
        have hij : i ≠ j := by rintro rfl; exact n2 hi
        have hz : l'.dep (k + 1) i = 0 := dep_zero fun h => n6 _ h _ hi rfl
        simp only [dep, if_neg hij, hz, ih n5 h (k + 1), List.length_cons]
        omega

/-! ### The two trees -/
structure St (t : TS) (T0 T1 : Tr) : Prop where
  r0 : Rep t.ar (-1) T0
  r1 : Rep t.ar (-1) T1
  a0 : T0.at_ = 0
  a1 : T1.at_ = 1
  pm : Pm (T0.idx ++ T1.idx) t
  n : t.n = (T0.sh.cnt : Int) + T1.sh.cnt
  p0 : T0.sh.PrnR
  p1 : T1.sh.PrnR
  d0 : ∀ ds, T0.sh.get ds ≠ none → ds.length ≤ 32
  d1 : ∀ ds, T1.sh.get ds ≠ none → ds.length ≤ 128
/-- the tree holds these -/
def Holds (t : TS) (F : Bool → Sh) : Prop := ∃ T0 T1, St t T0 T1 ∧ F false = T0.sh ∧ F true = T1.sh
/-- the number of a prefix -/
def V (F : Bool → Sh) (p : Px) : Option Int := if sanePx p = true then (F p.a.v6).get (key p) else none
def F0 : Bool → Sh := fun _ => .nd none .nil .nil
def putF (F : Bool → Sh) (p : Px) (v : Int) : Bool → Sh := fun b => if b = p.a.v6 then (F b).put (key p) v else F b
def delF (F : Bool → Sh) (p : Px) : Bool → Sh := fun b => if b = p.a.v6 then ((F b).del (key p)).rt else F b

/-- how many nodes, how many prefixes -/
def szF (F : Bool → Sh) : Nat := (F false).size + (F true).size
def cntF (F : Bool → Sh) : Nat := (F false).cnt + (F true).cnt
theorem St.perm {t : TS} {T0 T1 : Tr} (h : St t T0 T1) : Pm (T1.idx ++ T0.idx) t := h.pm.of_perm List.perm_append_comm
theorem Tr.ne_of_at {T : Tr} {x : Int} (h : T.at_ = x) (hx : 0 ≤ x) : T ≠ nil := by
  rintro rfl
  simp [at_] at h
  omega

theorem holds_new : Holds newTS F0 := by
  refine ⟨nd 0 false 0 nil nil, nd 1 false 0 nil nil, ⟨⟨rfl, trivial, trivial⟩, ⟨rfl, trivial, trivial⟩, rfl, rfl, ⟨?_, by simp [newTS]⟩, rfl, ⟨trivial, trivial⟩, ⟨trivial, trivial⟩, ?_, ?_⟩, rfl, rfl⟩
  · simp [newTS, idx, List.range, List.range.loop]
  · intro ds h; exact (h (get_bare ds)).elim
  · intro ds h; exact (h (get_bare ds)).elim

theorem sane_len {p : Px} (h : sanePx p = true) : (key p).length ≤ if p.a.v6 then 128 else 32 := by
  obtain ⟨h0, h1, _⟩ := (sanePx_iff p).1 h
  rw [key_length]
  unfold Ad.w at h1
  split at h1 <;> rename_i hv <;> simp [hv] at h1 ⊢ <;> omega

theorem put_len {T : Sh} {ds : List Bool} {v : Int} {n : Nat} (h : ∀ es, T.get es ≠ none → es.length ≤ n) (hd : ds.length ≤ n) : ∀ es, (T.put ds v).get es ≠ none → es.length ≤ n := by
  intro es he
  rw [Sh.get_put] at he
  split at he
  · rename_i h1; rw [h1]; exact hd
  · exact h es he
theorem del_len {T : Sh} {ds : List Bool} {n : Nat} (h : ∀ es, T.get es ≠ none → es.length ≤ n) : ∀ es, ((T.del ds).rt).get es ≠ none → es.length ≤ n := by
  intro es he
  rw [Sh.get_rt, Sh.get_del] at he
  split at he
  · exact (he rfl).elim
  · exact h es he

/-- putting -/
theorem Holds.put {t : TS} {F : Bool → Sh} (h : Holds t F) {p : Px} (hs : sanePx p = true) (v : Int) : Holds (putT t p v) (putF F p v) ∧ (putT t p v).ar.length ≤ t.ar.length + 128 ∧ (putT t p v).ar.length = max t.ar.length (szF (putF F p v)) := by
  obtain ⟨T0, T1, H, hF0, hF1⟩ := h
  obtain ⟨s0, s1, _⟩ := (sanePx_iff p).1 hs
  have hw := p.a.w_le
  have hl := sane_len hs
  unfold putT
  rw [if_pos hs]
  cases hv : p.a.v6
  · rw [hv] at hl
    obtain ⟨T', O⟩ := put_rep p.a v p.n.toNat t T0 (-1) 0 T1.idx H.r0 (ne_of_at H.a0 (by decide)) H.pm
    rw [H.a0] at O
    have e : rootI false = 0 := rfl
    rw [e]
    have hds : dgs p.a 0 p.n.toNat = key p := rfl
    rw [hds] at O
    refine ⟨⟨T', T1, ⟨O.rep, H.r1.frame O.keep, by rw [O.at_, H.a0], H.a1, O.pm, ?_, ?_, H.p1, ?_, H.d1⟩, ?_, ?_⟩, ?_, ?_⟩
    · rw [O.n, H.n, O.sh, Sh.cnt_put]
      split <;> omega
    · rw [O.sh]; exact H.p0.put _ _
    · rw [O.sh]; exact put_len H.d0 (by simpa using hl)
    · simp only [putF, hv, if_true, hF0, O.sh]
    · simp [putF, hv, hF1]
    · have := O.grow.2; rw [key_length] at this; omega
    · have h1 := O.slots
      rw [h1]
      simp only [szF, putF, hv, if_true, hF0, hF1, Bool.true_eq_false, if_false, ← O.sh, ← idx_size]
  · rw [hv] at hl
    obtain ⟨T', O⟩ := put_rep p.a v p.n.toNat t T1 (-1) 0 T0.idx H.r1 (ne_of_at H.a1 (by decide)) H.perm
    rw [H.a1] at O
    have e : rootI true = 1 := rfl
    rw [e]
    have hds : dgs p.a 0 p.n.toNat = key p := rfl
    rw [hds] at O
    refine ⟨⟨T0, T', ⟨H.r0.frame O.keep, O.rep, H.a0, by rw [O.at_, H.a1], O.pm.of_perm List.perm_append_comm, ?_, H.p0, ?_, H.d0, ?_⟩, ?_, ?_⟩, ?_, ?_⟩
    · rw [O.n, H.n, O.sh, Sh.cnt_put]
      split <;> omega
    · rw [O.sh]; exact H.p1.put _ _
    · rw [O.sh]; exact put_len H.d1 (by simpa using hl)
    · simp [putF, hv, hF0]
    · simp only [putF, hv, if_true, hF1, O.sh]
    · have := O.grow.2; rw [key_length] at this; omega
    · have h1 := O.slots
      rw [h1]
      simp only [szF, putF, hv, if_true, hF0, hF1, Bool.false_eq_true, if_false, ← O.sh, ← idx_size]
      omega

/-- the tree of a kind, and the rest -/
theorem Holds.side {t : TS} {F : Bool → Sh} (h : Holds t F) (b : Bool) : ∃ T X, Rep t.ar (-1) T ∧ T.at_ = rootI b ∧ T ≠ nil ∧ Pm (T.idx ++ X) t ∧ F b = T.sh ∧ T.sh.PrnR ∧ (∀ ds, T.sh.get ds ≠ none → ds.length ≤ if b then 128 else 32) := by
  obtain ⟨T0, T1, H, hF0, hF1⟩ := h
  cases b
  · exact ⟨T0, T1.idx, H.r0, H.a0, ne_of_at H.a0 (by decide), H.pm, hF0, H.p0, H.d0⟩
  · exact ⟨T1, T0.idx, H.r1, H.a1, ne_of_at H.a1 (by decide), H.perm, hF1, H.p1, H.d1⟩

theorem find_rep {t : TS} {T : Tr} {p : Px} (hr : Rep t.ar (-1) T) (ha : T.at_ = rootI p.a.v6) (hs : sanePx p = true) : findI t.ar p = (T.subT (key p)).at_ := by
  unfold findI nodeOf
  rw [if_pos hs, ← ha, pathF_rep hr]
  have := path_sub T (key p)
  rw [key_length] at this
  exact this

theorem Tr.Rep.here {ar : List Nd} {up : Int} {i : Nat} {e : Bool} {v : Int} {l r : Tr} (h : Rep ar up (nd i e v l r)) : ar[i]? = some ⟨l.at_, r.at_, up, e, v⟩ := h.1

theorem Holds.get_ {t : TS} {F : Bool → Sh} (h : Holds t F) (p : Px) : getI t.ar p = V F p := by
  unfold V
  split
  · rename_i hs
    obtain ⟨T, X, hr, ha, hne, hpm, hF, _, _⟩ := h.side p.a.v6
    rw [getI_eq _ _ _ (find_rep hr ha hs), hF, Sh.get_sub', ← sh_sub]
    obtain ⟨up', hr'⟩ := hr.sub (key p)
    cases hT : T.subT (key p) with
    | nil => simp [at_, sh]; split <;> rfl
    | nd i e v l r =>
      rw [hT] at hr'
      have hi : ¬ ((i : Int) = -1) := by omega
      simp only [at_, Int.toNat_natCast, hr'.here, if_neg hi]
      cases e <;> simp [sh, Sh.get]
  · rename_i hs
    rw [getI_eq _ _ (-1) (by unfold findI; rw [if_neg hs])]
    split <;> simp

theorem V_put {F : Bool → Sh} {p : Px} (hs : sanePx p = true) (v : Int) (q : Px) : V (putF F p v) q = if q = p then some v else V F q := by
  unfold V putF
  by_cases hq : sanePx q = true
  · rw [if_pos hq, if_pos hq]
    by_cases hv : q.a.v6 = p.a.v6
    · rw [if_pos hv, Sh.get_put]
      by_cases hk : key q = key p
      · rw [if_pos hk, if_pos (key_inj hq hs hv hk)]
      · rw [if_neg hk, if_neg (fun e => hk (by rw [e]))]
    · rw [if_neg hv, if_neg (fun e => hv (by rw [e]))]
  · rw [if_neg hq, if_neg hq, if_neg (fun e => hq (by rw [e]; exact hs))]
theorem V_del {F : Bool → Sh} {p : Px} (hs : sanePx p = true) (q : Px) : V (delF F p) q = if q = p then none else V F q := by
  unfold V delF
  by_cases hq : sanePx q = true
  · rw [if_pos hq, if_pos hq]
    by_cases hv : q.a.v6 = p.a.v6
    · rw [if_pos hv, Sh.get_rt, Sh.get_del]
      by_cases hk : key q = key p
      · rw [if_pos hk, if_pos (key_inj hq hs hv hk)]
      · rw [if_neg hk, if_neg (fun e => hk (by rw [e]))]
    · rw [if_neg hv, if_neg (fun e => hv (by rw [e]))]
  · rw [if_neg hq, if_neg hq, if_neg (fun e => hq (by rw [e]; exact hs))]
theorem V_sane {F : Bool → Sh} {p : Px} (h : V F p ≠ none) : sanePx p = true := by
  unfold V at h
  split at h
  · assumption
  · exact (h rfl).elim
theorem V_new (p : Px) : V F0 p = none := by
  unfold V F0
  split
  · exact get_bare _
  · rfl

theorem at_le {T : Tr} {L : List Nat} {t : TS} (h : Pm L t) (hs : ∀ i ∈ T.idx, i ∈ L) : T.at_ = -1 ∨ (0 ≤ T.at_ ∧ T.at_ < t.ar.length) := by
  cases T with
  | nil => exact .inl rfl
  | nd i e v l r =>
    have := h.lt (hs i (by simp [idx]))
    right
    simp only [at_]
    omega
theorem Tr.root_mem {T : Tr} {i : Nat} (h : T.at_ = i) : i ∈ T.idx := by
  cases T with
  | nil => simp [at_] at h
  | nd j e v l r =>
    simp only [at_] at h
    have : j = i := by omega
    simp [idx, this]

/-- the places of a tree: each bears a node of it -/
theorem Tr.Rep.mem {ar : List Nd} {up : Int} {T : Tr} (h : Rep ar up T) {i : Nat} (hi : i ∈ T.idx) : ∃ up' e v l r, Rep ar up' (nd i e v l r) ∧ (∀ j ∈ (nd i e v l r).idx, j ∈ T.idx) := by
  induction T generalizing up with
  | nil => simp [idx] at hi
  | nd j e v l r ihl ihr =>
    simp only [idx, List.mem_cons, List.mem_append] at hi
    rcases hi with rfl | hi | hi
    · exact ⟨up, e, v, l, r, h, fun _ h => h⟩
    · obtain ⟨up', e', v', l', r', h1, h2⟩ := ihl h.2.1 hi
      exact ⟨up', e', v', l', r', h1, fun k hk => by simp [idx, h2 k hk]⟩
    · obtain ⟨up', e', v', l', r', h1, h2⟩ := ihr h.2.2 hi
      exact ⟨up', e', v', l', r', h1, fun k hk => by simp [idx, h2 k hk]⟩

end Go.Proofs.Ytdecgbgndffkkaa
