/- The arena as two trees: what the program's steps on it come to. Plain Lean. -/
import Derived.Test.YtdecgbgndffkkaaSh
import Derived.Test.YtdecgbgndffkkaaTe
set_option linter.unusedVariables false
set_option linter.unusedSimpArgs false
namespace Go.Proofs.Ytdecgbgndffkkaa

/-- a tree, with the places of its nodes -/
inductive Tr where
  | nil
  | nd (i : Nat) (e : Bool) (v : Int) (l r : Tr)

namespace Tr
def at_ : Tr → Int
  | nil => -1
  | nd i _ _ _ _ => i
def sh : Tr → Sh
  | nil => .nil
  | nd _ e v l r => .nd (if e then some v else none) l.sh r.sh
def idx : Tr → List Nat
  | nil => []
  | nd i _ _ l r => i :: (l.idx ++ r.idx)
def Rep (ar : List Nd) : Int → Tr → Prop
  | _, nil => True
  | up, nd i e v l r => ar[i]? = some ⟨l.at_, r.at_, up, e, v⟩ ∧ Rep ar i l ∧ Rep ar i r
def subT : Tr → List Bool → Tr
  | nil, _ => nil
  | nd i e v l r, [] => nd i e v l r
  | nd _ _ _ l _, false :: ds => l.subT ds
  | nd _ _ _ _ r, true :: ds => r.subT ds
def path : Tr → List Bool → List Int
  | nil, _ => []
  | nd i _ _ _ _, [] => [(i : Int)]
  | nd i _ _ l _, false :: ds => (i : Int) :: l.path ds
  | nd i _ _ _ r, true :: ds => (i : Int) :: r.path ds
@[simp] theorem subT_nil (ds : List Bool) : nil.subT ds = nil := by cases ds <;> rfl
@[simp] theorem subT_e (T : Tr) : T.subT [] = T := by cases T <;> rfl
@[simp] theorem path_nil (ds : List Bool) : nil.path ds = [] := by cases ds <;> rfl
theorem at_ne {T : Tr} : T.at_ = -1 ↔ T = nil := by
  cases T with
  | nil => simp [at_]
  | nd i e v l r => simp [at_]
theorem at_ge (T : Tr) : T.at_ = -1 ∨ 0 ≤ T.at_ := by cases T <;> simp [at_]
theorem sh_nil {T : Tr} : T.sh = .nil ↔ T = nil := by cases T <;> simp [sh]
theorem sh_sub (T : Tr) (ds : List Bool) : (T.subT ds).sh = T.sh.sub ds := by
  induction ds generalizing T with
  | nil => simp
  | cons b ds ih => cases T <;> cases b <;> simp [subT, sh, Sh.sub, ih]
theorem idx_size (T : Tr) : T.idx.length = T.sh.size := by
  induction T with
  | nil => rfl
  | nd i e v l r ihl ihr => simp [idx, sh, Sh.size, ihl, ihr]; omega
theorem Rep.frame {ar ar' : List Nd} {up : Int} {T : Tr} (h : Rep ar up T) (hf : ∀ i ∈ T.idx, ar'[i]? = ar[i]?) : Rep ar' up T := by
  induction T generalizing up with
  | nil => trivial
  | nd i e v l r ihl ihr =>
    obtain ⟨h1, h2, h3⟩ := h
    refine ⟨by rw [hf i (by simp [idx])]; exact h1, ihl h2 fun j hj => hf j (by simp [idx, hj]), ihr h3 fun j hj => hf j (by simp [idx, hj])⟩
theorem Rep.sub {ar : List Nd} {up : Int} {T : Tr} (h : Rep ar up T) (ds : List Bool) : ∃ up', Rep ar up' (T.subT ds) := by
  induction ds generalizing T up with
  | nil => exact ⟨up, by simpa using h⟩
  | cons b ds ih =>
    cases T with
    | nil => exact ⟨up, trivial⟩
    | nd i e v l r =>
      cases b
      · exact ih h.2.1
      · exact ih h.2.2
theorem sub_idx (T : Tr) (ds : List Bool) : ∀ i ∈ (T.subT ds).idx, i ∈ T.idx := by
  induction ds generalizing T with
  | nil => simp
  | cons b ds ih =>
    cases T with
    | nil => simp
    | nd i e v l r =>
      intro j hj
      cases b
      · simp [idx, ih l j hj]
      · simp [idx, ih r j hj]
end Tr
open Tr

/-- the digits of a walk -/
def dgs (a : Ad) : Nat → Nat → List Bool
  | _, 0 => []
  | k, d + 1 => (bitI a k == 1) :: dgs a (k + 1) d
theorem dgs_length (a : Ad) (k d : Nat) : (dgs a k d).length = d := by
  induction d generalizing k with
  | zero => rfl
  | succ d ih => simp [dgs, ih]
theorem bit01 (a : Ad) (k : Nat) : (bitI a k = 0 ∧ (bitI a k == 1) = false) ∨ (bitI a k = 1 ∧ (bitI a k == 1) = true) := by
  have := bitI_01 a k
  have h : bitI a k = 0 ∨ bitI a k = 1 := by omega
  rcases h with h | h <;> simp [h]

theorem kidI_rep {ar : List Nd} {up : Int} {i : Nat} {e : Bool} {v : Int} {l r : Tr} (h : Rep ar up (nd i e v l r)) (b : Int) : kidI ar i b = if b = 0 then l.at_ else r.at_ := by
  unfold kidI
  simp [h.1]

theorem pathF_rep {ar : List Nd} {up : Int} {T : Tr} (h : Rep ar up T) (a : Ad) (d k : Nat) : pathF ar a d k T.at_ = T.path (dgs a k d) := by
  induction d generalizing T up k with
  | zero =>
    cases T with
    | nil => simp [pathF, at_]
    | nd i e v l r =>
      have : ¬ ((i : Int) = -1) := by omega
      simp [pathF, at_, dgs, path, this]
  | succ d ih =>
    cases T with
    | nil => simp [pathF, at_]
    | nd i e v l r =>
      have hi : ¬ ((i : Int) = -1) := by omega
      have hk := kidI_rep h (bitI a k)
      rw [show (nd i e v l r).at_ = (i : Int) from rfl]
      simp only [pathF, if_neg hi, dgs]
      rcases bit01 a k with ⟨h0, h1⟩ | ⟨h0, h1⟩
      · rw [h1, hk, h0, if_pos rfl]
        simp only [path]
        rw [ih h.2.1]
      · rw [h1, hk, h0, if_neg (by decide)]
        simp only [path]
        rw [ih h.2.2]

theorem path_sub (T : Tr) (ds : List Bool) : ((T.path ds)[ds.length]?).getD (-1) = (T.subT ds).at_ := by
  induction ds generalizing T with
  | nil => cases T <;> simp [path, at_]
  | cons b ds ih =>
    cases T with
    | nil => simp [at_]
    | nd i e v l r => cases b <;> simp [path, subT, ih]

/-- places that are used, and those that are free, are all -/
structure Pm (L : List Nat) (t : TS) : Prop where
  perm : (L ++ t.fr.map Int.toNat).Perm (List.range t.ar.length)
  free : ∀ x ∈ t.fr, 0 ≤ x
theorem Pm.of_perm {L L' : List Nat} {t : TS} (h : Pm L t) (hp : L'.Perm L) : Pm L' t := ⟨(hp.append_right _).trans h.perm, h.free⟩
theorem Pm.nodup {L : List Nat} {t : TS} (h : Pm L t) : L.Nodup := by
  have := h.perm.symm.nodup List.nodup_range
  exact (List.nodup_append.1 this).1
theorem Pm.lt {L : List Nat} {t : TS} (h : Pm L t) {i : Nat} (hi : i ∈ L) : i < t.ar.length := by
  have := h.perm.mem_iff.1 (List.mem_append_left _ hi)
  simpa using this
theorem Pm.frlt {L : List Nat} {t : TS} (h : Pm L t) {x : Int} (hx : x ∈ t.fr) : 0 ≤ x ∧ x < t.ar.length := by
  have h0 := h.free x hx
  have := h.perm.mem_iff.1 (List.mem_append_right L (List.mem_map_of_mem (f := Int.toNat) hx))
  simp at this
  omega
theorem Pm.length {L : List Nat} {t : TS} (h : Pm L t) : L.length + t.fr.length = t.ar.length := by
  simpa using h.perm.length_eq

theorem takeT_pm {L : List Nat} {t : TS} (h : Pm L t) (up : Int) : ∃ j : Nat, (takeT t up).2 = j ∧ Pm (j :: L) (takeT t up).1 ∧ (takeT t up).1.ar[j]? = some (freshN up) ∧ (∀ i ∈ L, (takeT t up).1.ar[i]? = t.ar[i]?) ∧ (takeT t up).1.n = t.n ∧ t.ar.length ≤ (takeT t up).1.ar.length ∧ (takeT t up).1.ar.length ≤ t.ar.length + 1 ∧
    ((takeT t up).1.ar.length = max t.ar.length (L.length + 1)) := by
  have hlen := h.length
  unfold takeT
  cases hf : t.fr.getLast? with
  | some x =>
    have hx := h.frlt (List.mem_of_getLast? hf)
    have hfr : t.fr = t.fr.dropLast ++ [x] := by
      have hne : t.fr ≠ [] := by rintro h0; rw [h0] at hf; simp at hf
      have h1 := List.dropLast_concat_getLast hne
      have h2 := List.getLast?_eq_some_getLast hne
      rw [hf] at h2
      simp only [Option.some.injEq] at h2
      rw [← h2] at h1
      exact h1.symm
    have hl0 : 0 < t.fr.length := by rw [hfr]; simp
    have hperm : (x.toNat :: L ++ t.fr.dropLast.map Int.toNat).Perm (L ++ t.fr.map Int.toNat) := by
      conv => rhs; rw [hfr]
      simp only [List.map_append, List.map_cons, List.map_nil, List.cons_append]
      have := (List.perm_middle (a := x.toNat) (l₁ := L ++ t.fr.dropLast.map Int.toNat) (l₂ := [])).symm
      simpa using this
    have hnd : (x.toNat :: L).Nodup := by
      have := (hperm.trans h.perm).symm.nodup List.nodup_range
      exact (List.nodup_append.1 this).1
    simp only
    refine ⟨x.toNat, by omega, ⟨by simpa using hperm.trans h.perm, fun y hy => h.free y (List.dropLast_subset _ hy)⟩, ?_, fun i hi => ?_, by trivial, by simp, by simp, ?_⟩
    · rw [List.getElem?_set_self (by omega)]
    · rw [List.getElem?_set_ne]
      rintro rfl
      exact (List.nodup_cons.1 hnd).1 hi
    · simp; omega
  | none =>
    have hfr : t.fr = [] := by simpa using hf
    have hl : L.length = t.ar.length := by rw [hfr] at hlen; simpa using hlen
    refine ⟨t.ar.length, rfl, ⟨?_, h.free⟩, by simp, fun i hi => ?_, rfl, by simp, by simp, ?_⟩
    · simp only [hfr, List.map_nil, List.append_nil, List.length_append, List.length_singleton]
      have := h.perm
      rw [hfr] at this
      simp only [List.map_nil, List.append_nil] at this
      rw [List.range_succ]
      exact (List.Perm.cons _ this).trans (List.perm_append_singleton _ _).symm
    · rw [List.getElem?_append_left (h.lt hi)]
    · simp; omega

theorem setKid_rep {t : TS} {i : Nat} {x : Nd} (hx : t.ar[i]? = some x) (b c : Int) : (setKidT t i b c).ar = t.ar.set i (x.setKid b c) ∧ (setKidT t i b c).fr = t.fr ∧ (setKidT t i b c).n = t.n := by
  unfold setKidT
  rw [hx]
  exact ⟨rfl, rfl, rfl⟩
theorem Pm.ar {L : List Nat} {t t' : TS} (h : Pm L t) (hl : t'.ar.length = t.ar.length) (hf : t'.fr = t.fr) : Pm L t' := ⟨by rw [hl, hf]; exact h.perm, by rw [hf]; exact h.free⟩

theorem idx_pos {T : Tr} (h : T.at_ ≠ -1) : 1 ≤ T.idx.length := by
  cases T with
  | nil => simp [at_] at h
  | nd i e v l r => simp [idx]
theorem get_bare (ds : List Bool) : (Sh.nd none .nil .nil).get ds = none := by
  match ds with
  | [] => rfl
  | false :: ds => simp [Sh.get]
  | true :: ds => simp [Sh.get]
theorem put_fresh (ds : List Bool) (v : Int) : (Sh.nd none .nil .nil).put ds v = Sh.nil.put ds v := by
  match ds with
  | [] => rfl
  | false :: ds => rfl
  | true :: ds => rfl

/-- what a put does to a tree that has so many digits to go -/
structure PutOut (t t' : TS) (T : Tr) (up : Int) (ds : List Bool) (v : Int) (X : List Nat) (T' : Tr) : Prop where
  rep : Rep t'.ar up T'
  at_ : T'.at_ = T.at_
  sh : T'.sh = T.sh.put ds v
  pm : Pm (T'.idx ++ X) t'
  keep : ∀ i ∈ X, t'.ar[i]? = t.ar[i]?
  n : t'.n = t.n + if T.sh.get ds = none then 1 else 0
  grow : t.ar.length ≤ t'.ar.length ∧ t'.ar.length ≤ t.ar.length + ds.length
  slots : t'.ar.length = max t.ar.length (T'.idx.length + X.length)

theorem put_rep (a : Ad) (v : Int) (d : Nat) : ∀ (t : TS) (T : Tr) (up : Int) (k : Nat) (X : List Nat), Rep t.ar up T → T ≠ nil → Pm (T.idx ++ X) t →
    ∃ T', PutOut t (endT (downT a d k (t, T.at_)).1 (downT a d k (t, T.at_)).2.toNat v) T up (dgs a k d) v X T' := by
  induction d with
  | zero =>
    intro t T up k X hr hne hp
    cases T with
    | nil => exact (hne rfl).elim
    | nd i e u l r =>
      obtain ⟨h1, h2, h3⟩ := hr
      have hnd := hp.nodup
      simp only [idx, List.cons_append, List.nodup_cons, List.mem_append, not_or] at hnd
      obtain ⟨⟨⟨hl, hr'⟩, hX⟩, _⟩ := hnd
      have hlt := hp.lt (i := i) (by simp [idx])
      have hsz := hp.length
      have key : ∀ j, i ≠ j → (t.ar.set i (⟨l.at_, r.at_, up, true, v⟩ : Nd))[j]? = t.ar[j]? := fun j hj => List.getElem?_set_ne hj
      simp only [downT, at_, dgs, Int.toNat_natCast]
      unfold endT
      rw [h1]
      refine ⟨nd i true v l r, ⟨⟨?_, h2.frame fun j hj => key j ?_, h3.frame fun j hj => key j ?_⟩, rfl, by simp [sh, Sh.put], hp.ar (by simp) rfl, fun j hj => key j ?_, ?_, by simp, ?_⟩⟩
      · simp [at_, hlt]
      · rintro rfl; exact hl hj
      · rintro rfl; exact hr' hj
      · rintro rfl; exact hX hj
      · cases e <;> simp [sh, Sh.get]
      · simp [idx] at hsz ⊢; omega
  | succ d ih =>
    intro t T up k X hr hne hp
    cases T with
    | nil => exact (hne rfl).elim
    | nd i e u l r =>
      have hk := kidI_rep hr (bitI a k)
      obtain ⟨h1, h2, h3⟩ := hr
      have hlt := hp.lt (i := i) (by simp [idx])
      simp only [downT, dgs]
      rcases bit01 a k with ⟨h0, hb⟩ | ⟨h0, hb⟩
      · rw [h0, if_pos rfl] at hk
        rw [hb]
        have hp2 : Pm (l.idx ++ (i :: (r.idx ++ X))) t := hp.of_perm (by
          simp only [idx, List.cons_append, List.append_assoc]
          exact List.perm_middle)
        by_cases hc : l = nil
        · subst hc
          have hs : stepT t a k (nd i e u nil r).at_ = (setKidT (takeT t i).1 i 0 (takeT t i).2, (takeT t i).2) := by
            unfold stepT
            simp [at_, h0] at hk ⊢
            rw [hk]
            simp
          rw [hs]
          obtain ⟨j, hj, hpj, hfj, hkeep, hn, hg1, hg2, hg3⟩ := takeT_pm hp2 (i : Int)
          generalize takeT t i = s at hj hpj hfj hkeep hn hg1 hg2 hg3 ⊢
          have hsi : s.1.ar[i]? = some ⟨-1, r.at_, up, e, u⟩ := by rw [hkeep i (by simp)]; simpa [at_] using h1
          obtain ⟨q1, q2, q3⟩ := setKid_rep hsi 0 s.2
          have hnd := hpj.nodup
          simp only [idx, List.nil_append, List.nodup_cons, List.mem_cons, List.mem_append, not_or] at hnd
          obtain ⟨⟨hji, hjr, hjX⟩, ⟨hir, hiX⟩, _⟩ := hnd
          have hil : i < s.1.ar.length := hpj.lt (by simp)
          have hpj2 : Pm ((nd j false 0 nil nil).idx ++ (i :: (r.idx ++ X))) (setKidT s.1 i 0 s.2) := by
            have := hpj.ar (t' := setKidT s.1 i 0 s.2) (by rw [q1]; simp) q2
            simpa [idx] using this
          have hrep : Rep (setKidT s.1 i 0 s.2).ar i (nd j false 0 nil nil) := by
            refine ⟨?_, trivial, trivial⟩
            rw [q1, List.getElem?_set_ne (fun e => hji e.symm), hfj]
            rfl
          rw [hj]
          rw [hj] at hpj2 hrep q1 q2 q3
          obtain ⟨T', H⟩ := ih _ (nd j false 0 nil nil) i (k + 1) (i :: (r.idx ++ X)) hrep (by simp) hpj2
          simp only [at_] at H
          have hq : ∀ m, i ≠ m → (setKidT s.1 i 0 (j : Int)).ar[m]? = s.1.ar[m]? := fun m hm => by rw [q1, List.getElem?_set_ne hm]
          refine ⟨nd i e u T' r, ⟨⟨?_, H.rep, h3.frame fun m hm => ?_⟩, rfl, ?_, H.pm.of_perm ?_, fun m hm => ?_, ?_, ?_, ?_⟩⟩
          · rw [H.keep i (by simp), q1, List.getElem?_set_self hil, H.at_]
            simp [Nd.setKid, at_]
          · rw [H.keep m (by simp [hm]), hq m (by rintro rfl; exact hir hm), hkeep m (by simp [hm])]
          · simp [sh, Sh.put, H.sh, put_fresh]
          · simp only [idx, List.cons_append, List.append_assoc]
            exact List.perm_middle.symm
          · rw [H.keep m (by simp [hm]), hq m (by rintro rfl; exact hiX hm), hkeep m (by simp [hm])]
          · rw [H.n, q3, hn]
            simp [get_bare, sh, Sh.get]
          · have h1 := H.grow
            rw [q1] at h1
            simp only [List.length_set, List.length_cons] at h1 ⊢
            omega
          · have h1 := H.slots
            have h2 := H.grow
            have h3 := idx_pos (T := T') (by rw [H.at_]; simp [at_])
            rw [q1] at h1 h2
            simp only [List.length_set, List.length_cons, List.length_append, idx, List.length_nil] at h1 h2 hg3 ⊢
            omega
        · have hs : stepT t a k (nd i e u l r).at_ = (t, l.at_) := by
            show stepT t a k (i : Int) = _
            unfold stepT
            rw [h0, hk, if_neg (fun e => hc (at_ne.1 e))]
          rw [hs]
          obtain ⟨T', H⟩ := ih t l i (k + 1) (i :: (r.idx ++ X)) h2 hc hp2
          refine ⟨nd i e u T' r, ⟨⟨?_, H.rep, h3.frame fun m hm => H.keep m (by simp [hm])⟩, rfl, by simp [sh, Sh.put, H.sh], H.pm.of_perm ?_, fun m hm => H.keep m (by simp [hm]), ?_, ?_, ?_⟩⟩
          · rw [H.keep i (by simp), h1, H.at_]
          · simp only [idx, List.cons_append, List.append_assoc]
            exact List.perm_middle.symm
          · rw [H.n]; simp [sh, Sh.get]
          · have h1 := H.grow
            simp only [List.length_cons] at h1 ⊢
            omega
          · have h1 := H.slots
            simp only [List.length_cons, List.length_append, idx] at h1 ⊢
            omega
      · rw [h0, if_neg (by decide)] at hk
        rw [hb]
        have hpp : ∀ q : List Nat, (q ++ (i :: (l.idx ++ X))).Perm (i :: (l.idx ++ q) ++ X) := fun q => by
          refine List.perm_middle.trans ?_
          simp only [List.cons_append, List.append_assoc]
          refine List.Perm.cons _ ?_
          rw [← List.append_assoc, ← List.append_assoc]
          exact List.perm_append_comm.append_right _
        have hp2 : Pm (r.idx ++ (i :: (l.idx ++ X))) t := hp.of_perm (by
          simp only [idx]
          exact hpp _)
        by_cases hc : r = nil
        · subst hc
          have hs : stepT t a k (nd i e u l nil).at_ = (setKidT (takeT t i).1 i 1 (takeT t i).2, (takeT t i).2) := by
            unfold stepT
            simp [at_, h0] at hk ⊢
            rw [hk]
            simp
          rw [hs]
          obtain ⟨j, hj, hpj, hfj, hkeep, hn, hg1, hg2, hg3⟩ := takeT_pm hp2 (i : Int)
          generalize takeT t i = s at hj hpj hfj hkeep hn hg1 hg2 hg3 ⊢
          have hsi : s.1.ar[i]? = some ⟨l.at_, -1, up, e, u⟩ := by rw [hkeep i (by simp)]; simpa [at_] using h1
          obtain ⟨q1, q2, q3⟩ := setKid_rep hsi 1 s.2
          have hnd := hpj.nodup
          simp only [idx, List.nil_append, List.nodup_cons, List.mem_cons, List.mem_append, not_or] at hnd
          obtain ⟨⟨hji, hjr, hjX⟩, ⟨hir, hiX⟩, _⟩ := hnd
          have hil : i < s.1.ar.length := hpj.lt (by simp)
          have hpj2 : Pm ((nd j false 0 nil nil).idx ++ (i :: (l.idx ++ X))) (setKidT s.1 i 1 s.2) := by
            have := hpj.ar (t' := setKidT s.1 i 1 s.2) (by rw [q1]; simp) q2
            simpa [idx] using this
          have hrep : Rep (setKidT s.1 i 1 s.2).ar i (nd j false 0 nil nil) := by
            refine ⟨?_, trivial, trivial⟩
            rw [q1, List.getElem?_set_ne (fun e => hji e.symm), hfj]
            rfl
          rw [hj]
          rw [hj] at hpj2 hrep q1 q2 q3
          obtain ⟨T', H⟩ := ih _ (nd j false 0 nil nil) i (k + 1) (i :: (l.idx ++ X)) hrep (by simp) hpj2
          simp only [at_] at H
          have hq : ∀ m, i ≠ m → (setKidT s.1 i 1 (j : Int)).ar[m]? = s.1.ar[m]? := fun m hm => by rw [q1, List.getElem?_set_ne hm]
          refine ⟨nd i e u l T', ⟨⟨?_, h2.frame fun m hm => ?_, H.rep⟩, rfl, ?_, H.pm.of_perm (hpp _).symm, fun m hm => ?_, ?_, ?_, ?_⟩⟩
          · rw [H.keep i (by simp), q1, List.getElem?_set_self hil, H.at_]
            simp [Nd.setKid, at_]
          · rw [H.keep m (by simp [hm]), hq m (by rintro rfl; exact hir hm), hkeep m (by simp [hm])]
          · simp [sh, Sh.put, H.sh, put_fresh]
          · rw [H.keep m (by simp [hm]), hq m (by rintro rfl; exact hiX hm), hkeep m (by simp [hm])]
          · rw [H.n, q3, hn]
            simp [get_bare, sh, Sh.get]
          · have h1 := H.grow
            rw [q1] at h1
            simp only [List.length_set, List.length_cons] at h1 ⊢
            omega
          · have h1 := H.slots
            have h2 := H.grow
            have h3 := idx_pos (T := T') (by rw [H.at_]; simp [at_])
            rw [q1] at h1 h2
            simp only [List.length_set, List.length_cons, List.length_append, idx, List.length_nil] at h1 h2 hg3 ⊢
            omega
        · have hs : stepT t a k (nd i e u l r).at_ = (t, r.at_) := by
            show stepT t a k (i : Int) = _
            unfold stepT
            rw [h0, hk, if_neg (fun e => hc (at_ne.1 e))]
          rw [hs]
          obtain ⟨T', H⟩ := ih t r i (k + 1) (i :: (l.idx ++ X)) h3 hc hp2
          refine ⟨nd i e u l T', ⟨⟨?_, h2.frame fun m hm => H.keep m (by simp [hm]), H.rep⟩, rfl, by simp [sh, Sh.put, H.sh], H.pm.of_perm (hpp _).symm, fun m hm => H.keep m (by simp [hm]), ?_, ?_, ?_⟩⟩
          · rw [H.keep i (by simp), h1, H.at_]
          · rw [H.n]; simp [sh, Sh.get]
          · have h1 := H.grow
            simp only [List.length_cons] at h1 ⊢
            omega
          · have h1 := H.slots
            simp only [List.length_cons, List.length_append, idx] at h1 ⊢
            omega

end Go.Proofs.Ytdecgbgndffkkaa
