/- The arena as two trees: what is taken out, and pruned. Plain Lean. -/
import Derived.Test.YtdecgbgndffkkaaRp
set_option linter.unusedVariables false
set_option linter.unusedSimpArgs false
namespace Go.Proofs.Ytdecgbgndffkkaa
open Tr

namespace Tr
def isNil : Tr → Bool
  | nil => true
  | nd _ _ _ _ _ => false
theorem isNil_iff {T : Tr} : T.isNil = true ↔ T = nil := by cases T <;> simp [isNil]
def mkT (i : Nat) (e : Bool) (v : Int) (l r : Tr) : Tr := if (!e && l.isNil && r.isNil) = true then nil else nd i e v l r
def unend : Tr → List Bool → Tr
  | nil, _ => nil
  | nd i _ v l r, [] => nd i false v l r
  | nd i e v l r, false :: ds => nd i e v (l.unend ds) r
  | nd i e v l r, true :: ds => nd i e v l (r.unend ds)
def pr : Tr → List Bool → Tr
  | nil, _ => nil
  | nd i e v l r, [] => mkT i e v l r
  | nd i e v l r, false :: ds => mkT i e v (l.pr ds) r
  | nd i e v l r, true :: ds => mkT i e v l (r.pr ds)
theorem mkT_sh (i : Nat) (e : Bool) (v : Int) (l r : Tr) : (mkT i e v l r).sh = Sh.mk (if e then some v else none) l.sh r.sh := by
  unfold mkT Sh.mk
  cases e <;> cases l <;> cases r <;> simp [isNil, sh]
theorem pr_unend_sh (T : Tr) (ds : List Bool) : ((T.unend ds).pr ds).sh = T.sh.del ds := by
  induction ds generalizing T with
  | nil => cases T <;> simp [unend, pr, sh, Sh.del, mkT_sh]
  | cons b ds ih => cases T <;> cases b <;> simp [unend, pr, sh, Sh.del, mkT_sh, ih]
theorem unend_at (T : Tr) (ds : List Bool) : (T.unend ds).at_ = T.at_ := by
  match T, ds with
  | nil, _ => rfl
  | nd _ _ _ _ _, [] => rfl
  | nd _ _ _ _ _, false :: _ => rfl
  | nd _ _ _ _ _, true :: _ => rfl
theorem unend_idx (T : Tr) (ds : List Bool) : (T.unend ds).idx = T.idx := by
  induction ds generalizing T with
  | nil => cases T <;> simp [unend, idx]
  | cons b ds ih => cases T <;> cases b <;> simp [unend, idx, ih]
theorem unend_sub {T : Tr} {ds : List Bool} {i : Nat} {e : Bool} {v : Int} {l r : Tr} (h : T.subT ds = nd i e v l r) : (T.unend ds).subT ds = nd i false v l r := by
  induction ds generalizing T with
  | nil => cases T <;> simp_all [unend, subT]
  | cons b ds ih =>
    cases T with
    | nil => simp at h
    | nd j e' v' l' r' => cases b <;> simp only [subT, unend] at h ⊢ <;> exact ih h
theorem unend_rep {ar : List Nd} {up : Int} {T : Tr} (h : Rep ar up T) (hnd : T.idx.Nodup) {ds : List Bool} {i : Nat} {e : Bool} {v : Int} {l r : Tr} (hs : T.subT ds = nd i e v l r) {x : Nd} (hx : ar[i]? = some x) :
    Rep (ar.set i { x with ends := false }) up (T.unend ds) := by
  have hil : i < ar.length := (List.getElem?_eq_some_iff.1 hx).1
  induction ds generalizing T up with
  | nil =>
    cases T with
    | nil => simp at hs
    | nd j e' v' l' r' =>
      simp only [subT_e, nd.injEq] at hs
      obtain ⟨rfl, rfl, rfl, rfl, rfl⟩ := hs
      obtain ⟨h1, h2, h3⟩ := h
      rw [hx] at h1
      simp only [Option.some.injEq] at h1
      subst h1
      simp only [idx, List.nodup_cons, List.mem_append, not_or] at hnd
      refine ⟨by rw [List.getElem?_set_self hil], h2.frame fun m hm => List.getElem?_set_ne ?_, h3.frame fun m hm => List.getElem?_set_ne ?_⟩
      · rintro rfl; exact hnd.1.1 hm
      · rintro rfl; exact hnd.1.2 hm
  | cons b ds ih =>
    cases T with
    | nil => simp at hs
    | nd j e' v' l' r' =>
      obtain ⟨h1, h2, h3⟩ := h
      simp only [idx, List.nodup_cons, List.mem_append, not_or] at hnd
      obtain ⟨⟨n1, n2⟩, n3⟩ := hnd
      obtain ⟨n4, n5, n6⟩ := List.nodup_append.1 n3
      cases b
      · have hi : i ∈ l'.idx := sub_idx l' ds i (by simp only [subT] at hs; rw [hs]; simp [idx])
        refine ⟨?_, ih h2 n4 hs, h3.frame fun m hm => List.getElem?_set_ne ?_⟩
        · rw [List.getElem?_set_ne (by rintro rfl; exact n1 hi), h1, unend_at]
        · rintro rfl; exact n6 _ hi _ hm rfl
      · have hi : i ∈ r'.idx := sub_idx r' ds i (by simp only [subT] at hs; rw [hs]; simp [idx])
        refine ⟨?_, h2.frame fun m hm => List.getElem?_set_ne ?_, ih h3 n5 hs⟩
        · rw [List.getElem?_set_ne (by rintro rfl; exact n2 hi), h1, unend_at]
        · rintro rfl; exact n6 _ hm _ hi rfl
end Tr

theorem settle {t : TS} {up : Int} {i : Nat} {e : Bool} {v : Int} {l r : Tr} (h : Rep t.ar up (nd i e v l r)) (hD : mkT i e v l r ≠ nil) : mkT i e v l r = nd i e v l r ∧ ∀ f, 0 < f → pruneT f t i = t := by
  unfold mkT at hD ⊢
  split at hD
  · exact (hD rfl).elim
  · rename_i hc
    rw [if_neg hc]
    refine ⟨rfl, fun f hf => ?_⟩
    cases f with
    | zero => omega
    | succ f =>
      have hs : Nd.stays ⟨l.at_, r.at_, up, e, v⟩ = true := by
        unfold Nd.stays
        simp only [Bool.not_eq_true', Bool.not_eq_true, Bool.and_eq_false_iff] at hc
        simp only [Bool.or_eq_true, Bool.not_eq_true', Bool.and_eq_false_iff, decide_eq_true_eq, decide_eq_false_iff_not]
        rcases hc with (hc | hc) | hc
        · left; left; simpa using hc
        · right; left
          intro h0; rw [at_ne.1 h0] at hc; simp [isNil] at hc
        · right; right
          intro h0; rw [at_ne.1 h0] at hc; simp [isNil] at hc
      simp only [pruneT, Int.toNat_natCast, h.1, hs, if_true]
theorem mkT_nil {i : Nat} {e : Bool} {v : Int} {l r : Tr} (h : mkT i e v l r = nil) : e = false ∧ l = nil ∧ r = nil := by
  unfold mkT at h
  split at h
  · rename_i hc
    simp only [Bool.and_eq_true, Bool.not_eq_true', isNil_iff] at hc
    exact ⟨hc.1.1, hc.1.2, hc.2⟩
  · simp at h

theorem cut_pm {j : Nat} {L : List Nat} {t t' : TS} (h : Pm (j :: L) t) (hl : t'.ar.length = t.ar.length) (hf : t'.fr = t.fr ++ [(j : Int)]) : Pm L t' := by
  refine ⟨?_, ?_⟩
  · rw [hl, hf]
    refine List.Perm.trans ?_ h.perm
    simp only [List.map_append, List.map_cons, List.map_nil, Int.toNat_natCast]
    rw [← List.append_assoc]
    exact List.perm_append_singleton _ _
  · intro x hx
    rw [hf] at hx
    simp only [List.mem_append, List.mem_singleton] at hx
    rcases hx with hx | rfl
    · exact h.free x hx
    · omega

structure PrA (t t' : TS) (U : Tr) (up : Int) (ds : List Bool) (X : List Nat) : Prop where
  ne : U.pr ds ≠ nil
  run : ∀ f, ds.length < f → pruneT f t (U.subT ds).at_ = t'
  rep : Rep t'.ar up (U.pr ds)
  at_ : (U.pr ds).at_ = U.at_
  pm : Pm ((U.pr ds).idx ++ X) t'
  keep : ∀ i ∈ X, t'.ar[i]? = t.ar[i]?
  n : t'.n = t.n
  len : t'.ar.length = t.ar.length
structure PrB (t t' : TS) (U : Tr) (up : Int) (ds : List Bool) (X : List Nat) (i0 : Nat) (v : Int) : Prop where
  ni : U.pr ds = nil
  run : ∀ f, ds.length < f → pruneT f t (U.subT ds).at_ = pruneT (f - ds.length) t' i0
  rep : Rep t'.ar up (nd i0 false v nil nil)
  at_ : U.at_ = i0
  pm : Pm (i0 :: X) t'
  keep : ∀ i ∈ X, t'.ar[i]? = t.ar[i]?
  n : t'.n = t.n
  len : t'.ar.length = t.ar.length

theorem bare_goes {t : TS} {i j : Nat} {v : Int} {x : Nd} (hj : t.ar[j]? = some ⟨-1, -1, (i : Int), false, v⟩) (hx : t.ar[i]? = some x) (f : Nat) :
    pruneT (f + 1) t j = pruneT f { t with ar := t.ar.set i (x.cut j), fr := t.fr ++ [(j : Int)] } i := by
  have hs : Nd.stays ⟨-1, -1, (i : Int), false, v⟩ = false := by
    unfold Nd.stays
    simp
  have hc : cutT t j i = { t with ar := t.ar.set i (x.cut j), fr := t.fr ++ [(j : Int)] } := by
    unfold cutT
    simp [hx]
  simp only [pruneT, Int.toNat_natCast, hj, hs, Bool.false_eq_true, if_false, hc]

theorem prune_rep (ds : List Bool) : ∀ (t : TS) (U : Tr) (up : Int) (X : List Nat), Rep t.ar up U → Pm (U.idx ++ X) t → (∃ i v l r, U.subT ds = nd i false v l r) →
    (∃ t', PrA t t' U up ds X) ∨ (∃ t' i0 v, PrB t t' U up ds X i0 v) := by
  induction ds with
  | nil =>
    intro t U up X hr hp hs
    obtain ⟨i, v, l, r, hs⟩ := hs
    rw [subT_e] at hs
    subst hs
    by_cases hD : mkT i false v l r = nil
    · obtain ⟨_, rfl, rfl⟩ := mkT_nil hD
      exact .inr ⟨t, i, v, ⟨hD, fun f _ => rfl, hr, rfl, by simpa [idx] using hp, fun _ _ => rfl, rfl, rfl⟩⟩
    · obtain ⟨h1, h2⟩ := settle hr hD
      have hpr : (nd i false v l r).pr [] = nd i false v l r := h1
      exact .inl ⟨t, ⟨hD, fun f hf => h2 f hf, by rw [hpr]; exact hr, by rw [hpr], by rw [hpr]; exact hp, fun _ _ => rfl, rfl, rfl⟩⟩
  | cons b ds ih =>
    intro t U up X hr hp hs
    cases U with
    | nil => obtain ⟨i, v, l, r, hs⟩ := hs; simp at hs
    | nd i e u l r =>
      obtain ⟨h1, h2, h3⟩ := hr
      cases b
      · have hpp : ∀ q : List Nat, (q ++ (i :: (r.idx ++ X))).Perm (i :: (q ++ r.idx) ++ X) := fun q => by
          simp only [List.cons_append, List.append_assoc]
          exact List.perm_middle
        have hp2 : Pm (l.idx ++ (i :: (r.idx ++ X))) t := hp.of_perm (by simp only [idx]; exact hpp _)
        have hs2 : ∃ i v l2 r2, l.subT ds = nd i false v l2 r2 := hs
        rcases ih t l i (i :: (r.idx ++ X)) h2 hp2 hs2 with ⟨t', H⟩ | ⟨t', j, v', H⟩
        · have hD : mkT i e u (l.pr ds) r ≠ nil := fun h0 => H.ne (mkT_nil h0).2.1
          have hrep : Rep t'.ar up (nd i e u (l.pr ds) r) := ⟨by rw [H.keep i (by simp), h1, H.at_], H.rep, h3.frame fun m hm => H.keep m (by simp [hm])⟩
          have hpr : (nd i e u l r).pr (false :: ds) = nd i e u (l.pr ds) r := (settle hrep hD).1
          refine .inl ⟨t', ⟨hD, fun f hf => H.run f (by simp at hf; omega), by rw [hpr]; exact hrep, by rw [hpr]; rfl, ?_, fun m hm => H.keep m (by simp [hm]), H.n, H.len⟩⟩
          rw [hpr]
          exact H.pm.of_perm (by simp only [idx]; exact (hpp _).symm)
        · have hi : t'.ar[i]? = some ⟨(j : Int), r.at_, up, e, u⟩ := by rw [H.keep i (by simp), h1, H.at_]
          have hil : i < t'.ar.length := (List.getElem?_eq_some_iff.1 hi).1
          have hnd := H.pm.nodup
          simp only [List.nodup_cons, List.mem_cons, List.mem_append, not_or] at hnd
          obtain ⟨⟨hji, hjr, hjX⟩, ⟨hir, hiX⟩, _⟩ := hnd
          have hrj : r.at_ ≠ (j : Int) := by
            intro h0
            cases r with
            | nil => simp [at_] at h0
            | nd k _ _ _ _ =>
              simp only [at_] at h0
              obtain rfl : k = j := by omega
              exact hjr (by simp [idx])
          have hcut : Nd.cut ⟨(j : Int), r.at_, up, e, u⟩ j = ⟨-1, r.at_, up, e, u⟩ := by
            unfold Nd.cut
            simp [hrj]
          have hgo := fun f => bare_goes (t := t') H.rep.1 hi f
          rw [hcut] at hgo
          generalize hQ : ({ t' with ar := t'.ar.set i ⟨-1, r.at_, up, e, u⟩, fr := t'.fr ++ [(j : Int)] } : TS) = Q at hgo
          have q1 : Q.ar = t'.ar.set i ⟨-1, r.at_, up, e, u⟩ := by rw [← hQ]
          have q2 : Q.fr = t'.fr ++ [(j : Int)] := by rw [← hQ]
          have q3 : Q.n = t'.n := by rw [← hQ]
          have hkeep : ∀ m, i ≠ m → Q.ar[m]? = t'.ar[m]? := fun m hm => by rw [q1, List.getElem?_set_ne hm]
          have hrep : Rep Q.ar up (nd i e u nil r) := ⟨by rw [q1, List.getElem?_set_self hil]; rfl, trivial, h3.frame fun m hm => by rw [hkeep m (by rintro rfl; exact hir hm), H.keep m (by simp [hm])]⟩
          have hpm : Pm (i :: (r.idx ++ X)) Q := cut_pm H.pm (by rw [q1]; simp) q2
          have hpr : (nd i e u l r).pr (false :: ds) = mkT i e u nil r := by simp only [pr, H.ni]
          have hkX : ∀ m ∈ X, Q.ar[m]? = t.ar[m]? := fun m hm => by rw [hkeep m (by rintro rfl; exact hiX hm), H.keep m (by simp [hm])]
          have hrun : ∀ f, (false :: ds).length < f → pruneT f t ((nd i e u l r).subT (false :: ds)).at_ = pruneT (f - (false :: ds).length) Q i := fun f hf => by
            simp only [List.length_cons] at hf ⊢
            show pruneT f t (l.subT ds).at_ = _
            rw [H.run f (by omega), show f - ds.length = (f - (ds.length + 1)) + 1 by omega, hgo]
          by_cases hD : mkT i e u nil r = nil
          · obtain ⟨rfl, _, rfl⟩ := mkT_nil hD
            exact .inr ⟨Q, i, u, ⟨by rw [hpr]; exact hD, hrun, hrep, rfl, by simpa [idx] using hpm, hkX, by rw [q3, H.n], by rw [q1]; simpa using H.len⟩⟩
          · obtain ⟨g1, g2⟩ := settle hrep hD
            refine .inl ⟨Q, ⟨by rw [hpr]; exact hD, fun f hf => ?_, by rw [hpr, g1]; exact hrep, by rw [hpr, g1]; rfl, by rw [hpr, g1]; simpa [idx] using hpm, hkX, by rw [q3, H.n], by rw [q1]; simpa using H.len⟩⟩
            rw [hrun f hf]
            exact g2 _ (by omega)
      · have hpp : ∀ q : List Nat, (q ++ (i :: (l.idx ++ X))).Perm (i :: (l.idx ++ q) ++ X) := fun q => by
          refine List.perm_middle.trans ?_
          simp only [List.cons_append, List.append_assoc]
          refine List.Perm.cons _ ?_
          rw [← List.append_assoc, ← List.append_assoc]
          exact List.perm_append_comm.append_right _
        have hp2 : Pm (r.idx ++ (i :: (l.idx ++ X))) t := hp.of_perm (by simp only [idx]; exact hpp _)
        have hs2 : ∃ i v l2 r2, r.subT ds = nd i false v l2 r2 := hs
        rcases ih t r i (i :: (l.idx ++ X)) h3 hp2 hs2 with ⟨t', H⟩ | ⟨t', j, v', H⟩
        · have hD : mkT i e u l (r.pr ds) ≠ nil := fun h0 => H.ne (mkT_nil h0).2.2
          have hrep : Rep t'.ar up (nd i e u l (r.pr ds)) := ⟨by rw [H.keep i (by simp), h1, H.at_], h2.frame fun m hm => H.keep m (by simp [hm]), H.rep⟩
          have hpr : (nd i e u l r).pr (true :: ds) = nd i e u l (r.pr ds) := (settle hrep hD).1
          refine .inl ⟨t', ⟨hD, fun f hf => H.run f (by simp at hf; omega), by rw [hpr]; exact hrep, by rw [hpr]; rfl, ?_, fun m hm => H.keep m (by simp [hm]), H.n, H.len⟩⟩
          rw [hpr]
          exact H.pm.of_perm (by simp only [idx]; exact (hpp _).symm)
        · have hi : t'.ar[i]? = some ⟨l.at_, (j : Int), up, e, u⟩ := by rw [H.keep i (by simp), h1, H.at_]
          have hil : i < t'.ar.length := (List.getElem?_eq_some_iff.1 hi).1
          have hnd := H.pm.nodup
          simp only [List.nodup_cons, List.mem_cons, List.mem_append, not_or] at hnd
          obtain ⟨⟨hji, hjr, hjX⟩, ⟨hir, hiX⟩, _⟩ := hnd
          have hrj : l.at_ ≠ (j : Int) := by
            intro h0
            cases l with
            | nil => simp [at_] at h0
            | nd k _ _ _ _ =>
              simp only [at_] at h0
              obtain rfl : k = j := by omega
              exact hjr (by simp [idx])
          have hcut : Nd.cut ⟨l.at_, (j : Int), up, e, u⟩ j = ⟨l.at_, -1, up, e, u⟩ := by
            unfold Nd.cut
            simp [hrj]
          have hgo := fun f => bare_goes (t := t') H.rep.1 hi f
          rw [hcut] at hgo
          generalize hQ : ({ t' with ar := t'.ar.set i ⟨l.at_, -1, up, e, u⟩, fr := t'.fr ++ [(j : Int)] } : TS) = Q at hgo
          have q1 : Q.ar = t'.ar.set i ⟨l.at_, -1, up, e, u⟩ := by rw [← hQ]
          have q2 : Q.fr = t'.fr ++ [(j : Int)] := by rw [← hQ]
          have q3 : Q.n = t'.n := by rw [← hQ]
          have hkeep : ∀ m, i ≠ m → Q.ar[m]? = t'.ar[m]? := fun m hm => by rw [q1, List.getElem?_set_ne hm]
          have hrep : Rep Q.ar up (nd i e u l nil) := ⟨by rw [q1, List.getElem?_set_self hil]; rfl, h2.frame fun m hm => by rw [hkeep m (by rintro rfl; exact hir hm), H.keep m (by simp [hm])], trivial⟩
          have hpm : Pm (i :: (l.idx ++ X)) Q := cut_pm H.pm (by rw [q1]; simp) q2
          have hpr : (nd i e u l r).pr (true :: ds) = mkT i e u l nil := by simp only [pr, H.ni]
          have hkX : ∀ m ∈ X, Q.ar[m]? = t.ar[m]? := fun m hm => by rw [hkeep m (by rintro rfl; exact hiX hm), H.keep m (by simp [hm])]
          have hrun : ∀ f, (true :: ds).length < f → pruneT f t ((nd i e u l r).subT (true :: ds)).at_ = pruneT (f - (true :: ds).length) Q i := fun f hf => by
            simp only [List.length_cons] at hf ⊢
            show pruneT f t (r.subT ds).at_ = _
            rw [H.run f (by omega), show f - ds.length = (f - (ds.length + 1)) + 1 by omega, hgo]
          by_cases hD : mkT i e u l nil = nil
          · obtain ⟨rfl, rfl, _⟩ := mkT_nil hD
            exact .inr ⟨Q, i, u, ⟨by rw [hpr]; exact hD, hrun, hrep, rfl, by simpa [idx] using hpm, hkX, by rw [q3, H.n], by rw [q1]; simpa using H.len⟩⟩
          · obtain ⟨g1, g2⟩ := settle hrep hD
            refine .inl ⟨Q, ⟨by rw [hpr]; exact hD, fun f hf => ?_, by rw [hpr, g1]; exact hrep, by rw [hpr, g1]; rfl, by rw [hpr, g1]; simpa [idx] using hpm, hkX, by rw [q3, H.n], by rw [q1]; simpa using H.len⟩⟩
            rw [hrun f hf]
            exact g2 _ (by omega)

end Go.Proofs.Ytdecgbgndffkkaa
