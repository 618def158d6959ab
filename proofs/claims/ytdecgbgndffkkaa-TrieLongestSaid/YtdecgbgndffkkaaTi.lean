/- The program's tree as its callers see it: what it holds, how many slots it has, which blocks are its own. -/
import Derived.Test.YtdecgbgndffkkaaTu
set_option linter.unusedVariables false
set_option linter.unusedSimpArgs false
namespace Go.Proofs.Ytdecgbgndffkkaa
open Go.RowKit

/-- at block tb a tree that holds F, of k slots; its blocks are S -/
def TI (w : World) (base tb : Nat) (F : Bool → Sh) (k : Nat) (S : Nat → Prop) : Prop := ∃ t va vf, TR w base tb t va vf ∧ Live t F ∧ t.ar.length = k ∧ S = TF tb va vf

section
variable {w w' : World} {base tb : Nat} {F : Bool → Sh} {k : Nat} {S : Nat → Prop}
theorem TI.gr (h : TI w base tb F k S) (g : Gr w w') : TI w' base tb F k S := by
  obtain ⟨t, va, vf, h1, h2, h3, h4⟩ := h
  exact ⟨t, va, vf, h1.gr g, h2, h3, h4⟩
theorem TI.foot (h : TI w base tb F k S) {b : Nat} (hb : S b) : base ≤ b ∧ b < w.heap.size := by
  obtain ⟨t, va, vf, h1, h2, h3, rfl⟩ := h
  exact h1.foot hb
theorem TI.off (h : TI w base tb F k S) {b : Nat} {cs : Array Value} {ty : TypeId} {fz : Nat × Nat} (hb : w.heap[b]? = some (.cells cs ty fz)) (h1 : ty ≠ 157) (h2 : ty ≠ 153) (h3 : ty ≠ 3) : ¬ S b := by
  obtain ⟨t, va, vf, q1, _, _, rfl⟩ := h
  exact q1.off hb h1 h2 h3
theorem TI.map_off (h : TI w base tb F k S) {b : Nat} {es : Array MapEntry} {c : Nat} (hb : w.heap[b]? = some (.map es c)) : ¬ S b := by
  obtain ⟨t, va, vf, q1, _, _, rfl⟩ := h
  rintro (rfl | hk | hk)
  · rw [q1.blk] at hb; cases hb
  · obtain ⟨_, _, cs, hc⟩ := q1.ar.block hk; rw [hc] at hb; cases hb
  · obtain ⟨_, _, cs, hc⟩ := q1.fr.block hk; rw [hc] at hb; cases hb
theorem TI.low (h : TI w base tb F k S) : base ≤ tb ∧ tb < w.heap.size ∧ S tb := by
  obtain ⟨t, va, vf, h1, h2, h3, rfl⟩ := h
  exact ⟨h1.low, blk_lt h1.blk, .inl rfl⟩
theorem TI.size (h : TI w base tb F k S) : szF F ≤ k ∧ cntF F ≤ k := by
  obtain ⟨t, va, vf, h1, h2, h3, rfl⟩ := h
  have := h2.nodes
  have := cntF_le F
  omega
/-- other blocks are written -/
theorem TI.keep {G H : Nat → Prop} (h : TI w base tb F k S) (g : Fr w w' G H) (hn : ∀ b, S b → ¬ G b) : TI w' base tb F k S := by
  obtain ⟨t, va, vf, h1, h2, h3, rfl⟩ := h
  exact ⟨t, va, vf, ⟨h1.low, g.blk h1.blk (hn tb (.inl rfl)), g.own h1.ar (fun x hx => hn x (.inr (.inl hx))), g.own h1.fr (fun x hx => hn x (.inr (.inr hx)))⟩, h2, h3, rfl⟩
end

theorem newT_c (w : World) : Calls Try.prog 21 #[] w fun e w' =>
    ∃ tb S, e = .returned (.pointer (some ⟨tb, 0, none⟩)) ∧ Gr w w' ∧ TI w' w.heap.size tb F0 2 S :=
  (new_c w).mono fun _ _ ⟨tb, va, vf, h1, h2, h3⟩ => ⟨tb, _, h1, h2, newTS, va, vf, h3.tr, Live.new, rfl, rfl⟩
theorem putT_c {base tb : Nat} {F : Bool → Sh} {k : Nat} {S : Nat → Prop} (hk : k ≤ 890000) (hi lo : BitVec 64) (v6 : Bool) (n v : Int) (w : World) (h : TI w base tb F k S) :
    Calls Try.prog 85 #[.pointer (some ⟨tb, 0, none⟩), .agg #[.int .u64 (hi.toNat : Int), .int .u64 (lo.toNat : Int), .bool v6, .int .i64 n], .int .i64 v] w fun e w' =>
      e = .returned (.int .i64 (if sanePx ⟨⟨hi, lo, v6⟩, n⟩ then 0 else 1)) ∧ ∃ k' S', TI w' base tb (putS F ⟨⟨hi, lo, v6⟩, n⟩ v) k' S' ∧ Fr w w' S S' ∧ k' ≤ k + 128 ∧ (sanePx ⟨⟨hi, lo, v6⟩, n⟩ = true → k' = max k (szF (putS F ⟨⟨hi, lo, v6⟩, n⟩ v))) := by
  obtain ⟨t, va, vf, h1, h2, rfl, rfl⟩ := h
  have hn := h2.n
  have h3 := h2.nodes
  have h4 := cntF_le F
  obtain ⟨p1, p2, p3⟩ := h2.put ⟨⟨hi, lo, v6⟩, n⟩ v
  exact (put_c h2.ok (by omega) hi lo v6 n v (by omega) w h1).mono fun _ _ ⟨q1, va', vf', q2, q3⟩ => ⟨q1, _, _, ⟨_, va', vf', q2, p1, rfl, rfl⟩, q3, p2, p3⟩
theorem delT_c {base tb : Nat} {F : Bool → Sh} {k : Nat} {S : Nat → Prop} (hk : k ≤ 890000) (hi lo : BitVec 64) (v6 : Bool) (n : Int) (w : World) (h : TI w base tb F k S) :
    Calls Try.prog 87 #[.pointer (some ⟨tb, 0, none⟩), .agg #[.int .u64 (hi.toNat : Int), .int .u64 (lo.toNat : Int), .bool v6, .int .i64 n]] w fun e w' =>
      e = .returned (.int .i64 (if sanePx ⟨⟨hi, lo, v6⟩, n⟩ then (if (V F ⟨⟨hi, lo, v6⟩, n⟩).isSome then 0 else 2) else 1)) ∧ ∃ S', TI w' base tb (delS F ⟨⟨hi, lo, v6⟩, n⟩) k S' ∧ Fr w w' S S' := by
  obtain ⟨t, va, vf, h1, h2, rfl, rfl⟩ := h
  have hn := h2.n
  have h3 := h2.nodes
  have h4 := cntF_le F
  obtain ⟨rk, r1, r2, r3, r4⟩ := h2.rank
  obtain ⟨p1, p2⟩ := r4 ⟨⟨hi, lo, v6⟩, n⟩
  refine (del_c h2.ok rk r1 hi lo v6 n ?_ (r2 _) (by omega) w h1).mono fun _ _ ⟨q1, va', vf', q2, q3⟩ => ⟨?_, _, ⟨_, va', vf', q2, p1, p2, rfl⟩, q3⟩
  · have := r3 (findI t.ar ⟨⟨hi, lo, v6⟩, n⟩).toNat
    omega
  · rw [q1, delE, h2.holds.get_]
theorem getT_c {base tb : Nat} {F : Bool → Sh} {k : Nat} {S : Nat → Prop} (hi lo : BitVec 64) (v6 : Bool) (n : Int) (w : World) (h : TI w base tb F k S) :
    Calls Try.prog 103 #[.pointer (some ⟨tb, 0, none⟩), .agg #[.int .u64 (hi.toNat : Int), .int .u64 (lo.toNat : Int), .bool v6, .int .i64 n]] w fun e w' =>
      e = .returned (.tuple #[.int .i64 ((V F ⟨⟨hi, lo, v6⟩, n⟩).getD 0), .bool (V F ⟨⟨hi, lo, v6⟩, n⟩).isSome]) ∧ Gr w w' := by
  obtain ⟨t, va, vf, h1, h2, rfl, rfl⟩ := h
  refine (get_c h2.ok.kids hi lo v6 n w h1.at).mono fun _ _ ⟨q1, q2⟩ => ⟨?_, q2⟩
  rw [q1, h2.holds.get_]
def aboveP (F : Bool → Sh) (p : Px) : List (Px × Int) := if sanePx p = true then aboveV F p.a p.n.toNat else []
theorem aboveT_c {base tb : Nat} {F : Bool → Sh} {k : Nat} {S : Nat → Prop} (hi lo : BitVec 64) (v6 : Bool) (n : Int) (w : World) (h : TI w base tb F k S) :
    Calls Try.prog 23 #[.pointer (some ⟨tb, 0, none⟩), .agg #[.int .u64 (hi.toNat : Int), .int .u64 (lo.toNat : Int), .bool v6, .int .i64 n]] w fun e w' =>
      ∃ v, e = .returned v ∧ Own w' w.heap.size 39 5 prC v (aboveP F ⟨⟨hi, lo, v6⟩, n⟩) ∧ Gr w w' := by
  obtain ⟨t, va, vf, h1, h2, rfl, rfl⟩ := h
  refine (above_c h2.ok.kids hi lo v6 n w h1.at).mono fun _ _ ⟨v, q1, q2, q3⟩ => ⟨v, q1, ?_, q3⟩
  rw [h2.holds.above] at q2
  exact q2
def longV (F : Bool → Sh) (a : Ad) : Option (Px × Int) := (aboveV F a a.w).getLast?
theorem longI_V {t : TS} {F : Bool → Sh} (h : Live t F) (a : Ad) : longI t.ar a = longV F a := by
  unfold longI longV wholeP
  rw [h.holds.above, if_pos (ofP_sane _ _), widthI_w]
  have e1 : (ofP a (a.w : Int)).n = (a.w : Int) := ofP_n a a.w (Nat.le_refl _)
  rw [e1]
  congr 1
  unfold aboveV
  simp only [Int.toNat_natCast]
  apply fm_congr
  intro m hm
  rw [List.mem_range] at hm
  have e2 : ofP (ofP a (a.w : Int)).a (m : Int) = ofP a m := by
    rw [ofP_at a a.w (Nat.le_refl _)]
    rw [ofP_at _ m (by simp; omega), ofP_at _ m (by omega), mask_mask _ _ _ (by omega)]
  rw [e2]
theorem longT_c {base tb : Nat} {F : Bool → Sh} {k : Nat} {S : Nat → Prop} (hi lo : BitVec 64) (v6 : Bool) (w : World) (h : TI w base tb F k S) :
    Calls Try.prog 25 #[.pointer (some ⟨tb, 0, none⟩), .agg #[.int .u64 (hi.toNat : Int), .int .u64 (lo.toNat : Int), .bool v6]] w fun e w' =>
      e = .returned (.tuple #[prV (longV F ⟨hi, lo, v6⟩), .bool (longV F ⟨hi, lo, v6⟩).isSome]) ∧ Gr w w' := by
  obtain ⟨t, va, vf, h1, h2, rfl, rfl⟩ := h
  refine (longest_c h2.ok.kids hi lo v6 w h1.at).mono fun _ _ ⟨q1, q2⟩ => ⟨?_, q2⟩
  rw [q1, longI_V h2]
def insB (F : Bool → Sh) (p : Px) : Bool := sanePx p && ((F p.a.v6).sub (key p)).kids
theorem insT_c {base tb : Nat} {F : Bool → Sh} {k : Nat} {S : Nat → Prop} (hi lo : BitVec 64) (v6 : Bool) (n : Int) (w : World) (h : TI w base tb F k S) :
    Calls Try.prog 116 #[.pointer (some ⟨tb, 0, none⟩), .agg #[.int .u64 (hi.toNat : Int), .int .u64 (lo.toNat : Int), .bool v6, .int .i64 n]] w fun e w' =>
      e = .returned (.bool (insB F ⟨⟨hi, lo, v6⟩, n⟩)) ∧ Gr w w' := by
  obtain ⟨t, va, vf, h1, h2, rfl, rfl⟩ := h
  refine (inside_c h2.ok.kids hi lo v6 n w h1.at).mono fun _ _ ⟨q1, q2⟩ => ⟨?_, q2⟩
  rw [q1, h2.holds.inside_]
  rfl
theorem underT_c {base tb : Nat} {F : Bool → Sh} {k : Nat} {S : Nat → Prop} (hk : k ≤ 890000) (hi lo : BitVec 64) (v6 : Bool) (n : Int) (w : World) (h : TI w base tb F k S) :
    Calls Try.prog 95 #[.pointer (some ⟨tb, 0, none⟩), .agg #[.int .u64 (hi.toNat : Int), .int .u64 (lo.toNat : Int), .bool v6, .int .i64 n]] w fun e w' =>
      ∃ v l, e = .returned v ∧ UnderR F ⟨⟨hi, lo, v6⟩, n⟩ l ∧ Own w' w.heap.size 39 5 prC v l ∧ l.length ≤ k ∧ Gr w w' := by
  obtain ⟨t, va, vf, h1, h2, rfl, rfl⟩ := h
  exact under_c h2 (by omega) hi lo v6 n w h1
theorem lenT_c {base tb : Nat} {F : Bool → Sh} {k : Nat} {S : Nat → Prop} (w : World) (h : TI w base tb F k S) :
    Calls Try.prog 136 #[.pointer (some ⟨tb, 0, none⟩)] w fun e w' => e = .returned (.int .i64 (cntF F : Int)) ∧ w = w' := by
  obtain ⟨t, va, vf, h1, h2, rfl, rfl⟩ := h
  refine (len_c h2.ok.kids w h1.at).mono fun _ _ ⟨q1, q2⟩ => ⟨?_, q2⟩
  rw [q1, h2.n]
theorem nodesT_c {base tb : Nat} {F : Bool → Sh} {k : Nat} {S : Nat → Prop} (w : World) (h : TI w base tb F k S) :
    Calls Try.prog 86 #[.pointer (some ⟨tb, 0, none⟩)] w fun e w' => e = .returned (.int .i64 (szF F : Int)) ∧ Gr w w' := by
  obtain ⟨t, va, vf, h1, h2, rfl, rfl⟩ := h
  refine (nodes_c h2.ok.kids w h1.at).mono fun _ _ ⟨q1, q2⟩ => ⟨?_, q2⟩
  have h3 := h2.nodes
  rw [q1]
  congr 2
  omega
theorem slotsT_c {base tb : Nat} {F : Bool → Sh} {k : Nat} {S : Nat → Prop} (w : World) (h : TI w base tb F k S) :
    Calls Try.prog 88 #[.pointer (some ⟨tb, 0, none⟩)] w fun e w' => e = .returned (.int .i64 (k : Int)) ∧ w = w' := by
  obtain ⟨t, va, vf, h1, h2, rfl, rfl⟩ := h
  exact slots_c h2.ok.kids w h1.at

end Go.Proofs.Ytdecgbgndffkkaa
