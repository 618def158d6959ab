/- Under: what a prefix covers, in order. -/
import Derived.Test.YtdecgbgndffkkaaLv
import Derived.Deep.LoopGhost
set_option linter.unusedVariables false
set_option linter.unusedSimpArgs false
namespace Go.Proofs.Ytdecgbgndffkkaa
open Go.RowKit Tr

/-- a place that waits -/
def plC (x : Tr × Px) : List Value := [.int .i64 x.1.at_, Value.int IntKind.u64 ((x.2).a.hi.toNat : Int), Value.int IntKind.u64 ((x.2).a.lo.toNat : Int), Value.bool (x.2).a.v6, Value.int IntKind.i64 (x.2).n]
theorem plE : Enc plC 5 := ⟨fun _ => rfl, fun x u h => by simp [plC] at h; rcases h with h | h | h | h | h <;> subst h <;> rfl, by omega⟩
theorem placeT : ElemT Try.prog 218 217 5 40 := elemT Try.underlying218 (by kernel_rfl)

def UnderR (F : Bool → Sh) (p : Px) (l : List (Px × Int)) : Prop := (sanePx p = true → UnderL F p l) ∧ (sanePx p = false → l = [])

theorem own_lit1 {α : Type} {f : α → List Value} {k : Nat} {e : TypeId} (hf : Enc f k) (w : World) (base : Nat) (x : α) (hb : base ≤ w.heap.size) : Own (w.alloc (.cells (f x).toArray e)) base e k f (.slice (some ⟨w.heap.size, 0, none⟩) 1 1) [x] := by
  have hl := hf.len x
  refine ⟨by simp [hl], .inr ⟨w.heap.size, 1, (f x).toArray, rfl, hb, blk_new _ _, Nat.le_refl _, by decide, by simp [hl], ?_⟩⟩
  simp [← hl]

theorem own_apart {α β : Type} {w : World} {b1 b2 : Nat} {e1 e2 : TypeId} {k1 k2 : Nat} {f1 : α → List Value} {f2 : β → List Value} {v1 v2 : Value} {l1 : List α} {l2 : List β} (h1 : Own w b1 e1 k1 f1 v1 l1) (h2 : Own w b2 e2 k2 f2 v2 l2) (hne : e1 ≠ e2) {b : Nat} (hb : v1.ownBlock = some b) : v2.ownBlock ≠ some b := by
  intro hb2
  obtain ⟨_, _, cs, h⟩ := h1.block hb
  exact h2.apart h hne hb2
theorem Own.grew {α : Type} {w w' : World} {base : Nat} {e : TypeId} {k : Nat} {f : α → List Value} {v v' : Value} {l : List α} (h : Own w base e k f v l) (g : Grew w w' v') (hn : ∀ b, v.ownBlock = some b → v'.ownBlock ≠ some b) : Own w' base e k f v l :=
  (Fr.of_grew g (F := fun k => v'.ownBlock = some k) (G := fun _ => False) (fun _ h => h) (fun _ h => h.elim)).own h (fun x hx hF => hn x hx hF)
set_option maxRecDepth 1000000 in
set_option maxHeartbeats 4000000 in
theorem under_c {base tb : Nat} {t : TS} {F : Bool → Sh} {va vf : Value} (hL : Live t F) (hm : t.ar.length ≤ 900000) (hi lo : BitVec 64) (v6 : Bool) (n : Int) (w : World) (hT : TR w base tb t va vf) :
    Calls Try.prog 95 #[.pointer (some ⟨tb, 0, none⟩), .agg #[.int .u64 (hi.toNat : Int), .int .u64 (lo.toNat : Int), .bool v6, .int .i64 n]] w fun e w' =>
      ∃ v l, e = .returned v ∧ UnderR F ⟨⟨hi, lo, v6⟩, n⟩ l ∧ Own w' w.heap.size 39 5 prC v l ∧ l.length ≤ t.ar.length ∧ Gr w w' := by
  have hlen := hL.len2
  obtain ⟨g0, cap0, rfl, _, hgl⟩ := hT.ar.form (by omega)
  obtain ⟨T, X, hr, ha, hne, hpm, hF, q8, q9⟩ := hL.holds.side v6
  have HU := Lib.hid (fun hs => hL.holds.under (p := ⟨⟨hi, lo, v6⟩, n⟩) hs hF)
  have HFi := Lib.hid (fun hs => find_rep (p := ⟨⟨hi, lo, v6⟩, n⟩) hr ha hs)
  obtain ⟨up0, hrs⟩ := hr.sub (key ⟨⟨hi, lo, v6⟩, n⟩)
  have hcs : (T.subT (key ⟨⟨hi, lo, v6⟩, n⟩)).idx.length ≤ t.ar.length := by
    have h1 := sub_len T (key ⟨⟨hi, lo, v6⟩, n⟩)
    have h2 := hpm.length
    rw [List.length_append] at h2
    omega
  have HT := Lib.hid hT
  have HL := Lib.hid hL
  have HRS := Lib.hid hrs
  clear hT hL hr ha hne hpm hF hrs q8 q9
  generalize T.subT (key ⟨⟨hi, lo, v6⟩, n⟩) = TT at HU HFi HRS hcs
  clear T X
  cases hs : sanePx ⟨⟨hi, lo, v6⟩, n⟩
  · have HFI := Lib.hid (show findI t.ar ⟨⟨hi, lo, v6⟩, n⟩ = -1 by unfold findI; rw [hs]; rfl)
    have HS := Lib.hid hs
    clear hs HFi HU
    go_enter Try.func95, Try.ntmps95
    go_wp2_with fail
    obtain ⟨W, hW, hB, k0⟩ := box1 w #[Value.int IntKind.u64 (hi.toNat : Int), Value.int IntKind.u64 (lo.toNat : Int), Value.bool v6, Value.int IntKind.i64 n] 32
    rw [← hW]
    clear hW
    have c0 := kept k0
    refine (find_c HL.out.ok.kids _ _ _ _ _ (HT.out.at.gr hB)).mono ?_
    rintro e0 w1 ⟨rfl, hb1⟩
    rw [HFI.out]
    go_wp2_with fail
    go_ret
    exact ⟨_, [], rfl, ⟨fun h => absurd (HS.out.symm.trans h) (by decide), fun _ => rfl⟩, Own.nil, by simp, hB.trans hb1⟩
  · replace HU := Lib.hid (HU.out hs)
    replace HFi := Lib.hid (HFi.out hs)
    cases TT with
    | nil =>
      have HFI := Lib.hid (show findI t.ar ⟨⟨hi, lo, v6⟩, n⟩ = -1 from HFi.out)
      have HS := Lib.hid hs
      clear hs HFi
      go_enter Try.func95, Try.ntmps95
      go_wp2_with fail
      obtain ⟨W, hW, hB, k0⟩ := box1 w #[Value.int IntKind.u64 (hi.toNat : Int), Value.int IntKind.u64 (lo.toNat : Int), Value.bool v6, Value.int IntKind.i64 n] 32
      rw [← hW]
      clear hW
      have c0 := kept k0
      refine (find_c HL.out.ok.kids _ _ _ _ _ (HT.out.at.gr hB)).mono ?_
      rintro e0 w1 ⟨rfl, hb1⟩
      rw [HFI.out]
      go_wp2_with fail
      go_ret
      exact ⟨_, [], rfl, ⟨fun _ => HU.out, fun h => absurd (HS.out.symm.trans h) (by decide)⟩, Own.nil, by simp, hB.trans hb1⟩
    | nd jj ej vj lj rj =>
      have hilt : jj < t.ar.length := by
        have := HRS.out.here
        exact (List.getElem?_eq_some_iff.1 this).1
      have hq : ((jj : Int) == -1) = false := by simp
      go_enter Try.func95, Try.ntmps95
      go_wp2_with fail
      obtain ⟨W, hW, hB, k0⟩ := box1 w #[Value.int IntKind.u64 (hi.toNat : Int), Value.int IntKind.u64 (lo.toNat : Int), Value.bool v6, Value.int IntKind.i64 n] 32
      rw [← hW]
      clear hW
      have c0 := kept k0
      refine (find_c HL.out.ok.kids _ _ _ _ _ (HT.out.at.gr hB)).mono ?_
      rintro e0 w1 ⟨rfl, hb1⟩
      rw [HFi.out]
      simp only [Tr.at_]
      have c1 := kept (blk_gr k0 hb1) w1 (Gr.refl _)
      go_wp2_with fail
      have hG1 := hB.trans hb1
      have hz1 := hG1.size
      have hO7 := own_lit1 (e := 217) plE w1 w.heap.size (Tr.nd jj ej vj lj rj, (⟨⟨hi, lo, v6⟩, n⟩ : Px)) hz1
      have HG1 := Lib.hid hG1
      have HO7 := Lib.hid hO7
      clear hG1 hb1 hB k0 c0 c1 hO7 HFi hq
      generalize hTOT : entsP (Tr.nd jj ej vj lj rj) ⟨⟨hi, lo, v6⟩, n⟩ = TOT at HU
      generalize hNT : (Tr.nd jj ej vj lj rj).idx.length = NT at hcs
      go_loopg [6, 7] NT (fun k s6 s7 wr => ∃ (stk : List (Tr × Px)) (out : List (Px × Int)), Own wr w.heap.size 39 5 prC s6 out ∧ Own wr w.heap.size 217 5 plC s7 stk ∧ Gr w wr ∧ wsize stk = k ∧ (∀ x ∈ stk, x.1 ≠ Tr.nil ∧ ∃ up, Rep t.ar up x.1) ∧ out ++ pend stk = TOT ∧ out.length + k ≤ NT)
      case atStart =>
        refine ⟨[(Tr.nd jj ej vj lj rj, ⟨⟨hi, lo, v6⟩, n⟩)], [], Own.nil, HO7.out, HG1.out.alloc _, by simp [wsize, hNT], ?_, by simp [pend, hTOT], by simp⟩
        intro x hx
        simp only [List.mem_singleton] at hx
        subst hx
        exact ⟨by simp, _, HRS.out⟩
      case round =>
        obtain ⟨stk, out, ho, hs7, hg, hk, hall, htot, hsz⟩ := hrel
        obtain ⟨kk, hkk0⟩ : ∃ kk, kk = gk := ⟨_, rfl⟩
        rw [← hkk0] at hk hsz
        have HKK := Lib.hid hkk0
        clear hkk0
        clear hTOT hNT HRS HO7 HG1 hilt hz1
        rcases List.eq_nil_or_concat stk with rfl | ⟨stk', ⟨T1, ⟨⟨ph, pl, pv⟩, pn⟩⟩, rfl⟩
        · obtain ⟨a7, cap7, rfl, _⟩ := hs7.lenv
          have HH := Lib.hid (And.intro ho (And.intro hg (And.intro htot hsz)))
          clear ho hg htot hsz hs7 hall hk
          simp only [List.length_nil]
          go_wp2_with fail
          go_ret
          obtain ⟨ho, hg, htot, hsz⟩ := HH.out
          refine ⟨_, out, rfl, ⟨fun _ => ?_, fun h => by rw [hs] at h; cases h⟩, ho, by omega, hg⟩
          rw [pend_nil, List.append_nil] at htot
          rw [htot]
          exact HU.out
        · rw [List.concat_eq_append] at hs7 hk hall htot
          obtain ⟨hT1, up1, hR1⟩ := hall (T1, ⟨⟨ph, pl, pv⟩, pn⟩) (by simp)
          simp only at hT1 hR1
          cases T1 with
          | nil => exact (hT1 rfl).elim
          | nd i e u l r =>
            obtain ⟨g7, cap7, h7, _, hgl7⟩ := hs7.form (by simp)
            rw [List.length_append, List.length_singleton] at h7
            subst h7
            have hroom := hs7.room
            have x0 := cell_all (hs7.at (g := g7) (cap := cap7) plE (by simp) stk'.length (Tr.nd i e u l r, ⟨⟨ph, pl, pv⟩, pn⟩) (by simp) 0 (by omega))
            have x1 := cell_all (hs7.at (g := g7) (cap := cap7) plE (by simp) stk'.length (Tr.nd i e u l r, ⟨⟨ph, pl, pv⟩, pn⟩) (by simp) 1 (by omega))
            have x2 := cell_all (hs7.at (g := g7) (cap := cap7) plE (by simp) stk'.length (Tr.nd i e u l r, ⟨⟨ph, pl, pv⟩, pn⟩) (by simp) 2 (by omega))
            have x3 := cell_all (hs7.at (g := g7) (cap := cap7) plE (by simp) stk'.length (Tr.nd i e u l r, ⟨⟨ph, pl, pv⟩, pn⟩) (by simp) 3 (by omega))
            have x4 := cell_all (hs7.at (g := g7) (cap := cap7) plE (by simp) stk'.length (Tr.nd i e u l r, ⟨⟨ph, pl, pv⟩, pn⟩) (by simp) 4 (by omega))
            have hpop := hs7.pop plE
            simp only [plC, List.getElem?_cons_succ, List.getElem?_cons_zero, List.length_append, List.length_singleton, Nat.add_zero, Tr.at_] at x0 x1 x2 x3 x4 hroom hpop
            have hnd := hR1.here
            have hil := (List.getElem?_eq_some_iff.1 hnd).1
            have hTr := HT.out.gr hg
            have nI := hTr.at.node rfl i _ hnd
            have n0 := cell_all nI.k0
            have n1 := cell_all nI.k1
            have n2 := cell_all nI.up
            have n3 := cell_all nI.ends
            have n4 := cell_all nI.v
            have cT := kept hTr.blk
            have hkk := wsize_app stk' [(Tr.nd i e u l r, (⟨⟨ph, pl, pv⟩, pn⟩ : Px))]
            have HH := Lib.hid (And.intro ho (And.intro hg (And.intro htot (And.intro hsz (And.intro hk (And.intro hkk (And.intro hall (And.intro hpop hR1))))))))
            have HTr := Lib.hid hTr
            clear ho hg htot hsz hk hkk hall hpop hR1 hTr nI hs7 hT1
            have hx9 : (i : Int) < (t.ar.length : Int) := by omega
            clear hnd hil
            have HS := Lib.hid hs
            clear hs
            generalize hmm : stk'.length = m at x0 x1 x2 x3 x4 hroom ⊢
            have HM := Lib.hid hmm
            clear hmm
            obtain ⟨hr1, hr2⟩ := hroom
            have hx4 : (0 : Int) ≤ (m : Int) := by omega
            have hx5 : (m : Int) < (m : Int) + 1 := by omega
            have hx6 : (0 : Int) < (m : Int) + 1 := by omega
            have hx7 : m ≤ cap7 := by omega
            have hx8 : (m : Int) ≤ (cap7 : Int) := by omega
            have hx3 : wrap64 (m : Int) = m := IntWalk.wrap64_in _ (by simp only [maxLen] at hr2; omega)
            have HQ := Lib.hid (And.intro hm (And.intro hlen (And.intro hgl (And.intro hcs hgl7))))
            clear hr1 hr2 hm hlen hgl hcs hgl7
            go_wp2_with fail
            have g1k := blk_new wr (Obj.cells #[Value.int IntKind.i64 (i : Int), Value.int IntKind.u64 (ph.toNat : Int), Value.int IntKind.u64 (pl.toNat : Int), Value.bool pv, Value.int IntKind.i64 pn] 217)
            have g1b := (Gr.refl wr).alloc (Obj.cells #[Value.int IntKind.i64 (i : Int), Value.int IntKind.u64 (ph.toNat : Int), Value.int IntKind.u64 (pl.toNat : Int), Value.bool pv, Value.int IntKind.i64 pn] 217)
            generalize g1h : wr.alloc (Obj.cells #[Value.int IntKind.i64 (i : Int), Value.int IntKind.u64 (ph.toNat : Int), Value.int IntKind.u64 (pl.toNat : Int), Value.bool pv, Value.int IntKind.i64 pn] 217) = W1 at g1k g1b ⊢
            clear g1h
            have g1c := kept g1k
            have g1f := kept_free g1k
            have g1z := blk_lt g1k
            clear n0 n1 n2 n3 n4 cT x0 x1 x2 x3 x4
            have hT1 := HTr.out.gr g1b
            have nI := hT1.at.node rfl i _ HH.out.2.2.2.2.2.2.2.2.here
            have n0 := cell_all nI.k0
            have n1 := cell_all nI.k1
            have n2 := cell_all nI.up
            have n3 := cell_all nI.ends
            have n4 := cell_all nI.v
            have cT := kept hT1.blk
            clear nI
            replace HTr := Lib.hid hT1
            clear hT1
            refine wp_region_mix [(0, 0), (1, 0), (2, 0), (3, 1), (4, 0), (5, 1), (6, 0), (7, 1), (8, 2), (9, 2)] 9 (fun w' => Gr W1 w') (by kernel_rfl) (by kernel_rfl) (Gr.refl _).drew (fun wz hwz => ?_)
            have hS : Gr W1 wz := by rw [hwz]; exact (Gr.refl _).drew
            clear hwz
            simp only [pickL, pick1]
            repeat (first | (refine mx_skip0 (by with_unfolding_all rfl) ?_; try simp only [Act.put, List.setIfInBounds_toArray, List.set_cons_zero, List.set_cons_succ]) | (refine mx_skip1 (by with_unfolding_all rfl) ?_; try simp only [Act.put, List.setIfInBounds_toArray, List.set_cons_zero, List.set_cons_succ]) | (refine mx_pure (by rfl) ?_; apply Exists.intro; refine ⟨fun wq => ?_, ?_⟩; (· (go_simp; with_reducible rfl)); try simp only [Act.put, List.setIfInBounds_toArray, List.set_cons_zero, List.set_cons_succ]) | (refine mx_load (by rfl) ?_; apply Exists.intro; refine ⟨fun wq hq => ?_, ?_⟩; (· (go_simp; with_reducible rfl)); try simp only [Act.put, List.setIfInBounds_toArray, List.set_cons_zero, List.set_cons_succ]))
            refine mx_act (by rfl) (by rfl) (fun K hK => ?_)
            go_simp
            refine hK.out _ _ (fun _ => hS.alloc _) ?_
            clear hK K
            try simp only [Act.put, List.setIfInBounds_toArray, List.set_cons_zero, List.set_cons_succ]
            repeat (first | (refine mx_skip0 (by with_unfolding_all rfl) ?_; try simp only [Act.put, List.setIfInBounds_toArray, List.set_cons_zero, List.set_cons_succ]) | (refine mx_skip1 (by with_unfolding_all rfl) ?_; try simp only [Act.put, List.setIfInBounds_toArray, List.set_cons_zero, List.set_cons_succ]) | (refine mx_pure (by rfl) ?_; apply Exists.intro; refine ⟨fun wq => ?_, ?_⟩; (· (go_simp; with_reducible rfl)); try simp only [Act.put, List.setIfInBounds_toArray, List.set_cons_zero, List.set_cons_succ]) | (refine mx_load (by rfl) ?_; apply Exists.intro; refine ⟨fun wq hq => ?_, ?_⟩; (· (go_simp; with_reducible rfl)); try simp only [Act.put, List.setIfInBounds_toArray, List.set_cons_zero, List.set_cons_succ]))
            refine mx_act (by rfl) (by rfl) (fun K hK => ?_)
            go_simp
            refine hK.out _ _ (fun h => by simp at h) ?_
            clear hK K
            try simp only [Act.put, List.setIfInBounds_toArray, List.set_cons_zero, List.set_cons_succ]
            repeat (first | (refine mx_skip0 (by with_unfolding_all rfl) ?_; try simp only [Act.put, List.setIfInBounds_toArray, List.set_cons_zero, List.set_cons_succ]) | (refine mx_skip1 (by with_unfolding_all rfl) ?_; try simp only [Act.put, List.setIfInBounds_toArray, List.set_cons_zero, List.set_cons_succ]) | (refine mx_pure (by rfl) ?_; apply Exists.intro; refine ⟨fun wq => ?_, ?_⟩; (· (go_simp; with_reducible rfl)); try simp only [Act.put, List.setIfInBounds_toArray, List.set_cons_zero, List.set_cons_succ]) | (refine mx_load (by rfl) ?_; apply Exists.intro; refine ⟨fun wq hq => ?_, ?_⟩; (· (go_simp; with_reducible rfl)); try simp only [Act.put, List.setIfInBounds_toArray, List.set_cons_zero, List.set_cons_succ]))
            refine mx_end ?_
            go_upto_region 10 with fail
            have g2k := blk_new wz (Obj.cells #[Value.int IntKind.i64 l.at_, Value.int IntKind.i64 r.at_, Value.int IntKind.i64 up1, Value.bool e, Value.int IntKind.i64 u] 153)
            have g2b := (Gr.refl wz).alloc (Obj.cells #[Value.int IntKind.i64 l.at_, Value.int IntKind.i64 r.at_, Value.int IntKind.i64 up1, Value.bool e, Value.int IntKind.i64 u] 153)
            generalize g2h : wz.alloc (Obj.cells #[Value.int IntKind.i64 l.at_, Value.int IntKind.i64 r.at_, Value.int IntKind.i64 up1, Value.bool e, Value.int IntKind.i64 u] 153) = W2 at g2k g2b ⊢
            clear g2h
            have g2c := kept g2k
            have g2f := kept_free g2k
            have g2z := blk_lt g2k
            have hG2 := g1b.trans (hS.trans g2b)
            have bx := blk_gr g1k (hS.trans g2b)
            have d0 := kept bx
            have ho2 := HH.out.1.gr hG2
            have hp2 := HH.out.2.2.2.2.2.2.2.1.gr hG2
            rw [HM.out] at hp2
            clear n0 n1 n2 n3 n4 cT g1c g1f g2f g1b g1k
            have HX := Lib.hid bx
            have HN := Lib.hid g2k
            have HGG := Lib.hid hG2
            clear bx g2k hG2 g2b hS
            have hol : out.length ≤ 900000 := by
              obtain ⟨h1, h2, h3, h4⟩ := HQ.out
              obtain ⟨_, _, _, h5, h6, h7, _⟩ := HH.out
              omega
            have HOL := Lib.hid hol
            clear hol
            have HK := Lib.hid (show stk'.length ≤ 900000 by
              obtain ⟨h1, h2, h3, h4, h5⟩ := HQ.out
              obtain ⟨_, _, _, h6, h7, h8, h9, _⟩ := HH.out
              have := wlen (l := stk') fun x hx => (h9 x (by simp [hx])).1
              omega)
            have HT2 := Lib.hid (unNext HH.out.2.2.2.2.2.2.1 HH.out.2.2.2.2.2.2.2.2 HH.out.2.2.1 HH.out.2.2.2.2.1 HH.out.2.2.2.1)
            have hgw := HH.out.2.1.trans HGG.out
            cases e
            case' false =>
              go_wp2_with fail
              have HO := Lib.hid ho2
              have HP := Lib.hid hp2
              have HG := Lib.hid hgw
              clear ho2 hp2 hgw HH HGG
              obtain ⟨ee, HN⟩ : ∃ ee, Hid (W2.heap[wz.heap.size]? = some (.cells #[Value.int IntKind.i64 l.at_, Value.int IntKind.i64 r.at_, Value.int IntKind.i64 up1, Value.bool ee, Value.int IntKind.i64 u] 153 (0, 0))) := ⟨_, HN⟩
              obtain ⟨out3, ho3, HT2⟩ : ∃ out3, out3 = out ∧ Hid (UnNext t.ar TOT NT kk out3 (stk' ++ kidsW l r ⟨⟨ph, pl, pv⟩, pn⟩)) := ⟨out, rfl, by simpa using HT2⟩
              rw [← ho3] at HO
              clear ho3 HOL
              generalize W2 = w3 at HO HP HG HX HN ⊢
              generalize u6 = vv at HO ⊢
            case' true =>
              go_wp2_with (at_builtin; refine wpList_app pairT prE w.heap.size rfl (.tmp 46) (.tmp 52) rfl u6 rfl (ho2.gr ((Gr.refl _).alloc _)) _ 1 rfl ((⟨⟨ph, pl, pv⟩, pn⟩ : Px), u) (0, 0) (blk_new _ _) (by have := HOL.out; omega) (by have h1 := HH.out.2.1.size; have h2 := HGG.out.size; simp only [World.size_alloc]; omega) ?_; intro g' cap' w3 hown hgrew hloc)
              have HO := Lib.hid hown
              have HP := Lib.hid ((hp2.gr ((Gr.refl _).alloc _)).grew hgrew (fun b hb => own_apart hp2 ho2 (by decide) hb))
              have HG := Lib.hid (hgrew.gr (hgw.alloc _) (fun b hb => (ho2.block hb).1))
              replace HX := Lib.hid (hgrew.blk (blk_old HX.out _) (ho2.apart HX.out (by decide)))
              have HN2 := Lib.hid (hgrew.blk (blk_old HN.out _) (ho2.apart HN.out (by decide)))
              clear HN
              obtain ⟨ee, HN⟩ : ∃ ee, Hid (w3.heap[wz.heap.size]? = some (.cells #[Value.int IntKind.i64 l.at_, Value.int IntKind.i64 r.at_, Value.int IntKind.i64 up1, Value.bool ee, Value.int IntKind.i64 u] 153 (0, 0))) := ⟨_, HN2⟩
              clear HN2
              obtain ⟨out3, ho3, HT2⟩ : ∃ out3, out3 = out ++ [((⟨⟨ph, pl, pv⟩, pn⟩ : Px), u)] ∧ Hid (UnNext t.ar TOT NT kk out3 (stk' ++ kidsW l r ⟨⟨ph, pl, pv⟩, pn⟩)) := ⟨_, rfl, by simpa using HT2⟩
              rw [← ho3] at HO
              clear ho2 hp2 hgw HH HGG hown hgrew hloc ho3 HOL
              generalize Value.slice (some ⟨g', 0, none⟩) (out.length + 1) cap' = vv at HO ⊢
            all_goals
              clear hx3 hx4 hx5 hx6 hx7 hx8 hx9 d0
              generalize wr.heap.size = bX at HX HQ ⊢
              generalize wz.heap.size = bN at HN ⊢
              go_loopg [7, 10] 2 (fun k s7 s10 wq => ∃ stkq, Own wq w.heap.size 217 5 plC s7 stkq ∧ s7.ownBlock ≠ some bX ∧ Own wq w.heap.size 39 5 prC vv out3 ∧ Gr w wq ∧ wq.heap[bX]? = some (.cells #[Value.int IntKind.i64 (i : Int), Value.int IntKind.u64 (ph.toNat : Int), Value.int IntKind.u64 (pl.toNat : Int), Value.bool pv, Value.int IntKind.i64 pn] 217 (0, 0)) ∧ wq.heap[bN]? = some (.cells #[Value.int IntKind.i64 l.at_, Value.int IntKind.i64 r.at_, Value.int IntKind.i64 up1, Value.bool ee, Value.int IntKind.i64 u] 153 (0, 0)) ∧ ((k = 2 ∧ s10 = .int .i64 1) ∨ (k = 1 ∧ s10 = .int .i64 0) ∨ (k = 0 ∧ s10 = .int .i64 (-1))) ∧ stkq = stk' ++ pushed k l r ⟨⟨ph, pl, pv⟩, pn⟩)
              case atStart => exact ⟨stk', HP.out, (by have := HQ.out.2.2.2.2; simp only [Value.ownBlock, ne_eq, Option.some.injEq]; omega), HO.out, HG.out, HX.out, HN.out, .inl ⟨rfl, rfl⟩, by simp [pushed]⟩
              case round =>
                obtain ⟨stkq, hp, hpx, ho, hg, hx, hn, hkc, hst⟩ := hrel
                rcases hkc with ⟨rfl, rfl⟩ | ⟨rfl, rfl⟩ | ⟨rfl, rfl⟩
                · -- side 1
                  by_cases hc : hasChild ⟨⟨ph, pl, pv⟩, pn⟩ = true
                  · have HC := Lib.hid hc
                    cases r with
                    | nil =>
                      simp only [Tr.at_] at hn
                      have yX := kept hx
                      clear hc
                      go_wp2_with (go_at_call 145; refine (child_yes ph pl pv pn 1 _ HC.out (by decide)).mono ?_; rintro e' w4 ⟨rfl, hb4⟩; have yN := kept (blk_gr hn hb4))
                      go_roundg 1
                      case measure => omega
                      case rel => exact ⟨_, (hp.gr hb4).gr ((Gr.refl _).alloc _), hpx, (ho.gr hb4).gr ((Gr.refl _).alloc _), (hg.trans hb4).alloc _, blk_old (blk_gr hx hb4) _, blk_old (blk_gr hn hb4) _, by simp, by rw [hst, pushed1]; simp [Tr.isNil]⟩
                    | nd kj ke kv kl kr =>
                      simp only [Tr.at_] at hn
                      have hkj : ((kj : Int) != -1) = true := by simp
                      have yX := kept hx
                      clear hc
                      go_upto_region 17 with (go_at_call 145; refine (child_yes ph pl pv pn 1 _ HC.out (by decide)).mono ?_; rintro e' w4 ⟨rfl, hb4⟩; have yN := kept (blk_gr hn hb4))
                      generalize hcp : (childP ⟨⟨ph, pl, pv⟩, pn⟩ 1) = q at *
                      have g5k := blk_new w4 (Obj.cells #[Value.int IntKind.u64 ((q).a.hi.toNat : Int), Value.int IntKind.u64 ((q).a.lo.toNat : Int), Value.bool (q).a.v6, Value.int IntKind.i64 (q).n] 32)
                      have g5b := (Gr.refl w4).alloc (Obj.cells #[Value.int IntKind.u64 ((q).a.hi.toNat : Int), Value.int IntKind.u64 ((q).a.lo.toNat : Int), Value.bool (q).a.v6, Value.int IntKind.i64 (q).n] 32)
                      generalize g5h : w4.alloc (Obj.cells #[Value.int IntKind.u64 ((q).a.hi.toNat : Int), Value.int IntKind.u64 ((q).a.lo.toNat : Int), Value.bool (q).a.v6, Value.int IntKind.i64 (q).n] 32) = W5 at g5k g5b ⊢
                      clear g5h
                      have g5c := kept g5k
                      have g5f := kept_free g5k
                      have g5z := blk_lt g5k
                      have hb5 := hb4.trans g5b
                      have hl5 : stkq.length ≤ 900002 := by
                        have h1 := HK.out
                        have h2 := pushed_len 2 l (Tr.nd kj ke kv kl kr) ⟨⟨ph, pl, pv⟩, pn⟩
                        rw [hst, List.length_append]
                        omega
                      replace hp := hp.gr hb5
                      replace ho := ho.gr hb5
                      replace hx := blk_gr hx hb5
                      replace hn := blk_gr hn hb5
                      replace hg := hg.trans hb5
                      clear hb5 g5b hb4 yX yN g5f g5k
                      have yN := kept hn
                      have HB5 := Lib.hid (And.intro hp (And.intro ho (And.intro hx (And.intro hg (And.intro hl5 hpx)))))
                      clear hp ho hx hg hl5 hpx
                      have HN5 := Lib.hid hn
                      clear hn
                      have HST := Lib.hid hst
                      clear hst
                      refine wp_region_mix [(0, 0), (1, 0), (2, 0), (3, 0), (4, 1), (5, 1), (6, 0), (7, 2), (8, 2), (9, 0)] 8 (fun w' => Gr W5 w') (by kernel_rfl) (by kernel_rfl) (Gr.refl _).drew (fun wz hwz => ?_)
                      have hS : Gr W5 wz := by rw [hwz]; exact (Gr.refl _).drew
                      clear hwz
                      simp only [pickL, pick1]
                      repeat (first | (refine mx_skip0 (by with_unfolding_all rfl) ?_; try simp only [Act.put, List.setIfInBounds_toArray, List.set_cons_zero, List.set_cons_succ]) | (refine mx_skip1 (by with_unfolding_all rfl) ?_; try simp only [Act.put, List.setIfInBounds_toArray, List.set_cons_zero, List.set_cons_succ]) | (refine mx_pure (by rfl) ?_; apply Exists.intro; refine ⟨fun wq => ?_, ?_⟩; (· (go_simp; with_reducible rfl)); try simp only [Act.put, List.setIfInBounds_toArray, List.set_cons_zero, List.set_cons_succ]) | (refine mx_load (by rfl) ?_; apply Exists.intro; refine ⟨fun wq hq => ?_, ?_⟩; (· (go_simp; with_reducible rfl)); try simp only [Act.put, List.setIfInBounds_toArray, List.set_cons_zero, List.set_cons_succ]))
                      refine mx_act (by rfl) (by rfl) (fun K hK => ?_)
                      go_simp
                      refine hK.out _ _ (fun _ => hS.alloc _) ?_
                      clear hK K
                      try simp only [Act.put, List.setIfInBounds_toArray, List.set_cons_zero, List.set_cons_succ]
                      repeat (first | (refine mx_skip0 (by with_unfolding_all rfl) ?_; try simp only [Act.put, List.setIfInBounds_toArray, List.set_cons_zero, List.set_cons_succ]) | (refine mx_skip1 (by with_unfolding_all rfl) ?_; try simp only [Act.put, List.setIfInBounds_toArray, List.set_cons_zero, List.set_cons_succ]) | (refine mx_pure (by rfl) ?_; apply Exists.intro; refine ⟨fun wq => ?_, ?_⟩; (· (go_simp; with_reducible rfl)); try simp only [Act.put, List.setIfInBounds_toArray, List.set_cons_zero, List.set_cons_succ]) | (refine mx_load (by rfl) ?_; apply Exists.intro; refine ⟨fun wq hq => ?_, ?_⟩; (· (go_simp; with_reducible rfl)); try simp only [Act.put, List.setIfInBounds_toArray, List.set_cons_zero, List.set_cons_succ]))
                      refine mx_act (by rfl) (by rfl) (fun K hK => ?_)
                      refine wp_app placeT plE w.heap.size (.tmp 73) (.tmp 80) rfl _ rfl ((HB5.out.1.gr hS).gr ((Gr.refl _).alloc _)) wz.heap.size 1 rfl (Tr.nd kj ke kv kl kr, q) (0, 0) (blk_new _ _) (by have := HB5.out.2.2.2.2.1; omega) (by have h1 := HB5.out.2.2.2.1.size; have h2 := hS.size; simp only [World.size_alloc]; omega) ?_
                      intro g' cap' w6 hown hgrew hloc
                      refine hK.out _ _ (fun h => by simp at h) ?_
                      clear hK K
                      try simp only [Act.put, List.setIfInBounds_toArray, List.set_cons_zero, List.set_cons_succ]
                      repeat (first | (refine mx_skip0 (by with_unfolding_all rfl) ?_; try simp only [Act.put, List.setIfInBounds_toArray, List.set_cons_zero, List.set_cons_succ]) | (refine mx_skip1 (by with_unfolding_all rfl) ?_; try simp only [Act.put, List.setIfInBounds_toArray, List.set_cons_zero, List.set_cons_succ]) | (refine mx_pure (by rfl) ?_; apply Exists.intro; refine ⟨fun wq => ?_, ?_⟩; (· (go_simp; with_reducible rfl)); try simp only [Act.put, List.setIfInBounds_toArray, List.set_cons_zero, List.set_cons_succ]) | (refine mx_load (by rfl) ?_; apply Exists.intro; refine ⟨fun wq hq => ?_, ?_⟩; (· (go_simp; with_reducible rfl)); try simp only [Act.put, List.setIfInBounds_toArray, List.set_cons_zero, List.set_cons_succ]))
                      refine mx_end ?_
                      go_wp2_with fail
                      go_roundg 1
                      case measure => omega
                      case rel =>
                        obtain ⟨hp, ho, hx, hg, hl5, hpx⟩ := HB5.out
                        have hpz := hp.gr hS
                        have hoz := ho.gr hS
                        refine ⟨_, hown, ?_, (hoz.gr ((Gr.refl _).alloc _)).grew hgrew (fun b hb => own_apart hoz hpz (by decide) hb), hgrew.gr ((hg.trans hS).alloc _) (fun b hb => (hpz.block hb).1), hgrew.blk (blk_old (blk_gr hx hS) _) hpx, hgrew.blk (blk_old (blk_gr HN5.out hS) _) (hpz.apart (blk_gr HN5.out hS) (by decide)), by simp, ?_⟩
                        · have hxl := blk_lt (blk_gr hx hS)
                          simp only [Value.ownBlock, ne_eq, Option.some.injEq]
                          rcases hloc with hl | hl
                          · rintro rfl; exact hpx hl
                          · simp only [World.size_alloc] at hl; omega
                        · rw [HST.out, pushed1, hcp]
                          simp [Tr.isNil, HC.out]
                  · have HC := Lib.hid (show hasChild ⟨⟨ph, pl, pv⟩, pn⟩ = false by simpa using hc)
                    have yX := kept hx
                    clear hc
                    go_wp2_with (go_at_call 145; refine (child_no ph pl pv pn 1 _ HC.out).mono ?_; rintro e' w4 ⟨rfl, hb4⟩)
                    go_roundg 1
                    case measure => omega
                    case rel => exact ⟨_, (hp.gr hb4).gr ((Gr.refl _).alloc _), hpx, (ho.gr hb4).gr ((Gr.refl _).alloc _), (hg.trans hb4).alloc _, blk_old (blk_gr hx hb4) _, blk_old (blk_gr hn hb4) _, by simp, by rw [hst, pushed1]; simp [HC.out]⟩
                · -- side 0
                  by_cases hc : hasChild ⟨⟨ph, pl, pv⟩, pn⟩ = true
                  · have HC := Lib.hid hc
                    cases l with
                    | nil =>
                      simp only [Tr.at_] at hn
                      have yX := kept hx
                      clear hc
                      go_wp2_with (go_at_call 145; refine (child_yes ph pl pv pn 0 _ HC.out (by decide)).mono ?_; rintro e' w4 ⟨rfl, hb4⟩; have yN := kept (blk_gr hn hb4))
                      go_roundg 0
                      case measure => omega
                      case rel => exact ⟨_, (hp.gr hb4).gr ((Gr.refl _).alloc _), hpx, (ho.gr hb4).gr ((Gr.refl _).alloc _), (hg.trans hb4).alloc _, blk_old (blk_gr hx hb4) _, blk_old (blk_gr hn hb4) _, by simp, by rw [hst, pushed0]; simp [Tr.isNil]⟩
                    | nd kj ke kv kl kr =>
                      simp only [Tr.at_] at hn
                      have hkj : ((kj : Int) != -1) = true := by simp
                      have yX := kept hx
                      clear hc
                      go_upto_region 17 with (go_at_call 145; refine (child_yes ph pl pv pn 0 _ HC.out (by decide)).mono ?_; rintro e' w4 ⟨rfl, hb4⟩; have yN := kept (blk_gr hn hb4))
                      generalize hcp : (childP ⟨⟨ph, pl, pv⟩, pn⟩ 0) = q at *
                      have g5k := blk_new w4 (Obj.cells #[Value.int IntKind.u64 ((q).a.hi.toNat : Int), Value.int IntKind.u64 ((q).a.lo.toNat : Int), Value.bool (q).a.v6, Value.int IntKind.i64 (q).n] 32)
                      have g5b := (Gr.refl w4).alloc (Obj.cells #[Value.int IntKind.u64 ((q).a.hi.toNat : Int), Value.int IntKind.u64 ((q).a.lo.toNat : Int), Value.bool (q).a.v6, Value.int IntKind.i64 (q).n] 32)
                      generalize g5h : w4.alloc (Obj.cells #[Value.int IntKind.u64 ((q).a.hi.toNat : Int), Value.int IntKind.u64 ((q).a.lo.toNat : Int), Value.bool (q).a.v6, Value.int IntKind.i64 (q).n] 32) = W5 at g5k g5b ⊢
                      clear g5h
                      have g5c := kept g5k
                      have g5f := kept_free g5k
                      have g5z := blk_lt g5k
                      have hb5 := hb4.trans g5b
                      have hl5 : stkq.length ≤ 900002 := by
                        have h1 := HK.out
                        have h2 := pushed_len 1 (Tr.nd kj ke kv kl kr) r ⟨⟨ph, pl, pv⟩, pn⟩
                        rw [hst, List.length_append]
                        omega
                      replace hp := hp.gr hb5
                      replace ho := ho.gr hb5
                      replace hx := blk_gr hx hb5
                      replace hn := blk_gr hn hb5
                      replace hg := hg.trans hb5
                      clear hb5 g5b hb4 yX yN g5f g5k
                      have yN := kept hn
                      have HB5 := Lib.hid (And.intro hp (And.intro ho (And.intro hx (And.intro hg (And.intro hl5 hpx)))))
                      clear hp ho hx hg hl5 hpx
                      have HN5 := Lib.hid hn
                      clear hn
                      have HST := Lib.hid hst
                      clear hst
                      refine wp_region_mix [(0, 0), (1, 0), (2, 0), (3, 0), (4, 1), (5, 1), (6, 0), (7, 2), (8, 2), (9, 0)] 8 (fun w' => Gr W5 w') (by kernel_rfl) (by kernel_rfl) (Gr.refl _).drew (fun wz hwz => ?_)
                      have hS : Gr W5 wz := by rw [hwz]; exact (Gr.refl _).drew
                      clear hwz
                      simp only [pickL, pick1]
                      repeat (first | (refine mx_skip0 (by with_unfolding_all rfl) ?_; try simp only [Act.put, List.setIfInBounds_toArray, List.set_cons_zero, List.set_cons_succ]) | (refine mx_skip1 (by with_unfolding_all rfl) ?_; try simp only [Act.put, List.setIfInBounds_toArray, List.set_cons_zero, List.set_cons_succ]) | (refine mx_pure (by rfl) ?_; apply Exists.intro; refine ⟨fun wq => ?_, ?_⟩; (· (go_simp; with_reducible rfl)); try simp only [Act.put, List.setIfInBounds_toArray, List.set_cons_zero, List.set_cons_succ]) | (refine mx_load (by rfl) ?_; apply Exists.intro; refine ⟨fun wq hq => ?_, ?_⟩; (· (go_simp; with_reducible rfl)); try simp only [Act.put, List.setIfInBounds_toArray, List.set_cons_zero, List.set_cons_succ]))
                      refine mx_act (by rfl) (by rfl) (fun K hK => ?_)
                      go_simp
                      refine hK.out _ _ (fun _ => hS.alloc _) ?_
                      clear hK K
                      try simp only [Act.put, List.setIfInBounds_toArray, List.set_cons_zero, List.set_cons_succ]
                      repeat (first | (refine mx_skip0 (by with_unfolding_all rfl) ?_; try simp only [Act.put, List.setIfInBounds_toArray, List.set_cons_zero, List.set_cons_succ]) | (refine mx_skip1 (by with_unfolding_all rfl) ?_; try simp only [Act.put, List.setIfInBounds_toArray, List.set_cons_zero, List.set_cons_succ]) | (refine mx_pure (by rfl) ?_; apply Exists.intro; refine ⟨fun wq => ?_, ?_⟩; (· (go_simp; with_reducible rfl)); try simp only [Act.put, List.setIfInBounds_toArray, List.set_cons_zero, List.set_cons_succ]) | (refine mx_load (by rfl) ?_; apply Exists.intro; refine ⟨fun wq hq => ?_, ?_⟩; (· (go_simp; with_reducible rfl)); try simp only [Act.put, List.setIfInBounds_toArray, List.set_cons_zero, List.set_cons_succ]))
                      refine mx_act (by rfl) (by rfl) (fun K hK => ?_)
                      refine wp_app placeT plE w.heap.size (.tmp 73) (.tmp 80) rfl _ rfl ((HB5.out.1.gr hS).gr ((Gr.refl _).alloc _)) wz.heap.size 1 rfl (Tr.nd kj ke kv kl kr, q) (0, 0) (blk_new _ _) (by have := HB5.out.2.2.2.2.1; omega) (by have h1 := HB5.out.2.2.2.1.size; have h2 := hS.size; simp only [World.size_alloc]; omega) ?_
                      intro g' cap' w6 hown hgrew hloc
                      refine hK.out _ _ (fun h => by simp at h) ?_
                      clear hK K
                      try simp only [Act.put, List.setIfInBounds_toArray, List.set_cons_zero, List.set_cons_succ]
                      repeat (first | (refine mx_skip0 (by with_unfolding_all rfl) ?_; try simp only [Act.put, List.setIfInBounds_toArray, List.set_cons_zero, List.set_cons_succ]) | (refine mx_skip1 (by with_unfolding_all rfl) ?_; try simp only [Act.put, List.setIfInBounds_toArray, List.set_cons_zero, List.set_cons_succ]) | (refine mx_pure (by rfl) ?_; apply Exists.intro; refine ⟨fun wq => ?_, ?_⟩; (· (go_simp; with_reducible rfl)); try simp only [Act.put, List.setIfInBounds_toArray, List.set_cons_zero, List.set_cons_succ]) | (refine mx_load (by rfl) ?_; apply Exists.intro; refine ⟨fun wq hq => ?_, ?_⟩; (· (go_simp; with_reducible rfl)); try simp only [Act.put, List.setIfInBounds_toArray, List.set_cons_zero, List.set_cons_succ]))
                      refine mx_end ?_
                      go_wp2_with fail
                      go_roundg 0
                      case measure => omega
                      case rel =>
                        obtain ⟨hp, ho, hx, hg, hl5, hpx⟩ := HB5.out
                        have hpz := hp.gr hS
                        have hoz := ho.gr hS
                        refine ⟨_, hown, ?_, (hoz.gr ((Gr.refl _).alloc _)).grew hgrew (fun b hb => own_apart hoz hpz (by decide) hb), hgrew.gr ((hg.trans hS).alloc _) (fun b hb => (hpz.block hb).1), hgrew.blk (blk_old (blk_gr hx hS) _) hpx, hgrew.blk (blk_old (blk_gr HN5.out hS) _) (hpz.apart (blk_gr HN5.out hS) (by decide)), by simp, ?_⟩
                        · have hxl := blk_lt (blk_gr hx hS)
                          simp only [Value.ownBlock, ne_eq, Option.some.injEq]
                          rcases hloc with hl | hl
                          · rintro rfl; exact hpx hl
                          · simp only [World.size_alloc] at hl; omega
                        · rw [HST.out, pushed0, hcp]
                          simp [Tr.isNil, HC.out]
                  · have HC := Lib.hid (show hasChild ⟨⟨ph, pl, pv⟩, pn⟩ = false by simpa using hc)
                    have yX := kept hx
                    clear hc
                    go_wp2_with (go_at_call 145; refine (child_no ph pl pv pn 0 _ HC.out).mono ?_; rintro e' w4 ⟨rfl, hb4⟩)
                    go_roundg 0
                    case measure => omega
                    case rel => exact ⟨_, (hp.gr hb4).gr ((Gr.refl _).alloc _), hpx, (ho.gr hb4).gr ((Gr.refl _).alloc _), (hg.trans hb4).alloc _, blk_old (blk_gr hx hb4) _, blk_old (blk_gr hn hb4) _, by simp, by rw [hst, pushed0]; simp [HC.out]⟩
                · go_wp2_with fail
                  go_roundg (wsize stkq)
                  case measure =>
                    have h1 := HT2.out.less
                    rw [HKK.out] at h1
                    rw [hst]
                    exact h1
                  case rel =>
                    have e0 : pushed 0 l r ⟨⟨ph, pl, pv⟩, pn⟩ = kidsW l r ⟨⟨ph, pl, pv⟩, pn⟩ := rfl
                    rw [e0] at hst
                    exact ⟨stkq, out3, ho, hp, hg, rfl, by rw [hst]; exact HT2.out.all, by rw [hst]; exact HT2.out.tot, by rw [hst]; exact HT2.out.size⟩

end Go.Proofs.Ytdecgbgndffkkaa
