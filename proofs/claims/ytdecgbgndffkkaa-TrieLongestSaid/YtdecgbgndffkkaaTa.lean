/- Above: what ends on the way down. -/
import Derived.Test.YtdecgbgndffkkaaTx
import Derived.Test.YtdecgbgndffkkaaMx
set_option linter.unusedVariables false
set_option linter.unusedSimpArgs false
namespace Go.Proofs.Ytdecgbgndffkkaa
open Go.RowKit

/-- what Above holds while it walks -/
structure AbS (w0 W : World) (tb tc pb ob : Nat) (p : Px) (l : List (Px × Int)) (v : Value) : Prop where
  gr : Gr w0 W
  tc_ : W.heap[tc]? = some (.cells #[.pointer (some ⟨tb, 0, none⟩)] 27 (0, 0))
  pb_ : W.heap[pb]? = some (.cells #[Value.int IntKind.u64 ((p).a.hi.toNat : Int), Value.int IntKind.u64 ((p).a.lo.toNat : Int), Value.bool (p).a.v6, Value.int IntKind.i64 (p).n] 32 (0, 0))
  ob_ : W.heap[ob]? = some (.cells #[v] 35 (0, 0))
  own : Own W w0.heap.size 39 5 prC v l

set_option maxRecDepth 1000000 in
set_option maxHeartbeats 2000000 in
theorem abovec_c {base tb : Nat} {t : TS} {va vf : Value} (w0 W : World) (hT : TrieAt w0 base tb t va vf) (i : Nat) (x : Nd) (hx : t.ar[i]? = some x) (k : Int) (hi lo : BitVec 64) (v6 : Bool) (n : Int) (tc pb ob : Nat) (htc : w0.heap.size ≤ tc) (hpb : w0.heap.size ≤ pb) (hob : w0.heap.size ≤ ob) (l : List (Px × Int)) (v : Value)
    (h : AbS w0 W tb tc pb ob ⟨⟨hi, lo, v6⟩, n⟩ l v) (hl : l.length ≤ 1000) :
    Calls Try.prog 92 #[.int .i64 (i : Int), .int .i64 k, .pointer (some ⟨tc, 0, none⟩), .pointer (some ⟨ob, 0, none⟩), .pointer (some ⟨pb, 0, none⟩)] W fun e W' =>
      e = .returned (.bool true) ∧ (∀ b cs t' fr, W.heap[b]? = some (.cells cs t' fr) → b ≠ ob → t' ≠ 39 → W'.heap[b]? = W.heap[b]?) ∧ W.heap.size ≤ W'.heap.size ∧
        ∃ v', AbS w0 W' tb tc pb ob ⟨⟨hi, lo, v6⟩, n⟩ (l ++ if x.ends then [(ofP ⟨hi, lo, v6⟩ k, x.v)] else []) v' := by
  have hil : i < t.ar.length := (List.getElem?_eq_some_iff.1 hx).1
  obtain ⟨g, cap, rfl, hg, hgl⟩ := hT.slice_ (by omega)
  have hT1 := hT.gr h.gr
  have nI := hT1.node rfl i _ hx
  have n0 := cell_all nI.k0
  have n1 := cell_all nI.k1
  have n2 := cell_all nI.up
  have n3 := cell_all nI.ends
  have n4 := cell_all nI.v
  have cT := kept hT1.blk
  have c0 := kept h.tc_
  have c1 := kept h.pb_
  have c2 := kept h.ob_
  have H := Lib.hid h
  have HT := Lib.hid hT
  clear h hT nI hT1
  by_cases he : x.ends = true
  · rw [he] at n3
    rw [if_pos he]
    go_enter Try.func92, Try.ntmps92
    go_wp2_with fail
    have g1k := blk_new W (Obj.cells #[Value.int IntKind.i64 x.k0, Value.int IntKind.i64 x.k1, Value.int IntKind.i64 x.up, Value.bool true, Value.int IntKind.i64 x.v] 153)
    have g1b := (Gr.refl W).alloc (Obj.cells #[Value.int IntKind.i64 x.k0, Value.int IntKind.i64 x.k1, Value.int IntKind.i64 x.up, Value.bool true, Value.int IntKind.i64 x.v] 153)
    generalize g1h : W.alloc (Obj.cells #[Value.int IntKind.i64 x.k0, Value.int IntKind.i64 x.k1, Value.int IntKind.i64 x.up, Value.bool true, Value.int IntKind.i64 x.v] 153) = W1 at g1k g1b ⊢
    clear g1h
    have g1c := kept g1k
    have g1f := kept_free g1k
    have g1z := blk_lt g1k
    have d0 := kept (blk_gr H.out.tc_ g1b)
    have d1 := kept (blk_gr H.out.pb_ g1b)
    have d2 := kept (blk_gr H.out.ob_ g1b)
    have H2 := H.out.own.gr g1b
    clear n0 n1 n2 n3 n4 cT c0 c1 c2
    have hG0 := H.out.gr.trans g1b
    have hoz := blk_lt (blk_gr H.out.ob_ g1b)
    refine wp_region_mix [(0, 1), (1, 0), (2, 1), (3, 0), (5, 0), (6, 1), (4, 2), (7, 0), (8, 2), (9, 2), (10, 2)] 9 (fun w' => Gr W1 w') (by kernel_rfl) (by kernel_rfl) (Gr.refl _).drew (fun wz hwz => ?_)
    have hS : Gr W1 wz := by rw [hwz]; exact (Gr.refl _).drew
    clear hwz
    simp only [pickL, pick1]
    repeat (first | (refine mx_skip0 (by with_unfolding_all rfl) ?_; try simp only [Act.put, List.setIfInBounds_toArray, List.set_cons_zero, List.set_cons_succ]) | (refine mx_skip1 (by with_unfolding_all rfl) ?_; try simp only [Act.put, List.setIfInBounds_toArray, List.set_cons_zero, List.set_cons_succ]) | (refine mx_pure (by rfl) ?_; apply Exists.intro; refine ⟨fun wq => ?_, ?_⟩; (· (go_simp; with_reducible rfl)); try simp only [Act.put, List.setIfInBounds_toArray, List.set_cons_zero, List.set_cons_succ]) | (refine mx_load (by rfl) ?_; apply Exists.intro; refine ⟨fun wq hq => ?_, ?_⟩; (· (go_simp; with_reducible rfl)); try simp only [Act.put, List.setIfInBounds_toArray, List.set_cons_zero, List.set_cons_succ]))
    refine mx_act (by rfl) (by rfl) (fun K hK => ?_)
    go_simp
    (go_at_call 24; refine (ofP_c hi lo v6 k _).mono ?_; rintro e w1 ⟨rfl, hb1⟩)
    try (go_wp2_with fail)
    refine hK.out _ _ (fun _ => hS.trans hb1) ?_
    clear hK K
    try simp only [Act.put, List.setIfInBounds_toArray, List.set_cons_zero, List.set_cons_succ]
    repeat (first | (refine mx_skip0 (by with_unfolding_all rfl) ?_; try simp only [Act.put, List.setIfInBounds_toArray, List.set_cons_zero, List.set_cons_succ]) | (refine mx_skip1 (by with_unfolding_all rfl) ?_; try simp only [Act.put, List.setIfInBounds_toArray, List.set_cons_zero, List.set_cons_succ]) | (refine mx_pure (by rfl) ?_; apply Exists.intro; refine ⟨fun wq => ?_, ?_⟩; (· (go_simp; with_reducible rfl)); try simp only [Act.put, List.setIfInBounds_toArray, List.set_cons_zero, List.set_cons_succ]) | (refine mx_load (by rfl) ?_; apply Exists.intro; refine ⟨fun wq hq => ?_, ?_⟩; (· (go_simp; with_reducible rfl)); try simp only [Act.put, List.setIfInBounds_toArray, List.set_cons_zero, List.set_cons_succ]))
    have hk1 := hS.trans hb1
    refine mx_act (by rfl) (by rfl) (fun K hK => ?_)
    go_simp
    refine hK.out _ _ (fun _ => hk1.alloc _) ?_
    clear hK K
    try simp only [Act.put, List.setIfInBounds_toArray, List.set_cons_zero, List.set_cons_succ]
    repeat (first | (refine mx_skip0 (by with_unfolding_all rfl) ?_; try simp only [Act.put, List.setIfInBounds_toArray, List.set_cons_zero, List.set_cons_succ]) | (refine mx_skip1 (by with_unfolding_all rfl) ?_; try simp only [Act.put, List.setIfInBounds_toArray, List.set_cons_zero, List.set_cons_succ]) | (refine mx_pure (by rfl) ?_; apply Exists.intro; refine ⟨fun wq => ?_, ?_⟩; (· (go_simp; with_reducible rfl)); try simp only [Act.put, List.setIfInBounds_toArray, List.set_cons_zero, List.set_cons_succ]) | (refine mx_load (by rfl) ?_; apply Exists.intro; refine ⟨fun wq hq => ?_, ?_⟩; (· (go_simp; with_reducible rfl)); try simp only [Act.put, List.setIfInBounds_toArray, List.set_cons_zero, List.set_cons_succ]))
    have hob1 := blk_gr (blk_gr H.out.ob_ g1b) hk1
    have H3 := H2.gr hk1
    refine mx_act (by rfl) (by rfl) (fun K hK => ?_)
    refine wp_app pairT prE w0.heap.size (.tmp 18) (.tmp 26) rfl v rfl (H3.gr ((Gr.refl _).alloc _)) w1.heap.size 1 rfl (ofP ⟨hi, lo, v6⟩ k, x.v) (0, 0) (blk_new _ _) (by omega) (by have := (hG0.trans hk1).size; simp; omega) ?_
    intro g' cap' w2 hown hgrew hloc
    have hob3 := hgrew.blk (blk_old hob1 _) (H3.apart hob1 (by decide))
    have d3 := kept hob3
    have d4 := kept_free hob3
    refine hK.out _ _ (fun h => by simp at h) ?_
    clear hK K
    try simp only [Act.put, List.setIfInBounds_toArray, List.set_cons_zero, List.set_cons_succ]
    repeat (first | (refine mx_skip0 (by with_unfolding_all rfl) ?_; try simp only [Act.put, List.setIfInBounds_toArray, List.set_cons_zero, List.set_cons_succ]) | (refine mx_skip1 (by with_unfolding_all rfl) ?_; try simp only [Act.put, List.setIfInBounds_toArray, List.set_cons_zero, List.set_cons_succ]) | (refine mx_pure (by rfl) ?_; apply Exists.intro; refine ⟨fun wq => ?_, ?_⟩; (· (go_simp; with_reducible rfl)); try simp only [Act.put, List.setIfInBounds_toArray, List.set_cons_zero, List.set_cons_succ]) | (refine mx_load (by rfl) ?_; apply Exists.intro; refine ⟨fun wq hq => ?_, ?_⟩; (· (go_simp; with_reducible rfl)); try simp only [Act.put, List.setIfInBounds_toArray, List.set_cons_zero, List.set_cons_succ]))
    refine mx_act (by rfl) (by rfl) (fun K hK => ?_)
    go_simp
    refine hK.out _ _ (fun h => by simp at h) ?_
    clear hK K
    try simp only [Act.put, List.setIfInBounds_toArray, List.set_cons_zero, List.set_cons_succ]
    repeat (first | (refine mx_skip0 (by with_unfolding_all rfl) ?_; try simp only [Act.put, List.setIfInBounds_toArray, List.set_cons_zero, List.set_cons_succ]) | (refine mx_skip1 (by with_unfolding_all rfl) ?_; try simp only [Act.put, List.setIfInBounds_toArray, List.set_cons_zero, List.set_cons_succ]) | (refine mx_pure (by rfl) ?_; apply Exists.intro; refine ⟨fun wq => ?_, ?_⟩; (· (go_simp; with_reducible rfl)); try simp only [Act.put, List.setIfInBounds_toArray, List.set_cons_zero, List.set_cons_succ]) | (refine mx_load (by rfl) ?_; apply Exists.intro; refine ⟨fun wq hq => ?_, ?_⟩; (· (go_simp; with_reducible rfl)); try simp only [Act.put, List.setIfInBounds_toArray, List.set_cons_zero, List.set_cons_succ]))
    refine mx_end ?_
    go_wp2_with fail
    go_ret
    have hS2 := hG0.trans hk1
    refine ⟨rfl, fun b cs t' fr hb hne ht => ?_, ?_, _, ⟨(hgrew.gr (hS2.alloc _) (fun b hb => (H3.block hb).1)).set hob _, ?_, ?_, set_blk hob3 _, hown.set _ _ _ (hown.apart hob3 (by decide))⟩⟩
    · rw [set_blk_ne hne, hb]
      exact hgrew.blk (blk_old (blk_gr (blk_gr hb g1b) hk1) _) (H3.apart (blk_gr (blk_gr hb g1b) hk1) ht)
    · have z1 := (g1b.trans hk1).size
      have z2 := hgrew.size
      simp only [World.size_alloc, World.size_setCell] at z2 ⊢
      omega
    · rw [set_blk_ne (by rintro rfl; have := H.out.tc_; rw [H.out.ob_] at this; simp at this)]
      exact hgrew.blk (blk_old (blk_gr (blk_gr H.out.tc_ g1b) hk1) _) (H3.apart (blk_gr (blk_gr H.out.tc_ g1b) hk1) (by decide))
    · rw [set_blk_ne (by rintro rfl; have := H.out.pb_; rw [H.out.ob_] at this; simp at this)]
      exact hgrew.blk (blk_old (blk_gr (blk_gr H.out.pb_ g1b) hk1) _) (H3.apart (blk_gr (blk_gr H.out.pb_ g1b) hk1) (by decide))
  · have he' : x.ends = false := by simpa using he
    rw [he'] at n3
    rw [if_neg he, List.append_nil]
    go_enter Try.func92, Try.ntmps92
    go_wp2_with fail
    go_ret
    have G := (Gr.refl W).alloc (Obj.cells #[Value.int IntKind.i64 x.k0, Value.int IntKind.i64 x.k1, Value.int IntKind.i64 x.up, Value.bool false, Value.int IntKind.i64 x.v] 153)
    exact ⟨rfl, fun b cs t' _ _ hb _ _ => by rw [hb]; exact blk_gr hb G, G.size, v, ⟨H.out.gr.trans G, blk_gr H.out.tc_ G, blk_gr H.out.pb_ G, blk_gr H.out.ob_ G, H.out.own.gr G⟩⟩

def endAt (ar : List Nd) (a : Ad) (k : Nat) (x : Int) : List (Px × Int) := match ar[x.toNat]? with
  | some nd => if nd.ends then [(ofP a k, nd.v)] else []
  | none => []
/-- of nodes on the way down, the k-th and so on, those that end -/
def abF (ar : List Nd) (a : Ad) : Nat → List Int → List (Px × Int)
  | _, [] => []
  | k, x :: l => endAt ar a k x ++ abF ar a (k + 1) l
theorem abF_app (ar : List Nd) (a : Ad) (l : List Int) (x : Int) : ∀ k, abF ar a k (l ++ [x]) = abF ar a k l ++ endAt ar a (k + l.length) x := by
  induction l with
  | nil => intro k; simp [abF]
  | cons y l ih =>
    intro k
    rw [List.cons_append, abF, ih, abF, List.append_assoc, List.length_cons]
    rw [show k + 1 + l.length = k + (l.length + 1) by omega]
theorem abF_len (ar : List Nd) (a : Ad) (l : List Int) : ∀ k, (abF ar a k l).length ≤ l.length := by
  induction l with
  | nil => intro k; simp [abF]
  | cons y l ih =>
    intro k
    have := ih (k + 1)
    have h1 : (endAt ar a k y).length ≤ 1 := by
      unfold endAt
      split <;> (try split) <;> simp
    simp only [abF, List.length_append, List.length_cons]
    omega
def aboveI (ar : List Nd) (p : Px) : List (Px × Int) := if sanePx p then abF ar p.a 0 (pathF ar p.a p.n.toNat 0 (rootI p.a.v6)) else []

set_option maxHeartbeats 2000000 in
theorem above_c {base tb : Nat} {t : TS} {va vf : Value} (hk : kidsOk t) (hi lo : BitVec 64) (v6 : Bool) (n : Int) (w : World) (hT : TrieAt w base tb t va vf) :
    Calls Try.prog 23 #[.pointer (some ⟨tb, 0, none⟩), .agg #[.int .u64 (hi.toNat : Int), .int .u64 (lo.toNat : Int), .bool v6, .int .i64 n]] w fun e w' =>
      ∃ v, e = .returned v ∧ Own w' w.heap.size 39 5 prC v (aboveI t.ar ⟨⟨hi, lo, v6⟩, n⟩) ∧ Gr w w' := by
  have hlen := hk.1
  have HT := Lib.hid hT
  have HK := Lib.hid hk
  clear hT hk
  by_cases hs : sanePx ⟨⟨hi, lo, v6⟩, n⟩ = true
  · have hbd := sanePx_bd hs
    have hwb := widthI_bd v6
    simp only at hbd
    obtain ⟨N, rfl⟩ := Int.eq_ofNat_of_zero_le hbd.1
    have HN := Lib.hid (show N ≤ 128 by omega)
    clear hbd hwb
    go_enter Try.func23, Try.ntmps23
    go_wp2_with fail
    obtain ⟨W, hW, hB, k0, k1⟩ := box2 w #[.pointer (some ⟨tb, 0, none⟩)] #[Value.int IntKind.u64 (hi.toNat : Int), Value.int IntKind.u64 (lo.toNat : Int), Value.bool v6, Value.int IntKind.i64 (N : Int)] 27 32
    rw [← hW]
    clear hW
    have c0 := kept k0
    have c1 := kept k1
    refine (made_c _ (HT.out.gr hB) (by omega)).mono ?_
    rintro e w' ⟨rfl, rfl⟩
    go_wp2_with fail
    refine (sanePx_c hi lo v6 (N : Int) _).mono ?_
    rintro e w1 ⟨rfl, hb1⟩
    rw [hs]
    have hB1 := hB.trans hb1
    have k01 := blk_gr k0 hb1
    have k11 := blk_gr k1 hb1
    have c01 := kept k01
    have c11 := kept k11
    go_wp2_with fail
    have k20 := blk_new w1 (Obj.cells #[Value.slice none 0 0] 35)
    have g2 := (Gr.refl w1).alloc (Obj.cells #[Value.slice none 0 0] 35)
    refine (walka_c HK.out hi lo v6 N HN.out w.heap.size (w.heap.size + 1) w1.heap.size _
      (fun pre W' => ∃ v, AbS w W' tb w.heap.size (w.heap.size + 1) w1.heap.size ⟨⟨hi, lo, v6⟩, (N : Int)⟩ (abF t.ar ⟨hi, lo, v6⟩ 0 pre) v ∧ pre.length ≤ N + 1)
      (fun pre W' ⟨v, h, _⟩ => HT.out.gr h.gr) (fun pre W' W'' ⟨v, h, hp⟩ g => ⟨v, ⟨h.gr.trans g, blk_gr h.tc_ g, blk_gr h.pb_ g, blk_gr h.ob_ g, h.own.gr g⟩, hp⟩) ?_
      ⟨.slice none 0 0, ⟨hB1.trans g2, blk_gr k01 g2, blk_gr k11 g2, k20, Own.nil⟩, by simp⟩ _ rfl).mono ?_
    · rintro pre x W' hx0 hx1 ⟨v, h, hp⟩ hbox hpl
      obtain ⟨i, rfl⟩ := Int.eq_ofNat_of_zero_le hx0
      have hil : i < t.ar.length := by omega
      have hnd : t.ar[i]? = some t.ar[i] := List.getElem?_eq_getElem hil
      have hsz := blk_lt hbox
      have hz1 := hB1.size
      have hz := hB.size
      have hl1 := abF_len t.ar ⟨hi, lo, v6⟩ pre 0
      refine (abovec_c w W' HT.out i _ hnd pre.length hi lo v6 N w.heap.size (w.heap.size + 1) w1.heap.size (Nat.le_refl _) (by omega) hz1 _ v h (by have := HN.out; omega)).mono ?_
      rintro e W'' ⟨rfl, hfar, hszz, v', h'⟩
      refine ⟨rfl, ⟨v', ?_, by simp; omega⟩, hfar _ _ _ _ hbox (by simp) (by decide), hszz⟩
      rw [abF_app]
      simpa [endAt, hnd] using h'
    · rintro e w2 ⟨⟨v, rfl⟩, v', h, _⟩
      have c2 := kept h.ob_
      obtain ⟨a', cap', rfl, _⟩ := h.own.lenv
      go_wp2_with fail
      go_ret
      refine ⟨_, rfl, ?_, h.gr⟩
      simpa [aboveI, hs] using h.own
  · have hs' : sanePx ⟨⟨hi, lo, v6⟩, n⟩ = false := by simpa using hs
    go_enter Try.func23, Try.ntmps23
    go_wp2_with fail
    obtain ⟨W, hW, hB, k0, k1⟩ := box2 w #[.pointer (some ⟨tb, 0, none⟩)] #[Value.int IntKind.u64 (hi.toNat : Int), Value.int IntKind.u64 (lo.toNat : Int), Value.bool v6, Value.int IntKind.i64 n] 27 32
    rw [← hW]
    clear hW
    have c0 := kept k0
    have c1 := kept k1
    refine (made_c _ (HT.out.gr hB) (by omega)).mono ?_
    rintro e w' ⟨rfl, rfl⟩
    go_wp2_with fail
    refine (sanePx_c hi lo v6 n _).mono ?_
    rintro e w1 ⟨rfl, hb1⟩
    rw [hs']
    have hB1 := hB.trans hb1
    go_wp2_with fail
    go_ret
    refine ⟨_, rfl, ?_, hB1⟩
    rw [aboveI, if_neg (by rw [hs']; simp)]
    exact Own.nil

end Go.Proofs.Ytdecgbgndffkkaa
