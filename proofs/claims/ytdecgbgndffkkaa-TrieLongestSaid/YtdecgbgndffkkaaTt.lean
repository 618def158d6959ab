/- take: a node that is free, or a new one. -/
import Derived.Test.YtdecgbgndffkkaaFr
set_option linter.unusedVariables false
set_option linter.unusedSimpArgs false
namespace Go.Proofs.Ytdecgbgndffkkaa
open Go.RowKit

theorem TR.setFree {w : World} {base tb : Nat} {t : TS} {va vf vf' : Value} (h : TR w base tb t va vf) {fr' : List Int} (ho : Own w base 3 1 intC vf' fr') : TR (w.setCell ⟨tb, 1, none⟩ vf') base tb { t with fr := fr' } va vf' :=
  ⟨h.low, by have := h.blk; simp [World.setCell, Array.getElem?_modify, this], h.ar.set _ _ _ h.apart.1, ho.set _ _ _ (ho.apart h.blk (by decide))⟩
theorem TR.setArena {w : World} {base tb : Nat} {t : TS} {va va' vf : Value} (h : TR w base tb t va vf) {ar' : List Nd} (ho : Own w base 153 5 Nd.cells va' ar') : TR (w.setCell ⟨tb, 0, none⟩ va') base tb { t with ar := ar' } va' vf :=
  ⟨h.low, by have := h.blk; simp [World.setCell, Array.getElem?_modify, this], ho.set _ _ _ (ho.apart h.blk (by decide)), h.fr.set _ _ _ h.apart.2.1⟩
/-- a cell of a node is written -/
theorem TR.put {w : World} {base tb g cap n : Nat} {t : TS} {vf : Value} (h : TR w base tb t (.slice (some ⟨g, 0, none⟩) n cap) vf) (i : Nat) (x x' : Nd) (hx : t.ar[i]? = some x) (j : Nat) (hj : j < 5) (u : Value) (hu : x'.cells = x.cells.set j u) :
    TR (w.setCell ⟨g, i * 5 + j, none⟩ u) base tb { t with ar := t.ar.set i x' } (.slice (some ⟨g, 0, none⟩) n cap) vf := by
  refine ⟨h.low, ?_, h.ar.put ndE i x x' hx j hj u hu, h.fr.set _ _ _ (h.apart.2.2 g rfl)⟩
  rw [set_blk_ne]
  · exact h.blk
  · rintro rfl; exact h.apart.1 rfl

/-- a node is written whole -/
theorem TR.putAll {w : World} {base tb g cap n : Nat} {t : TS} {vf : Value} (h : TR w base tb t (.slice (some ⟨g, 0, none⟩) n cap) vf) (i : Nat) (hi : i < t.ar.length) (y : Nd) :
    TR (((((w.setCell ⟨g, i * 5, none⟩ (.int .i64 y.k0)).setCell ⟨g, i * 5 + 1, none⟩ (.int .i64 y.k1)).setCell ⟨g, i * 5 + 2, none⟩ (.int .i64 y.up)).setCell ⟨g, i * 5 + 3, none⟩ (.bool y.ends)).setCell ⟨g, i * 5 + 4, none⟩ (.int .i64 y.v)) base tb { t with ar := t.ar.set i y } (.slice (some ⟨g, 0, none⟩) n cap) vf := by
  obtain ⟨x, hx⟩ : ∃ x, t.ar[i]? = some x := ⟨_, List.getElem?_eq_getElem hi⟩
  have h0 := h.put i x { x with k0 := y.k0 } hx 0 (by omega) (.int .i64 y.k0) rfl
  have h1 := h0.put i { x with k0 := y.k0 } { x with k0 := y.k0, k1 := y.k1 } (by simp [hi]) 1 (by omega) (.int .i64 y.k1) rfl
  have h2 := h1.put i { x with k0 := y.k0, k1 := y.k1 } { x with k0 := y.k0, k1 := y.k1, up := y.up } (by simp [hi]) 2 (by omega) (.int .i64 y.up) rfl
  have h3 := h2.put i { x with k0 := y.k0, k1 := y.k1, up := y.up } { x with k0 := y.k0, k1 := y.k1, up := y.up, ends := y.ends } (by simp [hi]) 3 (by omega) (.bool y.ends) rfl
  have h4 := h3.put i { x with k0 := y.k0, k1 := y.k1, up := y.up, ends := y.ends } y (by simp [hi]) 4 (by omega) (.int .i64 y.v) rfl
  simpa using h4

set_option maxHeartbeats 2000000 in
theorem take_c {base tb : Nat} {t : TS} {va vf : Value} (hk : frOk t) (up : Int) (w : World) (hT : TR w base tb t va vf) :
    Calls Try.prog 141 #[.pointer (some ⟨tb, 0, none⟩), .int .i64 up] w fun e w' =>
      e = .returned (.int .i64 (takeT t up).2) ∧ ∃ va' vf', TR w' base tb (takeT t up).1 va' vf' ∧ Fr w w' (TF tb va vf) (TF tb va' vf') := by
  have hlen := hk.1
  obtain ⟨ga, capa, rfl, hga, hgal⟩ := hT.ar.form (by omega)
  have HT := Lib.hid hT
  have HK := Lib.hid hk
  have c0 := kept hT.blk
  have f0 := kept_free hT.blk
  clear hk
  rcases List.eq_nil_or_concat t.fr with hf | ⟨fr', x, hf⟩
  · obtain ⟨af, capf, rfl, _⟩ := hT.fr.lenv
    rw [hf] at c0
    have hn := HK.out.2.2
    have hz1 : wrap64 (t.ar.length : Int) = t.ar.length := IntWalk.wrap64_in _ (by omega)
    have hap := Lib.hid hT.apart
    have HF := Lib.hid hf
    have HN := Lib.hid hn
    clear hT hf hn
    go_enter Try.func141, Try.ntmps141
    go_wp2_with fail
    refine wp_region_mix [(0, 0), (1, 0), (2, 0), (3, 0), (4, 1), (5, 0), (6, 2), (7, 2), (8, 2), (9, 0), (10, 0), (11, 2)] 8 (fun w' => Gr w w') (by kernel_rfl) (by kernel_rfl) (Gr.refl _).drew (fun wz hwz => ?_)
    have hS : Gr w wz := by rw [hwz]; exact (Gr.refl _).drew
    clear hwz
    simp only [pickL, pick1]
    repeat (first | (refine mx_skip0 (by with_unfolding_all rfl) ?_; try simp only [Act.put, List.setIfInBounds_toArray, List.set_cons_zero, List.set_cons_succ]) | (refine mx_skip1 (by with_unfolding_all rfl) ?_; try simp only [Act.put, List.setIfInBounds_toArray, List.set_cons_zero, List.set_cons_succ]) | (refine mx_pure (by rfl) ?_; apply Exists.intro; refine ⟨fun wq => ?_, ?_⟩; (· (go_simp; with_reducible rfl)); try simp only [Act.put, List.setIfInBounds_toArray, List.set_cons_zero, List.set_cons_succ]) | (refine mx_load (by rfl) ?_; apply Exists.intro; refine ⟨fun wq hq => ?_, ?_⟩; (· (go_simp; with_reducible rfl)); try simp only [Act.put, List.setIfInBounds_toArray, List.set_cons_zero, List.set_cons_succ]))
    refine mx_act (by rfl) (by rfl) (fun K hK => ?_)
    go_simp
    (go_at_call 89; refine (fresh_c up _).mono ?_; rintro e w2 ⟨rfl, hb2⟩)
    try (go_wp2_with fail)
    refine hK.out _ _ (fun _ => hS.trans hb2) ?_
    clear hK K
    try simp only [Act.put, List.setIfInBounds_toArray, List.set_cons_zero, List.set_cons_succ]
    repeat (first | (refine mx_skip0 (by with_unfolding_all rfl) ?_; try simp only [Act.put, List.setIfInBounds_toArray, List.set_cons_zero, List.set_cons_succ]) | (refine mx_skip1 (by with_unfolding_all rfl) ?_; try simp only [Act.put, List.setIfInBounds_toArray, List.set_cons_zero, List.set_cons_succ]) | (refine mx_pure (by rfl) ?_; apply Exists.intro; refine ⟨fun wq => ?_, ?_⟩; (· (go_simp; with_reducible rfl)); try simp only [Act.put, List.setIfInBounds_toArray, List.set_cons_zero, List.set_cons_succ]) | (refine mx_load (by rfl) ?_; apply Exists.intro; refine ⟨fun wq hq => ?_, ?_⟩; (· (go_simp; with_reducible rfl)); try simp only [Act.put, List.setIfInBounds_toArray, List.set_cons_zero, List.set_cons_succ]))
    have hS2 := hS.trans hb2
    refine mx_act (by rfl) (by rfl) (fun K hK => ?_)
    go_simp
    refine hK.out _ _ (fun _ => hS2.alloc _) ?_
    clear hK K
    try simp only [Act.put, List.setIfInBounds_toArray, List.set_cons_zero, List.set_cons_succ]
    repeat (first | (refine mx_skip0 (by with_unfolding_all rfl) ?_; try simp only [Act.put, List.setIfInBounds_toArray, List.set_cons_zero, List.set_cons_succ]) | (refine mx_skip1 (by with_unfolding_all rfl) ?_; try simp only [Act.put, List.setIfInBounds_toArray, List.set_cons_zero, List.set_cons_succ]) | (refine mx_pure (by rfl) ?_; apply Exists.intro; refine ⟨fun wq => ?_, ?_⟩; (· (go_simp; with_reducible rfl)); try simp only [Act.put, List.setIfInBounds_toArray, List.set_cons_zero, List.set_cons_succ]) | (refine mx_load (by rfl) ?_; apply Exists.intro; refine ⟨fun wq hq => ?_, ?_⟩; (· (go_simp; with_reducible rfl)); try simp only [Act.put, List.setIfInBounds_toArray, List.set_cons_zero, List.set_cons_succ]))
    have hT2 := HT.out.gr hS2
    refine mx_act (by rfl) (by rfl) (fun K hK => ?_)
    refine wp_app nodeT ndE base (.tmp 45) (.tmp 48) rfl (.slice (some ⟨ga, 0, none⟩) t.ar.length capa) rfl (hT2.ar.gr ((Gr.refl _).alloc _)) w2.heap.size 1 rfl (freshN up) (0, 0) (blk_new _ _) (by have := HN.out; omega) (by have := hT2.low; have := blk_lt hT2.blk; simp; omega) ?_
    intro g' cap' w3 hown hgrew hloc
    have hb3 := hgrew.blk (blk_old hT2.blk _) hap.out.1
    have d3 := kept hb3
    have d4 := kept_free hb3
    refine hK.out _ _ (fun h => by simp at h) ?_
    clear hK K
    try simp only [Act.put, List.setIfInBounds_toArray, List.set_cons_zero, List.set_cons_succ]
    repeat (first | (refine mx_skip0 (by with_unfolding_all rfl) ?_; try simp only [Act.put, List.setIfInBounds_toArray, List.set_cons_zero, List.set_cons_succ]) | (refine mx_skip1 (by with_unfolding_all rfl) ?_; try simp only [Act.put, List.setIfInBounds_toArray, List.set_cons_zero, List.set_cons_succ]) | (refine mx_pure (by rfl) ?_; apply Exists.intro; refine ⟨fun wq => ?_, ?_⟩; (· (go_simp; with_reducible rfl)); try simp only [Act.put, List.setIfInBounds_toArray, List.set_cons_zero, List.set_cons_succ]) | (refine mx_load (by rfl) ?_; apply Exists.intro; refine ⟨fun wq hq => ?_, ?_⟩; (· (go_simp; with_reducible rfl)); try simp only [Act.put, List.setIfInBounds_toArray, List.set_cons_zero, List.set_cons_succ]))
    refine mx_act (by rfl) (by rfl) (fun K hK => ?_)
    go_simp
    refine hK.out _ _ (fun h => by simp at h) ?_
    clear hK K
    try simp only [Act.put, List.setIfInBounds_toArray, List.set_cons_zero, List.set_cons_succ]
    repeat (first | (refine mx_skip0 (by with_unfolding_all rfl) ?_; try simp only [Act.put, List.setIfInBounds_toArray, List.set_cons_zero, List.set_cons_succ]) | (refine mx_skip1 (by with_unfolding_all rfl) ?_; try simp only [Act.put, List.setIfInBounds_toArray, List.set_cons_zero, List.set_cons_succ]) | (refine mx_pure (by rfl) ?_; apply Exists.intro; refine ⟨fun wq => ?_, ?_⟩; (· (go_simp; with_reducible rfl)); try simp only [Act.put, List.setIfInBounds_toArray, List.set_cons_zero, List.set_cons_succ]) | (refine mx_load (by rfl) ?_; apply Exists.intro; refine ⟨fun wq hq => ?_, ?_⟩; (· (go_simp; with_reducible rfl)); try simp only [Act.put, List.setIfInBounds_toArray, List.set_cons_zero, List.set_cons_succ]))
    refine mx_end ?_
    have hG := Fr.of_grew hgrew (F := TF tb (.slice (some ⟨ga, 0, none⟩) t.ar.length capa) (.slice af t.fr.length capf)) (G := TF tb (.slice (some ⟨g', 0, none⟩) (t.ar.length + 1) cap') (.slice af t.fr.length capf)) (fun k hk => .inr (.inl hk)) (fun k hk => by
      rcases hk with hk | hk | hk
      · exact .inl (.inl hk)
      · simp only [Value.ownBlock, Option.some.injEq] at hk
        subst hk
        rcases hloc with hl | hl
        · exact .inl (.inr (.inl hl))
        · exact .inr (by omega)
      · exact .inl (.inr (.inr hk)))
    have hF4 := (((Fr.of_gr (hS2.alloc (Obj.cells #[Value.int IntKind.i64 (-1), Value.int IntKind.i64 (-1), Value.int IntKind.i64 up, Value.bool false, Value.int IntKind.i64 0] 153)) _).trans hG).set (p := ⟨tb, 0, none⟩) (.inl rfl) (.slice (some ⟨g', 0, none⟩) (t.ar.length + 1) cap'))
    have hfr : Own w3 base 3 1 intC (.slice af t.fr.length capf) t.fr := by
      have h0 := (hT2.gr ((Gr.refl _).alloc (Obj.cells #[Value.int IntKind.i64 (-1), Value.int IntKind.i64 (-1), Value.int IntKind.i64 up, Value.bool false, Value.int IntKind.i64 0] 153))).fr
      exact (Fr.of_grew hgrew (F := fun k => (Value.slice (some ⟨ga, 0, none⟩) t.ar.length capa).ownBlock = some k) (G := fun k => (Value.slice (some ⟨ga, 0, none⟩) t.ar.length capa).ownBlock = some k) (fun k hk => hk) (fun k hk => .inl hk)).own h0 (fun k hk hF => hap.out.2.2 k hF hk)
    have hT4 : TR (w3.setCell ⟨tb, 0, none⟩ (.slice (some ⟨g', 0, none⟩) (t.ar.length + 1) cap')) base tb { t with ar := t.ar ++ [freshN up] } (.slice (some ⟨g', 0, none⟩) (t.ar.length + 1) cap') (.slice af t.fr.length capf) :=
      ⟨HT.out.low, by simp [World.setCell, Array.getElem?_modify, hb3], hown.set _ _ _ (hown.apart hb3 (by decide)), hfr.set _ _ _ hap.out.2.1⟩
    have c4 := kept hT4.blk
    have HT4 := Lib.hid hT4
    have HF4 := Lib.hid hF4
    clear hT4 hF4
    go_wp2_with fail
    go_ret
    have hq : takeT t up = ({ t with ar := t.ar ++ [freshN up] }, (t.ar.length : Int)) := by
      unfold takeT
      rw [HF.out]
      simp
    rw [hq]
    exact ⟨rfl, _, _, HT4.out, HF4.out⟩
  · rw [List.concat_eq_append] at hf
    have hT2 := hT.fr
    rw [hf] at hT2
    obtain ⟨gf, capf, rfl, hgf, hgfl⟩ := hT2.form (by simp)
    have hroom := hT2.room
    have hx := cell_all (hT2.at intE rfl fr'.length x (by simp) 0 (by omega))
    have hpop := hT2.pop intE
    have hxb := HK.out.2.1 x (by rw [hf]; simp)
    obtain ⟨hx0, hx1⟩ := hxb
    obtain ⟨i, rfl⟩ := Int.eq_ofNat_of_zero_le hx0
    clear hT hT2
    simp only [List.length_append, List.length_singleton, Nat.mul_one, Nat.add_zero, intC, List.getElem?_cons_zero] at c0 hx hroom
    have hL := Lib.hid hf
    clear hf
    have HP := Lib.hid hpop
    clear hpop
    generalize hm : fr'.length = m at c0 hx hroom HP
    have HM := Lib.hid hm
    clear hm
    obtain ⟨hr1, hr2⟩ := hroom
    have hx3 : wrap64 (m : Int) = m := IntWalk.wrap64_in _ (by simp only [maxLen] at hr2; omega)
    have hx4 : (0 : Int) ≤ (m : Int) := by omega
    have hx5 : (m : Int) < (m : Int) + 1 := by omega
    have hx6 : (0 : Int) < (m : Int) + 1 := by omega
    have hx7 : m ≤ capf := by omega
    have hx8 : (m : Int) ≤ (capf : Int) := by omega
    go_enter Try.func141, Try.ntmps141
    go_wp2_with fail
    have hT1 := HT.out.setFree HP.out
    have hF1 : Fr w (w.setCell ⟨tb, 1, none⟩ (.slice (some ⟨gf, 0, none⟩) m capf)) (TF tb (.slice (some ⟨ga, 0, none⟩) t.ar.length capa) (.slice (some ⟨gf, 0, none⟩) (fr' ++ [(i : Int)]).length capf)) (TF tb (.slice (some ⟨ga, 0, none⟩) t.ar.length capa) (.slice (some ⟨gf, 0, none⟩) m capf)) :=
      ((Fr.refl w _).set (p := ⟨tb, 1, none⟩) (.inl rfl) _).less (fun k hk => hk)
    generalize w.setCell ⟨tb, 1, none⟩ (.slice (some ⟨gf, 0, none⟩) m capf) = w1 at hT1 hF1 ⊢
    have hil : i < t.ar.length := by omega
    have hnd : t.ar[i]? = some t.ar[i] := List.getElem?_eq_getElem hil
    have nI := hT1.at.node rfl i _ hnd
    have n0 := cell_all nI.k0
    have n1 := cell_all nI.k1
    have n2 := cell_all nI.up
    have n3 := cell_all nI.ends
    have n4 := cell_all nI.v
    have cT := kept hT1.blk
    have fT : ∀ w', Gr w1 w' → ∀ o, w'.frozen? ⟨ga, o, none⟩ = false := fun w' g o => (hT1.ar.gr g).free o
    have HT1 := Lib.hid hT1
    have HF1 := Lib.hid hF1
    clear hT1 hF1 nI c0 f0 hx
    refine wp_region_mix [(0, 0), (1, 0), (2, 0), (3, 1), (4, 0), (5, 0), (6, 2), (7, 0), (8, 2)] 8 (fun w' => Gr w1 w') (by kernel_rfl) (by kernel_rfl) (Gr.refl _).drew (fun wz hwz => ?_)
    have hS : Gr w1 wz := by rw [hwz]; exact (Gr.refl _).drew
    clear hwz
    simp only [pickL, pick1]
    repeat (first | (refine mx_skip0 (by with_unfolding_all rfl) ?_; try simp only [Act.put, List.setIfInBounds_toArray, List.set_cons_zero, List.set_cons_succ]) | (refine mx_skip1 (by with_unfolding_all rfl) ?_; try simp only [Act.put, List.setIfInBounds_toArray, List.set_cons_zero, List.set_cons_succ]) | (refine mx_pure (by rfl) ?_; apply Exists.intro; refine ⟨fun wq => ?_, ?_⟩; (· (go_simp; with_reducible rfl)); try simp only [Act.put, List.setIfInBounds_toArray, List.set_cons_zero, List.set_cons_succ]) | (refine mx_load (by rfl) ?_; apply Exists.intro; refine ⟨fun wq hq => ?_, ?_⟩; (· (go_simp; with_reducible rfl)); try simp only [Act.put, List.setIfInBounds_toArray, List.set_cons_zero, List.set_cons_succ]))
    refine mx_act (by rfl) (by rfl) (fun K hK => ?_)
    go_simp
    (go_at_call 89; refine (fresh_c up _).mono ?_; rintro e w2 ⟨rfl, hb2⟩)
    try (go_wp2_with fail)
    refine hK.out _ _ (fun _ => hS.trans hb2) ?_
    clear hK K
    try simp only [Act.put, List.setIfInBounds_toArray, List.set_cons_zero, List.set_cons_succ]
    repeat (first | (refine mx_skip0 (by with_unfolding_all rfl) ?_; try simp only [Act.put, List.setIfInBounds_toArray, List.set_cons_zero, List.set_cons_succ]) | (refine mx_skip1 (by with_unfolding_all rfl) ?_; try simp only [Act.put, List.setIfInBounds_toArray, List.set_cons_zero, List.set_cons_succ]) | (refine mx_pure (by rfl) ?_; apply Exists.intro; refine ⟨fun wq => ?_, ?_⟩; (· (go_simp; with_reducible rfl)); try simp only [Act.put, List.setIfInBounds_toArray, List.set_cons_zero, List.set_cons_succ]) | (refine mx_load (by rfl) ?_; apply Exists.intro; refine ⟨fun wq hq => ?_, ?_⟩; (· (go_simp; with_reducible rfl)); try simp only [Act.put, List.setIfInBounds_toArray, List.set_cons_zero, List.set_cons_succ]))
    have hS2 := hS.trans hb2
    refine mx_act (by rfl) (by rfl) (fun K hK => ?_)
    go_simp
    refine hK.out _ _ (fun h => by simp at h) ?_
    clear hK K
    try simp only [Act.put, List.setIfInBounds_toArray, List.set_cons_zero, List.set_cons_succ]
    repeat (first | (refine mx_skip0 (by with_unfolding_all rfl) ?_; try simp only [Act.put, List.setIfInBounds_toArray, List.set_cons_zero, List.set_cons_succ]) | (refine mx_skip1 (by with_unfolding_all rfl) ?_; try simp only [Act.put, List.setIfInBounds_toArray, List.set_cons_zero, List.set_cons_succ]) | (refine mx_pure (by rfl) ?_; apply Exists.intro; refine ⟨fun wq => ?_, ?_⟩; (· (go_simp; with_reducible rfl)); try simp only [Act.put, List.setIfInBounds_toArray, List.set_cons_zero, List.set_cons_succ]) | (refine mx_load (by rfl) ?_; apply Exists.intro; refine ⟨fun wq hq => ?_, ?_⟩; (· (go_simp; with_reducible rfl)); try simp only [Act.put, List.setIfInBounds_toArray, List.set_cons_zero, List.set_cons_succ]))
    refine mx_end ?_
    have hT2 := (HT1.out.gr hS2).putAll i hil (freshN up)
    have hF2 : Fr w _ _ _ := (((((HF1.out.gr hS2).set (p := ⟨ga, i * 5, none⟩) (.inr (.inl rfl)) (.int .i64 (-1))).set (p := ⟨ga, i * 5 + 1, none⟩) (.inr (.inl rfl)) (.int .i64 (-1))).set (p := ⟨ga, i * 5 + 2, none⟩) (.inr (.inl rfl)) (.int .i64 up)).set (p := ⟨ga, i * 5 + 3, none⟩) (.inr (.inl rfl)) (.bool false)).set (p := ⟨ga, i * 5 + 4, none⟩) (.inr (.inl rfl)) (.int .i64 0)
    have HT2 := Lib.hid hT2
    have HF2 := Lib.hid hF2
    clear hT2 hF2
    go_wp2_with fail
    go_ret
    have hq : takeT t up = ({ t with fr := fr', ar := t.ar.set i (freshN up) }, (i : Int)) := by
      unfold takeT
      rw [hL.out]
      simp
    rw [hq]
    exact ⟨rfl, _, _, HT2.out, HF2.out⟩

end Go.Proofs.Ytdecgbgndffkkaa
