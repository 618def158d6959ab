/- prune, Del: what is taken out. -/
import Derived.Test.YtdecgbgndffkkaaTp
import Derived.LoopN
set_option linter.unusedVariables false
set_option linter.unusedSimpArgs false
namespace Go.Proofs.Ytdecgbgndffkkaa
open Go.RowKit

/-- the kid that is at_ is no more -/
def Nd.cut (x : Nd) (at_ : Int) : Nd := { x with k0 := if x.k0 = at_ then -1 else x.k0, k1 := if x.k1 = at_ then -1 else x.k1 }
def cutT (t : TS) (at_ up : Int) : TS := match t.ar[up.toNat]? with
  | some y => { t with ar := t.ar.set up.toNat (y.cut at_), fr := t.fr ++ [at_] }
  | none => t
/-- does pruning end at this node? -/
def Nd.stays (x : Nd) : Bool := x.ends || decide (x.up = -1) || !(decide (x.k0 = -1) && decide (x.k1 = -1))
def pruneT : Nat → TS → Int → TS
  | 0, t, _ => t
  | f + 1, t, at_ => match t.ar[at_.toNat]? with
    | none => t
    | some x => if x.stays then t else pruneT f (cutT t at_ x.up) x.up

/-- ups of what is in the trees (rk is not 0) lie in the arena, and lead to the roots: rk falls -/
def upOk (t : TS) (rk : Nat → Nat) : Prop := ∀ (i : Nat) (x : Nd), t.ar[i]? = some x → 0 < rk i → x.up ≠ -1 → 0 ≤ x.up ∧ x.up < t.ar.length ∧ 0 < rk x.up.toNat ∧ rk x.up.toNat < rk i

theorem okT.cut {t : TS} (h : okT t) (at_ up : Int) (ha : 0 ≤ at_ ∧ at_ < t.ar.length) : okT (cutT t at_ up) ∧ (cutT t at_ up).ar.length = t.ar.length := by
  unfold cutT
  cases hx : t.ar[up.toNat]? with
  | none => exact ⟨h, rfl⟩
  | some y =>
    have hk := h.kids.2 y (List.mem_of_getElem? hx)
    have h1 := h.set up.toNat (y.cut at_) (by
      unfold Nd.cut
      simp only
      constructor
      · split
        · exact .inl rfl
        · exact hk.1
      · split
        · exact .inl rfl
        · exact hk.2)
    refine ⟨⟨h1.kids, fun z hz => ?_⟩, by simp⟩
    simp only [List.mem_append, List.mem_singleton] at hz
    rcases hz with hz | rfl
    · exact h1.free z hz
    · simpa using ha
theorem upOk.cut {t : TS} {rk : Nat → Nat} (h : upOk t rk) (at_ up : Int) : upOk (cutT t at_ up) rk := by
  unfold cutT
  cases hx : t.ar[up.toNat]? with
  | none => exact h
  | some y =>
    intro i x hi hr hu
    simp only [List.length_set] at hi ⊢
    by_cases he : up.toNat = i
    · subst he
      have hlt := (List.getElem?_eq_some_iff.1 hx).1
      rw [List.getElem?_set_self hlt] at hi
      simp only [Option.some.injEq] at hi
      subst hi
      exact h _ y hx hr hu
    · rw [List.getElem?_set_ne he] at hi
      exact h i x hi hr hu

theorem TR.pushFree {w2 w3 : World} {base tb g' n cap' : Nat} {t : TS} {va vf : Value} {o : Obj} (h : TR w2 base tb t va vf) (x : Int) (hown : Own w3 base 3 1 intC (.slice (some ⟨g', 0, none⟩) n cap') (t.fr ++ [x])) (hgrew : Grew (w2.alloc o) w3 vf) (hloc : vf.ownBlock = some g' ∨ g' = (w2.alloc o).heap.size) :
    TR (w3.setCell ⟨tb, 1, none⟩ (.slice (some ⟨g', 0, none⟩) n cap')) base tb { t with fr := t.fr ++ [x] } va (.slice (some ⟨g', 0, none⟩) n cap') ∧ Fr w2 (w3.setCell ⟨tb, 1, none⟩ (.slice (some ⟨g', 0, none⟩) n cap')) (TF tb va vf) (TF tb va (.slice (some ⟨g', 0, none⟩) n cap')) := by
  have hb3 := hgrew.blk (blk_old h.blk o) h.apart.2.1
  have hG := Fr.of_grew hgrew (F := TF tb va vf) (G := TF tb va (.slice (some ⟨g', 0, none⟩) n cap')) (fun k hk => .inr (.inr hk)) (fun k hk => by
    rcases hk with hk | hk | hk
    · exact .inl (.inl hk)
    · exact .inl (.inr (.inl hk))
    · simp only [Value.ownBlock, Option.some.injEq] at hk
      subst hk
      rcases hloc with hl | hl
      · exact .inl (.inr (.inr hl))
      · exact .inr (by omega))
  have har : Own w3 base 153 5 Nd.cells va t.ar :=
    (Fr.of_grew hgrew (F := fun k => vf.ownBlock = some k) (G := fun k => vf.ownBlock = some k) (fun k hk => hk) (fun k hk => .inl hk)).own (h.gr ((Gr.refl _).alloc o)).ar (fun k hk hF => h.apart.2.2 k hk hF)
  refine ⟨⟨h.low, by simp [World.setCell, Array.getElem?_modify, hb3], har.set _ _ _ h.apart.1, hown.set _ _ _ (hown.apart hb3 (by decide))⟩, ?_⟩
  exact ((Fr.of_gr ((Gr.refl w2).alloc o) _).trans hG).set (p := ⟨tb, 1, none⟩) (.inl rfl) _

set_option maxHeartbeats 4000000 in
theorem prune_c {base tb : Nat} {t : TS} {va vf : Value} (hk : okT t) (rk : Nat → Nat) (hr : upOk t rk) (i0 : Nat) (hm : t.fr.length + t.ar.length + rk i0 ≤ 4000000) (hi0 : i0 < t.ar.length) (hr0 : 0 < rk i0) (w : World) (hT : TR w base tb t va vf) :
    Calls Try.prog 143 #[.pointer (some ⟨tb, 0, none⟩), .int .i64 (i0 : Int)] w fun e w' =>
      (∃ v, e = .returned v) ∧ ∃ va' vf', TR w' base tb (pruneT (rk i0 + 1) t i0) va' vf' ∧ Fr w w' (TF tb va vf) (TF tb va' vf') := by
  have HT := Lib.hid hT
  have HK := Lib.hid hk
  have HR := Lib.hid hr
  have HM := Lib.hid hm
  clear hT hk hr hm
  go_enter Try.func143, Try.ntmps143
  go_wp2_with fail
  go_loopw [1] (fun s1 wr => ∃ (i f : Nat) (tk : TS) (va' vf' : Value), s1 = .int .i64 (i : Int) ∧ i < tk.ar.length ∧ 0 < rk i ∧ rk i < f ∧ pruneT f tk i = pruneT (rk i0 + 1) t i0 ∧ okT tk ∧ upOk tk rk ∧ tk.fr.length + tk.ar.length + rk i ≤ t.fr.length + t.ar.length + rk i0 ∧
      TR wr base tb tk va' vf' ∧ Fr w wr (TF tb va vf) (TF tb va' vf'))
    (fun s1 wr => rk (intOf s1).toNat)
  case atStart => exact ⟨i0, rk i0 + 1, t, va, vf, rfl, hi0, hr0, by omega, rfl, HK.out, HR.out, Nat.le_refl _, HT.out, Fr.refl _ _⟩
  case round =>
    obtain ⟨i, f, tk, va', vf', rfl, hil, hri, hrf, hpr, hok, hup, hsz, hTk, hFk⟩ := hrel
    have hnd : tk.ar[i]? = some tk.ar[i] := List.getElem?_eq_getElem hil
    obtain ⟨g, cap, rfl, hg, hgl⟩ := hTk.ar.form (by omega)
    have hilI : (i : Int) < (tk.ar.length : Int) := by omega
    obtain ⟨af, capf, rfl, _⟩ := hTk.fr.lenv
    have nI := hTk.at.node rfl i _ hnd
    have n0 := cell_all nI.k0
    have n1 := cell_all nI.k1
    have n2 := cell_all nI.up
    have n3 := cell_all nI.ends
    have n4 := cell_all nI.v
    have cT := kept hTk.blk
    have HP := Lib.hid hpr
    have HOK := Lib.hid hok
    have HUP := Lib.hid hup
    have HSZ := Lib.hid hsz
    have HTK := Lib.hid hTk
    have HFK := Lib.hid hFk
    clear hpr hok hup hsz hTk hFk nI
    cases hst : tk.ar[i].stays
    · unfold Nd.stays at hst
      simp only [Bool.or_eq_false_iff, decide_eq_false_iff_not, Bool.not_eq_false', Bool.and_eq_true, decide_eq_true_eq] at hst
      obtain ⟨⟨he, hu⟩, hk0, hk1⟩ := hst
      obtain ⟨hu0, hu1, hup, hu2⟩ := HUP.out i _ hnd hri hu
      rw [he] at n3
      rw [hk0] at n0
      rw [hk1] at n1
      have hk1' := hk1
      have hq : (tk.ar[i].up == -1) = false := by simp [hu]
      have HU := Lib.hid hu
      clear hu
      obtain ⟨j, hj⟩ := Int.eq_ofNat_of_zero_le hu0
      rw [hj] at n2 hq hu0 hu1 hu2 hup
      simp only [Int.toNat_natCast] at hup
      have hjl : j < tk.ar.length := by omega
      have hjd : tk.ar[j]? = some tk.ar[j] := List.getElem?_eq_getElem hjl
      have mJ := HTK.out.at.node rfl j _ hjd
      go_wp2_with fail
      have g1k := blk_new wr (Obj.cells #[Value.int IntKind.i64 (-1), Value.int IntKind.i64 (-1), Value.int IntKind.i64 (j : Int), Value.bool false, Value.int IntKind.i64 tk.ar[i].v] 153)
      have g1b := (Gr.refl wr).alloc (Obj.cells #[Value.int IntKind.i64 (-1), Value.int IntKind.i64 (-1), Value.int IntKind.i64 (j : Int), Value.bool false, Value.int IntKind.i64 tk.ar[i].v] 153)
      generalize g1h : wr.alloc (Obj.cells #[Value.int IntKind.i64 (-1), Value.int IntKind.i64 (-1), Value.int IntKind.i64 (j : Int), Value.bool false, Value.int IntKind.i64 tk.ar[i].v] 153) = W1 at g1k g1b ⊢
      clear g1h
      have g1c := kept g1k
      have g1f := kept_free g1k
      have g1z := blk_lt g1k
      have d0 := kept (blk_gr HTK.out.blk g1b)
      clear n0 n1 n2 n3 n4 cT
      refine wp_region_gr (by kernel_rfl) (by kernel_rfl) ?_
      repeat (first | (refine qs_skip (by with_unfolding_all rfl) ?_; simp only [Act.put, List.setIfInBounds_toArray, List.set_cons_zero, List.set_cons_succ]) | (refine qs_val (by rfl) ?_; apply Exists.intro; refine ⟨fun wq hq => ?_, ?_⟩; (· (go_simp; with_reducible rfl)); simp only [Act.put, List.setIfInBounds_toArray, List.set_cons_zero, List.set_cons_succ]) | (refine qs_call (by rfl) ?_; apply Exists.intro; refine ⟨fun wq hq => ?_, ?_⟩; (· (go_simp; first | fail)); simp only [Act.put, List.setIfInBounds_toArray, List.set_cons_zero, List.set_cons_succ]))
      refine wpQuiet_nil ?_
      intro w1 hk1
      have hT1 := HTK.out.gr (g1b.trans hk1)
      have mJ := hT1.at.node rfl j _ hjd
      have m0 := mJ.k0
      have m1 := mJ.k1
      have fA : ∀ o, w1.frozen? ⟨g, o, none⟩ = false := hT1.ar.free
      have cT := kept hT1.blk w1 (Gr.refl _)
      have fT := kept_free hT1.blk w1 (Gr.refl _)
      have hbx := blk_gr g1k hk1
      have cx := kept hbx w1 (Gr.refl _)
      have hap := hT1.apart
      have hne : g ≠ tb := fun e => hap.1 (by rw [e]; rfl)
      have hne2 : tb ≠ g := Ne.symm hne
      have hxg : wr.heap.size ≠ g := by have := (HTK.out.foot (k := g) (.inr (.inl rfl))).2; omega
      have hxg2 : g ≠ wr.heap.size := Ne.symm hxg
      have hxt : wr.heap.size ≠ tb := by have := blk_lt HTK.out.blk; omega
      have hxt2 : tb ≠ wr.heap.size := Ne.symm hxt
      have HT1 := Lib.hid hT1
      clear hT1 d0 mJ hap
      by_cases e0 : tk.ar[j].k0 = i <;> by_cases e1 : tk.ar[j].k1 = i
      · have r0 : (tk.ar[j].k0 == (i : Int)) = true := by simp [e0]
        have r1 : (tk.ar[j].k1 == (i : Int)) = true := by simp [e1]
        have hcut : tk.ar[j].cut i = { tk.ar[j] with k0 := -1, k1 := -1 } := by unfold Nd.cut; simp [e0, e1]
        have hT2 : TR ((w1.setCell ⟨g, j * 5, none⟩ (.int .i64 (-1))).setCell ⟨g, j * 5 + 1, none⟩ (.int .i64 (-1))) base tb { tk with ar := tk.ar.set j (tk.ar[j].cut i) } (.slice (some ⟨g, 0, none⟩) tk.ar.length cap) (.slice af tk.fr.length capf) := by
          rw [hcut]
          have h0 := HT1.out.put j tk.ar[j] { tk.ar[j] with k0 := -1 } hjd 0 (by omega) (.int .i64 (-1)) rfl
          have h1 := h0.put j { tk.ar[j] with k0 := -1 } { tk.ar[j] with k0 := -1, k1 := -1 } (by simp [hjl]) 1 (by omega) (.int .i64 (-1)) rfl
          simpa using h1
        have HF2 := Lib.hid (((HFK.out.gr (g1b.trans hk1)).set (p := ⟨g, j * 5, none⟩) (.inr (.inl rfl)) (.int .i64 (-1))).set (p := ⟨g, j * 5 + 1, none⟩) (.inr (.inl rfl)) (.int .i64 (-1)))
        have HT2 := Lib.hid hT2
        have hbx2 : ((w1.setCell ⟨g, j * 5, none⟩ (.int .i64 (-1))).setCell ⟨g, j * 5 + 1, none⟩ (.int .i64 (-1))).heap[wr.heap.size]? = some (.cells #[.int .i64 (-1), .int .i64 (-1), .int .i64 (j : Int), .bool false, .int .i64 tk.ar[i].v] 153 (0, 0)) := by
          rw [set_blk_ne hxg, set_blk_ne hxg]; exact hbx
        have HX2 := Lib.hid hbx2
        have HC := Lib.hid hcut
        clear hT2 hbx2 hcut
        go_wp2_with fail
        refine wp_loop_rounds 3 ?_
        rw [rounds_succ]
        go_wp2_with fail
        rw [rounds_succ]
        go_wp2_with fail
        rw [rounds_succ]
        go_wp2_with (at_builtin; refine wpList_app intT intE base rfl (.tmp 55) (.tmp 57) rfl (.slice af tk.fr.length capf) rfl (HT2.out.fr.gr ((Gr.refl _).alloc _)) _ 1 rfl (i : Int) (0, 0) (by have hh := blk_new ((w1.setCell ⟨g, j * 5, none⟩ (.int .i64 (-1))).setCell ⟨g, j * 5 + 1, none⟩ (.int .i64 (-1))) (Obj.cells #[.int .i64 (i : Int)] 3); simpa [intC] using hh) (by have h1 := HSZ.out; have h2 := HM.out; show (tk.fr.length + 1) * (8 + 1) ≤ 140737488355328; omega) (by have := HT2.out.low; have := blk_lt HT2.out.blk; simp only [World.size_alloc]; omega) ?_; intro g' cap' w3 hown hgrew hloc; have hb3 := hgrew.blk (blk_old HT2.out.blk _) HT2.out.apart.2.1; have d3 := kept hb3 w3 (Gr.refl _); have d4 := kept_free hb3 w3 (Gr.refl _); have hx3 := hgrew.blk (blk_old HX2.out _) ((HT2.out.fr).apart HX2.out (by decide)); have d5 := kept hx3 w3 (Gr.refl _))
        go_roundw
        case rel =>
          obtain ⟨hT4, hF4⟩ := HT2.out.pushFree (i : Int) hown hgrew hloc
          have hcq : cutT tk i j = { tk with ar := tk.ar.set j (tk.ar[j].cut i), fr := tk.fr ++ [(i : Int)] } := by
            unfold cutT
            simp only [Int.toNat_natCast, hjd]
          obtain ⟨ho1, ho2⟩ := HOK.out.cut i j (by omega)
          have ho3 := HUP.out.cut i j
          have hff : f = (f - 1) + 1 := by omega
          have hpp : pruneT (f - 1) (cutT tk i j) j = pruneT (rk i0 + 1) t i0 := by
            rw [← HP.out, hff]
            simp only [Nat.add_sub_cancel, pruneT, Int.toNat_natCast, hnd, Nd.stays, he, hk0, hk1', hj]
            simp
          rw [hcq] at ho1 ho2 ho3 hpp
          refine ⟨j, f - 1, _, _, _, rfl, ?_, hup, ?_, hpp, ho1, ho3, ?_, hT4, HF2.out.trans hF4⟩
          · rw [ho2]; exact hjl
          · simp only [Int.toNat_natCast] at hu2
            omega
          · have := HSZ.out
            simp only [Int.toNat_natCast] at hu2
            rw [ho2]
            simp only [List.length_append, List.length_singleton]
            omega
        case measure => exact hu2
      · have r0 : (tk.ar[j].k0 == (i : Int)) = true := by simp [e0]
        have r1 : (tk.ar[j].k1 == (i : Int)) = false := by simp [e1]
        have hcut : tk.ar[j].cut i = { tk.ar[j] with k0 := -1, k1 := tk.ar[j].k1 } := by unfold Nd.cut; simp [e0, e1]
        have hT2 : TR (w1.setCell ⟨g, j * 5, none⟩ (.int .i64 (-1))) base tb { tk with ar := tk.ar.set j (tk.ar[j].cut i) } (.slice (some ⟨g, 0, none⟩) tk.ar.length cap) (.slice af tk.fr.length capf) := by
          rw [hcut]
          exact HT1.out.put j tk.ar[j] _ hjd 0 (by omega) (.int .i64 (-1)) rfl
        have HF2 := Lib.hid ((HFK.out.gr (g1b.trans hk1)).set (p := ⟨g, j * 5, none⟩) (.inr (.inl rfl)) (.int .i64 (-1)))
        have HT2 := Lib.hid hT2
        have hbx2 : (w1.setCell ⟨g, j * 5, none⟩ (.int .i64 (-1))).heap[wr.heap.size]? = some (.cells #[.int .i64 (-1), .int .i64 (-1), .int .i64 (j : Int), .bool false, .int .i64 tk.ar[i].v] 153 (0, 0)) := by
          rw [set_blk_ne hxg]; exact hbx
        have HX2 := Lib.hid hbx2
        have HC := Lib.hid hcut
        clear hT2 hbx2 hcut
        go_wp2_with fail
        refine wp_loop_rounds 3 ?_
        rw [rounds_succ]
        go_wp2_with fail
        rw [rounds_succ]
        go_wp2_with fail
        rw [rounds_succ]
        go_wp2_with (at_builtin; refine wpList_app intT intE base rfl (.tmp 55) (.tmp 57) rfl (.slice af tk.fr.length capf) rfl (HT2.out.fr.gr ((Gr.refl _).alloc _)) _ 1 rfl (i : Int) (0, 0) (by have hh := blk_new (w1.setCell ⟨g, j * 5, none⟩ (.int .i64 (-1))) (Obj.cells #[.int .i64 (i : Int)] 3); simpa [intC] using hh) (by have h1 := HSZ.out; have h2 := HM.out; show (tk.fr.length + 1) * (8 + 1) ≤ 140737488355328; omega) (by have := HT2.out.low; have := blk_lt HT2.out.blk; simp only [World.size_alloc]; omega) ?_; intro g' cap' w3 hown hgrew hloc; have hb3 := hgrew.blk (blk_old HT2.out.blk _) HT2.out.apart.2.1; have d3 := kept hb3 w3 (Gr.refl _); have d4 := kept_free hb3 w3 (Gr.refl _); have hx3 := hgrew.blk (blk_old HX2.out _) ((HT2.out.fr).apart HX2.out (by decide)); have d5 := kept hx3 w3 (Gr.refl _))
        go_roundw
        case rel =>
          obtain ⟨hT4, hF4⟩ := HT2.out.pushFree (i : Int) hown hgrew hloc
          have hcq : cutT tk i j = { tk with ar := tk.ar.set j (tk.ar[j].cut i), fr := tk.fr ++ [(i : Int)] } := by
            unfold cutT
            simp only [Int.toNat_natCast, hjd]
          obtain ⟨ho1, ho2⟩ := HOK.out.cut i j (by omega)
          have ho3 := HUP.out.cut i j
          have hff : f = (f - 1) + 1 := by omega
          have hpp : pruneT (f - 1) (cutT tk i j) j = pruneT (rk i0 + 1) t i0 := by
            rw [← HP.out, hff]
            simp only [Nat.add_sub_cancel, pruneT, Int.toNat_natCast, hnd, Nd.stays, he, hk0, hk1', hj]
            simp
          rw [hcq] at ho1 ho2 ho3 hpp
          refine ⟨j, f - 1, _, _, _, rfl, ?_, hup, ?_, hpp, ho1, ho3, ?_, hT4, HF2.out.trans hF4⟩
          · rw [ho2]; exact hjl
          · simp only [Int.toNat_natCast] at hu2
            omega
          · have := HSZ.out
            simp only [Int.toNat_natCast] at hu2
            rw [ho2]
            simp only [List.length_append, List.length_singleton]
            omega
        case measure => exact hu2
      · have r0 : (tk.ar[j].k0 == (i : Int)) = false := by simp [e0]
        have r1 : (tk.ar[j].k1 == (i : Int)) = true := by simp [e1]
        have hcut : tk.ar[j].cut i = { tk.ar[j] with k0 := tk.ar[j].k0, k1 := -1 } := by unfold Nd.cut; simp [e0, e1]
        have hT2 : TR (w1.setCell ⟨g, j * 5 + 1, none⟩ (.int .i64 (-1))) base tb { tk with ar := tk.ar.set j (tk.ar[j].cut i) } (.slice (some ⟨g, 0, none⟩) tk.ar.length cap) (.slice af tk.fr.length capf) := by
          rw [hcut]
          exact HT1.out.put j tk.ar[j] _ hjd 1 (by omega) (.int .i64 (-1)) rfl
        have HF2 := Lib.hid ((HFK.out.gr (g1b.trans hk1)).set (p := ⟨g, j * 5 + 1, none⟩) (.inr (.inl rfl)) (.int .i64 (-1)))
        have HT2 := Lib.hid hT2
        have hbx2 : (w1.setCell ⟨g, j * 5 + 1, none⟩ (.int .i64 (-1))).heap[wr.heap.size]? = some (.cells #[.int .i64 (-1), .int .i64 (-1), .int .i64 (j : Int), .bool false, .int .i64 tk.ar[i].v] 153 (0, 0)) := by
          rw [set_blk_ne hxg]; exact hbx
        have HX2 := Lib.hid hbx2
        have HC := Lib.hid hcut
        clear hT2 hbx2 hcut
        go_wp2_with fail
        refine wp_loop_rounds 3 ?_
        rw [rounds_succ]
        go_wp2_with fail
        rw [rounds_succ]
        go_wp2_with fail
        rw [rounds_succ]
        go_wp2_with (at_builtin; refine wpList_app intT intE base rfl (.tmp 55) (.tmp 57) rfl (.slice af tk.fr.length capf) rfl (HT2.out.fr.gr ((Gr.refl _).alloc _)) _ 1 rfl (i : Int) (0, 0) (by have hh := blk_new (w1.setCell ⟨g, j * 5 + 1, none⟩ (.int .i64 (-1))) (Obj.cells #[.int .i64 (i : Int)] 3); simpa [intC] using hh) (by have h1 := HSZ.out; have h2 := HM.out; show (tk.fr.length + 1) * (8 + 1) ≤ 140737488355328; omega) (by have := HT2.out.low; have := blk_lt HT2.out.blk; simp only [World.size_alloc]; omega) ?_; intro g' cap' w3 hown hgrew hloc; have hb3 := hgrew.blk (blk_old HT2.out.blk _) HT2.out.apart.2.1; have d3 := kept hb3 w3 (Gr.refl _); have d4 := kept_free hb3 w3 (Gr.refl _); have hx3 := hgrew.blk (blk_old HX2.out _) ((HT2.out.fr).apart HX2.out (by decide)); have d5 := kept hx3 w3 (Gr.refl _))
        go_roundw
        case rel =>
          obtain ⟨hT4, hF4⟩ := HT2.out.pushFree (i : Int) hown hgrew hloc
          have hcq : cutT tk i j = { tk with ar := tk.ar.set j (tk.ar[j].cut i), fr := tk.fr ++ [(i : Int)] } := by
            unfold cutT
            simp only [Int.toNat_natCast, hjd]
          obtain ⟨ho1, ho2⟩ := HOK.out.cut i j (by omega)
          have ho3 := HUP.out.cut i j
          have hff : f = (f - 1) + 1 := by omega
          have hpp : pruneT (f - 1) (cutT tk i j) j = pruneT (rk i0 + 1) t i0 := by
            rw [← HP.out, hff]
            simp only [Nat.add_sub_cancel, pruneT, Int.toNat_natCast, hnd, Nd.stays, he, hk0, hk1', hj]
            simp
          rw [hcq] at ho1 ho2 ho3 hpp
          refine ⟨j, f - 1, _, _, _, rfl, ?_, hup, ?_, hpp, ho1, ho3, ?_, hT4, HF2.out.trans hF4⟩
          · rw [ho2]; exact hjl
          · simp only [Int.toNat_natCast] at hu2
            omega
          · have := HSZ.out
            simp only [Int.toNat_natCast] at hu2
            rw [ho2]
            simp only [List.length_append, List.length_singleton]
            omega
        case measure => exact hu2
      · have r0 : (tk.ar[j].k0 == (i : Int)) = false := by simp [e0]
        have r1 : (tk.ar[j].k1 == (i : Int)) = false := by simp [e1]
        have hcut : tk.ar[j].cut i = { tk.ar[j] with k0 := tk.ar[j].k0, k1 := tk.ar[j].k1 } := by unfold Nd.cut; simp [e0, e1]
        have hT2 : TR w1 base tb { tk with ar := tk.ar.set j (tk.ar[j].cut i) } (.slice (some ⟨g, 0, none⟩) tk.ar.length cap) (.slice af tk.fr.length capf) := by
          rw [hcut]
          have hself : tk.ar.set j { k0 := tk.ar[j].k0, k1 := tk.ar[j].k1, up := tk.ar[j].up, ends := tk.ar[j].ends, v := tk.ar[j].v } = tk.ar := List.set_getElem_self _
          rw [hself]
          exact HT1.out
        have HF2 := Lib.hid (HFK.out.gr (g1b.trans hk1))
        have HT2 := Lib.hid hT2
        have hbx2 : w1.heap[wr.heap.size]? = some (.cells #[.int .i64 (-1), .int .i64 (-1), .int .i64 (j : Int), .bool false, .int .i64 tk.ar[i].v] 153 (0, 0)) := by
          skip; exact hbx
        have HX2 := Lib.hid hbx2
        have HC := Lib.hid hcut
        clear hT2 hbx2 hcut
        go_wp2_with fail
        refine wp_loop_rounds 3 ?_
        rw [rounds_succ]
        go_wp2_with fail
        rw [rounds_succ]
        go_wp2_with fail
        rw [rounds_succ]
        go_wp2_with (at_builtin; refine wpList_app intT intE base rfl (.tmp 55) (.tmp 57) rfl (.slice af tk.fr.length capf) rfl (HT2.out.fr.gr ((Gr.refl _).alloc _)) _ 1 rfl (i : Int) (0, 0) (by have hh := blk_new w1 (Obj.cells #[.int .i64 (i : Int)] 3); simpa [intC] using hh) (by have h1 := HSZ.out; have h2 := HM.out; show (tk.fr.length + 1) * (8 + 1) ≤ 140737488355328; omega) (by have := HT2.out.low; have := blk_lt HT2.out.blk; simp only [World.size_alloc]; omega) ?_; intro g' cap' w3 hown hgrew hloc; have hb3 := hgrew.blk (blk_old HT2.out.blk _) HT2.out.apart.2.1; have d3 := kept hb3 w3 (Gr.refl _); have d4 := kept_free hb3 w3 (Gr.refl _); have hx3 := hgrew.blk (blk_old HX2.out _) ((HT2.out.fr).apart HX2.out (by decide)); have d5 := kept hx3 w3 (Gr.refl _))
        go_roundw
        case rel =>
          obtain ⟨hT4, hF4⟩ := HT2.out.pushFree (i : Int) hown hgrew hloc
          have hcq : cutT tk i j = { tk with ar := tk.ar.set j (tk.ar[j].cut i), fr := tk.fr ++ [(i : Int)] } := by
            unfold cutT
            simp only [Int.toNat_natCast, hjd]
          obtain ⟨ho1, ho2⟩ := HOK.out.cut i j (by omega)
          have ho3 := HUP.out.cut i j
          have hff : f = (f - 1) + 1 := by omega
          have hpp : pruneT (f - 1) (cutT tk i j) j = pruneT (rk i0 + 1) t i0 := by
            rw [← HP.out, hff]
            simp only [Nat.add_sub_cancel, pruneT, Int.toNat_natCast, hnd, Nd.stays, he, hk0, hk1', hj]
            simp
          rw [hcq] at ho1 ho2 ho3 hpp
          refine ⟨j, f - 1, _, _, _, rfl, ?_, hup, ?_, hpp, ho1, ho3, ?_, hT4, HF2.out.trans hF4⟩
          · rw [ho2]; exact hjl
          · simp only [Int.toNat_natCast] at hu2
            omega
          · have := HSZ.out
            simp only [Int.toNat_natCast] at hu2
            rw [ho2]
            simp only [List.length_append, List.length_singleton]
            omega
        case measure => exact hu2
    · have hend : pruneT (rk i0 + 1) t i0 = tk := by
        rw [← HP.out]
        cases f with
        | zero => omega
        | succ f => simp [pruneT, hnd, hst]
      unfold Nd.stays at hst
      cases he : tk.ar[i].ends
      · rw [he] at n3 hst
        by_cases hu : tk.ar[i].up = -1
        · have hq : (tk.ar[i].up == -1) = true := by simp [hu]
          go_wp2_with fail
          refine bodyPost_ret (results_none rfl _ _ _) rfl ⟨⟨_, rfl⟩, ?_⟩
          rw [hend]
          exact ⟨_, _, HTK.out.gr ((Gr.refl _).alloc _), HFK.out.gr ((Gr.refl _).alloc _)⟩
        · have hq : (tk.ar[i].up == -1) = false := by simp [hu]
          have hst2 : (!(decide (tk.ar[i].k0 = -1) && decide (tk.ar[i].k1 = -1))) = true := by simpa [hu] using hst
          rw [Bool.not_and] at hst2
          clear hst hu
          go_wp2_with fail
          refine bodyPost_ret (results_none rfl _ _ _) rfl ⟨⟨_, rfl⟩, ?_⟩
          rw [hend]
          exact ⟨_, _, HTK.out.gr ((Gr.refl _).alloc _), HFK.out.gr ((Gr.refl _).alloc _)⟩
      · rw [he] at n3
        clear hst
        go_wp2_with fail
        refine bodyPost_ret (results_none rfl _ _ _) rfl ⟨⟨_, rfl⟩, ?_⟩
        rw [hend]
        exact ⟨_, _, HTK.out.gr ((Gr.refl _).alloc _), HFK.out.gr ((Gr.refl _).alloc _)⟩

end Go.Proofs.Ytdecgbgndffkkaa
