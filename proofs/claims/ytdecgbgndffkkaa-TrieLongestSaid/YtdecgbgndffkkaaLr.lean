/- TRIELONGEST: for every list of things done and every address the law returns true, and each argument reads behind the call as it did before; no condition. -/
import Derived.Test.YtdecgbgndffkkaaLb
import Derived.Test.YtdecgbgndffkkaaOp
set_option linter.unusedVariables false
set_option linter.unusedSimpArgs false
namespace Go.Proofs.Ytdecgbgndffkkaa
open Go.ChangeShapes Go.WideShapes Go.ChangeAt Go.RowKit Go.Deep

theorem own_knob : ownKnob Try.prog.godebug = none := by kernel_rfl
theorem laid_out : laidOutB Try.prog = true := by kernel_rfl

theorem c_act5 : Try.prog.cellsOf 34 = 6 := by kernel_rfl
set_option maxRecDepth 100000 in
theorem opn_act5 : Opn 34 act5C := by
  intro H enc w base spare held fuel cs x h
  obtain ⟨xs, n, _, _, hl, hxl, hf⟩ := DataW.trod_struct Try.underlying34 h
  rw [c_act5] at hl
  match cs, hl with
  | [a, b, c, d, e, f], _ =>
    have hl3 : xs.length = 3 := hxl
    have h0 := hf 0 _ rfl
    have h1 := hf 1 _ rfl
    have h2 := hf 2 _ rfl
    simp only [List.getElem_toArray, List.getElem_cons_zero, List.getElem_cons_succ, List.drop_zero, List.drop_succ_cons, List.take_succ_cons, List.take_zero, c_px, c_int, c_bool] at h0 h1 h2
    rw [List.getElem?_eq_getElem (by omega)] at h0 h1 h2
    obtain ⟨x0, e0, _⟩ := DataW.trod_bool Try.underlying4 h0
    obtain ⟨p, e1⟩ := opn_px _ _ _ _ _ _ _ _ _ h1
    obtain ⟨x2, e2, _, _⟩ := DataW.trod_int Try.underlying3 h2
    simp [pxC] at e0 e1 e2
    exact ⟨⟨x0, p, x2⟩, by simp [act5C, e0, e1, e2]⟩

set_option maxRecDepth 100000 in
/-- an address by value -/
theorem open_ad {H : Type} {enc : TypeId × Value → H} {w : World} {r : Reach} {b0 : Nat} {v : Value} {d : DataW H} {p : List MemPlace} (hv : Value.okWide Try.prog w r b0 25 v) (h : DataW.Trod enc Try.prog w 0 (fun _ => true) true 25 v d p) :
    ∃ a : Ad, v = .agg #[Value.int IntKind.u64 ((a).hi.toNat : Int), Value.int IntKind.u64 ((a).lo.toNat : Int), Value.bool (a).v6] := by
  obtain ⟨cs, rfl, _⟩ := okWide_struct Try.underlying25 hv
  obtain ⟨fuel, hf⟩ := h
  obtain ⟨a, ha⟩ := opn_addr _ _ _ _ _ _ _ _ _ hf
  refine ⟨a, ?_⟩
  obtain ⟨l⟩ := cs
  simp only [Value.cells] at ha
  rw [show l = adC a from ha]
  rfl

set_option maxRecDepth 100000 in
theorem trieLongest_lifted (os : Os) (started : os.Started) (H : Type) (enc : TypeId × Value → H) :
    ReturnsInHanded {} Try.checked os 3 .any (Rows.trieLongestSpec.pre6 enc Try.prog Try.f3 Rows.trieLongestRow.domain false) (Rows.trieLongestSpec.post enc Try.prog Try.f3 false true false false) := by
  refine returnsInHanded_of_change (C := Try.checked) own_knob started (by kernel_rfl) Try.func3
    (ChangeSpec.witness6 (enc := enc) (C := Try.checked) false ⟨#[], #[.slice none 0 0, .agg #[.int .u64 0, .int .u64 0, .bool false]], []⟩ 8 (by kernel_rfl) (by kernel_rfl) (by kernel_rfl) (by kernel_rfl)) ?_
  intro W base args ds gs before hval0 hW hcnd _
  have hval : ∀ (j : Nat) t v, Try.f3.params[j]? = some t → args[j]? = some v → Value.okWide Try.prog W .any base t v := hval0
  have hW' := hW
  obtain ⟨p, q, hA0, hV, rfl, hfz, hnd⟩ := hW
  have hA : DataW.TrodAll enc Try.prog W 0 (fun _ => true) true Try.f3.params.toList args.toList ds p := hA0
  rw [Try.params3] at hA hval
  obtain ⟨v0, v1, d0, d1, p0, p1, rfl, rfl, rfl, h0, h1⟩ := trodAll_two hA
  obtain ⟨rfl, rfl⟩ := trodVars_none hV
  simp only [List.append_nil] at hW'
  have hlt : ∀ x ∈ p0 ++ p1, x.block < W.heap.size := fun x hx => by simpa using hW'.lt x hx
  obtain ⟨a0, len0, cap0, rfl⟩ := okWide_slice Try.underlying22 (hval 0 22 v0 rfl rfl)
  obtain ⟨a, rfl⟩ := open_ad (hval 1 25 v1 rfl rfl) h1
  have h0k := h0
  obtain ⟨fuel, hf⟩ := h0
  obtain ⟨v, l, hv, hr, hl⟩ := open_rd Try.underlying22 c_act5 opn_act5 act5E hf
  simp only [Value.cells, List.cons.injEq, and_true] at hv
  subst hv
  refine (trieLongest_c l a.hi a.lo a.v6 _ W hr).mono fun e W' ⟨he, hg⟩ => ?_
  subst he
  refine ⟨_, rfl, post_gr hW' (trodAll_mk1 (shut_bool Try.underlying4 true)) (trodAll_mk2 (Below.trod laid_out (by kernel_rfl) (of_decide_eq_true (by kernel_rfl)) h0k hg (fun x hx => hlt x (by simp [hx]))) (Below.trod laid_out (by kernel_rfl) (of_decide_eq_true (by kernel_rfl)) h1 hg (fun x hx => hlt x (by simp [hx])))) rfl hg⟩

theorem trieLongest_holds : Rows.TrieLongestSaid :=
  OpenClaim.holds_of_wide 3 Try.f3 rfl rfl rfl rfl rfl rfl rfl ⟨rfl, rfl, rfl, rfl, rfl⟩ rfl rfl rfl rfl rfl (by kernel_rfl) Try.func3 (by kernel_rfl)
    (of_decide_eq_true (by kernel_rfl)) (by unfold Func.isWrapper; rw [if_neg (of_decide_eq_false (by kernel_rfl))]; exact ⟨rfl, rfl⟩)
    (fun os started H enc _ => trieLongest_lifted os started H enc)

end Go.Proofs.Ytdecgbgndffkkaa
