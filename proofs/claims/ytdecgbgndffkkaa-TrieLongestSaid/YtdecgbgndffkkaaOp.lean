/- What came in, opened to cells: addresses, prefixes, things done; slices of them. And the row's last step for a law that only makes new memory. -/
import Derived.Test.YtdecgbgndffkkaaAn
import Derived.Test.YtdecgbgndffkkaaRows
import Derived.ProofKit
import Derived.Deep.Slices
import Derived.Carry
set_option linter.unusedVariables false
set_option linter.unusedSimpArgs false
namespace Go.Proofs.Ytdecgbgndffkkaa
open Go.RowKit Go.ChangeShapes Go.WideShapes Go.Deep

/-- whatever reads as a datum of this type is the cells of one of ours -/
def Opn {α : Type} (T : TypeId) (f : α → List Value) : Prop :=
  ∀ (H : Type) (enc : TypeId × Value → H) (w : World) (base : Nat) (spare : Nat → Bool) (held : Bool) (fuel : Nat) (cs : List Value) (x : DataW H × List MemPlace), DataW.trod enc Try.prog w base spare held fuel T cs = some x → ∃ y, cs = f y

theorem c_u64 : Try.prog.cellsOf 23 = 1 := by kernel_rfl
theorem c_int : Try.prog.cellsOf 3 = 1 := by kernel_rfl
theorem c_bool : Try.prog.cellsOf 4 = 1 := by kernel_rfl
theorem c_addr : Try.prog.cellsOf 25 = 3 := by kernel_rfl
theorem c_px : Try.prog.cellsOf 32 = 4 := by kernel_rfl

def adC (a : Ad) : List Value := [Value.int IntKind.u64 ((a).hi.toNat : Int), Value.int IntKind.u64 ((a).lo.toNat : Int), Value.bool (a).v6]
theorem list_of {α : Type} {P : Nat → α → Prop} (n : Nat) (h : ∀ i, i < n → ∃ y, P i y) : ∃ l : List α, l.length = n ∧ ∀ (i : Nat) (y : α), l[i]? = some y → P i y := by
  induction n with
  | zero => exact ⟨[], rfl, by simp⟩
  | succ n ih =>
    obtain ⟨l, h1, h2⟩ := ih fun i hi => h i (by omega)
    obtain ⟨y, hy⟩ := h n (by omega)
    refine ⟨l ++ [y], by simp [h1], fun i z hz => ?_⟩
    by_cases hi : i < l.length
    · rw [List.getElem?_append_left hi] at hz
      exact h2 i z hz
    · have : i = l.length := by
        have := (List.getElem?_eq_some_iff.1 hz).1
        simp at this
        omega
      subst this
      simp at hz
      subst hz
      rw [h1]
      exact hy
theorem u64_bv {a : Int} (h : (Lit.int .u64 a).wf = true) : ∃ x : BitVec 64, a = (x.toNat : Int) := by
  have h2 : 0 ≤ a ∧ a < 18446744073709551616 := by
    unfold Lit.wf at h
    rw [Bool.and_eq_true, decide_eq_true_eq, decide_eq_true_eq] at h
    have e1 : IntKind.u64.min = 0 := rfl
    have e2 : IntKind.u64.max = 18446744073709551615 := rfl
    omega
  refine ⟨BitVec.ofNat 64 a.toNat, ?_⟩
  rw [BitVec.toNat_ofNat, Nat.mod_eq_of_lt (by omega)]
  omega
set_option maxRecDepth 100000 in
theorem opn_addr : Opn 25 adC := by
  intro H enc w base spare held fuel cs x h
  obtain ⟨xs, n, _, _, hl, hxl, hf⟩ := DataW.trod_struct Try.underlying25 h
  rw [c_addr] at hl
  match cs, hl with
  | [a, b, c], _ =>
    have hl3 : xs.length = 3 := hxl
    have h0 := hf 0 _ rfl
    have h1 := hf 1 _ rfl
    have h2 := hf 2 _ rfl
    simp only [List.getElem_toArray, List.getElem_cons_zero, List.getElem_cons_succ, List.drop_zero, List.drop_succ_cons, List.take_succ_cons, List.take_zero, c_u64, c_bool] at h0 h1 h2
    rw [List.getElem?_eq_getElem (by omega)] at h0 h1 h2
    obtain ⟨x0, e0, _, w0⟩ := DataW.trod_int Try.underlying23 h0
    obtain ⟨x1, e1, _, w1⟩ := DataW.trod_int Try.underlying23 h1
    obtain ⟨x2, e2, _⟩ := DataW.trod_bool Try.underlying4 h2
    obtain ⟨hi, rfl⟩ := u64_bv w0
    obtain ⟨lo, rfl⟩ := u64_bv w1
    simp at e0 e1 e2
    exact ⟨⟨hi, lo, x2⟩, by simp [adC, e0, e1, e2]⟩

set_option maxRecDepth 100000 in
theorem opn_px : Opn 32 pxC := by
  intro H enc w base spare held fuel cs x h
  obtain ⟨xs, n, _, _, hl, hxl, hf⟩ := DataW.trod_struct Try.underlying32 h
  rw [c_px] at hl
  match cs, hl with
  | [a, b, c, d], _ =>
    have hl3 : xs.length = 2 := hxl
    have h0 := hf 0 _ rfl
    have h1 := hf 1 _ rfl
    simp only [List.getElem_toArray, List.getElem_cons_zero, List.getElem_cons_succ, List.drop_zero, List.drop_succ_cons, List.take_succ_cons, List.take_zero, c_addr, c_int] at h0 h1
    rw [List.getElem?_eq_getElem (by omega)] at h0 h1
    obtain ⟨ad, e0⟩ := opn_addr _ _ _ _ _ _ _ _ _ h0
    obtain ⟨x1, e1, _, w1⟩ := DataW.trod_int Try.underlying3 h1
    simp [adC] at e0 e1
    exact ⟨⟨ad, x1⟩, by simp [pxC, e0, e1]⟩

theorem add2 (b o x y : Nat) : ((⟨b, o, none⟩ : Addr).add x).add y = ⟨b, o + (x + y), none⟩ := by
  unfold Addr.add
  by_cases hx : x = 0 <;> by_cases hy : y = 0 <;> simp [hx, hy] <;> omega
/-- a slice of such -/
theorem open_rd {α : Type} {H : Type} {enc : TypeId × Value → H} {w : World} {T e : TypeId} {f : α → List Value} {k fuel : Nat} {cs : List Value} {x : DataW H × List MemPlace} (ht : Try.prog.underlying T = some (.slice e)) (hc : Try.prog.cellsOf e = k) (ho : Opn e f) (hf : Enc f k)
    (h : DataW.trod enc Try.prog w 0 (fun _ => true) true fuel T cs = some x) : ∃ v l, cs = [v] ∧ Rd w k f v l ∧ l.length ≤ maxLen := by
  rcases open_slice ht h with ⟨rfl, _⟩ | ⟨a, len, cap, m, n, D, Pl, rfl, _, hl, hm, hmm, _, hi⟩
  · exact ⟨_, [], rfl, ⟨none, 0, rfl, fun h => by simp at h⟩, by simp⟩
  · simp only [if_true] at hmm
    rw [hc] at hi
    have hel : ∀ i, i < len → ∃ y : α, ∀ j, j < k → ∀ u, (f y)[j]? = some u → w.cell? ((a.add (i * k)).add j) = some u := by
      intro i him
      obtain ⟨cs', h1, h2⟩ := hi i (by omega)
      obtain ⟨y, rfl⟩ := ho _ _ _ _ _ _ _ _ _ h2
      obtain ⟨_, hcl, hat⟩ := World.cells?_some h1
      refine ⟨y, fun j hj u hu => ?_⟩
      rw [← hu]
      exact hat j hj
    have hlist := list_of (P := fun i y => ∀ j, j < k → ∀ u, (f y)[j]? = some u → w.cell? ((a.add (i * k)).add j) = some u) len hel
    obtain ⟨l, hl1, hl2⟩ := hlist
    refine ⟨_, l, rfl, ⟨some a, cap, by rw [hl1], fun hp => ?_⟩, by omega⟩
    have hspot : a.spot = none := by
      have hx : l[0]? = some l[0] := List.getElem?_eq_getElem hp
      have hk := hf.pos
      have hlen := hf.len l[0]
      have hu : (f l[0])[0]? = some ((f l[0])[0]'(by omega)) := List.getElem?_eq_getElem (by omega)
      have := hl2 0 _ hx 0 hk _ hu
      rw [Nat.zero_mul] at this
      rw [show (a.add 0).add 0 = a by simp [Addr.add]] at this
      unfold World.cell? at this
      split at this
      · split at this
        · cases this
        · rename_i hs; simpa using hs
      · cases this
    refine ⟨a.block, a.off, by cases a; simp_all, fun j u hu => ?_⟩
    have hjl : j < l.length * k := by
      have := (List.getElem?_eq_some_iff.1 hu).1
      rwa [hf.flat_length] at this
    have hk := hf.pos
    have hi : j / k < l.length := (Nat.div_lt_iff_lt_mul hk).2 hjl
    have hx : l[j / k]? = some l[j / k] := List.getElem?_eq_getElem hi
    have hjm : j % k < k := Nat.mod_lt _ hk
    have hdm : j / k * k + j % k = j := by rw [Nat.mul_comm]; exact Nat.div_add_mod j k
    have hfg := hf.flat_get l (j / k) _ hx (j % k) hjm
    rw [hdm, hu] at hfg
    have := hl2 (j / k) _ hx (j % k) hjm u hfg.symm
    obtain ⟨ab, ao, asp⟩ := a
    simp only at hspot
    subst hspot
    rw [add2, hdm] at this
    exact this

set_option maxRecDepth 100000 in
/-- the row's last step: nothing that was there has turned -/
theorem post_gr {H : Type} {enc : TypeId × Value → H} {P : Program} {f : Func} {s : ChangeSpec} {W W' : World} {args : Array Value} {v : Value} {ds gs : List (DataW H)} {p : List MemPlace}
    (hW : DataW.Whole enc P f.params.toList s.vars false W args.toList ds gs p)
    (hres : DataW.TrodAll enc P W' W.heap.size (fun _ => false) false f.resultTypes.toList (v.resultList f.resultTypes.size) (s.fn H (ds ++ gs)).results [])
    (hargs : DataW.TrodAll enc P W' 0 (fun b => decide (b < W.heap.size)) true f.params.toList args.toList (s.fn H (ds ++ gs)).args p)
    (hvars : DataW.TrodVars enc P W' (fun b => decide (b < W.heap.size)) s.vars (s.fn H (ds ++ gs)).vars [])
    (hb : Gr W W') : s.post enc P f false true false false W args v W' :=
  ⟨ds, gs, p, [], p, [], hW, hres, hargs, hvars, hb.frame _, fun h => by cases h⟩

end Go.Proofs.Ytdecgbgndffkkaa
