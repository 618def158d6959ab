/- Order of addresses and prefixes; what TrieLongest asks, in plain Lean. -/
import Derived.Test.YtdecgbgndffkkaaLv
set_option linter.unusedVariables false
set_option linter.unusedSimpArgs false
namespace Go.Proofs.Ytdecgbgndffkkaa

theorem nat_lt_bit {n m : Nat} (i : Nat) (hn : n.testBit i = false) (hm : m.testBit i = true) (h : ∀ j, i < j → n.testBit j = m.testBit j) : n < m := by
  have h1 : n / 2 ^ i / 2 = m / 2 ^ i / 2 := by
    apply Nat.eq_of_testBit_eq
    intro j
    have := h (i + (j + 1)) (by omega)
    rw [Nat.div_div_eq_div_mul, ← Nat.pow_succ, Nat.div_div_eq_div_mul, ← Nat.pow_succ, Nat.testBit_div_two_pow, Nat.testBit_div_two_pow]
    rw [show j + (i + 1) = i + (j + 1) by omega]
    exact this
  have h2 : n / 2 ^ i % 2 = 0 := by
    have := Nat.testBit_div_two_pow (n := i) n 0
    rw [Nat.zero_add, hn, Nat.testBit_zero] at this
    simpa using this
  have h3 : m / 2 ^ i % 2 = 1 := by
    have := Nat.testBit_div_two_pow (n := i) m 0
    rw [Nat.zero_add, hm, Nat.testBit_zero] at this
    simpa using this
  have h4 : n / 2 ^ i < m / 2 ^ i := by omega
  rcases Nat.lt_or_ge n m with h5 | h5
  · exact h5
  · have := Nat.div_le_div_right (c := 2 ^ i) h5
    omega
theorem word_lt {x y : BitVec 64} {i : Nat} (hi : i < 64) (h : ∀ j, j < i → x.getMsbD j = y.getMsbD j) (hx : x.getMsbD i = false) (hy : y.getMsbD i = true) : x.toNat < y.toNat := by
  have e : ∀ (z : BitVec 64) (j : Nat), j < 64 → z.getMsbD j = z.toNat.testBit (63 - j) := fun z j hj => by
    rw [BitVec.getMsbD_eq_getLsbD]
    simp [hj, BitVec.getLsbD]
  apply nat_lt_bit (63 - i)
  · rw [← e x i hi]; exact hx
  · rw [← e y i hi]; exact hy
  · intro j hj
    by_cases h2 : j < 64
    · have h3 := h (63 - j) (by omega)
      rw [e x _ (by omega), e y _ (by omega), show 63 - (63 - j) = j by omega] at h3
      exact h3
    · rw [Nat.testBit_lt_two_pow (Nat.lt_of_lt_of_le x.isLt (Nat.pow_le_pow_right (by omega) (by omega))), Nat.testBit_lt_two_pow (Nat.lt_of_lt_of_le y.isLt (Nat.pow_le_pow_right (by omega) (by omega)))]

/-- the first unlike digit -/
theorem ad_lt {a b : Ad} {i : Nat} (hi : i < 128) (h : ∀ j, j < i → a.bit j = b.bit j) (ha : a.bit i = false) (hb : b.bit i = true) : a.hi.toNat < b.hi.toNat ∨ (a.hi = b.hi ∧ a.lo.toNat < b.lo.toNat) := by
  unfold Ad.bit at h ha hb
  by_cases h6 : i < 64
  · left
    simp only [h6, if_true] at ha hb
    refine word_lt h6 (fun j hj => ?_) ha hb
    have := h j hj
    simpa [show j < 64 by omega] using this
  · right
    simp only [h6, if_false] at ha hb
    refine ⟨?_, word_lt (by omega) (fun j hj => ?_) ha hb⟩
    · apply BitVec.eq_of_getMsbD_eq
      intro j hj
      have := h j (by omega)
      simpa [hj] using this
    · have := h (64 + j) (by omega)
      simpa [show ¬ 64 + j < 64 by omega] using this
theorem cmpI_lt {a b : Int} (h : a < b) : cmpI a b = -1 := by simp [cmpI, h]
theorem cmpI_self (a : Int) : cmpI a a = 0 := by simp [cmpI]
theorem cmpAd_lt {a b : Ad} (hv : a.v6 = b.v6) (ha : a.sane) (hb : b.sane) (h : a.hi.toNat < b.hi.toNat ∨ (a.hi = b.hi ∧ a.lo.toNat < b.lo.toNat)) : cmpAd a b = -1 := by
  unfold Ad.sane at ha hb
  unfold cmpAd
  rw [ha, hb, hv, cmpI_self]
  rcases h with h | ⟨h1, h2⟩
  · rw [cmpI_lt (by omega)]; simp [orI]
  · rw [h1, cmpI_self, cmpI_lt (by omega)]; simp [orI]
theorem cmpAd_v {a b : Ad} (ha : a.v6 = false) (hb : b.v6 = true) : cmpAd a b = -1 := by
  unfold cmpAd
  rw [ha, hb, show cmpI (widthI false) (widthI true) = -1 from rfl]
  simp [orI]
theorem cmpAd_self (a : Ad) : cmpAd a a = 0 := by
  unfold cmpAd
  rw [cmpI_self, cmpI_self, cmpI_self]
  simp [orI]
theorem px_sane {p : Px} (h : sanePx p = true) : p.a.sane := by
  obtain ⟨_, _, h2⟩ := (sanePx_iff p).1 h
  rw [h2]
  exact Ad.mask_sane _ _
theorem key_bit {p : Px} (h : sanePx p = true) (i : Nat) : (key p)[i]? = if i < p.n.toNat then some (p.a.bit i) else none := by
  obtain ⟨h0, h1, h2⟩ := (sanePx_iff p).1 h
  split
  · rename_i hi
    unfold key
    rw [dgs_get _ _ _ _ hi, Nat.zero_add, bitI_bit _ _ (by omega)]
  · rw [List.getElem?_eq_none (by rw [key_length]; omega)]
theorem bit_out {p : Px} (h : sanePx p = true) {i : Nat} (hi : p.n.toNat ≤ i) (h8 : i < 128) : p.a.bit i = false := by
  obtain ⟨h0, h1, h2⟩ := (sanePx_iff p).1 h
  rw [h2, Ad.mask_bit _ _ _ h8]
  simp; omega
theorem lt_first {a b : List Bool} (h : Sh.lt a b = true) : (∃ ds, ds ≠ [] ∧ b = a ++ ds) ∨ ∃ i : Nat, a[i]? = some false ∧ b[i]? = some true ∧ ∀ j, j < i → a[j]? = b[j]? := by
  induction a generalizing b with
  | nil =>
    cases b with
    | nil => simp [Sh.lt] at h
    | cons y b => exact .inl ⟨y :: b, by simp, rfl⟩
  | cons x a ih =>
    cases b with
    | nil => simp [Sh.lt] at h
    | cons y b =>
      cases x <;> cases y <;> simp only [Sh.lt] at h
      · rcases ih h with ⟨ds, h1, h2⟩ | ⟨i, h1, h2, h3⟩
        · exact .inl ⟨ds, h1, by rw [h2]; rfl⟩
        · refine .inr ⟨i + 1, by simpa using h1, by simpa using h2, fun j hj => ?_⟩
          cases j with
          | zero => rfl
          | succ j => simpa using h3 j (by omega)
      · exact .inr ⟨0, rfl, rfl, fun j hj => by omega⟩
      · simp at h
      · rcases ih h with ⟨ds, h1, h2⟩ | ⟨i, h1, h2, h3⟩
        · exact .inl ⟨ds, h1, by rw [h2]; rfl⟩
        · refine .inr ⟨i + 1, by simpa using h1, by simpa using h2, fun j hj => ?_⟩
          cases j with
          | zero => rfl
          | succ j => simpa using h3 j (by omega)
/-- the first of the digits that is 1 -/
theorem first_one {ds : List Bool} (h : true ∈ ds) : ∃ i : Nat, ds[i]? = some true ∧ ∀ j, j < i → ds[j]? = some false := by
  induction ds with
  | nil => simp at h
  | cons x ds ih =>
    cases x
    · obtain ⟨i, h1, h2⟩ := ih (by simpa using h)
      refine ⟨i + 1, by simpa using h1, fun j hj => ?_⟩
      cases j with
      | zero => rfl
      | succ j => simpa using h2 j (by omega)
    · exact ⟨0, rfl, fun j hj => by omega⟩
theorem pLt_cmp {p q : Px} (hp : sanePx p = true) (hq : sanePx q = true) (h : pLt p q) : cmpPx p q = -1 := by
  have e1 : ∀ x, orI (-1) x = -1 := fun x => by simp [orI]
  unfold cmpPx
  obtain ⟨p0, p1, p2⟩ := (sanePx_iff p).1 hp
  obtain ⟨q0, q1, q2⟩ := (sanePx_iff q).1 hq
  have wp := p.a.w_le
  have wq := q.a.w_le
  rcases h with ⟨h1, h2⟩ | ⟨hv, hl⟩
  · rw [cmpAd_v h1 h2, e1]
  · have bits : ∀ j, j < 128 → (key p)[j]? = (key q)[j]? → (key p)[j]? ≠ none → p.a.bit j = q.a.bit j := fun j hj he hn => by
      rw [key_bit hp, key_bit hq] at he
      rw [key_bit hp] at hn
      split at he
      · split at he
        · simpa using he
        · simp at he
      · rename_i h'; rw [if_neg h'] at hn; exact (hn rfl).elim
    rcases lt_first hl with ⟨ds, h1, h2⟩ | ⟨i, h1, h2, h3⟩
    · have hlen : q.n.toNat = p.n.toNat + ds.length := by rw [← key_length, ← key_length, h2, List.length_append]
      have hds : 0 < ds.length := List.length_pos_iff.2 h1
      have hsame : ∀ j, j < p.n.toNat → p.a.bit j = q.a.bit j := fun j hj => by
        have h4 := key_bit hp j
        have h5 := key_bit hq j
        rw [if_pos hj] at h4
        rw [if_pos (by omega), h2, List.getElem?_append_left (by rw [key_length]; exact hj), h4] at h5
        exact Option.some.inj h5
      by_cases ht : true ∈ ds
      · obtain ⟨i, h4, h5⟩ := first_one ht
        have hi : i < ds.length := (List.getElem?_eq_some_iff.1 h4).1
        have hqi : ∀ j, j < ds.length → q.a.bit (p.n.toNat + j) = ds[j]?.getD false := fun j hj => by
          have h6 := key_bit hq (p.n.toNat + j)
          rw [if_pos (by omega), h2, List.getElem?_append_right (by rw [key_length]; omega), key_length] at h6
          rw [show p.n.toNat + j - p.n.toNat = j by omega] at h6
          rw [h6]; rfl
        rw [cmpAd_lt hv (px_sane hp) (px_sane hq), e1]
        refine ad_lt (i := p.n.toNat + i) (by omega) (fun j hj => ?_) (bit_out hp (by omega) (by omega)) (by rw [hqi i hi, h4]; rfl)
        by_cases hjp : j < p.n.toNat
        · exact hsame j hjp
        · rw [bit_out hp (by omega) (by omega), show j = p.n.toNat + (j - p.n.toNat) by omega, hqi _ (by omega), h5 _ (by omega)]
          rfl
      · have heq : p.a = q.a := by
          apply Ad.ext_bits hv
          intro j hj
          by_cases hjp : j < p.n.toNat
          · exact hsame j hjp
          · rw [bit_out hp (by omega) hj]
            by_cases hjq : j < q.n.toNat
            · have h6 := key_bit hq j
              rw [if_pos hjq, h2, List.getElem?_append_right (by rw [key_length]; omega), key_length] at h6
              cases hb : q.a.bit j with
              | false => rfl
              | true => rw [hb] at h6; exact (ht (List.mem_of_getElem? h6)).elim
            · rw [bit_out hq (by omega) hj]
        rw [heq, cmpAd_self, cmpI_lt (by omega)]
        rfl
    · have hip : i < p.n.toNat := by
        have := (List.getElem?_eq_some_iff.1 h1).1
        rwa [key_length] at this
      have hiq : i < q.n.toNat := by
        have := (List.getElem?_eq_some_iff.1 h2).1
        rwa [key_length] at this
      rw [key_bit hp, if_pos hip] at h1
      rw [key_bit hq, if_pos hiq] at h2
      rw [cmpAd_lt hv (px_sane hp) (px_sane hq), e1]
      refine ad_lt (i := i) (by omega) (fun j hj => bits j (by omega) (h3 j hj) ?_) (Option.some.inj h1) (Option.some.inj h2)
      rw [key_bit hp, if_pos (by omega)]
      simp

/-! ### what is there, of both kinds -/
theorem cov_top {q : Px} (h : sanePx q = true) : covP (topP q.a.v6) q = true := by
  rw [covP_iff]
  exact ⟨topP_sane _, h, rfl, key q, by rw [topP_key]; rfl⟩
structure AllL (F : Bool → Sh) (m : List (Px × Int)) : Prop where
  mem : ∀ q v, (q, v) ∈ m ↔ V F q = some v
  sorted : m.Pairwise fun x y => pLt x.1 y.1
theorem allL {F : Bool → Sh} {l1 l2 : List (Px × Int)} (h1 : UnderL F (topP false) l1) (h2 : UnderL F (topP true) l2) : AllL F (l1 ++ l2) := by
  have k1 : ∀ x ∈ l1, x.1.a.v6 = false := fun x hx => by
    have := ((covP_iff _ _).1 ((h1.mem x.1 x.2).1 hx).1).2.2.1
    exact this.symm
  have k2 : ∀ x ∈ l2, x.1.a.v6 = true := fun x hx => by
    have := ((covP_iff _ _).1 ((h2.mem x.1 x.2).1 hx).1).2.2.1
    exact this.symm
  refine ⟨fun q v => ?_, ?_⟩
  · rw [List.mem_append, h1.mem, h2.mem]
    constructor
    · rintro (h | h) <;> exact h.2
    · intro h
      have hs : sanePx q = true := V_sane (F := F) (by rw [h]; simp)
      have := cov_top hs
      cases hv : q.a.v6
      · rw [hv] at this; exact .inl ⟨this, h⟩
      · rw [hv] at this; exact .inr ⟨this, h⟩
  · rw [List.pairwise_append]
    exact ⟨h1.sorted, h2.sorted, fun x hx y hy => .inl ⟨k1 x hx, k2 y hy⟩⟩
theorem AllL.sane {F : Bool → Sh} {m : List (Px × Int)} (h : AllL F m) {x : Px × Int} (hx : x ∈ m) : sanePx x.1 = true :=
  V_sane (F := F) (by rw [(h.mem x.1 x.2).1 hx]; simp)
/-- neighbours rise -/
theorem AllL.rise {F : Bool → Sh} {m : List (Px × Int)} (h : AllL F m) {i : Nat} {x y : Px × Int} (hx : m[i]? = some x) (hy : m[i + 1]? = some y) : cmpPx x.1 y.1 = -1 := by
  refine pLt_cmp (h.sane (List.mem_of_getElem? hx)) (h.sane (List.mem_of_getElem? hy)) ?_
  have hp := List.pairwise_iff_getElem.1 h.sorted
  obtain ⟨a1, a2⟩ := List.getElem?_eq_some_iff.1 hx
  obtain ⟨b1, b2⟩ := List.getElem?_eq_some_iff.1 hy
  have := hp i (i + 1) a1 b1 (by omega)
  rw [a2, b2] at this
  exact this

/-- above an address's first n digits: of rising length -/
theorem above_mem {F : Bool → Sh} {a : Ad} {n : Nat} {q : Px} {v : Int} : (q, v) ∈ aboveV F a n ↔ ∃ m, m ≤ n ∧ q = ofP a (m : Int) ∧ V F q = some v := by
  unfold aboveV
  rw [List.mem_filterMap]
  constructor
  · rintro ⟨m, hm, h⟩
    rw [List.mem_range] at hm
    cases hV : V F (ofP a m) with
    | none => rw [hV] at h; simp at h
    | some u =>
      rw [hV] at h
      simp only [Option.map_some, Option.some.injEq, Prod.mk.injEq] at h
      obtain ⟨rfl, rfl⟩ := h
      exact ⟨m, by omega, rfl, hV⟩
  · rintro ⟨m, hm, rfl, h⟩
    exact ⟨m, List.mem_range.2 (by omega), by rw [h]; rfl⟩
theorem above_rise (F : Bool → Sh) (a : Ad) (n : Nat) (hn : n ≤ a.w) : (aboveV F a n).Pairwise fun x y => x.1.n < y.1.n ∧ pLt x.1 y.1 := by
  unfold aboveV
  rw [List.pairwise_filterMap]
  refine List.pairwise_lt_range.imp_of_mem fun {i j} hi hj hij => ?_
  rw [List.mem_range] at hi hj
  intro x hx y hy
  cases hVi : V F (ofP a i) with
  | none => rw [hVi] at hx; simp at hx
  | some u =>
    cases hVj : V F (ofP a j) with
    | none => rw [hVj] at hy; simp at hy
    | some u' =>
      rw [hVi] at hx
      rw [hVj] at hy
      simp only [Option.map_some, Option.some.injEq] at hx hy
      subst hx
      subst hy
      refine ⟨by rw [ofP_n _ _ (by omega), ofP_n _ _ (by omega)]; omega, .inr ⟨by rw [ofP_v6, ofP_v6], ?_⟩⟩
      simp only
      rw [ofP_key _ _ (by omega), ofP_key _ _ (by omega)]
      obtain ⟨d, rfl⟩ := Nat.le.dest (Nat.le_of_lt hij)
      rw [dgs_app]
      have := Sh.lt_app (dgs a 0 i) [] (dgs a (0 + i) d)
      rw [List.append_nil] at this
      rw [this]
      have hd : dgs a (0 + i) d ≠ [] := by
        intro e
        have := congrArg List.length e
        rw [dgs_length] at this
        simp at this
        omega
      cases he : dgs a (0 + i) d with
      | nil => exact (hd he).elim
      | cons x l => rfl
/-- what contains an address is what is above it -/
theorem has_above {F : Bool → Sh} {m : List (Px × Int)} (h : AllL F m) (a : Ad) : m.filter (fun x => hasPx x.1 a) = aboveV F a a.w := by
  refine sorted_eq (R := fun x y => pLt x.1 y.1) (fun x y h => pLt_asymm h) (h.sorted.filter _) ((above_rise F a a.w (Nat.le_refl _)).imp fun h => h.2) ?_
  rintro ⟨q, v⟩
  rw [List.mem_filter, h.mem, above_mem]
  simp only
  constructor
  · rintro ⟨h1, h2⟩
    obtain ⟨q1, q2, q3⟩ := (hasPx_iff q a).1 h2
    obtain ⟨s0, s1, _⟩ := (sanePx_iff q).1 q1
    have hw : q.a.w = a.w := by unfold Ad.w; rw [q2]
    refine ⟨q.n.toNat, by omega, ?_, h1⟩
    refine key_inj q1 (ofP_sane _ _) (by rw [ofP_v6]; exact q2) ?_
    rw [q3, ofP_key _ _ (by omega)]
  · rintro ⟨k, hk, rfl, h1⟩
    refine ⟨h1, (hasPx_iff _ _).2 ⟨ofP_sane _ _, ofP_v6 _ _, ?_⟩⟩
    rw [ofP_key _ _ hk, ofP_n _ _ hk, Int.toNat_natCast]

theorem ofP_128 (a : Ad) : ofP a 128 = ofP a (a.w : Int) := by
  rw [ofP_clamp a 128, ofP_clamp a (a.w : Int)]
  have := a.w_le
  congr 2
  unfold clampN
  omega
theorem ofP_ofP (a : Ad) (m n : Nat) (h : m ≤ n) (hn : n ≤ a.w) : ofP (ofP a (n : Int)).a (m : Int) = ofP a (m : Int) := by
  rw [ofP_at a n hn, ofP_at _ m (by simp; omega), ofP_at _ m (by omega), mask_mask _ _ _ h]
theorem aboveV_of (F : Bool → Sh) (a : Ad) (n : Nat) (hn : n ≤ a.w) : aboveV F (ofP a (n : Int)).a n = aboveV F a n := by
  unfold aboveV
  apply fm_congr
  intro m hm
  rw [List.mem_range] at hm
  rw [ofP_ofP a m n (by omega) hn]
theorem above_len (F : Bool → Sh) (a : Ad) (n : Nat) : (aboveV F a n).length ≤ n + 1 := by
  unfold aboveV
  exact Nat.le_trans (List.length_filterMap_le _ _) (by simp)

end Go.Proofs.Ytdecgbgndffkkaa
