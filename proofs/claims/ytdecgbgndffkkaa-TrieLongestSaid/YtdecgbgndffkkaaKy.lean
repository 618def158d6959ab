/- Prefixes as lists of digits: keys. Plain Lean. -/
import Derived.Test.YtdecgbgndffkkaaRp
set_option linter.unusedVariables false
set_option linter.unusedSimpArgs false
namespace Go.Proofs.Ytdecgbgndffkkaa

theorem dgs_get (a : Ad) (k d i : Nat) (h : i < d) : (dgs a k d)[i]? = some (bitI a ((k + i : Nat) : Int) == 1) := by
  induction d generalizing k i with
  | zero => omega
  | succ d ih =>
    cases i with
    | zero => simp [dgs]
    | succ i =>
      simp only [dgs, List.getElem?_cons_succ]
      rw [ih (k + 1) i (by omega)]
      congr 3
      omega
theorem bitI_bit (a : Ad) (i : Nat) (h : i < a.w) : (bitI a (i : Int) == 1) = a.bit i := by
  unfold bitI
  rw [if_pos ((isB_iff a i).2 (by omega))]
  simp only [Int.toNat_natCast]
  by_cases h : a.bit i = true <;> simp [h]
theorem dgs_take (a : Ad) (n : Nat) (h : n ≤ a.w) : dgs a 0 n = a.dig.take n := by
  apply List.ext_getElem?
  intro i
  by_cases hi : i < n
  · rw [dgs_get _ _ _ _ hi, List.getElem?_take_of_lt hi, Ad.dig_get _ _ (by omega), Nat.zero_add, bitI_bit _ _ (by omega)]
  · rw [List.getElem?_eq_none (by rw [dgs_length]; omega), List.getElem?_eq_none (by rw [List.length_take, Ad.dig_length]; omega)]
theorem dgs_app (a : Ad) (k m n : Nat) : dgs a k (m + n) = dgs a k m ++ dgs a (k + m) n := by
  induction m generalizing k with
  | zero => simp [dgs]
  | succ m ih =>
    rw [show m + 1 + n = (m + n) + 1 by omega]
    simp only [dgs, ih, List.cons_append]
    rw [show k + 1 + m = k + (m + 1) by omega]
theorem dgs_takes (a : Ad) (k m n : Nat) (h : m ≤ n) : (dgs a k n).take m = dgs a k m := by
  obtain ⟨d, rfl⟩ := Nat.le.dest h
  rw [dgs_app, List.take_append_of_le_length (by rw [dgs_length]; exact Nat.le_refl _), List.take_of_length_le (by rw [dgs_length]; exact Nat.le_refl _)]

theorem widthI_w (a : Ad) : widthI a.v6 = (a.w : Int) := by unfold widthI Ad.w; split <;> rfl

/-- the digits of a prefix -/
def key (p : Px) : List Bool := dgs p.a 0 p.n.toNat
theorem key_length (p : Px) : (key p).length = p.n.toNat := dgs_length _ _ _

theorem sanePx_iff (p : Px) : sanePx p = true ↔ 0 ≤ p.n ∧ p.n ≤ p.a.w ∧ p.a = p.a.mask p.n.toNat := by
  unfold sanePx
  rw [eqPx_iff]
  obtain ⟨a, n⟩ := p
  simp only [ofP, Px.mk.injEq, widthI_w]
  constructor
  · rintro ⟨h1, h2⟩
    have h3 : 0 ≤ n := by omega
    have h4 : n ≤ a.w := by omega
    refine ⟨h3, h4, ?_⟩
    rw [← h2] at h1
    unfold maskA at h1
    have : clampN a.w n = n.toNat := by unfold clampN; omega
    rw [this] at h1
    exact h1
  · rintro ⟨h1, h2, h3⟩
    have e : max 0 (min n (a.w : Int)) = n := by omega
    rw [e]
    refine ⟨?_, rfl⟩
    unfold maskA
    have : clampN a.w n = n.toNat := by unfold clampN; omega
    rw [this]
    exact h3
theorem ofP_at (a : Ad) (n : Nat) (h : n ≤ a.w) : ofP a (n : Int) = ⟨a.mask n, n⟩ := by
  unfold ofP
  rw [widthI_w]
  have e : max 0 (min (n : Int) (a.w : Int)) = n := by omega
  rw [e]
  unfold maskA
  rw [clampN_nat _ _ h]
theorem ofP_clamp (a : Ad) (n : Int) : ofP a n = ofP a ((clampN a.w n : Nat) : Int) := by
  unfold ofP
  rw [widthI_w]
  have e : max 0 (min n (a.w : Int)) = max 0 (min ((clampN a.w n : Nat) : Int) (a.w : Int)) := by unfold clampN; omega
  rw [e]
theorem mask_mask (a : Ad) (m n : Nat) (h : m ≤ n) : (a.mask n).mask m = a.mask m := by
  refine Ad.ext_bits (a := (a.mask n).mask m) (b := a.mask m) rfl ?_
  intro i hi
  rw [Ad.mask_bit _ _ _ hi, Ad.mask_bit _ _ _ hi, Ad.mask_bit _ _ _ hi, Ad.mask_w]
  by_cases h1 : i < m
  · have h2 : i < n := by omega
    cases h3 : decide (i < a.w) <;> simp_all
  · simp [h1]
theorem ofP_sane (a : Ad) (n : Int) : sanePx (ofP a n) = true := by
  rw [ofP_clamp, ofP_at _ _ (clampN_le _ _), sanePx_iff]
  have := clampN_le a.w n
  refine ⟨by simp, by simpa using this, ?_⟩
  simp only [Int.toNat_natCast]
  rw [mask_mask _ _ _ (Nat.le_refl _)]
theorem mask_dgs (a : Ad) (n m k : Nat) (h : k + m ≤ n) (hn : n ≤ a.w) : dgs (a.mask n) k m = dgs a k m := by
  have hw := a.w_le
  induction m generalizing k with
  | zero => rfl
  | succ m ih =>
    simp only [dgs]
    rw [ih (k + 1) (by omega), bitI_bit _ _ (by simp; omega), bitI_bit _ _ (by omega), Ad.mask_bit _ _ _ (by omega)]
    have h1 : k < n := by omega
    have h2 : k < a.w := by omega
    simp [h1, h2]
theorem ofP_key (a : Ad) (n : Nat) (h : n ≤ a.w) : key (ofP a (n : Int)) = dgs a 0 n := by
  rw [ofP_at _ _ h]
  unfold key
  exact mask_dgs a n n 0 (by omega) h
theorem ofP_v6 (a : Ad) (n : Int) : (ofP a n).a.v6 = a.v6 := by unfold ofP maskA; rfl
theorem ofP_n (a : Ad) (n : Nat) (h : n ≤ a.w) : (ofP a (n : Int)).n = n := by rw [ofP_at _ _ h]
theorem ofP_w (a : Ad) (n : Int) : (ofP a n).a.w = a.w := by unfold Ad.w; rw [ofP_v6]

theorem mask_inj {a b : Ad} {n : Nat} (hv : a.v6 = b.v6) (hn : n ≤ a.w) (h : dgs a 0 n = dgs b 0 n) : a.mask n = b.mask n := by
  have hw : a.w = b.w := by unfold Ad.w; rw [hv]
  refine Ad.ext_bits (a := a.mask n) (b := b.mask n) hv ?_
  intro i hi
  rw [Ad.mask_bit _ _ _ hi, Ad.mask_bit _ _ _ hi, hw]
  by_cases h1 : i < n
  · have h2 := dgs_get a 0 n i h1
    have h3 := dgs_get b 0 n i h1
    rw [h, h3] at h2
    simp only [Option.some.injEq, Nat.zero_add] at h2
    rw [bitI_bit _ _ (by omega), bitI_bit _ _ (by omega)] at h2
    rw [h2]
  · simp [h1]
theorem key_inj {p q : Px} (hp : sanePx p = true) (hq : sanePx q = true) (hv : p.a.v6 = q.a.v6) (h : key p = key q) : p = q := by
  obtain ⟨p0, p1, p2⟩ := (sanePx_iff p).1 hp
  obtain ⟨q0, q1, q2⟩ := (sanePx_iff q).1 hq
  have hn : p.n.toNat = q.n.toNat := by rw [← key_length, ← key_length, h]
  have hn2 : p.n = q.n := by omega
  obtain ⟨a, n⟩ := p
  obtain ⟨b, m⟩ := q
  simp only at hn2 p0 p1 p2 q0 q1 q2 hv
  subst hn2
  have : a = b := by
    rw [p2, q2]
    exact mask_inj hv (by omega) h
  rw [this]
theorem hasPx_iff (p : Px) (a : Ad) : hasPx p a = true ↔ sanePx p = true ∧ p.a.v6 = a.v6 ∧ key p = dgs a 0 p.n.toNat := by
  unfold hasPx
  simp only [Bool.and_eq_true, eqPx_iff]
  constructor
  · rintro ⟨h, he⟩
    obtain ⟨p0, p1, p2⟩ := (sanePx_iff p).1 h
    have hv : p.a.v6 = a.v6 := by have := ofP_v6 a p.n; rw [← he] at this; exact this
    have hw : p.a.w = a.w := by unfold Ad.w; rw [hv]
    refine ⟨h, hv, ?_⟩
    obtain ⟨m, hm⟩ := Int.eq_ofNat_of_zero_le p0
    rw [hm, Int.toNat_natCast, ← ofP_key a m (by omega), ← hm, ← he]
  · rintro ⟨h, hv, hk⟩
    obtain ⟨p0, p1, p2⟩ := (sanePx_iff p).1 h
    have hw : p.a.w = a.w := by unfold Ad.w; rw [hv]
    refine ⟨h, key_inj h (ofP_sane _ _) (by rw [ofP_v6]; exact hv) ?_⟩
    obtain ⟨m, hm⟩ := Int.eq_ofNat_of_zero_le p0
    rw [hk, hm, ofP_key a m (by omega)]
    simp

/-- does a prefix cover another one? -/
def covP (p q : Px) : Bool := decide (p.n ≤ q.n) && sanePx q && hasPx p q.a
theorem covP_iff (p q : Px) : covP p q = true ↔ sanePx p = true ∧ sanePx q = true ∧ p.a.v6 = q.a.v6 ∧ ∃ es, key q = key p ++ es := by
  unfold covP
  simp only [Bool.and_eq_true, decide_eq_true_eq, hasPx_iff]
  constructor
  · rintro ⟨⟨h1, h2⟩, h3, h4, h5⟩
    refine ⟨h3, h2, h4, dgs q.a p.n.toNat (q.n.toNat - p.n.toNat), ?_⟩
    rw [h5]
    unfold key
    have := dgs_app q.a 0 p.n.toNat (q.n.toNat - p.n.toNat)
    rw [Nat.zero_add] at this
    rw [← this]
    congr 1
    omega
  · rintro ⟨h1, h2, h3, es, h4⟩
    obtain ⟨p0, p1, p2⟩ := (sanePx_iff p).1 h1
    obtain ⟨q0, q1, q2⟩ := (sanePx_iff q).1 h2
    have hl : q.n.toNat = p.n.toNat + es.length := by rw [← key_length, ← key_length, h4, List.length_append]
    refine ⟨⟨by omega, h2⟩, h1, h3, ?_⟩
    have := dgs_takes q.a 0 p.n.toNat q.n.toNat (by omega)
    rw [← this, show dgs q.a 0 q.n.toNat = key q from rfl, h4, List.take_left' (key_length p)]

theorem childP_key {p : Px} (hs : sanePx p = true) (h : p.n < p.a.w) (b : Bool) : sanePx (childP p (if b then 1 else 0)) = true ∧ (childP p (if b then 1 else 0)).a.v6 = p.a.v6 ∧ (childP p (if b then 1 else 0)).n = p.n + 1 ∧ key (childP p (if b then 1 else 0)) = key p ++ [b] := by
  obtain ⟨p0, p1, p2⟩ := (sanePx_iff p).1 hs
  obtain ⟨a, n⟩ := p
  obtain ⟨m, rfl⟩ := Int.eq_ofNat_of_zero_le p0
  simp only [Int.toNat_natCast] at p0 p1 p2 h ⊢
  have hm : m < a.w := by omega
  have hw := a.w_le
  have hset : setA a m (if b then 1 else 0) = a.set m b := by
    unfold setA
    rw [if_pos ((isB_iff a m).2 (by omega))]
    cases b <;> rfl
  have hbit : ∀ i, i < 128 → (a.set m b).bit i = if m = i then b else (a.bit i && decide (i < a.w)) := fun i hi => by
    rw [Ad.set_bit _ _ _ _ hm hi, Ad.rd_bit _ _ hi]
  have habit : ∀ i, i < 128 → m ≤ i → a.bit i = false := fun i hi h => by
    rw [p2, Ad.mask_bit _ _ _ hi]
    simp; omega
  have hd : ∀ d k, k + d ≤ m → dgs (a.set m b) k d = dgs a k d := by
    intro d
    induction d with
    | zero => intro k _; rfl
    | succ d ih =>
      intro k hk
      simp only [dgs]
      rw [ih (k + 1) (by omega), bitI_bit _ _ (by simp; omega), bitI_bit _ _ (by omega), hbit _ (by omega), if_neg (by omega)]
      have h2 : k < a.w := by omega
      simp [h2]
  refine ⟨?_, ?_, rfl, ?_⟩
  · rw [sanePx_iff]
    simp only [childP, hset, Ad.set_w]
    refine ⟨by omega, by omega, ?_⟩
    apply Ad.ext_bits (by simp)
    intro i hi
    rw [Ad.mask_bit _ _ _ hi, hbit i hi, Ad.set_w]
    by_cases e : m = i
    · subst e
      have h1 : m < (m + 1 : Int).toNat := by omega
      simp [h1, hm]
    · simp only [e, if_false]
      by_cases hmi : m ≤ i
      · rw [habit i hi hmi]; simp
      · have h1 : i < m + 1 := by omega
        have h2 : i < a.w := by omega
        simp [h1, h2]
  · simp [childP, setA_v6]
  · unfold key
    simp only [childP, hset]
    rw [show ((m : Int) + 1).toNat = m + 1 by omega, dgs_app, hd m 0 (by omega)]
    simp only [Int.toNat_natCast, dgs, Nat.zero_add]
    rw [bitI_bit _ _ (by simpa using hm), hbit _ (by omega)]
    simp

/-- longer by digits -/
theorem ext_key {p : Px} (hs : sanePx p = true) : ∀ (es : List Bool), p.n.toNat + es.length ≤ p.a.w → ∃ q, sanePx q = true ∧ q.a.v6 = p.a.v6 ∧ key q = key p ++ es := by
  intro es
  induction es generalizing p with
  | nil => intro _; exact ⟨p, hs, rfl, by simp⟩
  | cons b es ih =>
    intro h
    obtain ⟨p0, p1, p2⟩ := (sanePx_iff p).1 hs
    simp only [List.length_cons] at h
    obtain ⟨h1, h2, h3, h4⟩ := childP_key hs (by omega) b
    have hw : (childP p (if b then 1 else 0)).a.w = p.a.w := by unfold Ad.w; rw [h2]
    obtain ⟨q, q1, q2, q3⟩ := ih h1 (by rw [h3, hw]; omega)
    exact ⟨q, q1, by rw [q2, h2], by rw [q3, h4]; simp⟩

/-- the least prefix of a kind -/
def topP (v6 : Bool) : Px := ⟨⟨0, 0, v6⟩, 0⟩
theorem topP_sane (v6 : Bool) : sanePx (topP v6) = true := by cases v6 <;> decide
theorem topP_key (v6 : Bool) : key (topP v6) = [] := rfl

end Go.Proofs.Ytdecgbgndffkkaa
