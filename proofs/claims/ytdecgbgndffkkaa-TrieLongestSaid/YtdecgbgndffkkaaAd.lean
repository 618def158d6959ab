/- Addresses and prefixes in plain Lean: words of 64 digits, digits of two, what the program's functions of layers 1 and 2 compute. No program in sight. -/
import Init.Data.BitVec
import Init.Data.List
namespace Go.Proofs.Ytdecgbgndffkkaa

structure Ad where
  hi : BitVec 64
  lo : BitVec 64
  v6 : Bool
  deriving DecidableEq

structure Px where
  a : Ad
  n : Int
  deriving DecidableEq

/-- so many digits -/
def Ad.w (a : Ad) : Nat := if a.v6 then 128 else 32
theorem Ad.w_le (a : Ad) : a.w ≤ 128 := by unfold Ad.w; split <;> omega
theorem Ad.w_pos (a : Ad) : 0 < a.w := by unfold Ad.w; split <;> omega

/-- the i-th digit, as it stands -/
def Ad.bit (a : Ad) (i : Nat) : Bool := if i < 64 then a.hi.getMsbD i else a.lo.getMsbD (i - 64)
def Ad.dig (a : Ad) : List Bool := (List.range a.w).map a.bit
theorem Ad.dig_length (a : Ad) : a.dig.length = a.w := by simp [Ad.dig]

/-- a word whose first n digits are 1 -/
def highB (n : Nat) : BitVec 64 := BitVec.allOnes 64 <<< (64 - n)
theorem highB_get (n i : Nat) (hi : i < 64) (hn : n ≤ 64) : (highB n).getMsbD i = decide (i < n) := by
  unfold highB
  rw [BitVec.getMsbD_shiftLeft]
  by_cases h : i < n
  · rw [BitVec.getMsbD_eq_getLsbD, BitVec.getLsbD_allOnes]
    simp [h]; omega
  · rw [BitVec.getMsbD_eq_getLsbD, BitVec.getLsbD_allOnes]
    simp [h]; omega

/-- a number brought to 0 to m -/
def clampN (m : Nat) (n : Int) : Nat := (max 0 (min n m)).toNat
theorem clampN_le (m : Nat) (n : Int) : clampN m n ≤ m := by unfold clampN; omega
theorem clampN_of (m : Nat) (n : Int) (h0 : 0 ≤ n) (h1 : n ≤ m) : (clampN m n : Int) = n := by unfold clampN; omega
theorem clampN_nat (m n : Nat) (h1 : n ≤ m) : clampN m (n : Int) = n := by unfold clampN; omega

/-- a word whose digits from one on, below another one, are 1: the k-th word -/
def onesB (k f t : Nat) : BitVec 64 := highB (min (t - 64 * k) 64) &&& ~~~ highB (min (f - 64 * k) 64)
theorem onesB_get (k f t i : Nat) (hi : i < 64) : (onesB k f t).getMsbD i = decide (f ≤ 64 * k + i ∧ 64 * k + i < t) := by
  unfold onesB
  rw [BitVec.getMsbD_and, BitVec.getMsbD_not, highB_get _ _ hi (by omega), highB_get _ _ hi (by omega)]
  rw [Bool.eq_iff_iff]
  simp [hi]
  omega

/-- an address without what is no digit of it -/
def Ad.rd (a : Ad) : Ad := ⟨a.hi &&& onesB 0 0 a.w, a.lo &&& onesB 1 0 a.w, a.v6⟩
@[simp] theorem Ad.rd_v6 (a : Ad) : a.rd.v6 = a.v6 := rfl
@[simp] theorem Ad.rd_w (a : Ad) : a.rd.w = a.w := rfl

theorem Ad.ext_bits {a b : Ad} (hv : a.v6 = b.v6) (h : ∀ i, i < 128 → a.bit i = b.bit i) : a = b := by
  have h1 : a.hi = b.hi := by
    apply BitVec.eq_of_getMsbD_eq
    intro i hi
    have := h i (by omega)
    simpa [Ad.bit, hi] using this
  have h2 : a.lo = b.lo := by
    apply BitVec.eq_of_getMsbD_eq
    intro i hi
    have := h (64 + i) (by omega)
    have h3 : ¬ 64 + i < 64 := by omega
    simpa [Ad.bit, h3] using this
  cases a; cases b; simp_all

theorem Ad.rd_bit (a : Ad) (i : Nat) (hi : i < 128) : a.rd.bit i = (a.bit i && decide (i < a.w)) := by
  unfold Ad.bit Ad.rd
  by_cases h : i < 64
  · simp only [h, if_true]
    rw [BitVec.getMsbD_and, onesB_get _ _ _ _ h]; simp
  · simp only [h, if_false]
    rw [BitVec.getMsbD_and, onesB_get _ _ _ _ (by omega)]
    have : 64 * 1 + (i - 64) = i := by omega
    rw [this]; simp

theorem Ad.rd_rd (a : Ad) : a.rd.rd = a.rd := by
  refine Ad.ext_bits (a := a.rd.rd) (b := a.rd) rfl ?_
  intro i hi
  rw [Ad.rd_bit _ _ hi, Ad.rd_bit _ _ hi]
  simp +contextual

def Ad.sane (a : Ad) : Prop := a.rd = a
instance (a : Ad) : Decidable a.sane := by unfold Ad.sane; infer_instance
theorem Ad.rd_sane (a : Ad) : a.rd.sane := a.rd_rd

theorem Ad.sane_bit {a : Ad} (h : a.sane) (i : Nat) (hi : i < 128) (hw : a.w ≤ i) : a.bit i = false := by
  have h1 := a.rd_bit i hi
  unfold Ad.sane at h
  rw [h] at h1
  rw [h1]
  simp; omega

theorem Ad.dig_get (a : Ad) (i : Nat) (h : i < a.w) : a.dig[i]? = some (a.bit i) := by
  simp [Ad.dig, h]

theorem Ad.rd_dig (a : Ad) : a.rd.dig = a.dig := by
  have hw := a.w_le
  unfold Ad.dig
  rw [Ad.rd_w]
  apply List.map_congr_left
  intro i hi
  rw [List.mem_range] at hi
  rw [Ad.rd_bit _ _ (by omega)]
  simp [hi]

theorem Ad.ext_dig {a b : Ad} (ha : a.sane) (hb : b.sane) (hv : a.v6 = b.v6) (h : a.dig = b.dig) : a = b := by
  apply Ad.ext_bits hv
  intro i hi
  have hw : a.w = b.w := by unfold Ad.w; rw [hv]
  by_cases hlt : i < a.w
  · have h1 := a.dig_get i hlt
    have h2 := b.dig_get i (by omega)
    rw [h, h2] at h1
    exact (Option.some.inj h1).symm
  · rw [Ad.sane_bit ha i hi (by omega), Ad.sane_bit hb i hi (by omega)]

/-! ### Mask, Fill, Set -/
def Ad.mask (a : Ad) (n : Nat) : Ad := ⟨a.rd.hi &&& ~~~ onesB 0 n a.w, a.rd.lo &&& ~~~ onesB 1 n a.w, a.v6⟩
def Ad.fill (a : Ad) (n : Nat) : Ad := ⟨a.rd.hi ||| onesB 0 n a.w, a.rd.lo ||| onesB 1 n a.w, a.v6⟩
@[simp] theorem Ad.mask_v6 (a : Ad) (n : Nat) : (a.mask n).v6 = a.v6 := rfl
@[simp] theorem Ad.mask_w (a : Ad) (n : Nat) : (a.mask n).w = a.w := rfl
@[simp] theorem Ad.fill_v6 (a : Ad) (n : Nat) : (a.fill n).v6 = a.v6 := rfl
@[simp] theorem Ad.fill_w (a : Ad) (n : Nat) : (a.fill n).w = a.w := rfl

theorem Ad.mask_bit (a : Ad) (n i : Nat) (hi : i < 128) : (a.mask n).bit i = (a.bit i && decide (i < n) && decide (i < a.w)) := by
  have hr := a.rd_bit i hi
  have key : (a.mask n).bit i = (a.rd.bit i && !decide (n ≤ i ∧ i < a.w)) := by
    unfold Ad.mask
    unfold Ad.bit
    by_cases h : i < 64
    · simp only [h, if_true]
      rw [BitVec.getMsbD_and, BitVec.getMsbD_not, onesB_get _ _ _ _ h]
      simp [h]
    · simp only [h, if_false]
      rw [BitVec.getMsbD_and, BitVec.getMsbD_not, onesB_get _ _ _ _ (by omega)]
      have : 64 * 1 + (i - 64) = i := by omega
      rw [this]
      have h2 : i - 64 < 64 := by omega
      simp [h2]
  rw [key, hr, Bool.eq_iff_iff]
  simp
  constructor
  · rintro ⟨⟨h1, h2⟩, h3⟩; exact ⟨⟨h1, by omega⟩, h2⟩
  · rintro ⟨⟨h1, h2⟩, h3⟩; exact ⟨⟨h1, h3⟩, by omega⟩

theorem Ad.fill_bit (a : Ad) (n i : Nat) (hi : i < 128) : (a.fill n).bit i = ((a.bit i || decide (n ≤ i)) && decide (i < a.w)) := by
  have hr := a.rd_bit i hi
  have key : (a.fill n).bit i = (a.rd.bit i || decide (n ≤ i ∧ i < a.w)) := by
    unfold Ad.fill
    unfold Ad.bit
    by_cases h : i < 64
    · simp only [h, if_true]
      rw [BitVec.getMsbD_or, onesB_get _ _ _ _ h]
      simp
    · simp only [h, if_false]
      rw [BitVec.getMsbD_or, onesB_get _ _ _ _ (by omega)]
      have : 64 * 1 + (i - 64) = i := by omega
      rw [this]
  rw [key, hr, Bool.eq_iff_iff]
  simp
  constructor
  · rintro (⟨h1, h2⟩ | ⟨h1, h2⟩)
    · exact ⟨.inl h1, h2⟩
    · exact ⟨.inr h1, h2⟩
  · rintro ⟨h1 | h1, h2⟩
    · exact .inl ⟨h1, h2⟩
    · exact .inr ⟨h1, h2⟩

theorem Ad.sane_of_bits {a : Ad} (h : ∀ i, i < 128 → a.w ≤ i → a.bit i = false) : a.sane := by
  refine Ad.ext_bits (a := a.rd) (b := a) rfl ?_
  intro i hi
  rw [Ad.rd_bit _ _ hi]
  by_cases hw : i < a.w
  · simp [hw]
  · simp [hw, h i hi (by omega)]

theorem Ad.mask_sane (a : Ad) (n : Nat) : (a.mask n).sane := by
  apply Ad.sane_of_bits
  intro i hi hw
  rw [Ad.mask_bit _ _ _ hi]
  rw [Ad.mask_w] at hw
  simp; omega
theorem Ad.fill_sane (a : Ad) (n : Nat) : (a.fill n).sane := by
  apply Ad.sane_of_bits
  intro i hi hw
  rw [Ad.fill_bit _ _ _ hi]
  rw [Ad.fill_w] at hw
  simp; omega

theorem Ad.mask_dig (a : Ad) (n : Nat) (hn : n ≤ a.w) : (a.mask n).dig = a.dig.take n ++ List.replicate (a.w - n) false := by
  have hw := a.w_le
  apply List.ext_getElem?
  intro i
  by_cases hi : i < a.w
  · rw [Ad.dig_get _ _ (by simpa using hi), Ad.mask_bit _ _ _ (by omega), List.getElem?_append]
    have hl : (a.dig.take n).length = n := by rw [List.length_take, Ad.dig_length]; omega
    rw [hl]
    by_cases h : i < n
    · simp [h, Ad.dig_get a i hi, hi]
    · rw [if_neg h, List.getElem?_replicate, if_pos (by omega)]; simp [h]
  · rw [List.getElem?_eq_none (by rw [Ad.dig_length]; simpa using hi), List.getElem?_eq_none]
    rw [List.length_append, List.length_take, Ad.dig_length, List.length_replicate]; omega

theorem Ad.fill_dig (a : Ad) (n : Nat) (hn : n ≤ a.w) : (a.fill n).dig = a.dig.take n ++ List.replicate (a.w - n) true := by
  have hw := a.w_le
  apply List.ext_getElem?
  intro i
  by_cases hi : i < a.w
  · rw [Ad.dig_get _ _ (by simpa using hi), Ad.fill_bit _ _ _ (by omega), List.getElem?_append]
    have hl : (a.dig.take n).length = n := by rw [List.length_take, Ad.dig_length]; omega
    rw [hl]
    by_cases h : i < n
    · have h2 : ¬ n ≤ i := by omega
      simp [h, h2, Ad.dig_get a i hi, hi]
    · have h2 : n ≤ i := by omega
      rw [if_neg h, List.getElem?_replicate, if_pos (by omega)]; simp [h2, hi]
  · rw [List.getElem?_eq_none (by rw [Ad.dig_length]; simpa using hi), List.getElem?_eq_none]
    rw [List.length_append, List.length_take, Ad.dig_length, List.length_replicate]; omega

/-- a word with one digit -/
def oneB (i : Nat) : BitVec 64 := 1#64 <<< (63 - i)
theorem oneB_get (i j : Nat) (hi : i < 64) (hj : j < 64) : (oneB i).getMsbD j = decide (i = j) := by
  unfold oneB
  rw [BitVec.getMsbD_eq_getLsbD, BitVec.getLsbD_shiftLeft, BitVec.getLsbD_one]
  rw [Bool.eq_iff_iff]
  simp
  omega
def setB (x : BitVec 64) (i : Nat) (v : Bool) : BitVec 64 := if v then (x &&& ~~~ oneB i) ||| oneB i else x &&& ~~~ oneB i
theorem setB_get (x : BitVec 64) (i j : Nat) (v : Bool) (hi : i < 64) (hj : j < 64) : (setB x i v).getMsbD j = if i = j then v else x.getMsbD j := by
  unfold setB
  cases v
  · simp only [Bool.false_eq_true, if_false]
    rw [BitVec.getMsbD_and, BitVec.getMsbD_not, oneB_get _ _ hi hj]
    by_cases h : i = j <;> simp [h, hj]
  · simp only [if_true]
    rw [BitVec.getMsbD_or, BitVec.getMsbD_and, BitVec.getMsbD_not, oneB_get _ _ hi hj]
    by_cases h : i = j <;> simp [h, hj]
/-- with another digit, where there is one -/
def Ad.set (a : Ad) (i : Nat) (v : Bool) : Ad := if i < 64 then ⟨setB a.rd.hi i v, a.rd.lo, a.v6⟩ else ⟨a.rd.hi, setB a.rd.lo (i - 64) v, a.v6⟩
@[simp] theorem Ad.set_v6 (a : Ad) (i : Nat) (v : Bool) : (a.set i v).v6 = a.v6 := by unfold Ad.set; split <;> rfl
@[simp] theorem Ad.set_w (a : Ad) (i : Nat) (v : Bool) : (a.set i v).w = a.w := by unfold Ad.w; simp
theorem Ad.set_bit (a : Ad) (i j : Nat) (v : Bool) (hi : i < a.w) (hj : j < 128) : (a.set i v).bit j = if i = j then v else a.rd.bit j := by
  have hw := a.w_le
  unfold Ad.set
  by_cases h : i < 64
  · rw [if_pos h]
    unfold Ad.bit
    by_cases h' : j < 64
    · simp only [h', if_true]; exact setB_get _ _ _ _ h h'
    · simp only [h', if_false]; rw [if_neg (by omega)]
  · rw [if_neg h]
    unfold Ad.bit
    by_cases h' : j < 64
    · simp only [h', if_true]; rw [if_neg (by omega)]
    · simp only [h', if_false]
      rw [setB_get _ _ _ _ (by omega) (by omega)]
      by_cases e : i = j
      · subst e; simp
      · rw [if_neg (by omega), if_neg e]
theorem Ad.set_sane (a : Ad) (i : Nat) (v : Bool) (hi : i < a.w) : (a.set i v).sane := by
  apply Ad.sane_of_bits
  intro j hj hw
  rw [Ad.set_w] at hw
  rw [Ad.set_bit _ _ _ _ hi hj, if_neg (by omega)]
  exact Ad.sane_bit a.rd_sane j hj hw
theorem Ad.set_dig (a : Ad) (i : Nat) (v : Bool) (hi : i < a.w) : (a.set i v).dig = a.dig.set i v := by
  have hw := a.w_le
  apply List.ext_getElem?
  intro j
  by_cases hj : j < a.w
  · rw [Ad.dig_get _ _ (by simpa using hj), Ad.set_bit _ _ _ _ hi (by omega), List.getElem?_set]
    by_cases e : i = j
    · subst e; simp [Ad.dig_length, hj]
    · rw [if_neg e, if_neg e, Ad.dig_get _ _ hj, Ad.rd_bit _ _ (by omega)]; simp [hj]
  · rw [List.getElem?_eq_none (by rw [Ad.dig_length]; simpa using hj), List.getElem?_eq_none]
    rw [List.length_set, Ad.dig_length]; omega

end Go.Proofs.Ytdecgbgndffkkaa
