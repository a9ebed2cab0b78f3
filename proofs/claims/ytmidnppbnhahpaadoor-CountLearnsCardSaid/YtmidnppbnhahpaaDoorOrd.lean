import Derived.Test.YtmidnppbnhahpaaDoorPureA
namespace Go.Proofs.Er
open Go
theorem bl_irrefl (x : List UInt8) : Op.bytesLess x x = false := by
  induction x with
  | nil => rfl
  | cons a x ih => simp [Op.bytesLess, ih]
theorem bl_tri : ∀ (x y : List UInt8), Op.bytesLess x y = false → Op.bytesLess y x = false → x = y := by
  intro x
  induction x with
  | nil => intro y h1 h2; cases y with
    | nil => rfl
    | cons b y => simp [Op.bytesLess] at h1
  | cons a x ih =>
    intro y h1 h2
    cases y with
    | nil => simp [Op.bytesLess] at h2
    | cons b y =>
      simp only [Op.bytesLess, Bool.or_eq_false_iff, decide_eq_false_iff_not, Bool.and_eq_false_iff] at h1 h2
      have hab : a = b := UInt8.le_antisymm (UInt8.not_lt.1 h2.1) (UInt8.not_lt.1 h1.1)
      subst hab
      congr 1
      exact ih y (by rcases h1.2 with h | h; · simp at h
                     · exact h) (by rcases h2.2 with h | h; · simp at h
                                    · exact h)
theorem bl_trans : ∀ (x y z : List UInt8), Op.bytesLess x y = true → Op.bytesLess y z = true → Op.bytesLess x z = true := by
  intro x
  induction x with
  | nil => intro y z h1 h2; cases z with
    | nil => cases y <;> simp [Op.bytesLess] at h2
    | cons c z => rfl
  | cons a x ih =>
    intro y z h1 h2
    cases y with
    | nil => simp [Op.bytesLess] at h1
    | cons b y =>
      cases z with
      | nil => simp [Op.bytesLess] at h2
      | cons c z =>
        simp only [Op.bytesLess, Bool.or_eq_true, decide_eq_true_eq, Bool.and_eq_true, beq_iff_eq] at h1 h2 ⊢
        rcases h1 with h1 | ⟨rfl, h1⟩
        · rcases h2 with h2 | ⟨rfl, h2⟩
          · exact .inl (UInt8.lt_trans h1 h2)
          · exact .inl h1
        · rcases h2 with h2 | ⟨rfl, h2⟩
          · exact .inl h2
          · exact .inr ⟨rfl, ih y z h1 h2⟩
theorem bl_asymm (x y : List UInt8) (h : Op.bytesLess x y = true) : Op.bytesLess y x = false := by
  cases h2 : Op.bytesLess y x
  · rfl
  · have := bl_trans _ _ _ h h2
    rw [bl_irrefl] at this; cases this
theorem toList_inj {a b : ByteArray} (h : a.toList = b.toList) : a = b := by
  rw [ByteArray.toList_eq, ByteArray.toList_eq] at h
  cases a; cases b
  congr 1
  exact Array.toList_inj.1 h
theorem sc_lt {a b : ByteArray} (h : Op.bytesLess a.toList b.toList = true) : strCmp a b = -1 := by simp [strCmp, h]
theorem sc_eq (a : ByteArray) : strCmp a a = 0 := by simp [strCmp, bl_irrefl]
theorem sc_gt {a b : ByteArray} (h : Op.bytesLess a.toList b.toList = false) (hne : (a.toList == b.toList) = false) : strCmp a b = 1 := by
  have h2 : Op.bytesLess b.toList a.toList = true := by
    cases h3 : Op.bytesLess b.toList a.toList
    · exact absurd (bl_tri _ _ h h3) (by simpa using hne)
    · rfl
  simp [strCmp, h, h2]
theorem sc_zero {a b : ByteArray} (h : strCmp a b = 0) : a = b := by
  unfold strCmp at h
  split at h
  · cases h
  · split at h
    · cases h
    · rename_i h1 h2; exact toList_inj (bl_tri _ _ (by simpa using h1) (by simpa using h2))
theorem sc_swap (a b : ByteArray) : strCmp b a = - strCmp a b := by
  unfold strCmp
  cases h1 : Op.bytesLess a.toList b.toList
  · cases h2 : Op.bytesLess b.toList a.toList <;> simp
  · simp [bl_asymm _ _ h1]
theorem sc_neg {a b : ByteArray} : strCmp a b < 0 ↔ Op.bytesLess a.toList b.toList = true := by
  unfold strCmp
  cases h1 : Op.bytesLess a.toList b.toList
  · cases h2 : Op.bytesLess b.toList a.toList <;> simp
  · simp
theorem sc_trans {a b c : ByteArray} (h1 : strCmp a b < 0) (h2 : strCmp b c < 0) : strCmp a c < 0 := sc_neg.2 (bl_trans _ _ _ (sc_neg.1 h1) (sc_neg.1 h2))
end Go.Proofs.Er
