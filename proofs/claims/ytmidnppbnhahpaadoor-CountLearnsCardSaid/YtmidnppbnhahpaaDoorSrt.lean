import Derived.Test.YtmidnppbnhahpaaDoorTab
import Derived.Shelf.SlSortCmp.WholeK
namespace Go.Proofs.Er
open Go Go.Sort
theorem or_swap (a b : Blk) : blkOr b a = - blkOr a b := by
  unfold blkOr
  rw [sc_swap a.f b.f, sc_swap a.t b.t]
  by_cases h : strCmp a.f b.f = 0
  · simp [h]
  · rw [if_pos (by omega), if_pos h]
theorem or_zero {a b : Blk} (h : blkOr a b = 0) : a.f = b.f ∧ a.t = b.t := by
  unfold blkOr at h
  by_cases h1 : strCmp a.f b.f = 0
  · rw [if_neg (by omega)] at h; exact ⟨sc_zero h1, sc_zero h⟩
  · rw [if_pos h1] at h; exact absurd h h1
theorem or_trans {a b c : Blk} (h1 : blkOr a b < 0) (h2 : blkOr b c < 0) : blkOr a c < 0 := by
  unfold blkOr at *
  by_cases e1 : strCmp a.f b.f = 0
  · rw [if_neg (by omega)] at h1
    rw [sc_zero e1]
    by_cases e2 : strCmp b.f c.f = 0
    · rw [if_neg (by omega)] at h2 ⊢; exact sc_trans h1 h2
    · rw [if_pos e2] at h2 ⊢; exact h2
  · rw [if_pos e1] at h1
    by_cases e2 : strCmp b.f c.f = 0
    · rw [← sc_zero e2, if_pos e1]; exact h1
    · rw [if_pos e2] at h2
      have := sc_trans h1 h2
      rw [if_pos (by omega)]; exact this
theorem or_congr {a b c : Blk} (h : a.f = b.f ∧ a.t = b.t) : blkOr a c = blkOr b c ∧ blkOr c a = blkOr c b := by
  unfold blkOr; rw [h.1, h.2]; exact ⟨rfl, rfl⟩
theorem less_iff (a b : Blk) : blkLess a b = true ↔ blkOr a b < 0 := by simp [blkLess]
theorem less_false (a b : Blk) : blkLess a b = false ↔ 0 ≤ blkOr a b := by simp [blkLess]
theorem less_asymm {a b : Blk} (h : blkLess a b = true) : blkLess b a = false := by
  rw [less_iff] at h; rw [less_false, or_swap a b]; omega
theorem ntrans_ {a b c : Blk} (h1 : blkLess a b = false) (h2 : blkLess b c = false) : blkLess a c = false := by
  rw [less_false] at *
  have s1 := or_swap a b
  have s2 := or_swap b c
  have s3 := or_swap a c
  rcases (by omega : blkOr a b = 0 ∨ blkOr b a < 0) with h | h
  · rw [(or_congr (c := c) (or_zero h)).1]; exact h2
  · rcases (by omega : blkOr b c = 0 ∨ blkOr c b < 0) with h' | h'
    · rw [← (or_congr (c := a) (or_zero h')).2]; exact h1
    · have := or_trans h' h; omega
theorem lt_less : ltOf blkCmp = blkLess := by
  funext x y
  unfold ltOf blkCmp
  cases h : blkLess x y
  · cases h2 : blkLess y x <;> simp
  · simp
theorem swo : SWO (ltOf blkCmp) := by
  rw [lt_less]
  refine ⟨fun x => ?_, fun x y z h1 h2 => ?_, fun x y z h1 h2 => ntrans_ h1 h2⟩
  · rw [less_false]; have := or_swap x x; omega
  · rw [less_iff] at *; exact or_trans h1 h2

/-- No later one is less. -/
def Asc (l : List Blk) : Prop := l.Pairwise fun a b => blkLess b a = false
theorem ins_perm (b : Blk) (l : List Blk) : (insB b l).Perm (b :: l) := by
  induction l with
  | nil => exact List.Perm.refl _
  | cons x l ih =>
    simp only [insB]
    split
    · exact List.Perm.refl _
    · exact (ih.cons x).trans (List.Perm.swap b x l)
theorem isort_perm (l : List Blk) : (isortB l).Perm l := by
  induction l with
  | nil => exact List.Perm.refl _
  | cons b l ih => exact (ins_perm b (isortB l)).trans (ih.cons b)
theorem ins_asc (b : Blk) (l : List Blk) (h : Asc l) : Asc (insB b l) := by
  induction l with
  | nil => exact List.pairwise_singleton _ _
  | cons x l ih =>
    obtain ⟨h1, h2⟩ := List.pairwise_cons.1 h
    simp only [insB]
    split
    · rename_i hb
      refine List.pairwise_cons.2 ⟨fun y hy => ?_, h⟩
      rcases List.mem_cons.1 hy with rfl | hy
      · exact less_asymm hb
      · exact ntrans_ (h1 y hy) (less_asymm hb)
    · rename_i hb
      refine List.pairwise_cons.2 ⟨fun y hy => ?_, ih h2⟩
      rcases List.mem_cons.1 ((ins_perm b l).mem_iff.1 hy) with rfl | hy
      · simpa using hb
      · exact h1 y hy
theorem isort_asc (l : List Blk) : Asc (isortB l) := by
  induction l with
  | nil => exact List.Pairwise.nil
  | cons b l ih => exact ins_asc b _ ih
theorem key_unique {l : List Blk} (h : (keysL l).Nodup) {a b : Blk} (ha : a ∈ l) (hb : b ∈ l) (he : a.f = b.f ∧ a.t = b.t) : a = b := by
  obtain ⟨i, hi, rfl⟩ := List.mem_iff_getElem.1 ha
  obtain ⟨j, hj, rfl⟩ := List.mem_iff_getElem.1 hb
  have h1 : (keysL l)[i]? = (keysL l)[j]? := by simp [keysL, List.getElem?_eq_getElem hi, List.getElem?_eq_getElem hj, he.1, he.2]
  have := (List.getElem?_inj (by simpa [keysL] using hi) h).1 h1
  subst this
  rfl
theorem asc_unique {l m n : List Blk} (h : (keysL l).Nodup) (hm : m.Perm l) (hn : n.Perm l) (am : Asc m) (an : Asc n) : m = n := by
  refine List.Perm.eq_of_pairwise (le := fun a b => blkLess b a = false) (fun a b ha hb h1 h2 => ?_) am an (hm.trans hn.symm)
  refine key_unique h (hm.mem_iff.1 ha) (hn.mem_iff.1 hb) (or_zero ?_)
  rw [less_false] at h1 h2
  have := or_swap a b
  omega
theorem sort_eq {l : List Blk} (h : (keysL l).Nodup) {d' : Array Blk} (hp : PermIn 0 l.toArray.size l.toArray d') (hs : SortedIn (ltOf blkCmp) 0 l.toArray.size d') : d'.toList = isortB l := by
  obtain ⟨hsz, _, hperm⟩ := hp
  rw [lt_less] at hs
  have e1 : (d'.extract 0 l.toArray.size).toList = d'.toList := by rw [← hsz]; simp
  have e2 : (l.toArray.extract 0 l.toArray.size).toList = l := by simp
  rw [e1, e2] at hperm
  refine asc_unique h hperm (isort_perm l) ?_ (isort_asc l)
  refine List.pairwise_iff_getElem.2 fun i j hi hj hij => ?_
  have hj' : j < d'.size := by simpa using hj
  have := hs i j (Nat.zero_le _) hij (by rw [← hsz]; exact hj')
  rw [getElem!_pos d' j hj', getElem!_pos d' i (by omega)] at this
  simpa using this
end Go.Proofs.Er
