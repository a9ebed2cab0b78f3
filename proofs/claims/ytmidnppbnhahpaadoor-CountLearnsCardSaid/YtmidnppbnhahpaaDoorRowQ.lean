import Derived.Test.YtmidnppbnhahpaaDoorMem
import Derived.Shelf.SlSortCmp.WholeK
import Derived.Shelf.SlicesQ.Reverse
namespace Go.Proofs.Er
open Go Go.RowKit Go.Sort
variable {α : Type} [Inhabited α]

theorem flat_get (enc : α → List Value) (k : Nat) (hk : ∀ x, (enc x).length = k) : ∀ (l : List α) (t : Nat), t < l.length * k → (l.flatMap enc)[t]? = some ((enc l[t / k]!)[t % k]!) := by
  intro l
  induction l with
  | nil => intro t h; simp at h
  | cons a l ih =>
    intro t h
    have k0 : 0 < k := by rcases Nat.eq_zero_or_pos k with h0 | h0; · subst h0; simp at h
                          · exact h0
    rw [List.flatMap_cons]
    by_cases ht : t < k
    · rw [List.getElem?_append_left (by rw [hk]; exact ht), Nat.div_eq_of_lt ht, Nat.mod_eq_of_lt ht]
      simp only [List.getElem!_cons_zero]
      rw [List.getElem?_eq_getElem (by rw [hk]; exact ht), getElem!_pos _ _ (by rw [hk]; exact ht)]
    · rw [List.getElem?_append_right (by rw [hk]; omega), hk, ih (t - k) (by simp [Nat.add_mul] at h; omega)]
      have e1 : t / k = (t - k) / k + 1 := by
        rw [show t = (t - k) + k by omega, Nat.add_div_right _ k0]; simp
      have e2 : t % k = (t - k) % k := by
        conv => lhs; rw [show t = (t - k) + k by omega, Nat.add_mod_right]
      rw [e1, e2]
      simp
theorem flat_len (enc : α → List Value) (k : Nat) (hk : ∀ x, (enc x).length = k) (l : List α) : (l.flatMap enc).length = l.length * k := by
  have _i : Inhabited α := inferInstance
  induction l with
  | nil => simp
  | cons a l ih => simp [List.flatMap_cons, hk, ih, Nat.add_mul, Nat.add_comm]
theorem flat_toList (enc : α → List Value) (k : Nat) (hk : ∀ x, (enc x).length = k) (l : List α) : (flatK enc k l.toArray).toList = l.flatMap enc := by
  apply List.ext_getElem?
  intro t
  by_cases h : t < l.length * k
  · rw [flat_get enc k hk l t h, Array.getElem?_toList]
    have := get_flatK enc k l.toArray t (by simpa using h)
    rw [getElem!_pos _ _ (by simpa using h)] at this
    rw [Array.getElem?_eq_getElem (by simpa using h), this]
    simp
  · rw [List.getElem?_eq_none (by simp; omega), List.getElem?_eq_none (by rw [flat_len enc k hk]; omega)]

theorem holdsK_of_row {enc : α → List Value} {k : Nat} (hk : ∀ x, (enc x).length = k) {W : World} {e g n cap : Nat} {l : List α} (hl : l.length = n) (h : Row W e k (.slice (some ⟨g, 0, none⟩) n cap) n (l.flatMap enc)) : HoldsK enc k W g 0 l.toArray := by
  obtain ⟨h1, h2⟩ := h
  rcases h2 with ⟨h2, _⟩ | ⟨g', cap', cur, hg, _, hh, hcap, _, hcs, ht⟩
  · cases h2
  · injection hg with hg1 hg2 hg3
    injection hg1 with hg1
    injection hg1 with hg1
    subst hg1 hg3
    intro j hj
    have hj' : j < n * k := by simpa [hl] using hj
    refine ⟨?_, frozen_of_row _ _ _ _ _ hh⟩
    rw [cell_of_row _ _ _ _ _ _ hh, Nat.zero_add]
    have e1 : cur[j]? = (l.flatMap enc)[j]? := by rw [← ht, List.getElem?_take_of_lt (by simpa [hcs] using hj'), Array.getElem?_toList]
    rw [e1, flat_get enc k hk l j (by rw [hl]; exact hj')]
    have := get_flatK enc k l.toArray j (by simpa [hl] using hj')
    rw [show ((id : Value → Value) (flatK enc k l.toArray)[j]!) = (flatK enc k l.toArray)[j]! from rfl, this]
    simp

theorem kept_putRow (enc : α → Value) (w : World) (n g off : Nat) (d : Array α) : KeptOn (fun x => x ≠ g) w (putRow enc (Sort.ahead w n) g off d) := by
  refine ⟨rfl, rfl, rfl, by simp [Sort.ahead], fun x _ hx => ?_⟩
  simp only [putRow, mapBlock, Sort.ahead, Array.getElem?_modify]
  rw [if_neg (fun h => hx h.symm)]
theorem kept_grow (w : World) (os : Array Obj) : Below w.heap.size w (grow w os) := ⟨rfl, rfl, rfl, by simp, fun k hk => heap_grow_old w os hk⟩

theorem row_putRowK {enc : α → List Value} {k : Nat} (hk : ∀ x, (enc x).length = k) {W : World} {e g n cap : Nat} {l : List α} (h : Row W e k (.slice (some ⟨g, 0, none⟩) n cap) n (l.flatMap enc)) (m : Nat) (d : Array α) (hd : d.size = n) :
    Row (putRowK enc k (Sort.ahead W m) g 0 d) e k (.slice (some ⟨g, 0, none⟩) n cap) n (d.toList.flatMap enc) := by
  obtain ⟨h1, h2⟩ := h
  rcases h2 with ⟨h2, _⟩ | ⟨g', cap', cur, hg, _, hh, hcap, hmax, hcs, ht⟩
  · cases h2
  · injection hg with hg1 hg2 hg3
    injection hg1 with hg1
    injection hg1 with hg1
    subst hg1 hg3
    refine ⟨by rw [flat_len enc k hk, Array.length_toList, hd], .inr ⟨g, cap, putCells id 0 (flatK enc k d) cur, rfl, Nat.zero_le _, ?_, hcap, hmax, by simp [putCells, hcs], ?_⟩⟩
    · simp only [putRowK, putRow, mapBlock, Sort.ahead, Array.getElem?_modify, if_true, hh, Option.map_some, onCells]
    · have hnk : n * k ≤ cap * k := Nat.mul_le_mul_right k hcap
      rw [← flat_toList enc k hk d.toList, Array.toArray_toList]
      apply List.ext_getElem?
      intro t
      by_cases htk : t < n * k
      · rw [List.getElem?_take_of_lt htk, Array.getElem?_toList, Array.getElem?_toList]
        have hsz : t < (flatK enc k d).size := by simp [hd]; exact htk
        simp only [putCells, Array.getElem?_mapIdx]
        rw [Array.getElem?_eq_getElem (show t < cur.size by omega), Option.map_some, if_pos ⟨Nat.zero_le _, by simpa using hsz⟩, Nat.sub_zero, Array.getElem?_eq_getElem hsz, getElem!_pos (flatK enc k d) t hsz]
        rfl
      · rw [List.getElem?_eq_none (by simp; omega), List.getElem?_eq_none (by simp [hd]; omega)]
end Go.Proofs.Er
