import Derived.Test.YtmidnppbnhahpaaDoorZB
import Derived.Lib.QuoteLoop
namespace Go.Proofs.Er
open Go Go.RowKit Go.Shelf Go.Proofs Go.Sort

theorem runesFrom_valid (k : Nat) : ∀ (s : ByteArray), ∀ x ∈ runesFrom k s, Lib.validRune x.1 = true := by
  induction k with
  | zero => intro s x hx; simp [runesFrom] at hx
  | succ k ih =>
    intro s x hx
    unfold runesFrom at hx
    split at hx
    · simp at hx
    · rename_i hs
      rcases List.mem_cons.1 hx with rfl | hx
      · simp only [dec1, if_neg hs]; exact Lib.rune_valid s
      · exact ih _ x hx
theorem tokenF_valid (s : ByteArray) : ∀ r ∈ (tokenF s).1, Lib.validRune r = true := by
  intro r hr
  unfold tokenF at hr
  split at hr
  · simp at hr
  · split at hr
    · simp at hr
    · split at hr
      · simp at hr
      · unfold decodeF at hr
        split at hr
        · obtain ⟨x, hx, rfl⟩ := List.mem_map.1 hr
          exact runesFrom_valid _ _ x hx
        · simp at hr
theorem backF_may (a : List Int) (hv : ∀ r ∈ a, Lib.validRune r = true) (f : Nat) : ∀ i, i ≤ a.length → ∀ s ∈ backF a a f i i, mayF s = true := by
  induction f with
  | zero => intro i _ s hs; simp [backF] at hs
  | succ f ih =>
    intro i hi s hs
    unfold backF at hs
    rw [gridF_diag] at hs
    by_cases h0 : i + i = 0
    · rw [if_pos h0] at hs; simp at hs
    · rw [if_neg h0] at hs
      simp at hs
      rcases hs with rfl | hs
      · have hlt : i - 1 < a.length := by omega
        have hm : Lib.validRune (a[i - 1]?.getD 0) = true := by
          rw [List.getElem?_eq_getElem hlt]
          exact hv _ (List.getElem_mem hlt)
        simp [mayF, hm]
      · exact ih (i - 1) (by omega) s hs
theorem sameSaid : SameSaid := by
  intro n t h
  have ht : (tokenF t).2 = 0 := by
    unfold pairF at h
    split at h
    · rename_i h1; exact absurd h h1
    · split at h
      · rename_i h2; exact absurd h h2
      · rename_i h2; omega
  unfold pairF
  rw [if_neg (by omega), if_neg (by omega)]
  have hv := tokenF_valid t
  generalize (tokenF t).1 = a at hv
  have hm : ∀ s ∈ stepsF a a, s.k = 0 := fun s hs => backF_diag a _ a.length s (List.mem_reverse.1 hs)
  have hc : checkS (stepsF a a) = true := by
    unfold checkS
    rw [List.all_eq_true]
    intro s hs
    exact backF_may a hv _ a.length (Nat.le_refl _) s (List.mem_reverse.1 hs)
  unfold ofF
  rw [if_pos hc, rowsF_match _ _ hm]
  rfl
end Go.Proofs.Er
