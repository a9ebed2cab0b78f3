import Derived.Test.YtmidnppbnhahpaaDoorWQ
namespace Go.Proofs.Er
open Go Go.RowKit Go.Shelf Go.Proofs Go.Sort
attribute [local go_sem] Oper.semAt_some

theorem backF_pos (a b : List Int) (f i j : Nat) (h : 0 < i + j) : 0 < (backF a b (f + 1) i j).length := by
  rw [backF, if_neg (by omega)]; simp
theorem tokenF_pos (s : ByteArray) (h : (tokenF s).2 = 0) : 0 < (tokenF s).1.length := by
  unfold tokenF at h ⊢
  split at h
  · rename_i h1; simp only at h; exact absurd h h1
  · split at h
    · exact absurd h (by decide)
    · split at h
      · exact absurd h (by decide)
      · rw [if_neg (by assumption), if_neg (by assumption), if_neg (by assumption)]; simp only; omega
theorem pairF_eq (n t : ByteArray) : pairF n t = if (stepsR n t).2 ≠ 0 then ([], (stepsR n t).2) else ofF (stepsR n t).1 := by
  unfold pairF stepsR
  by_cases h1 : (tokenF n).2 ≠ 0
  · simp only [if_pos h1]
  · by_cases h2 : (tokenF t).2 ≠ 0
    · simp only [if_neg h1, if_pos h2]
    · simp only [if_neg h1, if_neg h2]; rfl
theorem stepsR_len (n t : ByteArray) (h : (stepsR n t).2 = 0) : 0 < (stepsR n t).1.length ∧ (stepsR n t).1.length ≤ 128 := by
  unfold stepsR at h ⊢
  by_cases h1 : (tokenF n).2 ≠ 0
  · simp only [if_pos h1] at h; exact absurd h h1
  · by_cases h2 : (tokenF t).2 ≠ 0
    · simp only [if_neg h1, if_pos h2] at h; exact absurd h h2
    · simp only [if_neg h1, if_neg h2, stepsF, List.length_reverse]
      have a1 := tokenF_pos n (by omega)
      have b1 := tokenF_len n (by omega)
      have b2 := tokenF_len t (by omega)
      obtain ⟨f, hf⟩ : ∃ f, (tokenF n).1.length + (tokenF t).1.length = f + 1 := ⟨(tokenF n).1.length + (tokenF t).1.length - 1, by omega⟩
      have h3 := backF_len (tokenF n).1 (tokenF t).1 ((tokenF n).1.length + (tokenF t).1.length) (tokenF n).1.length (tokenF t).1.length
      have h4 := backF_pos (tokenF n).1 (tokenF t).1 f (tokenF n).1.length (tokenF t).1.length (by omega)
      rw [← hf] at h4
      omega

theorem pair_calls (n t : ByteArray) (w : World) (hT : Tabs w) (hgw : 0 < w.heap.size ∧ 1 < w.heap.size) (hn : n.size ≤ 1000000) (ht : t.size ≤ 1000000) :
    Calls Tryd.prog 12 #[.string n, .string t] w fun e w' => ∃ v, e = .returned (.tuple #[v, .int .i64 (pairF n t).2]) ∧ Below w.heap.size w w' ∧ Row w' 69 3 v (pairF n t).1.length ((pairF n t).1.flatMap cBlk) ∧ ∀ k, v.ownBlock = some k → w.heap.size ≤ k := by
  have C := steps_calls n t w hT hgw hn ht
  rw [pairF_eq]
  have hlen := stepsR_len n t
  generalize stepsR n t = q at C hlen ⊢
  obtain ⟨l, ec⟩ := q
  simp only at C hlen ⊢
  by_cases h : ec = 0
  · subst h
    simp only [ne_eq, not_true_eq_false, if_false]
    have hl := hlen rfl
    go_enter Tryd.func12, Tryd.ntmps12
    go_wp2_with fail
    refine C.mono ?_
    rintro e w1 ⟨v, rfl, hB, hrow, hloc⟩
    have hsl := Sl.of_row hrow
    have C2 := of_calls l v _ w1 hsl (by omega) hl.1 (fun A n c he => by
      rcases hrow.2 with ⟨rfl, _⟩ | ⟨g, cap, cur, rfl, _, _, _, hm, _⟩
      · injection he; omega
      · injection he with _ _ hc; subst hc; simpa [maxLen] using hm)
    have HB := Lib.hid hB
    have hs1 := hB.size
    obtain ⟨A, c, rfl, _⟩ := hrow.form
    clear C hB hrow hloc hsl hlen
    go_wp2_with fail
    refine C2.mono ?_
    rintro e w2 ⟨u, rfl, hB2, hrow2, hloc2⟩
    have H2 := Lib.hid hrow2
    have HL2 := Lib.hid hloc2
    have HB2 := Lib.hid hB2
    clear hB2 hrow2 hloc2 C2
    go_wp2
    go_ret2
    exact ⟨u, rfl, HB.out.trans (HB2.out.mono hs1), H2.out, fun k hk => by have := HL2.out k hk; omega⟩
  · have hb : (ec != 0) = true := by simpa using h
    simp only [ne_eq, h, not_false_eq_true, if_true]
    have HE := Lib.hid h
    clear h hlen
    go_enter Tryd.func12, Tryd.ntmps12
    go_wp2_with fail
    refine C.mono ?_
    rintro e w1 ⟨v, rfl, hB, hrow, hloc⟩
    go_wp2
    go_ret2
    exact ⟨_, rfl, hB, Row.nil _ _ _, by intro k h; cases h⟩
end Go.Proofs.Er
