import Derived.Test.YtmidnppbnhahpaaDoorWC
import Derived.Test.YtmidnppbnhahpaaDoorShelfP
namespace Go.Proofs.Er
open Go Go.RowKit Go.Shelf Go.Proofs
attribute [local go_sem] Oper.semAt_some

theorem decSaid : DecSaid := fun s w hT => Tryd.utf8_DecodeRuneInString s w hT

theorem token_calls (s : ByteArray) (w : World) (hT : Tabs w) (hgw : 0 < w.heap.size ∧ 1 < w.heap.size) (hs : s.size ≤ 1000000) : Calls Tryd.prog 71 #[.string s] w fun e w' => ∃ v, e = .returned (.tuple #[v, .int .i64 (tokenF s).2]) ∧ Below w.heap.size w w' ∧
    Row w' 21 1 v (tokenF s).1.length ((tokenF s).1.map (Value.int .i32)) ∧ ∀ k, v.ownBlock = some k → w.heap.size ≤ k := by
  have hC := decode_calls decSaid s w hT hgw hs
  have hcase : ((decodeF s).2 = 0 ∨ (decodeF s).2 = 3) := by unfold decodeF; split <;> simp
  unfold tokenF
  generalize hd : decodeF s = d at hC hcase ⊢
  obtain ⟨l, ec⟩ := d
  simp only at hC hcase ⊢
  clear hd
  rcases hcase with rfl | rfl
  · rw [if_neg (by simp)]
    by_cases h0 : l.length = 0
    · rw [if_pos h0]
      have hb0 : ((l.length : Int) == 0) = true := by simp [h0]
      have H0 := Lib.hid h0
      clear h0
      go_enter Tryd.func71, Tryd.ntmps71
      go_wp2_with fail
      refine hC.mono ?_
      rintro e w1 ⟨v, rfl, hB, hR, hl⟩
      obtain ⟨A, c, rfl, hc⟩ := hR.form
      go_wp2
      go_ret2
      exact ⟨_, rfl, hB, Row.nil _ _ _, by intro k h; cases h⟩
    · rw [if_neg h0]
      have hb0 : ((l.length : Int) == 0) = false := by simpa using h0
      by_cases h6 : 64 < l.length
      · rw [if_pos h6]
        go_enter Tryd.func71, Tryd.ntmps71
        go_wp2_with fail
        refine hC.mono ?_
        rintro e w1 ⟨v, rfl, hB, hR, hl⟩
        obtain ⟨A, c, rfl, hc⟩ := hR.form
        go_wp2
        go_ret2
        exact ⟨_, rfl, hB, Row.nil _ _ _, by intro k h; cases h⟩
      · rw [if_neg h6]
        go_enter Tryd.func71, Tryd.ntmps71
        go_wp2_with fail
        refine hC.mono ?_
        rintro e w1 ⟨v, rfl, hB, hR, hl⟩
        obtain ⟨A, c, rfl, hc⟩ := hR.form
        have HR := Lib.hid hR
        go_wp2
        go_ret2
        exact ⟨_, rfl, hB, HR.out, hl⟩
  · rw [if_pos (by simp)]
    go_enter Tryd.func71, Tryd.ntmps71
    go_wp2_with fail
    refine hC.mono ?_
    rintro e w1 ⟨v, rfl, hB, hR, hl⟩
    obtain ⟨A, c, rfl, hc⟩ := hR.form
    go_wp2
    go_ret2
    exact ⟨_, rfl, hB, Row.nil _ _ _, by intro k h; cases h⟩

/-! ### align -/
/-- A grid: what its two rows hold; where its tables lie. -/
theorem at_calls (i j : Int) (w : World) (g : Nat) (A : Option Addr) (c n : Nat) (hg : w.cell? ⟨g, 1, none⟩ = some (.slice A n c)) (hi : 0 ≤ i ∧ i ≤ 1000) (hj : 0 ≤ j ∧ j ≤ 1000) (hn : n ≤ 1000) :
    Calls Tryd.prog 85 #[.pointer (some ⟨g, 0, none⟩), .int .i64 i, .int .i64 j] w fun e w' => e = .returned (.int .i64 (i * (n + 1) + j)) ∧ w' = w := by
  have h1 : 0 ≤ i * ((n : Int) + 1) := Int.mul_nonneg hi.1 (by omega)
  have h2 : i * ((n : Int) + 1) ≤ 1000 * 1001 := Int.mul_le_mul hi.2 (by omega) (by omega) (by omega)
  go_enter Tryd.func85, Tryd.ntmps85
  go_wp2
  go_ret
  exact ⟨rfl, rfl⟩
end Go.Proofs.Er
