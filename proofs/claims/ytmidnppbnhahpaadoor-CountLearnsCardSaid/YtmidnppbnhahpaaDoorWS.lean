import Derived.Test.YtmidnppbnhahpaaDoorWR
import Derived.Test.YtmidnppbnhahpaaDoorOrd
import Derived.Laws.Cover1
namespace Go.Proofs.Er
open Go Go.RowKit Go.Shelf Go.Proofs Go.Sort
attribute [local go_sem] Oper.semAt_some

theorem nanS_calls (s : ByteArray) (w : World) : Calls Tryd.prog 133 #[.string s] w fun e w' => e = .returned (.bool false) ∧ w' = w := by
  go_enter Tryd.func133, Tryd.ntmps133
  go_wp2
  go_ret
  exact ⟨rfl, rfl⟩
theorem cmpS_calls (a b : ByteArray) (w : World) : Calls Tryd.prog 88 #[.string a, .string b] w fun e w' => e = .returned (.int .i64 (strCmp a b)) ∧ w' = w := by
  obtain ⟨r, hr⟩ : ∃ r, r = strCmp a b := ⟨_, rfl⟩
  rw [← hr]
  have HR := Lib.hid hr
  clear hr
  cases h1 : Op.bytesLess a.toList b.toList
  · cases h2 : (a.toList == b.toList)
    · have hr : r = 1 := by rw [HR.out]; exact sc_gt h1 h2
      clear HR
      subst hr
      go_enter Tryd.func88, Tryd.ntmps88
      go_wp2_with (first | (go_at_call 133; refine (nanS_calls _ _).mono ?_; rintro e w' ⟨rfl, rfl⟩))
      go_ret
      exact ⟨rfl, rfl⟩
    · have hr : r = 0 := by rw [HR.out]; rw [toList_inj (by simpa using h2 : a.toList = b.toList)]; exact sc_eq b
      clear HR
      subst hr
      go_enter Tryd.func88, Tryd.ntmps88
      go_wp2_with (first | (go_at_call 133; refine (nanS_calls _ _).mono ?_; rintro e w' ⟨rfl, rfl⟩))
      go_ret
      exact ⟨rfl, rfl⟩
  · have hr : r = -1 := by rw [HR.out]; exact sc_lt h1
    clear HR
    subst hr
    go_enter Tryd.func88, Tryd.ntmps88
    go_wp2_with (first | (go_at_call 133; refine (nanS_calls _ _).mono ?_; rintro e w' ⟨rfl, rfl⟩))
    go_ret
    exact ⟨rfl, rfl⟩
theorem or2_calls (x y : Int) (b c : Nat) (w : World) (h0 : w.cell? ⟨b, 0, none⟩ = some (.int .i64 x)) (h1 : w.cell? ⟨b, 1, none⟩ = some (.int .i64 y)) :
    Calls Tryd.prog 56 #[.slice (some ⟨b, 0, none⟩) 2 c] w fun e w' => e = .returned (.int .i64 (if x ≠ 0 then x else y)) ∧ w' = w := by
  obtain ⟨r, hr⟩ : ∃ r, r = if x ≠ 0 then x else y := ⟨_, rfl⟩
  rw [← hr]
  have HR := Lib.hid hr
  clear hr
  go_enter Tryd.func56, Tryd.ntmps56
  go_wp2_with fail
  go_loop [8] (fun i => i = .int .i64 0 ∨ (i = .int .i64 1 ∧ x = 0) ∨ (i = .int .i64 2 ∧ x = 0 ∧ y = 0)) (fun i => 2 - (intOf i).toNat)
  case atStart => exact .inl rfl
  case round =>
    rcases hrel with rfl | ⟨rfl, hx⟩ | ⟨rfl, hx, hy⟩
    · cases hb : (x != 0)
      · have hx0 : x = 0 := by simpa using hb
        go_wp2_with fail
        exact ⟨.inr (.inl ⟨rfl, hx0⟩), by simp [intOf]⟩
      · have hx0 : x ≠ 0 := by simpa using hb
        have hr : r = x := by rw [HR.out, if_pos hx0]
        have Hr := Lib.hid hr
        clear hr hx0
        go_wp2_with fail
        go_ret
        exact ⟨by rw [Hr.out]; rfl, rfl⟩
    · cases hb : (y != 0)
      · have hy0 : y = 0 := by simpa using hb
        have Hx := Lib.hid hx
        clear hx
        go_wp2_with fail
        exact ⟨.inr (.inr ⟨rfl, Hx.out, hy0⟩), by simp [intOf]⟩
      · have hr : r = y := by rw [HR.out, hx]; simp
        have Hr := Lib.hid hr
        clear hr hx
        go_wp2_with fail
        go_ret
        exact ⟨by rw [Hr.out]; rfl, rfl⟩
    · have hr : r = 0 := by rw [HR.out, hx, hy]; simp
      have Hr := Lib.hid hr
      clear hr hx hy
      go_wp2_with fail
      go_ret
      exact ⟨by rw [Hr.out]; rfl, rfl⟩
end Go.Proofs.Er
