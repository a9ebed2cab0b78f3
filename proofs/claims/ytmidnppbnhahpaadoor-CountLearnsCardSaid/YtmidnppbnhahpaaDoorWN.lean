import Derived.Test.YtmidnppbnhahpaaDoorWL
import Derived.Test.YtmidnppbnhahpaaDoorMem3
import Derived.Shelf.Utf8.AppendRunePlain
namespace Go.Proofs.Er
open Go Go.RowKit Go.Shelf Go.Proofs Go.Sort
attribute [local go_sem] Oper.semAt_some

/-- What an append to a row leaves. -/
def App (w : World) (e sz : Nat) (v : Value) (n : Nat) (xs ys : List Value) (m : Nat) (en : Ending) (w' : World) : Prop :=
  ∃ v', en = .returned v' ∧ Row w' e sz v' (n + m) (xs ++ ys) ∧ KeptOn (fun k => v.ownBlock ≠ some k) w w' ∧ ∀ k, v'.ownBlock = some k → v.ownBlock = some k ∨ w.heap.size ≤ k
theorem App.mk {w w' : World} {e sz : Nat} {v : Value} {n : Nat} {xs ys : List Value} {m g cap : Nat} (h : Row w' e sz (.slice (some ⟨g, 0, none⟩) (n + m) cap) (n + m) (xs ++ ys)) (hg : w.grownBy w' v.ownBlock) (hl : v.ownBlock = some g ∨ w.heap.size ≤ g) :
    App w e sz v n xs ys m (.returned (.slice (some ⟨g, 0, none⟩) (n + m) cap)) w' :=
  ⟨_, rfl, h, (KeptOn.of_grown hg).imp (fun k _ hk e => hk e.symm), fun k hk => by
    have : g = k := by simpa [Value.ownBlock] using hk
    subst this; exact hl⟩
theorem Tryd.info5' : (Tryd.prog.info? 5).map (fun i => (i.zero, i.size, i.bytes)) = some (some (.int .u8 0), 1, 1) := by kernel_rfl

set_option maxHeartbeats 4000000 in
set_option maxRecDepth 100000 in
theorem app_two (r : Int) (h0 : 128 ≤ r) (h1 : r ≤ 2047) (v : Value) (n : Nat) (xs : List Value) (w : World) (hrow : Row w 5 1 v n xs) (hlen : n + 4 ≤ 140737488355328) :
    Calls Tryd.prog 151 #[v, .int .i32 r] w (App w 5 1 v n xs [.int .u8 (192 + r / 64), .int .u8 (128 + r % 64)] 2) := by
  go_enter Tryd.func151, Tryd.ntmps151
  go_wp2_with (at_builtin; refine wpList_appendM 2 (by decide) rfl _ _ 105 rfl 5 1 1 5 (.int .u8 0) Tryd.underlying105 Tryd.info5' rfl (by decide) v n xs rfl hrow #[.int .u8 (192 + r / 64), .int .u8 (128 + r % 64)] rfl rfl ?_ ?_ ?_ ?_)
  case refine_1 => simp [Value.oneCell']
  case refine_2 => omega
  case refine_3 => omega
  intro g cap w' hr hg hl
  have HA := Lib.hid (App.mk hr hg hl)
  clear hr hg hl
  go_wp2
  go_ret
  exact HA.out

set_option maxHeartbeats 4000000 in
set_option maxRecDepth 100000 in
theorem app_lo (r : Int) (h0 : 2048 ≤ r) (h1 : r < 55296) (v : Value) (n : Nat) (xs : List Value) (w : World) (hrow : Row w 5 1 v n xs) (hlen : n + 4 ≤ 140737488355328) :
    Calls Tryd.prog 151 #[v, .int .i32 r] w (App w 5 1 v n xs [.int .u8 (224 + r / 4096), .int .u8 (128 + r / 64 % 64), .int .u8 (128 + r % 64)] 3) := by
  go_enter Tryd.func151, Tryd.ntmps151
  go_wp2_with (at_builtin; refine wpList_appendM 3 (by decide) rfl _ _ 105 rfl 5 1 1 5 (.int .u8 0) Tryd.underlying105 Tryd.info5' rfl (by decide) v n xs rfl hrow #[.int .u8 (224 + r / 4096), .int .u8 (128 + r / 64 % 64), .int .u8 (128 + r % 64)] rfl rfl ?_ ?_ ?_ ?_)
  case refine_1 => simp [Value.oneCell']
  case refine_2 => omega
  case refine_3 => omega
  intro g cap w' hr hg hl
  have HA := Lib.hid (App.mk hr hg hl)
  clear hr hg hl
  go_wp2
  go_ret
  exact HA.out

set_option maxHeartbeats 4000000 in
set_option maxRecDepth 100000 in
theorem app_hi (r : Int) (h0 : 57343 < r) (h1 : r ≤ 65535) (v : Value) (n : Nat) (xs : List Value) (w : World) (hrow : Row w 5 1 v n xs) (hlen : n + 4 ≤ 140737488355328) :
    Calls Tryd.prog 151 #[v, .int .i32 r] w (App w 5 1 v n xs [.int .u8 (224 + r / 4096), .int .u8 (128 + r / 64 % 64), .int .u8 (128 + r % 64)] 3) := by
  go_enter Tryd.func151, Tryd.ntmps151
  go_wp2_with (at_builtin; refine wpList_appendM 3 (by decide) rfl _ _ 105 rfl 5 1 1 5 (.int .u8 0) Tryd.underlying105 Tryd.info5' rfl (by decide) v n xs rfl hrow #[.int .u8 (224 + r / 4096), .int .u8 (128 + r / 64 % 64), .int .u8 (128 + r % 64)] rfl rfl ?_ ?_ ?_ ?_)
  case refine_1 => simp [Value.oneCell']
  case refine_2 => omega
  case refine_3 => omega
  intro g cap w' hr hg hl
  have HA := Lib.hid (App.mk hr hg hl)
  clear hr hg hl
  go_wp2
  go_ret
  exact HA.out

set_option maxHeartbeats 4000000 in
set_option maxRecDepth 100000 in
theorem app_four (r : Int) (h0 : 65536 ≤ r) (h1 : r ≤ 1114111) (v : Value) (n : Nat) (xs : List Value) (w : World) (hrow : Row w 5 1 v n xs) (hlen : n + 4 ≤ 140737488355328) :
    Calls Tryd.prog 151 #[v, .int .i32 r] w (App w 5 1 v n xs [.int .u8 (240 + r / 262144), .int .u8 (128 + r / 4096 % 64), .int .u8 (128 + r / 64 % 64), .int .u8 (128 + r % 64)] 4) := by
  go_enter Tryd.func151, Tryd.ntmps151
  go_wp2_with (at_builtin; refine wpList_appendM 4 (by decide) rfl _ _ 105 rfl 5 1 1 5 (.int .u8 0) Tryd.underlying105 Tryd.info5' rfl (by decide) v n xs rfl hrow #[.int .u8 (240 + r / 262144), .int .u8 (128 + r / 4096 % 64), .int .u8 (128 + r / 64 % 64), .int .u8 (128 + r % 64)] rfl rfl ?_ ?_ ?_ ?_)
  case refine_1 => simp [Value.oneCell']
  case refine_2 => omega
  case refine_3 => omega
  intro g cap w' hr hg hl
  have HA := Lib.hid (App.mk hr hg hl)
  clear hr hg hl
  go_wp2
  go_ret
  exact HA.out

set_option maxHeartbeats 4000000 in
theorem appendRune_calls (r : Int) (hv : Lib.validRune r = true) (v : Value) (n : Nat) (xs : List Value) (w : World) (hrow : Row w 5 1 v n xs) (hlen : n + 4 ≤ 140737488355328) :
    Calls Tryd.prog 127 #[v, .int .i32 r] w (App w 5 1 v n xs (Lib.runeCells r) (Lib.runeCells r).length) := by
  have hr : (0 ≤ r ∧ r < 55296) ∨ (57343 < r ∧ r ≤ 1114111) := by
    unfold Lib.validRune at hv
    simp at hv
    omega
  by_cases c : r ≤ 127
  · rw [show Lib.runeCells r = [.int .u8 r] by simp [Lib.runeCells, Lib.encodeRuneZ_one (show 0 ≤ r by omega) c]]
    go_enter Tryd.func127, Tryd.ntmps127
    have h0 : 0 ≤ r := by omega
    clear hr hv
    go_wp2_with (at_builtin; refine wpList_appendM 1 (by decide) rfl _ _ 105 rfl 5 1 1 5 (.int .u8 0) Tryd.underlying105 Tryd.info5' rfl (by decide) v n xs rfl hrow #[.int .u8 r] rfl rfl ?_ ?_ ?_ ?_)
    case refine_1 => simp [Value.oneCell']
    case refine_2 => omega
    case refine_3 => omega
    intro g cap w' hr hg hl
    have HA := Lib.hid (App.mk hr hg hl)
    clear hr hg hl
    go_wp2
    go_ret
    exact HA.out
  · have hC : Calls Tryd.prog 151 #[v, .int .i32 r] w (App w 5 1 v n xs (Lib.runeCells r) (Lib.runeCells r).length) := by
      by_cases c2 : r ≤ 2047
      · rw [show Lib.runeCells r = _ by rw [Lib.runeCells, Lib.encodeRuneZ_two (by omega) c2]]
        exact app_two r (by omega) c2 v n xs w hrow hlen
      · by_cases c3 : r < 55296
        · rw [show Lib.runeCells r = _ by rw [Lib.runeCells, Lib.encodeRuneZ_three (.inl ⟨by omega, c3⟩)]]
          exact app_lo r (by omega) c3 v n xs w hrow hlen
        · by_cases c4 : r ≤ 65535
          · rw [show Lib.runeCells r = _ by rw [Lib.runeCells, Lib.encodeRuneZ_three (.inr ⟨by omega, c4⟩)]]
            exact app_hi r (by omega) c4 v n xs w hrow hlen
          · rw [show Lib.runeCells r = _ by rw [Lib.runeCells, Lib.encodeRuneZ_four (by omega) (by omega)]]
            exact app_four r (by omega) (by omega) v n xs w hrow hlen
    have h0 : 128 ≤ r := by omega
    have h1 : r ≤ 1114111 := by omega
    clear hr hv hrow c
    generalize Lib.runeCells r = rc at hC ⊢
    go_enter Tryd.func127, Tryd.ntmps127
    go_wp2_with fail
    refine hC.mono ?_
    rintro e w' ⟨v', rfl, h⟩
    have H := Lib.hid h
    clear h hC
    go_wp2
    go_ret
    exact ⟨v', rfl, H.out⟩
end Go.Proofs.Er
