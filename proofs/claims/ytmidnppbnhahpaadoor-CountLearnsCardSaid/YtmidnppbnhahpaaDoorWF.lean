import Derived.Test.YtmidnppbnhahpaaDoorWE
namespace Go.Proofs.Er
open Go Go.RowKit Go.Shelf Go.Proofs
attribute [local go_sem] Oper.semAt_some

set_option maxHeartbeats 1000000 in
set_option maxRecDepth 100000 in
theorem best_left (a b : List Int) (g : Nat) (fa : Addr) (K : Option Addr) (N i : Nat) (u : Nat) (w : World) (hG : Grid w g a b (some fa) K N) (hN : (a.length + 1) * (b.length + 1) ≤ N) (_hN2 : N ≤ 5000) (hv : i < a.length)
    (hu : w.cell? (fa.add (i * (b.length + 1))) = some (.int .u8 u)) (bu : u ≤ 200) :
    Calls Tryd.prog 84 #[.pointer (some ⟨g, 0, none⟩), .int .i64 ((i : Int) + 1), .int .i64 0] w fun e w' =>
      e = .returned (.tuple #[.int .u8 2, .int .u8 ((u : Int) + 1)]) ∧ Below w.heap.size w w' := by
  obtain ⟨Aa, ca, hga, haa⟩ := hG.ga
  obtain ⟨Ab, cb, hgb, hbb⟩ := hG.gb
  obtain ⟨cf, hgf⟩ := hG.gf
  have la := hG.la
  have lb := hG.lb
  have q1 : (a.length + 1) * (b.length + 1) = a.length * (b.length + 1) + (b.length + 1) := by rw [Nat.succ_mul]
  have q2 : i  * (b.length + 1) ≤ a.length * (b.length + 1) := Nat.mul_le_mul_right _ (by omega)
  have C0 : ∀ W : World, W.cell? ⟨g, 1, none⟩ = some (.slice Ab b.length cb) → Calls Tryd.prog 85 #[.pointer (some ⟨g, 0, none⟩), .int .i64 (i : Int), .int .i64 (0 : Int)] W fun e w' => e = .returned (.int .i64 ((i * (b.length + 1) : Nat) : Int)) ∧ w' = W := fun W h => by
    have := at_calls (i : Int) (0 : Int) W g _ _ _ h (by omega) (by omega) (by omega)
    rwa [show ((i : Int) : Int) * ((b.length : Int) + 1) + (0 : Int) = ((i * (b.length + 1) : Nat) : Int) by push_cast; omega] at this
  have y0' : i * (b.length + 1) < N := by omega
  generalize hq0 : i * (b.length + 1) = x0 at C0 hu y0'
  have y0 : (x0 : Int) < (N : Int) := by omega
  have z0 : (0 : Int) ≤ (x0 : Int) := by omega
  have wi : IntKind.i64.wrap (i : Int) = i := IntWalk.i64_in _ (by omega)
  have P0 := Lib.hid C0
  clear hq0 C0 hN q1 q2 y0' hG haa hbb
  go_enter Tryd.func84, Tryd.ntmps84
  go_wp2_with fail
  have hB0 : Below w.heap.size w ((w.alloc (.cells #[.int .u8 0] 5)).alloc (.cells #[.int .u8 255] 5)) := ((Below.refl _ w).alloc (Nat.le_refl _) _).alloc (by simp) _
  have bk0 : Box ((w.alloc (.cells #[.int .u8 0] 5)).alloc (.cells #[.int .u8 255] 5)) w.heap.size 5 (.int .u8 0) := (Box.new w _ _).alloc _
  have bn0 : Box ((w.alloc (.cells #[.int .u8 0] 5)).alloc (.cells #[.int .u8 255] 5)) (w.heap.size + 1) 5 (.int .u8 255) := by
    have := Box.new (w.alloc (.cells #[.int .u8 0] 5)) 5 (.int .u8 255)
    rwa [World.size_alloc] at this
  generalize (w.alloc (.cells #[.int .u8 0] 5)).alloc (.cells #[.int .u8 255] 5) = w2 at hB0 bk0 bn0 ⊢
  have k1 := cellB hB0 hgb
  have k2 := cellB hB0 hgf
  have k3 := cellB hB0 hu
  try go_wp2_with fail
  go_still_tail 13, (by kernel_rfl)
  still_call (P0.out w2.drew k1)
  repeat still_step
  refine wpStill_nil ?_
  change wpList _ _ _ _ _ w2.drew
  have bn1 : Box w2.drew (w.heap.size + 1) 5 _ := bn0.drew
  have bk1 : Box w2.drew w.heap.size 5 _ := bk0.drew
  have hB1 : Below w.heap.size w w2.drew := hB0.drew
  generalize w2.drew = w6 at bn1 bk1 hB1 ⊢
  clear k1 k2 k3 bn0 bk0 hB0
  go_wp2_with fail
  refine (try_calls _ _ _ _ _ _ _ bn1 bk1 (by omega)).mono ?_
  rintro e w7 ⟨rfl, bn3, bk3, hk7⟩
  have hB7 : Below w.heap.size w w7 := hB1.trans ((hk7.imp (T := fun x => x < w.heap.size) (fun j _ h => ⟨by omega, by omega⟩)).below hB1.size (fun _ h => h))
  clear bn1 bk1 hk7 hB1
  have hnv : tryN ((u : Int) + 1) 255 = u + 1 := if_pos (by omega)
  have hkv : tryK 2 ((u : Int) + 1) 0 255 = 2 := if_pos (by omega)
  rw [hnv] at bn3
  rw [hkv] at bk3
  have n1 := bn3.cell
  have n2 := bk3.cell
  have n3 := bn3.free
  have n4 := bk3.free
  try go_wp2_with fail
  go_region
  go_wp2_with fail
  have r1 : Box ((w7.setCell ⟨w.heap.size, 0, none⟩ (.int .u8 2)).setCell ⟨w.heap.size + 1, 0, none⟩ (.int .u8 ((u : Int) + 1))) w.heap.size 5 (.int .u8 2) := (bk3.set _).far (by simp) _
  have r2 : Box ((w7.setCell ⟨w.heap.size, 0, none⟩ (.int .u8 2)).setCell ⟨w.heap.size + 1, 0, none⟩ (.int .u8 ((u : Int) + 1))) (w.heap.size + 1) 5 (.int .u8 ((u : Int) + 1)) := (bn3.far (by simp) _).set _
  have hBf : Below w.heap.size w ((w7.setCell ⟨w.heap.size, 0, none⟩ (.int .u8 2)).setCell ⟨w.heap.size + 1, 0, none⟩ (.int .u8 ((u : Int) + 1))) := (hB7.setCell (Nat.le_refl _) _).setCell (by simp) _
  have e1 := r1.drew.cell
  have e2 := r2.drew.cell
  refine bodyPost_ret (by simp [results, Tryd.results84, go_sem, e1, e2]; rfl) rfl ?_
  exact ⟨rfl, hBf.drew⟩

set_option maxHeartbeats 1000000 in
set_option maxRecDepth 100000 in
theorem best_top (a b : List Int) (g : Nat) (fa : Addr) (K : Option Addr) (N j : Nat) (u : Nat) (w : World) (hG : Grid w g a b (some fa) K N) (hN : (a.length + 1) * (b.length + 1) ≤ N) (hN2 : N ≤ 5000) (hv : j < b.length)
    (hu : w.cell? (fa.add (j)) = some (.int .u8 u)) (bu : u ≤ 200) :
    Calls Tryd.prog 84 #[.pointer (some ⟨g, 0, none⟩), .int .i64 0, .int .i64 ((j : Int) + 1)] w fun e w' =>
      e = .returned (.tuple #[.int .u8 3, .int .u8 ((u : Int) + 1)]) ∧ Below w.heap.size w w' := by
  obtain ⟨Aa, ca, hga, haa⟩ := hG.ga
  obtain ⟨Ab, cb, hgb, hbb⟩ := hG.gb
  obtain ⟨cf, hgf⟩ := hG.gf
  have la := hG.la
  have lb := hG.lb
  have q1 : (a.length + 1) * (b.length + 1) = a.length * (b.length + 1) + (b.length + 1) := by rw [Nat.succ_mul]
  have q2 : 0 * (b.length + 1) ≤ a.length * (b.length + 1) := Nat.mul_le_mul_right _ (by omega)
  have C0 : ∀ W : World, W.cell? ⟨g, 1, none⟩ = some (.slice Ab b.length cb) → Calls Tryd.prog 85 #[.pointer (some ⟨g, 0, none⟩), .int .i64 (0 : Int), .int .i64 (j : Int)] W fun e w' => e = .returned (.int .i64 ((j : Nat) : Int)) ∧ w' = W := fun W h => by
    have := at_calls (0 : Int) (j : Int) W g _ _ _ h (by omega) (by omega) (by omega)
    rwa [show ((0 : Int) : Int) * ((b.length : Int) + 1) + (j : Int) = ((j : Nat) : Int) by push_cast; omega] at this
  have y0' : j < N := by omega
  generalize hq0 : j = x0 at C0 hu y0'
  have y0 : (x0 : Int) < (N : Int) := by omega
  have z0 : (0 : Int) ≤ (x0 : Int) := by omega
  have wi : IntKind.i64.wrap (x0 : Int) = x0 := IntWalk.i64_in _ (by omega)
  have P0 := Lib.hid C0
  clear hq0 C0 hN q1 q2 y0' hG haa hbb
  go_enter Tryd.func84, Tryd.ntmps84
  go_wp2_with fail
  have hB0 : Below w.heap.size w ((w.alloc (.cells #[.int .u8 0] 5)).alloc (.cells #[.int .u8 255] 5)) := ((Below.refl _ w).alloc (Nat.le_refl _) _).alloc (by simp) _
  have bk0 : Box ((w.alloc (.cells #[.int .u8 0] 5)).alloc (.cells #[.int .u8 255] 5)) w.heap.size 5 (.int .u8 0) := (Box.new w _ _).alloc _
  have bn0 : Box ((w.alloc (.cells #[.int .u8 0] 5)).alloc (.cells #[.int .u8 255] 5)) (w.heap.size + 1) 5 (.int .u8 255) := by
    have := Box.new (w.alloc (.cells #[.int .u8 0] 5)) 5 (.int .u8 255)
    rwa [World.size_alloc] at this
  generalize (w.alloc (.cells #[.int .u8 0] 5)).alloc (.cells #[.int .u8 255] 5) = w2 at hB0 bk0 bn0 ⊢
  have k1 := cellB hB0 hgb
  have k2 := cellB hB0 hgf
  have k3 := cellB hB0 hu
  try go_wp2_with fail
  go_still_tail 13, (by kernel_rfl)
  still_call (P0.out w2.drew k1)
  repeat still_step
  refine wpStill_nil ?_
  change wpList _ _ _ _ _ w2.drew
  have bn1 : Box w2.drew (w.heap.size + 1) 5 _ := bn0.drew
  have bk1 : Box w2.drew w.heap.size 5 _ := bk0.drew
  have hB1 : Below w.heap.size w w2.drew := hB0.drew
  generalize w2.drew = w6 at bn1 bk1 hB1 ⊢
  clear k1 k2 k3 bn0 bk0 hB0
  go_wp2_with fail
  refine (try_calls _ _ _ _ _ _ _ bn1 bk1 (by omega)).mono ?_
  rintro e w7 ⟨rfl, bn3, bk3, hk7⟩
  have hB7 : Below w.heap.size w w7 := hB1.trans ((hk7.imp (T := fun x => x < w.heap.size) (fun j _ h => ⟨by omega, by omega⟩)).below hB1.size (fun _ h => h))
  clear bn1 bk1 hk7 hB1
  have hnv : tryN ((u : Int) + 1) 255 = u + 1 := if_pos (by omega)
  have hkv : tryK 3 ((u : Int) + 1) 0 255 = 3 := if_pos (by omega)
  rw [hnv] at bn3
  rw [hkv] at bk3
  have n1 := bn3.cell
  have n2 := bk3.cell
  have n3 := bn3.free
  have n4 := bk3.free
  try go_wp2_with fail
  go_region
  go_wp2_with fail
  have r1 : Box ((w7.setCell ⟨w.heap.size, 0, none⟩ (.int .u8 3)).setCell ⟨w.heap.size + 1, 0, none⟩ (.int .u8 ((u : Int) + 1))) w.heap.size 5 (.int .u8 3) := (bk3.set _).far (by simp) _
  have r2 : Box ((w7.setCell ⟨w.heap.size, 0, none⟩ (.int .u8 3)).setCell ⟨w.heap.size + 1, 0, none⟩ (.int .u8 ((u : Int) + 1))) (w.heap.size + 1) 5 (.int .u8 ((u : Int) + 1)) := (bn3.far (by simp) _).set _
  have hBf : Below w.heap.size w ((w7.setCell ⟨w.heap.size, 0, none⟩ (.int .u8 3)).setCell ⟨w.heap.size + 1, 0, none⟩ (.int .u8 ((u : Int) + 1))) := (hB7.setCell (Nat.le_refl _) _).setCell (by simp) _
  have e1 := r1.drew.cell
  have e2 := r2.drew.cell
  refine bodyPost_ret (by simp [results, Tryd.results84, go_sem, e1, e2]; rfl) rfl ?_
  exact ⟨rfl, hBf.drew⟩
end Go.Proofs.Er
