import Derived.Test.YtmidnppbnhahpaaDoorWD
import Derived.BigQuiet
import Derived.Deep.QuietTactic
import Derived.StillTailTactics
import Derived.RegionTactic
import Derived.IntWalk
namespace Go.Proofs.Er
open Go Go.RowKit Go.Shelf Go.Proofs
attribute [local go_sem] Oper.semAt_some

def tryK (k f k0 n0 : Int) : Int := if f < n0 then k else k0
def tryN (f n0 : Int) : Int := if f < n0 then f else n0

theorem try_calls (k f k0 n0 : Int) (Bn Bk : Nat) (w : World) (h1 : Box w Bn 5 (.int .u8 n0)) (h2 : Box w Bk 5 (.int .u8 k0)) (hne : Bn ≠ Bk) :
    Calls Tryd.prog 131 #[.int .u8 k, .int .u8 f, .pointer (some ⟨Bn, 0, none⟩), .pointer (some ⟨Bk, 0, none⟩)] w fun e w' => e = .returned (.tuple #[]) ∧ Box w' Bn 5 (.int .u8 (tryN f n0)) ∧ Box w' Bk 5 (.int .u8 (tryK k f k0 n0)) ∧ KeptOn (fun x => x ≠ Bn ∧ x ≠ Bk) w w' := by
  have c1 := h1.cell
  have f1 := h1.free
  have c2 := h2.cell
  have f2 := h2.free
  unfold tryN tryK
  by_cases hlt : f < n0
  · rw [if_pos hlt, if_pos hlt]
    go_enter Tryd.func131, Tryd.ntmps131
    go_wp2
    go_end0
    exact ⟨rfl, (h1.far hne _).set _, (h2.set _).far hne.symm _, ((KeptOn.refl _ _).setCell _ _ (fun _ h => h.2 rfl)).setCell _ _ (fun _ h => h.1 rfl)⟩
  · rw [if_neg hlt, if_neg hlt]
    go_enter Tryd.func131, Tryd.ntmps131
    go_wp2
    go_end0
    exact ⟨rfl, h1, h2, KeptOn.refl _ _⟩

theorem best_law_t (d u l : Nat) (bd : d ≤ 200) (_ : u ≤ 200) (_ : l ≤ 200) : tryN ((l : Int) + 1) (tryN ((u : Int) + 1) (tryN (d : Int) 255)) = ((cellOf true d u l).2 : Int) ∧
    tryK 3 ((l : Int) + 1) (tryK 2 ((u : Int) + 1) (tryK 0 (d : Int) 0 255) (tryN (d : Int) 255)) (tryN ((u : Int) + 1) (tryN (d : Int) 255)) = ((cellOf true d u l).1 : Int) := by
  have e1 : tryN (d : Int) 255 = d := if_pos (by omega)
  have e2 : tryK 0 (d : Int) 0 255 = 0 := if_pos (by omega)
  rw [e1, e2]
  unfold tryN tryK cellOf
  simp only [if_true]
  constructor <;> repeat' split
  all_goals first | rfl | (simp only at *; omega) | (simp at *; omega)
theorem best_law_f (d u l : Nat) (bd : d ≤ 200) (_ : u ≤ 200) (_ : l ≤ 200) : tryN ((l : Int) + 1) (tryN ((u : Int) + 1) (tryN ((d : Int) + 1) 255)) = ((cellOf false d u l).2 : Int) ∧
    tryK 3 ((l : Int) + 1) (tryK 2 ((u : Int) + 1) (tryK 1 ((d : Int) + 1) 0 255) (tryN ((d : Int) + 1) 255)) (tryN ((u : Int) + 1) (tryN ((d : Int) + 1) 255)) = ((cellOf false d u l).1 : Int) := by
  have e1 : tryN ((d : Int) + 1) 255 = d + 1 := if_pos (by omega)
  have e2 : tryK 1 ((d : Int) + 1) 0 255 = 1 := if_pos (by omega)
  rw [e1, e2]
  unfold tryN tryK cellOf
  simp only [if_false, Bool.false_eq_true]
  constructor <;> repeat' split
  all_goals first | rfl | (simp only at *; omega) | (simp at *; omega)

/-- A grid under way: its two rows, the table of how few, in blocks; the cells of the grid itself. -/
structure Grid (W : World) (g : Nat) (a b : List Int) (F K : Option Addr) (N : Nat) : Prop where
  la : a.length ≤ 64
  lb : b.length ≤ 64
  ga : ∃ A c, W.cell? ⟨g, 0, none⟩ = some (.slice A a.length c) ∧ (0 < a.length → ∃ ad, A = some ad ∧ ∀ i x, a[i]? = some x → W.cell? (ad.add i) = some (.int .i32 x))
  gb : ∃ A c, W.cell? ⟨g, 1, none⟩ = some (.slice A b.length c) ∧ (0 < b.length → ∃ ad, A = some ad ∧ ∀ i x, b[i]? = some x → W.cell? (ad.add i) = some (.int .i32 x))
  gf : ∃ c, W.cell? ⟨g, 2, none⟩ = some (.slice F N c)
  gk : ∃ c, W.cell? ⟨g, 3, none⟩ = some (.slice K N c)

set_option maxHeartbeats 1000000 in
set_option maxRecDepth 100000 in
theorem best_both (a b : List Int) (g : Nat) (fa ka : Addr) (N i j : Nat) (d u l : Nat) (w : World) (hG : Grid w g a b (some fa) (some ka) N) (hN : (a.length + 1) * (b.length + 1) ≤ N) (hN2 : N ≤ 5000) (hi : i < a.length) (hj : j < b.length)
    (hd : w.cell? (fa.add (i * (b.length + 1) + j)) = some (.int .u8 d)) (hu : w.cell? (fa.add (i * (b.length + 1) + (j + 1))) = some (.int .u8 u)) (hl : w.cell? (fa.add ((i + 1) * (b.length + 1) + j)) = some (.int .u8 l))
    (bd : d ≤ 200) (bu : u ≤ 200) (bl : l ≤ 200) :
    Calls Tryd.prog 84 #[.pointer (some ⟨g, 0, none⟩), .int .i64 ((i : Int) + 1), .int .i64 ((j : Int) + 1)] w fun e w' =>
      e = .returned (.tuple #[.int .u8 (cellOf (a.getD i 0 == b.getD j 0) d u l).1, .int .u8 (cellOf (a.getD i 0 == b.getD j 0) d u l).2]) ∧ Below w.heap.size w w' := by
  obtain ⟨Aa, ca, hga, haa⟩ := hG.ga
  obtain ⟨Ab, cb, hgb, hbb⟩ := hG.gb
  obtain ⟨cf, hgf⟩ := hG.gf
  obtain ⟨ada, rfl, hca⟩ := haa (by omega)
  obtain ⟨adb, rfl, hcb⟩ := hbb (by omega)
  have la := hG.la
  have lb := hG.lb
  have xa : w.cell? (ada.add i) = some (.int .i32 (a.getD i 0)) := hca i _ (by simp [List.getD_eq_getElem?_getD, List.getElem?_eq_getElem hi])
  have xb : w.cell? (adb.add j) = some (.int .i32 (b.getD j 0)) := hcb j _ (by simp [List.getD_eq_getElem?_getD, List.getElem?_eq_getElem hj])
  have q1 : (i + 1 + 1) * (b.length + 1) ≤ N := Nat.le_trans (Nat.mul_le_mul_right _ (by omega)) hN
  have q2 : (i + 1 + 1) * (b.length + 1) = (i + 1) * (b.length + 1) + (b.length + 1) := by rw [Nat.succ_mul]
  have q3 : (i + 1) * (b.length + 1) = i * (b.length + 1) + (b.length + 1) := by rw [Nat.succ_mul]
  have C0 : ∀ W : World, W.cell? ⟨g, 1, none⟩ = some (.slice (some adb) b.length cb) → Calls Tryd.prog 85 #[.pointer (some ⟨g, 0, none⟩), .int .i64 (i : Int), .int .i64 (j : Int)] W fun e w' => e = .returned (.int .i64 ((i * (b.length + 1) + j : Nat) : Int)) ∧ w' = W := fun W h => by
    have := at_calls (i : Int) (j : Int) W g _ _ _ h (by omega) (by omega) (by omega)
    rwa [show (i : Int) * ((b.length : Int) + 1) + j = ((i * (b.length + 1) + j : Nat) : Int) by push_cast; rfl] at this
  have C1 : ∀ W : World, W.cell? ⟨g, 1, none⟩ = some (.slice (some adb) b.length cb) → Calls Tryd.prog 85 #[.pointer (some ⟨g, 0, none⟩), .int .i64 (i : Int), .int .i64 ((j : Int) + 1)] W fun e w' => e = .returned (.int .i64 ((i * (b.length + 1) + (j + 1) : Nat) : Int)) ∧ w' = W := fun W h => by
    have := at_calls (i : Int) ((j : Int) + 1) W g _ _ _ h (by omega) (by omega) (by omega)
    rwa [show (i : Int) * ((b.length : Int) + 1) + (j + 1) = ((i * (b.length + 1) + (j + 1) : Nat) : Int) by push_cast; rfl] at this
  have C2 : ∀ W : World, W.cell? ⟨g, 1, none⟩ = some (.slice (some adb) b.length cb) → Calls Tryd.prog 85 #[.pointer (some ⟨g, 0, none⟩), .int .i64 ((i : Int) + 1), .int .i64 (j : Int)] W fun e w' => e = .returned (.int .i64 (((i + 1) * (b.length + 1) + j : Nat) : Int)) ∧ w' = W := fun W h => by
    have := at_calls ((i : Int) + 1) (j : Int) W g _ _ _ h (by omega) (by omega) (by omega)
    rwa [show ((i : Int) + 1) * ((b.length : Int) + 1) + j = (((i + 1) * (b.length + 1) + j : Nat) : Int) by push_cast; rfl] at this
  generalize hq0 : i * (b.length + 1) + j = x0 at C0 hd
  generalize hq1 : i * (b.length + 1) + (j + 1) = x1 at C1 hu
  generalize hq2 : (i + 1) * (b.length + 1) + j = x2 at C2 hl
  have y0 : (x0 : Int) < (N : Int) := by omega
  have y1 : (x1 : Int) < (N : Int) := by omega
  have y2 : (x2 : Int) < (N : Int) := by omega
  have z0 : (0 : Int) ≤ (x0 : Int) := by omega
  have z1 : (0 : Int) ≤ (x1 : Int) := by omega
  have z2 : (0 : Int) ≤ (x2 : Int) := by omega
  have wi : IntKind.i64.wrap (i : Int) = i := IntWalk.i64_in _ (by omega)
  have wj : IntKind.i64.wrap (j : Int) = j := IntWalk.i64_in _ (by omega)
  have P0 := Lib.hid C0
  have P1 := Lib.hid C1
  have P2 := Lib.hid C2
  clear q1 q2 q3 hq0 hq1 hq2 C0 C1 C2 hN
  clear hca hcb hG haa hbb
  generalize a.getD i 0 = va at xa ⊢
  generalize b.getD j 0 = vb at xb ⊢
  cases hs : va == vb
  all_goals
   go_enter Tryd.func84, Tryd.ntmps84
   go_wp2_with fail
   have hB0 : Below w.heap.size w ((w.alloc (.cells #[.int .u8 0] 5)).alloc (.cells #[.int .u8 255] 5)) := ((Below.refl _ w).alloc (Nat.le_refl _) _).alloc (by simp) _
   have bk0 : Box ((w.alloc (.cells #[.int .u8 0] 5)).alloc (.cells #[.int .u8 255] 5)) w.heap.size 5 (.int .u8 0) := (Box.new w _ _).alloc _
   have bn0 : Box ((w.alloc (.cells #[.int .u8 0] 5)).alloc (.cells #[.int .u8 255] 5)) (w.heap.size + 1) 5 (.int .u8 255) := by
     have := Box.new (w.alloc (.cells #[.int .u8 0] 5)) 5 (.int .u8 255)
     rwa [World.size_alloc] at this
   generalize (w.alloc (.cells #[.int .u8 0] 5)).alloc (.cells #[.int .u8 255] 5) = w2 at hB0 bk0 bn0 ⊢
   have k0 := cellB hB0 hga
   have k1 := cellB hB0 hgb
   have k2 := cellB hB0 hgf
   have k3 := cellB hB0 hd
   have k4 := cellB hB0 xa
   have k5 := cellB hB0 xb
   go_quiet ((go_at_call 85; exact Calls.quiet_of_same (P0.out _ k1)))
   go_wp2_with fail
   go_quiet (fail)
   go_wp2_with fail
   refine (try_calls _ _ _ _ _ _ _ (bn0.drewN _) (bk0.drewN _) (by omega)).mono ?_
   rintro e w3 ⟨rfl, bn1, bk1, hk3⟩
   have hB3 : Below w.heap.size w w3 := hB0.trans ((((KeptOn.refl (fun x => x < w.heap.size) w2).drewN _).trans hk3 (fun j _ h => ⟨by omega, by omega⟩)).below hB0.size (fun _ h => h))
   clear k0 k1 k2 k3 k4 k5 bn0 bk0 hB0 hk3
   have k0 := cellB hB3 hga
   have k1 := cellB hB3 hgb
   have k2 := cellB hB3 hgf
   have k3 := cellB hB3 hu
   go_wp2_with fail
   go_still_tail 13, (by kernel_rfl)
   still_call (P1.out w3.drew k1)
   repeat still_step
   refine wpStill_nil ?_
   change wpList _ _ _ _ _ w3.drew
   have bn1' : Box w3.drew (w.heap.size + 1) 5 _ := bn1.drew
   have bk1' : Box w3.drew w.heap.size 5 _ := bk1.drew
   have hB4 : Below w.heap.size w w3.drew := hB3.drew
   generalize w3.drew = w4 at bn1' bk1' hB4 ⊢
   clear k0 k1 k2 k3 bn1 bk1 hB3
   go_wp2_with fail
   refine (try_calls _ _ _ _ _ _ _ bn1' bk1' (by omega)).mono ?_
   rintro e w5 ⟨rfl, bn2, bk2, hk5⟩
   have hB5 : Below w.heap.size w w5 := hB4.trans ((hk5.imp (T := fun x => x < w.heap.size) (fun j _ h => ⟨by omega, by omega⟩)).below hB4.size (fun _ h => h))
   clear bn1' bk1' hk5 hB4
   have k0 := cellB hB5 hga
   have k1 := cellB hB5 hgb
   have k2 := cellB hB5 hgf
   have k3 := cellB hB5 hl
   go_wp2_with fail
   go_still_tail 13, (by kernel_rfl)
   still_call (P2.out w5.drew k1)
   repeat still_step
   refine wpStill_nil ?_
   change wpList _ _ _ _ _ w5.drew
   have bn2' : Box w5.drew (w.heap.size + 1) 5 _ := bn2.drew
   have bk2' : Box w5.drew w.heap.size 5 _ := bk2.drew
   have hB6 : Below w.heap.size w w5.drew := hB5.drew
   generalize w5.drew = w6 at bn2' bk2' hB6 ⊢
   clear k0 k1 k2 k3 bn2 bk2 hB5
   go_wp2_with fail
   refine (try_calls _ _ _ _ _ _ _ bn2' bk2' (by omega)).mono ?_
   rintro e w7 ⟨rfl, bn3, bk3, hk7⟩
   have hB7 : Below w.heap.size w w7 := hB6.trans ((hk7.imp (T := fun x => x < w.heap.size) (fun j _ h => ⟨by omega, by omega⟩)).below hB6.size (fun _ h => h))
   clear bn2' bk2' hk7 hB6
   generalize hnv : tryN _ (tryN _ (tryN _ _)) = nv at bn3
   generalize hkv : tryK _ _ _ _ = kv at bk3
   have n1 := bn3.cell
   have n2 := bk3.cell
   have n3 := bn3.free
   have n4 := bk3.free
   go_wp2_with fail
   go_region
   go_wp2_with fail
   have r1 : Box ((w7.setCell ⟨w.heap.size, 0, none⟩ (.int .u8 kv)).setCell ⟨w.heap.size + 1, 0, none⟩ (.int .u8 nv)) w.heap.size 5 (.int .u8 kv) := (bk3.set _).far (by simp) _
   have r2 : Box ((w7.setCell ⟨w.heap.size, 0, none⟩ (.int .u8 kv)).setCell ⟨w.heap.size + 1, 0, none⟩ (.int .u8 nv)) (w.heap.size + 1) 5 (.int .u8 nv) := (bn3.far (by simp) _).set _
   have hBf : Below w.heap.size w ((w7.setCell ⟨w.heap.size, 0, none⟩ (.int .u8 kv)).setCell ⟨w.heap.size + 1, 0, none⟩ (.int .u8 nv)) := (hB7.setCell (Nat.le_refl _) _).setCell (by simp) _
   have e1 := r1.cell
   have e2 := r2.cell
   refine bodyPost_ret (by simp [results, Tryd.results84, go_sem, e1, e2]; rfl) rfl ?_
   first | exact ⟨by rw [← (best_law_t d u l bd bu bl).1, ← (best_law_t d u l bd bu bl).2, hnv, hkv], hBf.drew⟩ | exact ⟨by rw [← (best_law_f d u l bd bu bl).1, ← (best_law_f d u l bd bu bl).2, hnv, hkv], hBf.drew⟩
end Go.Proofs.Er
