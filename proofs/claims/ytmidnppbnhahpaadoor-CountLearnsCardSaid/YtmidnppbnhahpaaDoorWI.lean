import Derived.Test.YtmidnppbnhahpaaDoorWH
import Derived.Test.YtmidnppbnhahpaaDoorMem2
import Derived.Deep.RegionHeld3
namespace Go.Proofs.Er
open Go Go.RowKit Go.Shelf Go.Proofs
attribute [local go_sem] Oper.semAt_some

theorem grid_top (a b : List Int) (j : Nat) : (gridF a b 0 (j + 1)).1 = 3 := rfl
theorem grid_left (a b : List Int) (i : Nat) : (gridF a b (i + 1) 0).1 = 2 := rfl
/-- Which of both go back by a step. -/
theorem grid_way (a b : List Int) (i j : Nat) (h : 0 < i + j) : ((gridF a b i j).1 = 3 ∧ 0 < j) ∨ ((gridF a b i j).1 = 2 ∧ 0 < i) ∨ ((gridF a b i j).1 ≠ 3 ∧ (gridF a b i j).1 ≠ 2 ∧ 0 < i ∧ 0 < j) := by
  cases i with
  | zero =>
    cases j with
    | zero => omega
    | succ j => exact .inl ⟨rfl, by omega⟩
  | succ i =>
    cases j with
    | zero => exact .inr (.inl ⟨rfl, by omega⟩)
    | succ j => by_cases h3 : (gridF a b (i + 1) (j + 1)).1 = 3
                · exact .inl ⟨h3, by omega⟩
                · by_cases h2 : (gridF a b (i + 1) (j + 1)).1 = 2
                  · exact .inr (.inl ⟨h2, by omega⟩)
                  · exact .inr (.inr ⟨h3, h2, by omega, by omega⟩)

def encStp (s : Stp) : Value := .agg #[.int .i64 s.k, .int .i32 s.a, .int .i32 s.b]

theorem back_calls (g : Nat) (w : World) : Calls Tryd.prog 62 #[.pointer (some ⟨g, 0, none⟩)] w fun e w' => e = .returned (.func (.func 96) #[] #[.pointer (some ⟨w.heap.size, 0, none⟩)]) ∧ w' = w.alloc (.cells #[.pointer (some ⟨g, 0, none⟩)] 113) := by
  go_enter Tryd.func62, Tryd.ntmps62
  go_wp2
  go_ret
  exact ⟨rfl, rfl⟩

set_option maxHeartbeats 1000000 in
set_option maxRecDepth 100000 in
theorem back_iter {W2 : World} {va vb : Value} {a b : List Int} {G F K N : Nat} (B : Nat) (ro : Nat → Prop) (w : World) (hb : Box w B 113 (.pointer (some ⟨G, 0, none⟩))) (hN : N = (a.length + 1) * (b.length + 1)) (hF : FG W2 va vb a b G F K N N w)
    (ra : Row W2 21 1 va a.length (a.map (Value.int .i32))) (rb : Row W2 21 1 vb b.length (b.map (Value.int .i32))) (la : a.length ≤ 64) (lb : b.length ≤ 64) :
    IterC Tryd.prog 96 #[.pointer (some ⟨B, 0, none⟩)] (fun s : Stp => #[encStp s]) (fun _ => False) (fun k => k < w.heap.size) ro (fun pre x _ => (pre ++ [x]) <+: backF a b (a.length + b.length) a.length b.length)
      (fun xs _ => xs = backF a b (a.length + b.length) a.length b.length) (fun pre _ => pre <+: backF a b (a.length + b.length) a.length b.length) w := by
  intro l own0 J Jx W hW hdis hJ hJx hY h0
  have gr := hF.grid ra rb la lb
  obtain ⟨Aa, ca, hga, hca⟩ := gr.ga
  obtain ⟨Ab, cb, hgb, hcb⟩ := gr.gb
  obtain ⟨cf, hgf⟩ := gr.gf
  obtain ⟨ck, hgk⟩ := gr.gk
  have hbc := hb.cell
  have hbf := hb.free
  have hA : ∀ i, i < a.length → ∃ ad, Aa = some ad ∧ w.cell? (ad.add i) = some (.int .i32 (a.getD i 0)) := fun i hi => by
    obtain ⟨ad, rfl, hc⟩ := hca (by omega)
    exact ⟨ad, rfl, hc i _ (by simp [List.getD_eq_getElem?_getD, List.getElem?_eq_getElem hi])⟩
  have hBb : ∀ i, i < b.length → ∃ ad, Ab = some ad ∧ w.cell? (ad.add i) = some (.int .i32 (b.getD i 0)) := fun i hi => by
    obtain ⟨ad, rfl, hc⟩ := hcb (by omega)
    exact ⟨ad, rfl, hc i _ (by simp [List.getD_eq_getElem?_getD, List.getElem?_eq_getElem hi])⟩
  have hK : ∀ i j, i ≤ a.length → j ≤ b.length → i * (b.length + 1) + j < N ∧ w.cell? ((⟨K, 0, none⟩ : Addr).add (i * (b.length + 1) + j)) = some (.int .u8 ((gridF a b i j).1 : Nat)) := fun i j hi hj => by
    have q1 : (a.length + 1) * (b.length + 1) = a.length * (b.length + 1) + (b.length + 1) := by rw [Nat.succ_mul]
    have q2 : i * (b.length + 1) ≤ a.length * (b.length + 1) := Nat.mul_le_mul_right _ hi
    exact ⟨by omega, hF.kind hj (by omega) (by omega)⟩
  have cellW : ∀ {p v}, w.cell? p = some v → W.cell? p = some v := fun hc => cellK hW hc trivial
  have HA := Lib.hid hA
  have HBb := Lib.hid hBb
  have HK := Lib.hid hK
  have HF := Lib.hid hF
  have HN := Lib.hid hN
  clear hA hBb hK hca hcb gr hF hN
  refine callsIn_of_wp Tryd.func96 rfl trivial ?_ rfl
  simp only [Tryd.ntmps96, List.size_toArray, List.length_cons, List.length_nil, Nat.reduceAdd, Nat.reduceSub, Array.replicate_succ, Array.replicate_zero, List.push_toArray, List.append_toArray, List.nil_append, List.cons_append]
  have k0 := cellW hbc
  have k1 := cellW hga
  have k2 := cellW hgb
  refine wpIn_scope_wide ?_
  gi_step
  gi_step
  gi_quiet (fail)
  gi_wp2_with fail
  refine wpIn_label ?_
  gi_wp2_with fail
  gi_loopw [3, 4] (fun iv jv wr => ∃ own pre f, ∃ i j : Nat, iv = .int .i64 i ∧ jv = .int .i64 j ∧ i ≤ a.length ∧ j ≤ b.length ∧ i + j ≤ f ∧ backF a b (a.length + b.length) a.length b.length = pre ++ backF a b f i j ∧ J own pre wr ∧ (∀ k, own k → own0 k ∨ W.heap.size ≤ k) ∧ KeptOn (fun k => ¬ own0 k) W wr)
    (fun iv jv _ => (intOf iv).toNat + (intOf jv).toNat)
  case atStart => exact ⟨own0, [], a.length + b.length, a.length, b.length, rfl, rfl, Nat.le_refl _, Nat.le_refl _, Nat.le_refl _, rfl, hJ.keep _ _ _ _ h0 ((KeptOn.refl _ _).drewN _), fun _ h => .inl h, (KeptOn.refl _ _).drewN _⟩
  case round =>
    obtain ⟨own, pre, f, i, j, rfl, rfl, hi, hj, hf, hall, hJr, hsub, hkept⟩ := hrel
    clear k0 k1 k2 h0
    have cellr : ∀ {p v}, w.cell? p = some v → wr.cell? p = some v := fun hc => cellK hkept (cellW hc) (fun h => (hdis _ h).2.1 (World.block_lt_of_cell? w _ hc))
    have e3 : IntKind.i64.wrap ((i : Int) + (j : Int)) = (i : Int) + j := IntWalk.i64_in _ (by omega)
    by_cases hz : i + j = 0
    · have hb0 : ¬ (0 : Int) < (i : Int) + (j : Int) := by omega
      have HALL := Lib.hid hall
      clear hall
      gi_wp2_with fail
      refine bodyPost_end (results_none rfl _ _ _) rfl ?_
      refine ⟨⟨_, rfl⟩, own, hsub, hkept, .inl ?_⟩
      have : backF a b f i j = [] := by cases f <;> simp [backF, hz]
      rw [HALL.out, this, List.append_nil]; exact hJr
    · have hb0 : (0 : Int) < (i : Int) + (j : Int) := by omega
      obtain ⟨f, rfl⟩ : ∃ m, f = m + 1 := ⟨f - 1, by omega⟩
      rw [backF, if_neg hz] at hall
      have hway := grid_way a b i j (by omega)
      generalize hkd : (gridF a b i j).1 = kd at hway
      have e4 : IntKind.i64.wrap (kd : Int) = kd := IntWalk.i64_in _ (by
        have : kd ≤ 3 := by rw [← hkd]; exact gridF_kind a b i j
        omega)
      rcases hway with ⟨rfl, hj0⟩ | ⟨rfl, hi0⟩ | ⟨n3, n2, hi0, hj0⟩
      · obtain ⟨j, rfl⟩ : ∃ m, j = m + 1 := ⟨j - 1, by omega⟩
        have hk := HK.out (i) (j + 1) hi hj
        rw [hkd] at hk
        have k0 := cellr hbc
        have k1 := cellr hga
        have k2 := cellr hgb
        have k3 := cellr hgk
        have k4 := cellr hk.2
        rw [add_zero_] at k4
        have y0' := hk.1
        have hA : ∀ W0 : World, W0.cell? ⟨G, 1, none⟩ = some (.slice Ab b.length cb) → Calls Tryd.prog 85 #[.pointer (some ⟨G, 0, none⟩), .int .i64 ((i : Int)), .int .i64 ((j : Int) + 1)] W0 fun e w' => e = .returned (.int .i64 (((i) * (b.length + 1) + (j + 1) : Nat) : Int)) ∧ w' = W0 := fun W0 h => by
          have := at_calls ((i : Int)) ((j : Int) + 1) W0 G _ _ _ h (by omega) (by omega) (by omega)
          rwa [show ((i : Int)) * ((b.length : Int) + 1) + ((j : Int) + 1) = (((i) * (b.length + 1) + (j + 1) : Nat) : Int) by push_cast; rfl] at this
        generalize hx0 : (i) * (b.length + 1) + (j + 1) = x0 at hA k4 y0'
        have y0 : (x0 : Int) < (N : Int) := by omega
        have z0 : (0 : Int) ≤ (x0 : Int) := by omega
        have HAt := Lib.hid hA
        have ko1 : ∀ o, (wr.alloc o).cell? ⟨B, 0, none⟩ = some (.pointer (some ⟨G, 0, none⟩)) := fun o => cellB ((Below.refl _ wr).alloc (Nat.le_refl _) o) k0
        have ko2 : ∀ o, (wr.alloc o).cell? ⟨G, 1, none⟩ = some (.slice Ab b.length cb) := fun o => cellB ((Below.refl _ wr).alloc (Nat.le_refl _) o) k2
        have ko3 : ∀ o, (wr.alloc o).cell? ⟨G, 3, none⟩ = some (.slice (some ⟨K, 0, none⟩) N ck) := fun o => cellB ((Below.refl _ wr).alloc (Nat.le_refl _) o) k3
        have ko4 : ∀ o, (wr.alloc o).cell? ⟨K, x0, none⟩ = some (.int .u8 (3 : Nat)) := fun o => cellB ((Below.refl _ wr).alloc (Nat.le_refl _) o) k4
        have ko5 : ∀ o, (wr.alloc o).cell? ⟨G, 0, none⟩ = some (.slice Aa a.length ca) := fun o => cellB ((Below.refl _ wr).alloc (Nat.le_refl _) o) k1
        have hl : backF a b (a.length + b.length) a.length b.length = (pre ++ [⟨3, 0, b.getD j 0⟩]) ++ backF a b f (i) (j) := by
          rw [hall]
          simp [hkd]
        obtain ⟨adb, rfl, hcb⟩ := HBb.out j (by omega)
        have k6 := cellr hcb
        have ko6 : ∀ o, (wr.alloc o).cell? (adb.add j) = some (.int .i32 (b.getD j 0)) := fun o => cellB ((Below.refl _ wr).alloc (Nat.le_refl _) o) k6
        generalize b.getD j 0 = bv at k6 ko6 hl
        have z6 : (j : Int) < (b.length : Int) := by omega
        have hJ1 := hJ.keep _ _ _ _ hJr (((KeptOn.refl (fun k => own k ∨ ro k) wr).alloc (.cells #[.int .i64 3, .int .i32 (0), .int .i32 (bv)] 136)).drew)
        obtain ⟨fn, tmps, assign, body, hy, hR⟩ := hY own pre ⟨3, 0, bv⟩ _ hJ1 ⟨_, hl.symm⟩
        dsimp only [encStp] at hy
        have HALL := Lib.hid hl
        clear hall hA hk hx0 y0' hl hY
        gi_wp2_with fail
        refine wpIn_wide.2 ?_
        go_region_held3 (fun w' => w'.cell? ⟨B, 0, none⟩ = some (.pointer (some ⟨G, 0, none⟩)) ∧ w'.cell? ⟨G, 1, none⟩ = some (.slice (some adb) b.length cb) ∧ w'.cell? ⟨G, 3, none⟩ = some (.slice (some ⟨K, 0, none⟩) N ck) ∧ w'.cell? ⟨K, x0, none⟩ = some (.int .u8 (3 : Nat)))
          (first | exact ⟨k0, k2, k3, k4⟩ | exact ⟨ko1 _, ko2 _, ko3 _, ko4 _⟩)
          (first
            | (go_at_call 85; refine (HAt.out wr.drew k2).mono ?_; rintro e w' ⟨rfl, rfl⟩)
            | (go_at_call 85; refine (HAt.out (World.drew (wr.alloc _)) (ko2 _)).mono ?_; rintro e w' ⟨rfl, rfl⟩))
        all_goals
          gi_wp2_with fail
          refine ⟨rfl, hR.mono ?_⟩
          rintro e W' ⟨own', ho', hk', hend⟩
          have hk1 : KeptOn (fun k => ¬ own0 k) W (wr.alloc (.cells #[.int .i64 3, .int .i32 (0), .int .i32 (bv)] 136)).drew := (hkept.alloc _).drew
          have hs1 := hk1.size
          have hk2 : KeptOn (fun k => ¬ own0 k) W W' := hk1.trans hk' (fun k hk h h2 => (hsub k h2).elim h (by omega))
          have hsub' : ∀ k, own' k → own0 k ∨ W.heap.size ≤ k := fun k hk => (ho' k hk).elim (hsub k) (fun h => .inr (by omega))
          rcases hend with ⟨rfl, hj'⟩ | ⟨rfl, hj'⟩
          · clear hy hR
            gi_wp2_with fail
            refine ⟨⟨own', _, f, i, j, rfl, rfl, by omega, by omega, by omega, HALL.out, hj', hsub', hk2⟩, by simp [intOf]; try omega⟩
          · clear hy hR
            gi_wp2_with fail
            rw [Exit.noGoto_normal]
            refine bodyPost_end (results_none rfl _ _ _) rfl ?_
            exact ⟨⟨_, rfl⟩, own', hsub', hk2.imp (fun _ _ h => h.1), .inr ⟨_, ⟨_, HALL.out.symm⟩, hj'⟩⟩
      · obtain ⟨i, rfl⟩ : ∃ m, i = m + 1 := ⟨i - 1, by omega⟩
        have hk := HK.out (i + 1) (j) hi hj
        rw [hkd] at hk
        have k0 := cellr hbc
        have k1 := cellr hga
        have k2 := cellr hgb
        have k3 := cellr hgk
        have k4 := cellr hk.2
        rw [add_zero_] at k4
        have y0' := hk.1
        have hA : ∀ W0 : World, W0.cell? ⟨G, 1, none⟩ = some (.slice Ab b.length cb) → Calls Tryd.prog 85 #[.pointer (some ⟨G, 0, none⟩), .int .i64 ((i : Int) + 1), .int .i64 ((j : Int))] W0 fun e w' => e = .returned (.int .i64 (((i + 1) * (b.length + 1) + (j) : Nat) : Int)) ∧ w' = W0 := fun W0 h => by
          have := at_calls ((i : Int) + 1) ((j : Int)) W0 G _ _ _ h (by omega) (by omega) (by omega)
          rwa [show ((i : Int) + 1) * ((b.length : Int) + 1) + ((j : Int)) = (((i + 1) * (b.length + 1) + (j) : Nat) : Int) by push_cast; rfl] at this
        generalize hx0 : (i + 1) * (b.length + 1) + (j) = x0 at hA k4 y0'
        have y0 : (x0 : Int) < (N : Int) := by omega
        have z0 : (0 : Int) ≤ (x0 : Int) := by omega
        have HAt := Lib.hid hA
        have ko1 : ∀ o, (wr.alloc o).cell? ⟨B, 0, none⟩ = some (.pointer (some ⟨G, 0, none⟩)) := fun o => cellB ((Below.refl _ wr).alloc (Nat.le_refl _) o) k0
        have ko2 : ∀ o, (wr.alloc o).cell? ⟨G, 1, none⟩ = some (.slice Ab b.length cb) := fun o => cellB ((Below.refl _ wr).alloc (Nat.le_refl _) o) k2
        have ko3 : ∀ o, (wr.alloc o).cell? ⟨G, 3, none⟩ = some (.slice (some ⟨K, 0, none⟩) N ck) := fun o => cellB ((Below.refl _ wr).alloc (Nat.le_refl _) o) k3
        have ko4 : ∀ o, (wr.alloc o).cell? ⟨K, x0, none⟩ = some (.int .u8 (2 : Nat)) := fun o => cellB ((Below.refl _ wr).alloc (Nat.le_refl _) o) k4
        have ko5 : ∀ o, (wr.alloc o).cell? ⟨G, 0, none⟩ = some (.slice Aa a.length ca) := fun o => cellB ((Below.refl _ wr).alloc (Nat.le_refl _) o) k1
        have hl : backF a b (a.length + b.length) a.length b.length = (pre ++ [⟨2, a.getD i 0, 0⟩]) ++ backF a b f (i) (j) := by
          rw [hall]
          simp [hkd]
        obtain ⟨ada, rfl, hca⟩ := HA.out i (by omega)
        have k7 := cellr hca
        have ko7 : ∀ o, (wr.alloc o).cell? (ada.add i) = some (.int .i32 (a.getD i 0)) := fun o => cellB ((Below.refl _ wr).alloc (Nat.le_refl _) o) k7
        generalize a.getD i 0 = av at k7 ko7 hl
        have z7 : (i : Int) < (a.length : Int) := by omega
        have hJ1 := hJ.keep _ _ _ _ hJr (((KeptOn.refl (fun k => own k ∨ ro k) wr).alloc (.cells #[.int .i64 2, .int .i32 (av), .int .i32 (0)] 136)).drew)
        obtain ⟨fn, tmps, assign, body, hy, hR⟩ := hY own pre ⟨2, av, 0⟩ _ hJ1 ⟨_, hl.symm⟩
        dsimp only [encStp] at hy
        have HALL := Lib.hid hl
        clear hall hA hk hx0 y0' hl hY
        gi_wp2_with fail
        refine wpIn_wide.2 ?_
        go_region_held3 (fun w' => w'.cell? ⟨B, 0, none⟩ = some (.pointer (some ⟨G, 0, none⟩)) ∧ w'.cell? ⟨G, 1, none⟩ = some (.slice Ab b.length cb) ∧ w'.cell? ⟨G, 3, none⟩ = some (.slice (some ⟨K, 0, none⟩) N ck) ∧ w'.cell? ⟨K, x0, none⟩ = some (.int .u8 (2 : Nat)))
          (first | exact ⟨k0, k2, k3, k4⟩ | exact ⟨ko1 _, ko2 _, ko3 _, ko4 _⟩)
          (first
            | (go_at_call 85; refine (HAt.out wr.drew k2).mono ?_; rintro e w' ⟨rfl, rfl⟩)
            | (go_at_call 85; refine (HAt.out (World.drew (wr.alloc _)) (ko2 _)).mono ?_; rintro e w' ⟨rfl, rfl⟩))
        all_goals
          gi_wp2_with fail
          refine ⟨rfl, hR.mono ?_⟩
          rintro e W' ⟨own', ho', hk', hend⟩
          have hk1 : KeptOn (fun k => ¬ own0 k) W (wr.alloc (.cells #[.int .i64 2, .int .i32 (av), .int .i32 (0)] 136)).drew := (hkept.alloc _).drew
          have hs1 := hk1.size
          have hk2 : KeptOn (fun k => ¬ own0 k) W W' := hk1.trans hk' (fun k hk h h2 => (hsub k h2).elim h (by omega))
          have hsub' : ∀ k, own' k → own0 k ∨ W.heap.size ≤ k := fun k hk => (ho' k hk).elim (hsub k) (fun h => .inr (by omega))
          rcases hend with ⟨rfl, hj'⟩ | ⟨rfl, hj'⟩
          · clear hy hR
            gi_wp2_with fail
            refine ⟨⟨own', _, f, i, j, rfl, rfl, by omega, by omega, by omega, HALL.out, hj', hsub', hk2⟩, by simp [intOf]; try omega⟩
          · clear hy hR
            gi_wp2_with fail
            rw [Exit.noGoto_normal]
            refine bodyPost_end (results_none rfl _ _ _) rfl ?_
            exact ⟨⟨_, rfl⟩, own', hsub', hk2.imp (fun _ _ h => h.1), .inr ⟨_, ⟨_, HALL.out.symm⟩, hj'⟩⟩
      · obtain ⟨i, rfl⟩ : ∃ m, i = m + 1 := ⟨i - 1, by omega⟩
        obtain ⟨j, rfl⟩ : ∃ m, j = m + 1 := ⟨j - 1, by omega⟩
        have n3' : (kd : Int) ≠ 3 := by omega
        have n2' : (kd : Int) ≠ 2 := by omega
        have hk := HK.out (i + 1) (j + 1) hi hj
        rw [hkd] at hk
        have k0 := cellr hbc
        have k1 := cellr hga
        have k2 := cellr hgb
        have k3 := cellr hgk
        have k4 := cellr hk.2
        rw [add_zero_] at k4
        have y0' := hk.1
        have hA : ∀ W0 : World, W0.cell? ⟨G, 1, none⟩ = some (.slice Ab b.length cb) → Calls Tryd.prog 85 #[.pointer (some ⟨G, 0, none⟩), .int .i64 ((i : Int) + 1), .int .i64 ((j : Int) + 1)] W0 fun e w' => e = .returned (.int .i64 (((i + 1) * (b.length + 1) + (j + 1) : Nat) : Int)) ∧ w' = W0 := fun W0 h => by
          have := at_calls ((i : Int) + 1) ((j : Int) + 1) W0 G _ _ _ h (by omega) (by omega) (by omega)
          rwa [show ((i : Int) + 1) * ((b.length : Int) + 1) + ((j : Int) + 1) = (((i + 1) * (b.length + 1) + (j + 1) : Nat) : Int) by push_cast; rfl] at this
        generalize hx0 : (i + 1) * (b.length + 1) + (j + 1) = x0 at hA k4 y0'
        have y0 : (x0 : Int) < (N : Int) := by omega
        have z0 : (0 : Int) ≤ (x0 : Int) := by omega
        have HAt := Lib.hid hA
        have ko1 : ∀ o, (wr.alloc o).cell? ⟨B, 0, none⟩ = some (.pointer (some ⟨G, 0, none⟩)) := fun o => cellB ((Below.refl _ wr).alloc (Nat.le_refl _) o) k0
        have ko2 : ∀ o, (wr.alloc o).cell? ⟨G, 1, none⟩ = some (.slice Ab b.length cb) := fun o => cellB ((Below.refl _ wr).alloc (Nat.le_refl _) o) k2
        have ko3 : ∀ o, (wr.alloc o).cell? ⟨G, 3, none⟩ = some (.slice (some ⟨K, 0, none⟩) N ck) := fun o => cellB ((Below.refl _ wr).alloc (Nat.le_refl _) o) k3
        have ko4 : ∀ o, (wr.alloc o).cell? ⟨K, x0, none⟩ = some (.int .u8 (kd : Nat)) := fun o => cellB ((Below.refl _ wr).alloc (Nat.le_refl _) o) k4
        have ko5 : ∀ o, (wr.alloc o).cell? ⟨G, 0, none⟩ = some (.slice Aa a.length ca) := fun o => cellB ((Below.refl _ wr).alloc (Nat.le_refl _) o) k1
        have hl : backF a b (a.length + b.length) a.length b.length = (pre ++ [⟨kd, a.getD i 0, b.getD j 0⟩]) ++ backF a b f (i) (j) := by
          rw [hall]
          simp [hkd, n3, n2]
        obtain ⟨ada, rfl, hca⟩ := HA.out i (by omega)
        have k7 := cellr hca
        have ko7 : ∀ o, (wr.alloc o).cell? (ada.add i) = some (.int .i32 (a.getD i 0)) := fun o => cellB ((Below.refl _ wr).alloc (Nat.le_refl _) o) k7
        generalize a.getD i 0 = av at k7 ko7 hl
        have z7 : (i : Int) < (a.length : Int) := by omega
        obtain ⟨adb, rfl, hcb⟩ := HBb.out j (by omega)
        have k6 := cellr hcb
        have ko6 : ∀ o, (wr.alloc o).cell? (adb.add j) = some (.int .i32 (b.getD j 0)) := fun o => cellB ((Below.refl _ wr).alloc (Nat.le_refl _) o) k6
        generalize b.getD j 0 = bv at k6 ko6 hl
        have z6 : (j : Int) < (b.length : Int) := by omega
        have hJ1 := hJ.keep _ _ _ _ hJr (((KeptOn.refl (fun k => own k ∨ ro k) wr).alloc (.cells #[.int .i64 kd, .int .i32 (av), .int .i32 (bv)] 136)).drew)
        obtain ⟨fn, tmps, assign, body, hy, hR⟩ := hY own pre ⟨kd, av, bv⟩ _ hJ1 ⟨_, hl.symm⟩
        dsimp only [encStp] at hy
        have HALL := Lib.hid hl
        clear hall hA hk hx0 y0' hl hY
        gi_wp2_with fail
        refine wpIn_wide.2 ?_
        go_region_held3 (fun w' => w'.cell? ⟨B, 0, none⟩ = some (.pointer (some ⟨G, 0, none⟩)) ∧ w'.cell? ⟨G, 1, none⟩ = some (.slice (some adb) b.length cb) ∧ w'.cell? ⟨G, 3, none⟩ = some (.slice (some ⟨K, 0, none⟩) N ck) ∧ w'.cell? ⟨K, x0, none⟩ = some (.int .u8 (kd : Nat)))
          (first | exact ⟨k0, k2, k3, k4⟩ | exact ⟨ko1 _, ko2 _, ko3 _, ko4 _⟩)
          (first
            | (go_at_call 85; refine (HAt.out wr.drew k2).mono ?_; rintro e w' ⟨rfl, rfl⟩)
            | (go_at_call 85; refine (HAt.out (World.drew (wr.alloc _)) (ko2 _)).mono ?_; rintro e w' ⟨rfl, rfl⟩))
        all_goals
          gi_wp2_with fail
          refine ⟨rfl, hR.mono ?_⟩
          rintro e W' ⟨own', ho', hk', hend⟩
          have hk1 : KeptOn (fun k => ¬ own0 k) W (wr.alloc (.cells #[.int .i64 kd, .int .i32 (av), .int .i32 (bv)] 136)).drew := (hkept.alloc _).drew
          have hs1 := hk1.size
          have hk2 : KeptOn (fun k => ¬ own0 k) W W' := hk1.trans hk' (fun k hk h h2 => (hsub k h2).elim h (by omega))
          have hsub' : ∀ k, own' k → own0 k ∨ W.heap.size ≤ k := fun k hk => (ho' k hk).elim (hsub k) (fun h => .inr (by omega))
          rcases hend with ⟨rfl, hj'⟩ | ⟨rfl, hj'⟩
          · clear hy hR
            gi_wp2_with fail
            refine ⟨⟨own', _, f, i, j, rfl, rfl, by omega, by omega, by omega, HALL.out, hj', hsub', hk2⟩, by simp [intOf]; try omega⟩
          · clear hy hR
            gi_wp2_with fail
            rw [Exit.noGoto_normal]
            refine bodyPost_end (results_none rfl _ _ _) rfl ?_
            exact ⟨⟨_, rfl⟩, own', hsub', hk2.imp (fun _ _ h => h.1), .inr ⟨_, ⟨_, HALL.out.symm⟩, hj'⟩⟩
end Go.Proofs.Er
