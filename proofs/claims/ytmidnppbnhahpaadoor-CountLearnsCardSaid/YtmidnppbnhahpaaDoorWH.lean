import Derived.Test.YtmidnppbnhahpaaDoorWG
namespace Go.Proofs.Er
open Go Go.RowKit Go.Shelf Go.Proofs
attribute [local go_sem] Oper.semAt_some

theorem FG.step {W2 : World} {va vb : Value} {a b : List Int} {G F K N d : Nat} {W : World} {i j : Nat} (h : FG W2 va vb a b G F K N d W) (hd : d = i * (b.length + 1) + j) (hj : j ≤ b.length) :
    FG W2 va vb a b G F K N (d + 1) ((W.setCell ⟨K, d, none⟩ (.int .u8 ((gridF a b i j).1 : Nat))).setCell ⟨F, d, none⟩ (.int .u8 ((gridF a b i j).2 : Nat))) := by
  have h1 : d / (b.length + 1) = i := by
    rw [hd, Nat.mul_comm, Nat.mul_add_div (by omega), Nat.div_eq_of_lt (by omega)]; rfl
  have h2 : d % (b.length + 1) = j := by
    rw [hd, Nat.mul_comm, Nat.mul_add_mod, Nat.mod_eq_of_lt (by omega)]
  refine ⟨(h.kept.setCell h.lk _).setCell h.lf _, h.lg, h.lf, h.lk, h.gf, h.gk, h.fk, ?_, ?_, ?_⟩
  · rw [Below.heap_setCell _ _ _ _ h.gf, Below.heap_setCell _ _ _ _ h.gk]; exact h.g
  · have : ((W.setCell ⟨K, d, none⟩ (.int .u8 ((gridF a b i j).1 : Nat))).heap[F]?) = some (.cells (tabC N (fewT a b d)) 5 (0, 0)) := by rw [Below.heap_setCell _ _ _ _ h.fk]; exact h.f
    generalize W.setCell ⟨K, d, none⟩ (.int .u8 ((gridF a b i j).1 : Nat)) = W' at this ⊢
    simp only [World.setCell, Array.getElem?_modify, if_true, this, Option.map_some, Option.isSome_none, Bool.false_eq_true, if_false]
    rw [tabC_set _ _ (fewT a b (d + 1)) d _ (by rw [fewT, if_pos (by omega), h1, h2]) (fun x hx => by unfold fewT; simp only [show (x < d + 1) = (x < d) from propext (by omega)])]
  · rw [Below.heap_setCell _ _ _ _ h.fk.symm]
    simp only [World.setCell, Array.getElem?_modify, if_true, h.k, Option.map_some, Option.isSome_none, Bool.false_eq_true, if_false]
    rw [tabC_set _ _ (kindT a b (d + 1)) d _ (by rw [kindT, if_pos (by omega), h1, h2]) (fun x hx => by unfold kindT; simp only [show (x < d + 1) = (x < d) from propext (by omega)])]
theorem cell_far {W : World} {g i k j : Nat} {v u : Value} (h : g ≠ k) (hc : W.cell? ⟨g, i, none⟩ = some v) : (W.setCell ⟨k, j, none⟩ u).cell? ⟨g, i, none⟩ = some v :=
  (World.cell?_of_block (by exact Below.heap_setCell _ _ _ _ h)).trans hc

theorem Tryd.info5 : (Tryd.prog.info? 5).map (fun i => (i.zero, i.size, i.bytes)) = some (some (.int .u8 0), 1, 1) := by kernel_rfl
theorem made_tab (N : Nat) (f : Nat → Nat) (hf : ∀ i, f i = 0) : madeCells #[.int .u8 0] N = tabC N f := by
  apply Array.ext
  · simp [madeCells, tabC]
  · intro k h1 h2
    simp [madeCells, tabC, hf, Nat.mod_one]

theorem three_allocs (w : World) (o1 o2 o3 : Obj) : (((w.alloc o1).alloc o2).alloc o3).heap[w.heap.size]? = some o1 ∧ (((w.alloc o1).alloc o2).alloc o3).heap[w.heap.size + 1]? = some o2 ∧ (((w.alloc o1).alloc o2).alloc o3).heap[w.heap.size + 1 + 1]? = some o3 := by
  refine ⟨?_, ?_, ?_⟩
  · rw [Below.heap_alloc _ _ _ (by simp; omega), Below.heap_alloc _ _ _ (by simp)]; exact heap_alloc_new _ _
  · rw [Below.heap_alloc _ _ _ (by simp)]
    have := heap_alloc_new (w.alloc o1) o2
    rwa [World.size_alloc] at this
  · have := heap_alloc_new ((w.alloc o1).alloc o2) o3
    rwa [World.size_alloc, World.size_alloc] at this
theorem FG.make {w2 : World} {va vb : Value} {a b : List Int} {N F K : Nat} (h : F = w2.heap.size + 1 ∧ K = w2.heap.size + 1 + 1 ∨ K = w2.heap.size + 1 ∧ F = w2.heap.size + 1 + 1) :
    FG w2 va vb a b w2.heap.size F K N 0 (((w2.alloc (.cells #[va, vb, .slice (some ⟨F, 0, none⟩) N N, .slice (some ⟨K, 0, none⟩) N N] 117)).alloc (.cells (madeCells #[.int .u8 0] N) 5)).alloc (.cells (madeCells #[.int .u8 0] N) 5)).drew := by
  obtain ⟨h1, h2, h3⟩ := three_allocs w2 (.cells #[va, vb, .slice (some ⟨F, 0, none⟩) N N, .slice (some ⟨K, 0, none⟩) N N] 117) (.cells (madeCells #[.int .u8 0] N) 5) (.cells (madeCells #[.int .u8 0] N) 5)
  have hb : Below w2.heap.size w2 (((w2.alloc (.cells #[va, vb, .slice (some ⟨F, 0, none⟩) N N, .slice (some ⟨K, 0, none⟩) N N] 117)).alloc (.cells (madeCells #[.int .u8 0] N) 5)).alloc (.cells (madeCells #[.int .u8 0] N) 5)) :=
    (((Below.refl _ w2).alloc (Nat.le_refl _) _).alloc (by simp) _).alloc (by simp; omega) _
  generalize ((w2.alloc (.cells #[va, vb, .slice (some ⟨F, 0, none⟩) N N, .slice (some ⟨K, 0, none⟩) N N] 117)).alloc (.cells (madeCells #[.int .u8 0] N) 5)).alloc (.cells (madeCells #[.int .u8 0] N) 5) = W at h1 h2 h3 hb ⊢
  have m1 := made_tab N (fewT a b 0) (fun i => by simp [fewT])
  have m2 := made_tab N (kindT a b 0) (fun i => by simp [kindT])
  rcases h with ⟨rfl, rfl⟩ | ⟨rfl, rfl⟩
  · exact ⟨hb.drew, Nat.le_refl _, by omega, by omega, by omega, by omega, by omega, h1, by rw [← m1]; exact h2, by rw [← m2]; exact h3⟩
  · exact ⟨hb.drew, Nat.le_refl _, by omega, by omega, by omega, by omega, by omega, h1, by rw [← m1]; exact h3, by rw [← m2]; exact h2⟩
theorem FG.first {W2 : World} {va vb : Value} {a b : List Int} {G F K N : Nat} {W : World} (h : FG W2 va vb a b G F K N 0 W) : FG W2 va vb a b G F K N 1 W := by
  refine ⟨h.kept, h.lg, h.lf, h.lk, h.gf, h.gk, h.fk, h.g, ?_, ?_⟩
  · rw [← tabC_ext N (fewT a b 0) (fewT a b 1) (fun i => by unfold fewT; by_cases hi : i = 0 <;> simp [hi, gridF, row0])]; exact h.f
  · rw [← tabC_ext N (kindT a b 0) (kindT a b 1) (fun i => by unfold kindT; by_cases hi : i = 0 <;> simp [hi, gridF, row0])]; exact h.k

def FillOk (w : World) (a b : List Int) (e : Ending) (w' : World) : Prop :=
  ∃ (W2 : World) (va vb : Value) (G F K : Nat), e = .returned (.tuple #[.pointer (some ⟨G, 0, none⟩), .int .i64 0]) ∧ Below w.heap.size w W2 ∧ Row W2 21 1 va a.length (a.map (Value.int .i32)) ∧ Row W2 21 1 vb b.length (b.map (Value.int .i32)) ∧
      FG W2 va vb a b G F K ((a.length + 1) * (b.length + 1)) ((a.length + 1) * (b.length + 1)) w'
def FillP (w : World) (n t : ByteArray) (e : Ending) (w' : World) : Prop :=
  Below w.heap.size w w' ∧ (if (tokenF n).2 ≠ 0 then e = .returned (.tuple #[.pointer none, .int .i64 (tokenF n).2]) else if (tokenF t).2 ≠ 0 then e = .returned (.tuple #[.pointer none, .int .i64 (tokenF t).2])
    else FillOk w (tokenF n).1 (tokenF t).1 e w')

theorem tokenF_len (s : ByteArray) (h : (tokenF s).2 = 0) : (tokenF s).1.length ≤ 64 := by
  unfold tokenF at h ⊢
  split at h
  · rw [if_pos (by assumption)]; simp
  · split at h
    · exact absurd h (by decide)
    · split at h
      · exact absurd h (by decide)
      · rw [if_neg (by assumption), if_neg (by assumption), if_neg (by assumption)]; simp only; omega

set_option maxHeartbeats 1000000 in
set_option maxRecDepth 100000 in
theorem fill_calls (n t : ByteArray) (w : World) (hT : Tabs w) (hgw : 0 < w.heap.size ∧ 1 < w.heap.size) (hn : n.size ≤ 1000000) (ht : t.size ≤ 1000000) :
    Calls Tryd.prog 48 #[.string n, .string t] w (FillP w n t) := by
  unfold FillP
  have C1 := token_calls n w hT hgw hn
  by_cases h1 : (tokenF n).2 ≠ 0
  · simp only [if_pos h1]
    have hb1 : ((tokenF n).2 != 0) = true := by simpa using h1
    have H1 := Lib.hid h1
    clear h1
    generalize (tokenF n).2 = e1 at C1 hb1 ⊢
    go_enter Tryd.func48, Tryd.ntmps48
    go_wp2_with fail
    refine C1.mono ?_
    rintro e w1 ⟨v, rfl, hB, _, _⟩
    go_wp2
    go_ret2
    exact ⟨hB, rfl⟩
  · simp only [if_neg h1]
    have h1' : (tokenF n).2 = 0 := by omega
    have la := tokenF_len n h1'
    rw [h1'] at C1
    have C2 : ∀ W, Below w.heap.size w W → _ := fun W hB => token_calls t W (hT.below hB) ⟨Nat.lt_of_lt_of_le hgw.1 hB.size, Nat.lt_of_lt_of_le hgw.2 hB.size⟩ ht
    by_cases h2 : (tokenF t).2 ≠ 0
    · simp only [if_pos h2]
      have hb2 : ((tokenF t).2 != 0) = true := by simpa using h2
      have H1 := Lib.hid h1
      have H2 := Lib.hid h2
      have D2 := Lib.hid C2
      clear h1 h2 h1' C2
      go_enter Tryd.func48, Tryd.ntmps48
      go_wp2_with fail
      refine C1.mono ?_
      rintro e w1 ⟨v, rfl, hB, _, _⟩
      go_wp2_with fail
      refine (D2.out w1 hB).mono ?_
      rintro e w2 ⟨v2, rfl, hB2, _, _⟩
      go_wp2
      go_ret2
      exact ⟨hB.trans (hB2.mono hB.size), rfl⟩
    · simp only [if_neg h2]
      have h2' : (tokenF t).2 = 0 := by omega
      have lb := tokenF_len t h2'
      simp only [h2'] at C2
      have H1 := Lib.hid h1
      have H2 := Lib.hid h2
      have D2 := Lib.hid C2
      clear h1 h2 h1' h2' C2
      generalize (tokenF n).1 = a at C1 la ⊢
      generalize (tokenF t).1 = b at D2 lb ⊢
      go_enter Tryd.func48, Tryd.ntmps48
      go_wp2_with fail
      refine C1.mono ?_
      rintro e w1 ⟨va, rfl, hB1, ra1, _⟩
      go_wp2_with fail
      refine (D2.out w1 hB1).mono ?_
      rintro e w2 ⟨vb, rfl, hB2, rb, _⟩
      have ra := ra1.below hB2
      have hB : Below w.heap.size w w2 := hB1.trans (hB2.mono hB1.size)
      clear ra1 hB1 hB2 C1
      clear D2
      obtain ⟨Aa, ca, rfl, hca⟩ := ra.form
      obtain ⟨Ab, cb, rfl, hcb⟩ := rb.form
      generalize hN : (a.length + 1) * (b.length + 1) = N
      have hN2 : N ≤ 5000 := by
        have := Nat.mul_le_mul (show a.length + 1 ≤ 65 by omega) (show b.length + 1 ≤ 65 by omega)
        omega
      have e1 : IntKind.i64.wrap ((a.length : Int) + 1) = a.length + 1 := IntWalk.i64_in _ (by omega)
      have e2 : IntKind.i64.wrap ((b.length : Int) + 1) = b.length + 1 := IntWalk.i64_in _ (by omega)
      have e3 : IntKind.i64.wrap (((a.length : Int) + 1) * ((b.length : Int) + 1)) = (N : Int) := by
        rw [← hN]; push_cast; exact IntWalk.i64_in _ (by have : ((a.length : Int) + 1) * ((b.length : Int) + 1) = (N : Int) := by rw [← hN]; push_cast; rfl
                                                         omega)
      have hmk := fun W => run_make_row' (P := Tryd.prog) 105 5 (.int .u8 0) 1 rfl Tryd.info5 rfl .i64 .i64 N (by omega) (by omega) W
      go_wp2_with fail
      go_cut [] (fun wx => ∃ F K, FG w2 (.slice Aa a.length ca) (.slice Ab b.length cb) a b w2.heap.size F K N 0 wx)
      case first =>
        go_region
        all_goals (go_wp2_with fail; go_meet)
        · exact ⟨_, _, FG.make (.inl ⟨rfl, rfl⟩)⟩
        · exact ⟨_, _, FG.make (.inr ⟨rfl, rfl⟩)⟩
      case rest =>
        obtain ⟨F, K, hF⟩ := hcut
        generalize w2.heap.size = G at hF
        have HB := Lib.hid hB
        clear hB hmk hN2 e3
        have HN := Lib.hid hN
        clear hN
        go_wp2_with fail
        go_loopw [53] (fun i W => ∃ k : Nat, k ≤ a.length + 1 ∧ i = .int .i64 k ∧ FG w2 (.slice Aa a.length ca) (.slice Ab b.length cb) a b G F K N (k * (b.length + 1)) W) (fun i _ => a.length + 1 - (intOf i).toNat)
        case atStart => exact ⟨0, by omega, rfl, by simpa using hF⟩
        case round =>
          obtain ⟨k, hk, rfl, hFk⟩ := hrel
          clear hF
          rcases Nat.lt_or_ge k (a.length + 1) with hlt | hge
          · have hk1 : k ≤ a.length := by omega
            have hb1 : (k : Int) < (a.length : Int) + 1 := by omega
            go_wp2_with fail
            go_loopw [59] (fun j W => ∃ x : Nat, x ≤ b.length + 1 ∧ j = .int .i64 x ∧ FG w2 (.slice Aa a.length ca) (.slice Ab b.length cb) a b G F K N (k * (b.length + 1) + x) W) (fun j _ => b.length + 1 - (intOf j).toNat)
            case atStart => exact ⟨0, by omega, rfl, by simpa using hFk⟩
            case round =>
              obtain ⟨x, hx, rfl, hFx⟩ := hrel
              clear hFk
              have e3 : IntKind.i64.wrap ((k : Int) + (x : Int)) = (k : Int) + x := IntWalk.i64_in _ (by omega)
              go_wp2_with fail
              · have q1 : (a.length + 1) * (b.length + 1) = a.length * (b.length + 1) + (b.length + 1) := by rw [Nat.succ_mul]
                have q2 : k * (b.length + 1) ≤ a.length * (b.length + 1) := Nat.mul_le_mul_right _ hk1
                have hxb : x ≤ b.length := by omega
                have y0' : k * (b.length + 1) + x < N := by rw [← HN.out]; omega
                have CA : ∀ W : World, Below wr.heap.size wr W → Calls Tryd.prog 85 #[.pointer (some ⟨G, 0, none⟩), .int .i64 (k : Int), .int .i64 (x : Int)] W fun e w' => e = .returned (.int .i64 ((k * (b.length + 1) + x : Nat) : Int)) ∧ w' = W := fun W hb => by
                  have := at_calls (k : Int) (x : Int) W G _ _ _ (cellB hb (cell_at hFx.g rfl)) (by omega) (by omega) (by omega)
                  rwa [show (k : Int) * ((b.length : Int) + 1) + x = ((k * (b.length + 1) + x : Nat) : Int) by push_cast; rfl] at this
                have CB : ∀ W : World, Below wr.heap.size wr W → Calls Tryd.prog 84 #[.pointer (some ⟨G, 0, none⟩), .int .i64 (k : Int), .int .i64 (x : Int)] W fun e w' =>
                    e = .returned (.tuple #[.int .u8 ((gridF a b k x).1 : Nat), .int .u8 ((gridF a b k x).2 : Nat)]) ∧ Below W.heap.size W w' := fun W hb =>
                  best_calls k x (hFx.below hb) ra rb la lb HN.out.symm hk1 hxb (by omega)
                have ST : ∀ W : World, Below wr.heap.size wr W → FG w2 (.slice Aa a.length ca) (.slice Ab b.length cb) a b G F K N (k * (b.length + 1) + x + 1) ((W.setCell ⟨K, k * (b.length + 1) + x, none⟩ (.int .u8 ((gridF a b k x).1 : Nat))).setCell ⟨F, k * (b.length + 1) + x, none⟩ (.int .u8 ((gridF a b k x).2 : Nat))) := fun W hb =>
                  (hFx.below hb).step rfl hxb
                have CF : ∀ W : World, Below wr.heap.size wr W → W.frozen? ⟨F, k * (b.length + 1) + x, none⟩ = false ∧ W.frozen? ⟨K, k * (b.length + 1) + x, none⟩ = false ∧ W.cell? ⟨F, k * (b.length + 1) + x, none⟩ = some (.int .u8 (fewT a b (k * (b.length + 1) + x) (k * (b.length + 1) + x) : Nat)) ∧ W.cell? ⟨K, k * (b.length + 1) + x, none⟩ = some (.int .u8 (kindT a b (k * (b.length + 1) + x) (k * (b.length + 1) + x) : Nat)) := fun W hb =>
                  ⟨frozen_of_row _ _ _ _ _ (hFx.below hb).f, frozen_of_row _ _ _ _ _ (hFx.below hb).k, cell_at (hFx.below hb).f (tabC_get _ _ _ y0'), cell_at (hFx.below hb).k (tabC_get _ _ _ y0')⟩
                have c0 : wr.cell? ⟨G, 1, none⟩ = _ := cell_at hFx.g rfl
                have c1 : wr.cell? ⟨G, 2, none⟩ = _ := cell_at hFx.g rfl
                have c2 : wr.cell? ⟨G, 3, none⟩ = _ := cell_at hFx.g rfl
                have nF := hFx.gf
                have nK := hFx.gk
                have nFK := hFx.fk
                generalize hx0 : k * (b.length + 1) + x = x0 at CA CB ST CF y0'
                have y0 : (x0 : Int) < (N : Int) := by omega
                have z0 : (0 : Int) ≤ (x0 : Int) := by omega
                have DA := Lib.hid CA
                have DB := Lib.hid CB
                have DS := Lib.hid ST
                have DF := Lib.hid CF
                have HF := Lib.hid hFx
                have Hx0 := Lib.hid hx0
                clear CA CB ST CF hFx hx0 q1 q2 y0' e3 e1 e2
                generalize fewT a b x0 x0 = ff at DF
                generalize kindT a b x0 x0 = fk at DF
                generalize (gridF a b k x).1 = kd at DB DS
                generalize (gridF a b k x).2 = nd at DB DS
                go_region_held3 (fun w' => w'.cell? ⟨G, 2, none⟩ = some (.slice (some ⟨F, 0, none⟩) N N) ∧ w'.cell? ⟨G, 3, none⟩ = some (.slice (some ⟨K, 0, none⟩) N N)) (first | exact ⟨by assumption, by assumption⟩ | exact ⟨cell_far nK (by assumption), cell_far nK (by assumption)⟩ | exact ⟨cell_far nF (cell_far nK (by assumption)), cell_far nF (cell_far nK (by assumption))⟩)
                  (first
                    | (go_at_call 85; refine (DA.out _ (Below.refl _ _).drew).mono ?_; rintro e w' ⟨rfl, rfl⟩)
                    | (go_at_call 84; refine (DB.out _ (Below.refl _ _).drew).mono ?_; rintro e w' ⟨rfl, hbb⟩; have hb2 := ((Below.refl wr.heap.size wr).drew).trans hbb; have d1 := cellB hb2 c1; have d2 := cellB hb2 c2; have d3 := (DF.out _ hb2).1; have d4 := (DF.out _ hb2).2.1; have d5 := (DF.out _ hb2).2.2.1; have d6 := (DF.out _ hb2).2.2.2))
                have hF2 := DS.out _ hb2
                generalize hW9 : World.setCell _ _ _ = w9 at hF2 ⊢
                clear d1 d2 d3 d4 d5 d6 hb2 hbb c0 c1 c2
                go_wp2_with fail
                refine ⟨⟨x + 1, by omega, by push_cast; rfl, ?_⟩, ?_⟩
                · rw [← Nat.add_assoc, Hx0.out]; exact hF2
                · simp [intOf]; omega
              · have k0 : k = 0 := by omega
                have x0 : x = 0 := by omega
                subst k0 x0
                refine ⟨⟨1, by omega, rfl, ?_⟩, ?_⟩
                · simpa using (show FG _ _ _ _ _ _ _ _ _ 0 _ by simpa using hFx).first
                · simp [intOf]
              · have x0 : x = b.length + 1 := by omega
                subst x0
                refine ⟨⟨k + 1, by omega, by push_cast; rfl, ?_⟩, ?_⟩
                · rw [Nat.succ_mul]; exact hFx
                · simp [intOf]; omega
          · have : k = a.length + 1 := by omega
            subst this
            have hb1 : ¬ ((a.length + 1 : Nat) : Int) < (a.length : Int) + 1 := by omega
            rw [HN.out] at hFk
            go_wp2_with fail
            go_ret2
            exact ⟨HB.out.trans (hFk.kept.mono HB.out.size), _, _, _, _, _, _, rfl, HB.out, ra, rb, by rw [HN.out]; exact hFk⟩
end Go.Proofs.Er
