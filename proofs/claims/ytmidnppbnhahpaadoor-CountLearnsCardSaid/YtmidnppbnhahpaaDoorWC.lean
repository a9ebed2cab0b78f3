import Derived.Test.YtmidnppbnhahpaaDoorWB
namespace Go.Proofs.Er
open Go Go.RowKit Go.Shelf Go.Proofs
attribute [local go_sem] Oper.semAt_some

theorem Tryd.info21 : (Tryd.prog.info? 21).map (fun i => (i.zero, i.size, i.bytes)) = some (some (.int .i32 0), 1, 4) := by kernel_rfl

theorem runesFrom_len (k : Nat) (s : ByteArray) : (runesFrom k s).length ≤ k := by
  induction k generalizing s with
  | zero => simp [runesFrom]
  | succ k ih =>
    unfold runesFrom
    split
    · simp
    · simp only [List.length_cons]; have := ih (s.extract (dec1 s).2 s.size); omega
theorem all_pre {l m : List (Int × Bool)} (h : l <+: m) (hm : m.all (·.2) = true) : l.all (·.2) = true := by
  obtain ⟨t, rfl⟩ := h
  simp only [List.all_append, Bool.and_eq_true] at hm
  exact hm.1

def DecI (b : Nat) (own : Nat → Prop) (pre : List (Int × Bool)) (W : World) : Prop :=
  ∃ v, Box W b 60 v ∧ Box W (b + 1) 27 (.int .i64 0) ∧ Row W 21 1 v pre.length (pre.map fun x => .int .i32 x.1) ∧ (∀ k, own k ↔ k = b ∨ k = b + 1 ∨ v.ownBlock = some k) ∧ pre.all (·.2) = true ∧ ∀ k, v.ownBlock = some k → b ≤ k
def DecX (b : Nat) (own : Nat → Prop) (pre : List (Int × Bool)) (W : World) : Prop :=
  Box W b 60 (.slice none 0 0) ∧ Box W (b + 1) 27 (.int .i64 3) ∧ (∀ k, own k ↔ k = b ∨ k = b + 1) ∧ pre.all (·.2) = false
theorem DecI.stable (b : Nat) (ro : Nat → Prop) : Stable ro (DecI b) := by
  refine ⟨?_, ?_⟩
  · rintro own s A ⟨v, h1, h2, h3, h4, _⟩ k hk
    rcases (h4 k).1 hk with rfl | rfl | h
    · exact h1.lt
    · exact h2.lt
    · exact h3.lt k h
  · rintro own s A B ⟨v, h1, h2, h3, h4, h5⟩ hk
    exact ⟨v, h1.keep hk (.inl ((h4 _).2 (.inl rfl))), h2.keep hk (.inl ((h4 _).2 (.inr (.inl rfl)))), h3.keep hk (fun k hv => .inl ((h4 k).2 (.inr (.inr hv)))), h4, h5⟩
theorem DecX.stable (b : Nat) (ro : Nat → Prop) : Stable ro (DecX b) := by
  refine ⟨?_, ?_⟩
  · rintro own s A ⟨h1, h2, h4, _⟩ k hk
    rcases (h4 k).1 hk with rfl | rfl
    · exact h1.lt
    · exact h2.lt
  · rintro own s A B ⟨h1, h2, h4, h5⟩ hk
    exact ⟨h1.keep hk (.inl ((h4 _).2 (.inl rfl))), h2.keep hk (.inl ((h4 _).2 (.inr rfl))), h4, h5⟩

def DecA (s : ByteArray) (b : Nat) (own : Nat → Prop) (pre : List (Int × Bool)) (x : Int × Bool) (a₁ : Act) (W : World) : Prop :=
  a₁ = { tmps := #[.string s, undef, .pointer (some ⟨b, 0, none⟩), .pointer (some ⟨b + 1, 0, none⟩), .int .i32 x.1, .bool x.2, .string s, .func (.func 86) #[] #[.pointer (some ⟨b + 1 + 1, 0, none⟩)], .int .i32 x.1, .bool x.2, undef, undef, undef, undef, undef, undef, undef], defers := [] } ∧ DecI b own pre W ∧ (pre ++ [x]) <+: allF s

set_option maxHeartbeats 1000000 in
theorem decode_calls (hdec : DecSaid) (s : ByteArray) (w : World) (hT : Tabs w) (hgw : 0 < w.heap.size ∧ 1 < w.heap.size) (hs : s.size ≤ 1000000) : Calls Tryd.prog 28 #[.string s] w fun e w' => ∃ v, e = .returned (.tuple #[v, .int .i64 (decodeF s).2]) ∧ Below w.heap.size w w' ∧
    Row w' 21 1 v (decodeF s).1.length ((decodeF s).1.map (Value.int .i32)) ∧ ∀ k, v.ownBlock = some k → w.heap.size ≤ k := by
  refine (callsIn_wide (n := 0)).1 ?_
  refine callsIn_of_wp_marks Tryd.func28 rfl trivial ?_ rfl
  simp only [Tryd.ntmps28, List.size_toArray, List.length_cons, List.length_nil, Nat.reduceAdd, Nat.reduceSub, Array.replicate_succ, Array.replicate_zero, List.push_toArray, List.append_toArray, List.nil_append, List.cons_append]
  gi_wp2_with fail
  refine ⟨trivial, rfl, (callsIn_wide.2 (all_calls _ _)).mono ?_⟩
  rintro e w1 ⟨rfl, rfl⟩
  gi_wp2_with fail
  have b1 : Box (((w.alloc (.cells #[.slice none 0 0] 60)).alloc (.cells #[.int .i64 0] 27)).alloc (.cells #[.string s] 9)) w.heap.size 60 (.slice none 0 0) := ((Box.new w _ _).alloc _).alloc _
  have b2 : Box (((w.alloc (.cells #[.slice none 0 0] 60)).alloc (.cells #[.int .i64 0] 27)).alloc (.cells #[.string s] 9)) (w.heap.size + 1) 27 (.int .i64 0) := by
    have := (Box.new (w.alloc (.cells #[.slice none 0 0] 60)) 27 (.int .i64 0)).alloc (.cells #[.string s] 9)
    rwa [World.size_alloc] at this
  have b3 : Box (((w.alloc (.cells #[.slice none 0 0] 60)).alloc (.cells #[.int .i64 0] 27)).alloc (.cells #[.string s] 9)) (w.heap.size + 1 + 1) 9 (.string s) := by
    have := Box.new ((w.alloc (.cells #[.slice none 0 0] 60)).alloc (.cells #[.int .i64 0] 27)) 9 (.string s)
    simpa using this
  have hB : Below w.heap.size w (((w.alloc (.cells #[.slice none 0 0] 60)).alloc (.cells #[.int .i64 0] 27)).alloc (.cells #[.string s] 9)) := ((((Below.refl _ w).alloc (Nat.le_refl _) _).alloc (by simp) _).alloc (by simp; omega) _)
  have hsz : (((w.alloc (.cells #[.slice none 0 0] 60)).alloc (.cells #[.int .i64 0] 27)).alloc (.cells #[.string s] 9)).heap.size = w.heap.size + 3 := by simp
  generalize (((w.alloc (.cells #[.slice none 0 0] 60)).alloc (.cells #[.int .i64 0] 27)).alloc (.cells #[.string s] 9)) = w2 at b1 b2 b3 hB hsz ⊢
  have hT2 : Tabs w2 := hT.below hB
  refine wpIn_range rfl (enters_of Tryd.func86 (by kernel_rfl) rfl) (all_iter hdec s (w.heap.size + 1 + 1) (fun _ => False) w2 (fun _ h => h.elim) (by omega) hT2 b3) (fun _ => rfl)
    (DecI w.heap.size) (fun c own pre W => c = .ret ∧ DecX w.heap.size own pre W)
    (DecA s w.heap.size)
    (DecI.stable _ _) (fun c => ⟨fun own s A h => (DecX.stable _ (fun _ => False)).lt own s A h.2, fun own s A B h hk => ⟨h.1, (DecX.stable _ _).keep own s A B h.2 hk⟩⟩)
    (fun x a₁ => ⟨fun own s A h => (DecI.stable _ (fun _ => False)).lt own s A h.2.1, fun own s A B h hk => ⟨h.1, (DecI.stable _ _).keep own s A B h.2.1 hk, h.2.2⟩⟩)
    (fun k => k = w.heap.size ∨ k = w.heap.size + 1) ?hdis (fun _ h => h.elim) ?hItl ⟨_, b1, b2, Row.nil _ _ _, by simp [Value.ownBlock], rfl, by simp [Value.ownBlock]⟩ ?hassign ?hbody ?hdone ?hstop (fun _ _ _ h => h) (fun _ _ _ h => h)
  case hdis => intro k hk; omega
  case hItl => intro k hk; omega
  case hassign =>
    intro l own pre x W hI hG
    gi_wp2
    exact assignOut.same ⟨rfl, hI, hG⟩
  case hbody =>
    rintro l own pre ⟨r, is⟩ a₁ W ⟨rfl, ⟨v, h1, h2, h3, h4, h5, h6⟩, hG⟩
    have c1 := h1.cell
    have f1 := h1.free
    have c2 := h2.cell
    have f2 := h2.free
    have H4 := Lib.hid h4
    have H5 := Lib.hid h5
    have H6 := Lib.hid h6
    clear h4 h5 h6
    have hl : pre.length + 1 ≤ 1000000 := by
      have h := hG.length_le
      have := runesFrom_len s.size s
      simp only [List.length_append, List.length_cons, List.length_nil, allF] at h
      omega
    have HG := Lib.hid hG
    clear hG
    cases is with
    | false =>
      gi_wp2
      refine ⟨fun k => k = w.heap.size ∨ k = w.heap.size + 1, fun k hk => .inl ((H4.out k).2 (hk.imp id .inl)), ((KeptOn.refl _ _).setCell _ _ (fun _ h => h ((H4.out _).2 (.inl rfl)))).setCell _ _ (fun _ h => h ((H4.out _).2 (.inr (.inl rfl)))), rfl, ?_⟩
      exact ⟨(h1.set _).far (by simp) _, (h2.far (by simp) _).set _, fun _ => Iff.rfl, by simp⟩
    | true =>
      gi_wp2_with (gi_at_builtin; refine wpListIn_append1 rfl _ _ 60 rfl 21 1 4 21 (.int .i32 0) Tryd.underlying60 Tryd.info21 rfl (by decide) v _ _ rfl h3 #[.int .i32 r] rfl rfl (one1 rfl) (bd1 hl (by decide)) (bd2 hl (by decide)) ?_; intro g cap w1 hrow1 hg1 hloc1; have hb1 := h1.grown hg1 (fun e => h3.ne_box h1 (by decide) e.symm); have c3 := hb1.cell; have f3 := hb1.free)
      refine ⟨fun k => k = w.heap.size ∨ k = w.heap.size + 1 ∨ k = g, ?_, ?_, ?_⟩
      · rintro k (rfl | rfl | rfl)
        · exact .inl ((H4.out _).2 (.inl rfl))
        · exact .inl ((H4.out _).2 (.inr (.inl rfl)))
        · exact hloc1.imp (fun h => (H4.out _).2 (.inr (.inr h))) id
      · exact ((KeptOn.of_grown hg1).imp (fun k _ hk e => hk ((H4.out k).2 (.inr (.inr e.symm))))).setCell _ _ (fun _ h => h ((H4.out _).2 (.inl rfl)))
      · refine ⟨_, hb1.set _, (h2.grown hg1 (fun e => h3.ne_box h2 (by decide) e.symm)).far (by simp) _, ?_, ?_, by simp [H5.out], ?_⟩
        · have := hrow1.far (p := ⟨w.heap.size, 0, none⟩) (hrow1.ne_box hb1 (by decide)) (.slice (some ⟨g, 0, none⟩) (pre.length + 1) cap)
          simpa using this
        · intro k; simp [Value.ownBlock, eq_comm]
        · intro k hk
          have : g = k := by simpa [Value.ownBlock] using hk
          subst this
          rcases hloc1 with h | h
          · exact H6.out _ h
          · have := h1.lt; omega
  case hdone =>
    rintro D own xs W hD hk hsub rfl ⟨v, h1, h2, h3, h4, h5, h6⟩ hnD hDW
    have c1 := h1.cell
    have f1 := h1.free
    have c2 := h2.cell
    have f2 := h2.free
    have H4 := Lib.hid h4
    have H5 := Lib.hid h5
    have H6 := Lib.hid h6
    clear h4 h5 h6
    obtain ⟨A, c, rfl, hc⟩ := h3.form
    gi_wp2
    have hall : (allF s).all (·.2) = true := H5.out
    have hd1 : (decodeF s).2 = 0 := by simp [decodeF, hall]
    have hd2 : (decodeF s).1 = (allF s).map (·.1) := by simp [decodeF, hall]
    have hDb : D ≠ w.heap.size ∧ D ≠ w.heap.size + 1 := by omega
    have g1 : Box ((W.setCell ⟨w.heap.size, 0, none⟩ (.slice A (allF s).length c)).setCell ⟨w.heap.size + 1, 0, none⟩ (.int .i64 0)) w.heap.size 60 (.slice A (allF s).length c) := (h1.set _).far (by simp) _
    have g2 : Box ((W.setCell ⟨w.heap.size, 0, none⟩ (.slice A (allF s).length c)).setCell ⟨w.heap.size + 1, 0, none⟩ (.int .i64 0)) (w.heap.size + 1) 27 (.int .i64 0) := (h2.far (by simp) _).set _
    have g3 : Row ((W.setCell ⟨w.heap.size, 0, none⟩ (.slice A (allF s).length c)).setCell ⟨w.heap.size + 1, 0, none⟩ (.int .i64 0)) 21 1 (.slice A (allF s).length c) (allF s).length ((allF s).map fun x => .int .i32 x.1) := (h3.far (h3.ne_box h1 (by decide)) _).far (h3.ne_box h2 (by decide)) _
    have gD : ((W.setCell ⟨w.heap.size, 0, none⟩ (.slice A (allF s).length c)).setCell ⟨w.heap.size + 1, 0, none⟩ (.int .i64 0)).heap[D]? = some (.deferred (some [])) := by
      rw [Below.heap_setCell _ _ _ _ (by simpa using hDb.2), Below.heap_setCell _ _ _ _ (by simpa using hDb.1)]; exact hDW
    have hkk : KeptOn (fun k => k < w.heap.size) w2 ((W.setCell ⟨w.heap.size, 0, none⟩ (.slice A (allF s).length c)).setCell ⟨w.heap.size + 1, 0, none⟩ (.int .i64 0)) :=
      ((hk.imp (fun k _ h => by omega)).setCell _ _ (fun _ h => by dsimp only at h; omega)).setCell _ _ (fun _ h => by dsimp only at h; omega)
    generalize (W.setCell ⟨w.heap.size, 0, none⟩ (.slice A (allF s).length c)).setCell ⟨w.heap.size + 1, 0, none⟩ (.int .i64 0) = W3 at g1 g2 g3 gD hkk ⊢
    have hsh := shut_kept [D] W3
    have e1 := (g1.keep hsh (by simp [hDb.1.symm])).cell
    have e2 := (g2.keep hsh (by simp [hDb.2.symm])).cell
    refine ret_shut [D] (by simp) _ (by simpa using gD) (v := .tuple #[.slice A (allF s).length c, .int .i64 0]) (by simp [results, Tryd.results28, go_sem, e1, e2]) ⟨_, by rw [hd1], ?_, ?_, H6.out⟩
    · exact hB.trans ((hkk.trans hsh (fun j hj _ h => by simp at h; omega)).below (by omega) (fun _ h => h))
    · rw [hd2, List.length_map, List.map_map]
      refine g3.keep hsh (fun k hk' h => ?_)
      simp at h; subst h
      exact hnD ((H4.out _).2 (.inr (.inr hk')))
  case hstop =>
    rintro D c own pre W hD hk hsub hSp ⟨rfl, h1, h2, h4, h5⟩ hnD hDW
    have H4 := Lib.hid h4
    have H5 := Lib.hid h5
    clear h4 h5
    gi_wp2
    have hall : (allF s).all (·.2) = false := by
      cases hh : (allF s).all (·.2)
      · rfl
      · have := all_pre hSp hh; rw [H5.out] at this; cases this
    have hd : decodeF s = ([], 3) := by simp [decodeF, hall]
    have hDb : D ≠ w.heap.size ∧ D ≠ w.heap.size + 1 := by omega
    have hsh := shut_kept [D] W
    have e1 := (h1.keep hsh (by simp [hDb.1.symm])).cell
    have e2 := (h2.keep hsh (by simp [hDb.2.symm])).cell
    refine ret_shut [D] (by simp) _ (by simpa using hDW) (v := .tuple #[.slice none 0 0, .int .i64 3]) (by simp [results, Tryd.results28, go_sem, e1, e2]) ⟨_, by rw [hd], ?_, ?_, ?_⟩
    · exact hB.trans (((hk.imp (T := fun k => k < w.heap.size) (fun k _ h => by omega)).trans hsh (fun j hj _ h => by simp at h; omega)).below (by omega) (fun _ h => h))
    · rw [hd]; exact Row.nil _ _ _
    · intro k h; cases h
end Go.Proofs.Er
