import Derived.Test.YtmidnppbnhahpaaDoorWI
namespace Go.Proofs.Er
open Go Go.RowKit Go.Shelf Go.Proofs
attribute [local go_sem] Oper.semAt_some

theorem IterC.mono {α : Type} {P : Program} {g : Nat} {lb : Array Value} {encs : α → Array Value} {It Rd ro : Nat → Prop} {G : List α → α → World → Prop} {S Sp : List α → World → Prop} {w w' : World}
    (h : IterC P g lb encs It Rd ro G S Sp w) (hk : KeptOn (fun _ => True) w w') : IterC P g lb encs It Rd ro G S Sp w' :=
  fun l own0 J Jx W hW => h l own0 J Jx W (hk.trans hW (fun _ _ _ => trivial))

def cStp (s : Stp) : List Value := [.int .i64 s.k, .int .i32 s.a, .int .i32 s.b]
theorem Tryd.info136 : (Tryd.prog.info? 136).map (fun i => (i.zero, i.size, i.bytes)) = some (some (.agg #[.int .i64 0, .int .i32 0, .int .i32 0]), 3, 16) := by kernel_rfl

/-- Elements gathered: the box of a slice, the row. -/
def ColI {α : Type} (cs : α → List Value) (eT sT sz b : Nat) (own : Nat → Prop) (pre : List α) (W : World) : Prop :=
  ∃ v, Box W b sT v ∧ Row W eT sz v pre.length (pre.flatMap cs) ∧ (∀ k, own k ↔ k = b ∨ v.ownBlock = some k) ∧ ∀ k, v.ownBlock = some k → b ≤ k
theorem ColI.stable {α : Type} (cs : α → List Value) (eT sT sz b : Nat) (ro : Nat → Prop) : Stable ro (ColI cs eT sT sz b) := by
  refine ⟨?_, ?_⟩
  · rintro own s A ⟨v, h1, h3, h4, _⟩ k hk
    rcases (h4 k).1 hk with rfl | h
    · exact h1.lt
    · exact h3.lt k h
  · rintro own s A B ⟨v, h1, h3, h4, h5⟩ hk
    exact ⟨v, h1.keep hk (.inl ((h4 _).2 (.inl rfl))), h3.keep hk (fun k hv => .inl ((h4 k).2 (.inr hv))), h4, h5⟩

def StpA (F : Value) (b : Nat) (G : List Stp → Stp → Prop) (own : Nat → Prop) (pre : List Stp) (x : Stp) (a₁ : Act) (W : World) : Prop :=
  ∃ c own1, a₁ = { tmps := #[.slice none 0 0, F, .pointer (some ⟨b, 0, none⟩), undef, .slice none 0 0, .pointer (some ⟨c, 0, none⟩), F, encStp x, undef, undef, undef, undef, undef], defers := [] } ∧
    W.heap[c]? = some (.cells #[.int .i64 x.k, .int .i32 x.a, .int .i32 x.b] 136 (0, 0)) ∧ (∀ k, own k ↔ own1 k ∨ k = c) ∧ ColI cStp 136 70 3 b own1 pre W ∧ G pre x ∧ ¬ own1 c

set_option maxHeartbeats 1000000 in
theorem appendSeqStp_calls {g : Nat} {lb : Array Value} {It Rd : Nat → Prop} {G : List Stp → Stp → Prop} {S Sp : List Stp → Prop} (w : World)
    (eg : ∀ args w, (callFunc g args).run Tryd.prog w = .ok (.enter g args) w)
    (hit : IterC Tryd.prog g lb (fun s : Stp => #[encStp s]) It Rd (fun _ => False) (fun pre x _ => G pre x) (fun xs _ => S xs) (fun pre _ => Sp pre) w) (hItl : ∀ k, It k ∨ Rd k → k < w.heap.size) (hG : ∀ pre x, G pre x → pre.length + 1 ≤ 1000000) :
    Calls Tryd.prog 95 #[.slice none 0 0, .func (.func g) #[] lb] w fun e w' => ∃ xs v, e = .returned v ∧ S xs ∧ KeptOn (fun k => ¬ It k) w w' ∧ Row w' 136 3 v xs.length (xs.flatMap cStp) ∧ ∀ k, v.ownBlock = some k → w.heap.size ≤ k := by
  refine (callsIn_wide (n := 0)).1 ?_
  refine callsIn_of_wp_marks Tryd.func95 rfl trivial ?_ rfl
  simp only [Tryd.ntmps95, List.size_toArray, List.length_cons, List.length_nil, Nat.reduceAdd, Nat.reduceSub, Array.replicate_succ, Array.replicate_zero, List.push_toArray, List.append_toArray, List.nil_append, List.cons_append]
  have HG := Lib.hid hG
  have HE := Lib.hid eg
  have HI := Lib.hid hItl
  clear hG eg hItl
  gi_wp2_with fail
  have b1 : Box (w.alloc (.cells #[.slice none 0 0] 70)) w.heap.size 70 (.slice none 0 0) := Box.new w _ _
  have hB : KeptOn (fun _ => True) w (w.alloc (.cells #[.slice none 0 0] 70)) := (KeptOn.refl _ w).alloc _
  have hsz : (w.alloc (.cells #[.slice none 0 0] 70)).heap.size = w.heap.size + 1 := by simp
  generalize (w.alloc (.cells #[.slice none 0 0] 70)) = w2 at b1 hB hsz ⊢
  refine wpIn_range rfl HE.out (hit.mono hB) (fun _ => rfl) (ColI cStp 136 70 3 w.heap.size) (fun _ _ _ _ => False) (StpA (.func (.func g) #[] lb) w.heap.size G)
    (ColI.stable _ _ _ _ _ _) (fun c => ⟨fun own s A h => h.elim, fun own s A B h hk => h.elim⟩)
    (fun x a₁ => ⟨?hl, ?hk⟩)
    (fun k => k = w.heap.size) ?hdis (fun _ h => h.elim) ?hItl ⟨_, b1, Row.nil _ _ _, by simp [Value.ownBlock], by simp [Value.ownBlock]⟩ ?hassign ?hbody ?hdone ?hstop (fun _ _ _ h => h) (fun _ _ _ h => h)
  case hl =>
    rintro own s A ⟨c, own1, _, hc, ho, hI, _⟩ k hk
    rcases (ho k).1 hk with h | rfl
    · exact (ColI.stable cStp _ _ _ _ (fun _ => False)).lt own1 s A hI k h
    · exact (Array.getElem?_eq_some_iff.1 hc).1
  case hk =>
    rintro own s A B ⟨c, own1, h0, hc, ho, hI, hG, hn⟩ hk
    exact ⟨c, own1, h0, (hk.block _ (Array.getElem?_eq_some_iff.1 hc).1 (.inl ((ho c).2 (.inr rfl)))).trans hc, ho, (ColI.stable _ _ _ _ _ _).keep own1 s A B hI (hk.imp (fun k _ h => h.imp (fun h => (ho k).2 (.inl h)) id)), hG, hn⟩
  case hdis =>
    rintro k rfl
    have := HI.out
    exact ⟨fun h => by have := this _ (.inl h); omega, fun h => by have := this _ (.inr h); omega⟩
  case hItl =>
    intro k hk
    have := HI.out k hk
    omega
  case hassign =>
    intro l own pre x W hI hG
    simp only [encStp]
    gi_wp2
    refine ⟨fun k => own k ∨ k = W.heap.size, fun k h => h.imp id (fun h => by omega), (KeptOn.refl _ _).alloc _, W.heap.size, own, rfl, heap_alloc_new _ _, fun _ => Iff.rfl, (ColI.stable _ _ _ _ _ (fun _ => False)).keep own pre _ _ hI ((KeptOn.refl _ _).alloc _), hG, fun h => by have := (ColI.stable _ _ _ _ _ (fun _ => False)).lt own pre _ hI _ h; omega⟩
  case hbody =>
    rintro l own pre x a₁ W ⟨c, own1, rfl, hc, ho, ⟨v, h1, h3, h4, h6⟩, hG, hnc⟩
    have c1 := h1.cell
    have f1 := h1.free
    have d0 := cell_at (o := 0) hc rfl
    have d1 := cell_at (o := 1) hc rfl
    have d2 := cell_at (o := 2) hc rfl
    have hl := HG.out _ _ hG
    have HO := Lib.hid ho
    have H4 := Lib.hid h4
    have H6 := Lib.hid h6
    have HG2 := Lib.hid hG
    clear ho h4 h6 hG
    gi_wp2_with (gi_at_builtin; refine wpListIn_append1 rfl _ _ 70 rfl 136 3 16 136 (.agg #[.int .i64 0, .int .i32 0, .int .i32 0]) Tryd.underlying70 Tryd.info136 rfl (by decide) v _ _ rfl h3 #[.int .i64 x.k, .int .i32 x.a, .int .i32 x.b] rfl rfl (one3 rfl rfl rfl) (bd1 hl (by decide)) (bd2 hl (by decide)) ?_; intro g cap w1 hrow1 hg1 hloc1; have hb1 := h1.grown hg1 (fun e => h3.ne_box h1 (by decide) e.symm); have c3 := hb1.cell; have f3 := hb1.free)
    have hgc : c ≠ w.heap.size := fun e => hnc ((H4.out _).2 (.inl e))
    refine ⟨fun k => k = w.heap.size ∨ k = g, ?_, ?_, ?_⟩
    · rintro k (rfl | rfl)
      · exact .inl ((HO.out _).2 (.inl ((H4.out _).2 (.inl rfl))))
      · exact hloc1.imp (fun h => (HO.out _).2 (.inl ((H4.out _).2 (.inr h)))) id
    · exact ((KeptOn.of_grown hg1).imp (fun k _ hk e => hk ((HO.out k).2 (.inl ((H4.out k).2 (.inr e.symm)))))).setCell _ _ (fun _ h => h ((HO.out _).2 (.inl ((H4.out _).2 (.inl rfl)))))
    · refine ⟨_, hb1.set _, ?_, ?_, ?_⟩
      · have := hrow1.far (p := ⟨w.heap.size, 0, none⟩) (hrow1.ne_box hb1 (by decide)) (.slice (some ⟨g, 0, none⟩) (pre.length + 1) cap)
        simpa [cStp] using this
      · intro k; simp [Value.ownBlock, eq_comm]
      · intro k hk
        have : g = k := by simpa [Value.ownBlock] using hk
        subst this
        rcases hloc1 with h | h
        · exact H6.out _ h
        · have := h1.lt; omega
  case hdone =>
    rintro D own xs W hD hk hsub hS ⟨v, h1, h3, h4, h6⟩ hnD hDW
    have c1 := h1.cell
    have f1 := h1.free
    have H4 := Lib.hid h4
    have H6 := Lib.hid h6
    clear h4 h6
    gi_wp2_with fail
    have hDb : D ≠ w.heap.size := by omega
    have hsh := shut_kept [D] W
    refine ret_shut [D] (by simp) _ (by simpa using hDW) (v := v) (by simp [results, Tryd.results95, go_sem]) ⟨xs, v, rfl, hS, ?_, ?_, H6.out⟩
    · have hk2 : KeptOn (fun k => ¬ It k) w W := (hB.imp (T := fun k => ¬ It k) (fun _ _ _ => trivial)).trans hk (S := fun k => ¬ It k) (T := fun k => ¬k = w.heap.size ∧ ¬It k) (fun j hj h => ⟨by omega, h⟩)
      have := hk2.trans hsh (S := fun k => ¬ It k) (T := fun k => k ∉ [D]) (fun j hj _ h => by simp at h; omega)
      exact this
    · refine h3.keep hsh (fun k hk' h => ?_)
      simp at h; subst h
      exact hnD ((H4.out _).2 (.inr hk'))
  case hstop =>
    rintro D c own pre W hD hk hsub hSp h
    exact h.elim
end Go.Proofs.Er
