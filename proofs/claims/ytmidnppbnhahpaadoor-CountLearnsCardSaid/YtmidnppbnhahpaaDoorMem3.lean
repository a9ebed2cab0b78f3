import Derived.Test.YtmidnppbnhahpaaDoorMem2
namespace Go.Proofs.Er
open Go Go.RowKit
theorem below_drewN {B : Nat} {a w : World} (h : Below B a w) (n : Nat) : Below B a (w.drewN n) := ⟨h.os, h.tape, h.output, h.size, h.block⟩
section
variable {P : Program} {ops : Array Oper} {rest : List Oper} {o : Oper} {a : Act} {Q : Exit → Act → World → Prop}
theorem run_appendM (m : Nat) (hm : 0 < m) (W : World) (t ty e sz bytes T : Nat) (z : Value) (ht : P.underlying t = some (.slice e)) (hinfo : (P.info? e).map (fun i => (i.zero, i.size, i.bytes)) = some (some z, sz, bytes))
    (hzs : z.cells.size = sz) (hsz : 0 < sz) (v : Value) (n : Nat) (xs : List Value) (hown : Row W e sz v n xs) (x : Array Value) (hl : x.size = m * sz) (h1 : ∀ u ∈ x.toList, u.oneCell' = true)
    (h63 : n + m ≤ 140737488355328) (hbytes : (n + m) * bytes ≤ 140737488355328) :
    ∃ g cap w', (Builtin.append_ #[t, t] ty #[v, .slice (some ⟨W.heap.size, 0, none⟩) m m]).run P (W.alloc (.cells x T)) = .ok (.slice (some ⟨g, 0, none⟩) (n + m) cap) w' ∧ Row w' e sz (.slice (some ⟨g, 0, none⟩) (n + m) cap) (n + m) (xs ++ x.toList) ∧ W.grownBy w' v.ownBlock ∧
      (v.ownBlock = some g ∨ W.heap.size ≤ g) := by
  obtain ⟨i0, hi, hzz⟩ := Option.map_eq_some_iff.1 hinfo
  simp only [Prod.mk.injEq] at hzz
  obtain ⟨hz0, hz1, hz2⟩ := hzz
  obtain ⟨v', w', hr, h2, h3, h4, h5⟩ := run_append_own_at (P := P) (W.alloc (.cells x T)) 0 t ty e i0 z sz bytes ht hi hz0 hz1 hz2 hzs hsz v n xs (hown.alloc _) ⟨W.heap.size, 0, none⟩ m m x.toList (by simp [hl]) (cells_new W x T) h1
    (by simp only [maxLen]; omega) hbytes (Nat.zero_le _)
  rcases h2.2 with ⟨_, h0⟩ | ⟨g, cap, cur, rfl, _⟩
  · omega
  refine ⟨g, cap, w', hr, h2, (World.grownBy_alloc W _ _).trans h3, ?_⟩
  rcases h5 with h5 | h5
  · exact .inl h5.symm
  · right
    have : g = (W.alloc (.cells x T)).heap.size := by simpa [Value.ownBlock] using h5
    rw [this]; simp
theorem wpList_appendM (m : Nat) (hm : 0 < m) {W : World} (hgd : o.guard = none) (s x : Operand) (t : TypeId) (ho : o.op = .call { callee := .builtin .append, args := #[s, x], argTypes := #[t, t] })
    (e sz bytes T : Nat) (z : Value) (ht : P.underlying t = some (.slice e)) (hinfo : (P.info? e).map (fun i => (i.zero, i.size, i.bytes)) = some (some z, sz, bytes)) (hzs : z.cells.size = sz) (hsz : 0 < sz)
    (v : Value) (n : Nat) (xs : List Value) (hs : a.eval s = v) (hown : Row W e sz v n xs) (cs : Array Value) (hx : a.eval x = .slice (some ⟨W.heap.size, 0, none⟩) m m) (hl : cs.size = m * sz) (h1 : ∀ u ∈ cs.toList, u.oneCell' = true)
    (h63 : n + m ≤ 140737488355328) (hbytes : (n + m) * bytes ≤ 140737488355328)
    (h : ∀ g cap w', Row w' e sz (.slice (some ⟨g, 0, none⟩) (n + m) cap) (n + m) (xs ++ cs.toList) → W.grownBy w' v.ownBlock → (v.ownBlock = some g ∨ W.heap.size ≤ g) → wpList P ops Q rest (a.put o.dst (.slice (some ⟨g, 0, none⟩) (n + m) cap)) w') :
    wpList P ops Q (o :: rest) a (W.alloc (.cells cs T)) := by
  refine wpList_plain hgd fun K hK => ?_
  obtain ⟨g, cap, w', hr, h2, h3, h4⟩ := run_appendM (P := P) m hm W t o.type e sz bytes T z ht hinfo hzs hsz v n xs hown cs hl h1 h63 hbytes
  unfold Oper.wp execOp
  simp only [ho, resolve, invoke, builtin, Sem.run_bind, Sem.run_pure, Result.andThen_ok, List.map_toArray, List.map_cons, List.map_nil, hs, hx, hr]
  exact hK _ _ (h g cap w' h2 h3 h4)
theorem wpListIn_appendM {F : Fence} {nF : Nat} (m : Nat) (hm : 0 < m) {W : World} (hgd : o.guard = none) (s x : Operand) (t : TypeId) (ho : o.op = .call { callee := .builtin .append, args := #[s, x], argTypes := #[t, t] })
    (e sz bytes T : Nat) (z : Value) (ht : P.underlying t = some (.slice e)) (hinfo : (P.info? e).map (fun i => (i.zero, i.size, i.bytes)) = some (some z, sz, bytes)) (hzs : z.cells.size = sz) (hsz : 0 < sz)
    (v : Value) (n : Nat) (xs : List Value) (hs : a.eval s = v) (hown : Row W e sz v n xs) (cs : Array Value) (hx : a.eval x = .slice (some ⟨W.heap.size, 0, none⟩) m m) (hl : cs.size = m * sz) (h1 : ∀ u ∈ cs.toList, u.oneCell' = true)
    (h63 : n + m ≤ 140737488355328) (hbytes : (n + m) * bytes ≤ 140737488355328)
    (h : ∀ g cap w', Row w' e sz (.slice (some ⟨g, 0, none⟩) (n + m) cap) (n + m) (xs ++ cs.toList) → W.grownBy w' v.ownBlock → (v.ownBlock = some g ∨ W.heap.size ≤ g) → wpListIn F nF P ops Q rest (a.put o.dst (.slice (some ⟨g, 0, none⟩) (n + m) cap)) w') :
    wpListIn F nF P ops Q (o :: rest) a (W.alloc (.cells cs T)) := by
  refine wpListIn_plain hgd fun K hK => ?_
  obtain ⟨g, cap, w', hr, h2, h3, h4⟩ := run_appendM (P := P) m hm W t o.type e sz bytes T z ht hinfo hzs hsz v n xs hown cs hl h1 h63 hbytes
  unfold Oper.wpIn
  refine ⟨?_, ?_⟩
  · simp [Oper.about, ho, resolve, Target.leads, Sem.run_pure]
  · rw [Oper.semAt_plain F _ _ (by rw [ho]; intro c hc'; cases hc')]
    simp only [execOp, ho, resolve, invoke, builtin, Sem.run_bind, Sem.run_pure, Result.andThen_ok, List.map_toArray, List.map_cons, List.map_nil, hs, hx, hr]
    exact hK _ _ (h g cap w' h2 h3 h4)
/-- The same where the place of the new block is told otherwise. -/
theorem wpListIn_append1L {F : Fence} {nF : Nat} (L : Nat) {W : World} (hL : W.heap.size = L) (hgd : o.guard = none) (s x : Operand) (t : TypeId) (ho : o.op = .call { callee := .builtin .append, args := #[s, x], argTypes := #[t, t] })
    (e sz bytes T : Nat) (z : Value) (ht : P.underlying t = some (.slice e)) (hinfo : (P.info? e).map (fun i => (i.zero, i.size, i.bytes)) = some (some z, sz, bytes)) (hzs : z.cells.size = sz) (hsz : 0 < sz)
    (v : Value) (n : Nat) (xs : List Value) (hs : a.eval s = v) (hown : Row W e sz v n xs) (cs : Array Value) (hx : a.eval x = .slice (some ⟨L, 0, none⟩) 1 1) (hl : cs.size = sz) (h1 : ∀ u ∈ cs.toList, u.oneCell' = true)
    (h63 : n + 1 ≤ 140737488355328) (hbytes : (n + 1) * bytes ≤ 140737488355328)
    (h : ∀ g cap w', Row w' e sz (.slice (some ⟨g, 0, none⟩) (n + 1) cap) (n + 1) (xs ++ cs.toList) → W.grownBy w' v.ownBlock → (v.ownBlock = some g ∨ W.heap.size ≤ g) → wpListIn F nF P ops Q rest (a.put o.dst (.slice (some ⟨g, 0, none⟩) (n + 1) cap)) w') :
    wpListIn F nF P ops Q (o :: rest) a (W.alloc (.cells cs T)) := by
  subst hL
  exact wpListIn_append1 hgd s x t ho e sz bytes T z ht hinfo hzs hsz v n xs hs hown cs hx hl h1 h63 hbytes h
theorem wpList_append1L (L : Nat) {W : World} (hL : W.heap.size = L) (hgd : o.guard = none) (s x : Operand) (t : TypeId) (ho : o.op = .call { callee := .builtin .append, args := #[s, x], argTypes := #[t, t] })
    (e sz bytes T : Nat) (z : Value) (ht : P.underlying t = some (.slice e)) (hinfo : (P.info? e).map (fun i => (i.zero, i.size, i.bytes)) = some (some z, sz, bytes)) (hzs : z.cells.size = sz) (hsz : 0 < sz)
    (v : Value) (n : Nat) (xs : List Value) (hs : a.eval s = v) (hown : Row W e sz v n xs) (cs : Array Value) (hx : a.eval x = .slice (some ⟨L, 0, none⟩) 1 1) (hl : cs.size = sz) (h1 : ∀ u ∈ cs.toList, u.oneCell' = true)
    (h63 : n + 1 ≤ 140737488355328) (hbytes : (n + 1) * bytes ≤ 140737488355328)
    (h : ∀ g cap w', Row w' e sz (.slice (some ⟨g, 0, none⟩) (n + 1) cap) (n + 1) (xs ++ cs.toList) → W.grownBy w' v.ownBlock → (v.ownBlock = some g ∨ W.heap.size ≤ g) → wpList P ops Q rest (a.put o.dst (.slice (some ⟨g, 0, none⟩) (n + 1) cap)) w') :
    wpList P ops Q (o :: rest) a (W.alloc (.cells cs T)) := by
  subst hL
  exact wpList_append1 hgd s x t ho e sz bytes T z ht hinfo hzs hsz v n xs hs hown cs hx hl h1 h63 hbytes h
end
end Go.Proofs.Er
