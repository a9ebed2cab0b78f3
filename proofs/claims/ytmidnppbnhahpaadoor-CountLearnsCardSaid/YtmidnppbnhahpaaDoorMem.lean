import Derived.Test.YtmidnppbnhahpaaDoorGen
import Derived.WalkKit
import Derived.OwnWalkIn
import Derived.Maps.AppendAt
import Derived.Lib.Hide
namespace Go.Proofs.Er
open Go Go.RowKit

/-! ### a block of one cell -/
def Box (W : World) (B T : Nat) (v : Value) : Prop := W.heap[B]? = some (.cells #[v] T (0, 0))
section
variable {W W' : World} {B T : Nat} {v u : Value} {S : Nat → Prop}
theorem Box.lt (h : Box W B T v) : B < W.heap.size := (Array.getElem?_eq_some_iff.1 h).1
theorem Box.keep (h : Box W B T v) (hk : KeptOn S W W') (hS : S B) : Box W' B T v := (hk.block B h.lt hS).trans h
theorem Box.below (h : Box W B T v) (hk : Below W.heap.size W W') : Box W' B T v := (hk.block B h.lt).trans h
theorem Box.cell (h : Box W B T v) : W.cell? ⟨B, 0, none⟩ = some v := cell_of_one h
theorem Box.free (h : Box W B T v) : W.frozen? ⟨B, 0, none⟩ = false := free_of_one h
theorem Box.set (h : Box W B T v) (u : Value) : Box (W.setCell ⟨B, 0, none⟩ u) B T u := one_setCell h
theorem Box.far (h : Box W B T v) {p : Addr} (hp : B ≠ p.block) (u : Value) : Box (W.setCell p u) B T v := (Below.heap_setCell W p u B hp).trans h
theorem Box.alloc (h : Box W B T v) (o : Obj) : Box (W.alloc o) B T v := (Below.heap_alloc W o B h.lt).trans h
theorem Box.new (W : World) (T : Nat) (v : Value) : Box (W.alloc (.cells #[v] T)) W.heap.size T v := heap_alloc_new W _
theorem Box.drew (h : Box W B T v) : Box W.drew B T v := h
theorem Box.drewN (h : Box W B T v) (n : Nat) : Box (W.drewN n) B T v := h
theorem Box.grown (h : Box W B T v) {row : Option Nat} (hg : W.grownBy W' row) (hr : some B ≠ row) : Box W' B T v := (hg.block B h.lt hr).trans h
end

/-! ### a row of the call's own -/
abbrev Row (W : World) (e sz : Nat) (v : Value) (n : Nat) (xs : List Value) : Prop := W.ownsRow 0 e sz v n xs
section
variable {W W' : World} {e sz n : Nat} {v : Value} {xs : List Value} {S : Nat → Prop}
theorem Row.lt (h : Row W e sz v n xs) : ∀ k, v.ownBlock = some k → k < W.heap.size := fun k hk => (World.ownsRow.lt h k hk).2
theorem Row.move (h : Row W e sz v n xs) (hm : ∀ k, v.ownBlock = some k → W'.heap[k]? = W.heap[k]?) : Row W' e sz v n xs := by
  obtain ⟨h1, h2⟩ := h
  refine ⟨h1, ?_⟩
  rcases h2 with h2 | ⟨g, cap, cur, rfl, hg, hh, r⟩
  · exact .inl h2
  · exact .inr ⟨g, cap, cur, rfl, hg, (hm g rfl).trans hh, r⟩
theorem Row.keep (h : Row W e sz v n xs) (hk : KeptOn S W W') (hS : ∀ k, v.ownBlock = some k → S k) : Row W' e sz v n xs := h.move fun k hv => hk.block k (h.lt k hv) (hS k hv)
theorem Row.below (h : Row W e sz v n xs) (hk : Below W.heap.size W W') : Row W' e sz v n xs := h.move fun k hv => hk.block k (h.lt k hv)
theorem Row.drew (h : Row W e sz v n xs) : Row W.drew e sz v n xs := h
theorem Row.drewN (h : Row W e sz v n xs) (m : Nat) : Row (W.drewN m) e sz v n xs := h.move fun _ _ => rfl
theorem Row.nil (W : World) (e sz : Nat) : Row W e sz (.slice none 0 0) 0 [] := World.ownsRow_nil W 0 e sz
theorem Row.form (h : Row W e sz v n xs) : ∃ A c, v = .slice A n c ∧ n ≤ c := by
  rcases h.2 with ⟨rfl, rfl⟩ | ⟨g, cap, cur, rfl, _, _, hc, _⟩
  · exact ⟨none, 0, rfl, Nat.le_refl _⟩
  · exact ⟨_, _, rfl, hc⟩
theorem Row.far (h : Row W e sz v n xs) {p : Addr} (hp : v.ownBlock ≠ some p.block) (u : Value) : Row (W.setCell p u) e sz v n xs := ownsRow_setCell_other h hp u
/-- A box is no row of another element type. -/
theorem Row.ne_box (h : Row W e sz v n xs) {B T : Nat} {u : Value} (hb : Box W B T u) (hT : e ≠ T) : v.ownBlock ≠ some B := by
  intro he
  rcases h.2 with ⟨rfl, _⟩ | ⟨g, cap, cur, rfl, _, hh, _⟩
  · cases he
  · have : g = B := by simpa [Value.ownBlock] using he
    subst this
    unfold Box at hb
    rw [hb] at hh
    injection hh with hh
    injection hh with _ hh
    exact hT hh.symm
end

/-! ### a slice that is read: cells of elements, sz each; it lies where S says -/
def Rd (W : World) (S : Nat → Prop) (sz : Nat) (v : Value) (n : Nat) (xs : List Value) : Prop :=
  xs.length = n * sz ∧ ∃ A c, v = .slice A n c ∧ n ≤ c ∧ (0 < n → ∃ ad, A = some ad ∧ S ad.block ∧ ∀ j u, xs[j]? = some u → W.cell? (ad.add j) = some u)
theorem add_block (a : Addr) (n : Nat) : (a.add n).block = a.block := by unfold Addr.add; split <;> rfl
theorem add_add (a : Addr) (i j : Nat) : (a.add i).add j = a.add (i + j) := by
  unfold Addr.add
  by_cases hi : i = 0 <;> by_cases hj : j = 0 <;> simp [hi, hj, Nat.add_assoc]
section
variable {W W' : World} {S T : Nat → Prop} {sz n : Nat} {v : Value} {xs : List Value}
theorem Rd.nil (W : World) (S : Nat → Prop) (sz : Nat) : Rd W S sz (.slice none 0 0) 0 [] := ⟨by simp, none, 0, rfl, Nat.le_refl _, fun h => absurd h (by omega)⟩
theorem Rd.imp (h : Rd W S sz v n xs) (hS : ∀ k, k < W.heap.size → S k → T k) (hsz : 0 < sz) : Rd W T sz v n xs := by
  obtain ⟨h1, A, c, rfl, h2, h3⟩ := h
  refine ⟨h1, A, c, rfl, h2, fun hn => ?_⟩
  obtain ⟨ad, rfl, hs, hc⟩ := h3 hn
  have hl : 0 < xs.length := by rw [h1]; exact Nat.mul_pos hn hsz
  have := World.block_lt_of_cell? W _ (hc 0 _ (List.getElem?_eq_getElem hl))
  rw [add_block] at this
  exact ⟨ad, rfl, hS _ this hs, hc⟩
theorem Rd.keep (h : Rd W S sz v n xs) (hk : KeptOn S W W') : Rd W' S sz v n xs := by
  obtain ⟨h1, A, c, rfl, h2, h3⟩ := h
  refine ⟨h1, A, c, rfl, h2, fun hn => ?_⟩
  obtain ⟨ad, rfl, hs, hc⟩ := h3 hn
  refine ⟨ad, rfl, hs, fun j u hu => ?_⟩
  have hlt := World.block_lt_of_cell? W _ (hc j u hu)
  rw [add_block] at hlt
  exact (World.cell?_of_block (by rw [add_block]; exact hk.block _ hlt hs)).trans (hc j u hu)
theorem Rd.below (h : Rd W S sz v n xs) (hk : Below W.heap.size W W') : Rd W' S sz v n xs := h.keep (KeptOn.of_all hk)
theorem Rd.of_row {e : Nat} (h : Row W e sz v n xs) : Rd W (fun k => v.ownBlock = some k) sz v n xs := by
  obtain ⟨A, c, rfl, hc⟩ := h.form
  refine ⟨h.1, A, c, rfl, hc, fun hn => ?_⟩
  rcases h.2 with ⟨_, rfl⟩ | ⟨g, cap, cur, he, _, _, _, _⟩
  · omega
  · have hA : A = some ⟨g, 0, none⟩ := by injection he
    subst hA
    exact ⟨_, rfl, rfl, h.cells rfl⟩
/-- The cells of element i. -/
theorem Rd.at_ (h : Rd W S sz v n xs) {i : Nat} (hi : i < n) : ∃ ad c, v = .slice (some ad) n c ∧ n ≤ c ∧ S ad.block ∧ ∀ j u, j < sz → xs[i * sz + j]? = some u → W.cell? (ad.add (i * sz + j)) = some u := by
  obtain ⟨h1, A, c, rfl, h2, h3⟩ := h
  obtain ⟨ad, rfl, hs, hc⟩ := h3 (by omega)
  exact ⟨ad, c, rfl, h2, hs, fun j u _ hu => hc _ u hu⟩
end

/-! ### append of one element -/
section
variable {P : Program} {ops : Array Oper} {rest : List Oper} {o : Oper} {a : Act} {Q : Exit → Act → World → Prop}
theorem add_zero_ (b j : Nat) : (⟨b, 0, none⟩ : Addr).add j = ⟨b, j, none⟩ := by
  unfold Addr.add
  split <;> simp_all
theorem cells_new (w : World) (x : Array Value) (t : TypeId) : ∀ j u, x.toList[j]? = some u → (w.alloc (.cells x t)).cell? ((⟨w.heap.size, 0, none⟩ : Addr).add j) = some u := by
  intro j u hj
  have h : (w.alloc (.cells x t)).heap[w.heap.size]? = some (.cells x t (0, 0)) := heap_alloc_new w _
  rw [add_zero_, cell_of_row _ _ j x t (0, 0) h]
  simpa using hj
theorem run_append1 (W : World) (t ty e sz bytes T : Nat) (z : Value) (ht : P.underlying t = some (.slice e)) (hinfo : (P.info? e).map (fun i => (i.zero, i.size, i.bytes)) = some (some z, sz, bytes))
    (hzs : z.cells.size = sz) (hsz : 0 < sz) (v : Value) (n : Nat) (xs : List Value) (hown : Row W e sz v n xs) (x : Array Value) (hl : x.size = sz) (h1 : ∀ u ∈ x.toList, u.oneCell' = true)
    (h63 : n + 1 ≤ 140737488355328) (hbytes : (n + 1) * bytes ≤ 140737488355328) :
    ∃ g cap w', (Builtin.append_ #[t, t] ty #[v, .slice (some ⟨W.heap.size, 0, none⟩) 1 1]).run P (W.alloc (.cells x T)) = .ok (.slice (some ⟨g, 0, none⟩) (n + 1) cap) w' ∧ Row w' e sz (.slice (some ⟨g, 0, none⟩) (n + 1) cap) (n + 1) (xs ++ x.toList) ∧ W.grownBy w' v.ownBlock ∧
      (v.ownBlock = some g ∨ W.heap.size ≤ g) := by
  obtain ⟨i0, hi, hzz⟩ := Option.map_eq_some_iff.1 hinfo
  simp only [Prod.mk.injEq] at hzz
  obtain ⟨hz0, hz1, hz2⟩ := hzz
  obtain ⟨v', w', hr, h2, h3, h4, h5⟩ := run_append_own_at (P := P) (W.alloc (.cells x T)) 0 t ty e i0 z sz bytes ht hi hz0 hz1 hz2 hzs hsz v n xs (hown.alloc _) ⟨W.heap.size, 0, none⟩ 1 1 x.toList (by simp [hl]) (cells_new W x T) h1
    (by simp only [maxLen]; omega) hbytes (Nat.zero_le _)
  rcases h2.2 with ⟨_, h0⟩ | ⟨g, cap, cur, rfl, _⟩
  · omega
  refine ⟨g, cap, w', hr, h2, (World.grownBy_alloc W _ _).trans h3, ?_⟩
  rcases h5 with h5 | h5
  · exact .inl h5.symm
  · right
    have : g = (W.alloc (.cells x T)).heap.size := by simpa [Value.ownBlock] using h5
    rw [this]; simp
theorem wpListIn_append1 {F : Fence} {nF : Nat} {W : World} (hgd : o.guard = none) (s x : Operand) (t : TypeId) (ho : o.op = .call { callee := .builtin .append, args := #[s, x], argTypes := #[t, t] })
    (e sz bytes T : Nat) (z : Value) (ht : P.underlying t = some (.slice e)) (hinfo : (P.info? e).map (fun i => (i.zero, i.size, i.bytes)) = some (some z, sz, bytes)) (hzs : z.cells.size = sz) (hsz : 0 < sz)
    (v : Value) (n : Nat) (xs : List Value) (hs : a.eval s = v) (hown : Row W e sz v n xs) (cs : Array Value) (hx : a.eval x = .slice (some ⟨W.heap.size, 0, none⟩) 1 1) (hl : cs.size = sz) (h1 : ∀ u ∈ cs.toList, u.oneCell' = true)
    (h63 : n + 1 ≤ 140737488355328) (hbytes : (n + 1) * bytes ≤ 140737488355328)
    (h : ∀ g cap w', Row w' e sz (.slice (some ⟨g, 0, none⟩) (n + 1) cap) (n + 1) (xs ++ cs.toList) → W.grownBy w' v.ownBlock → (v.ownBlock = some g ∨ W.heap.size ≤ g) → wpListIn F nF P ops Q rest (a.put o.dst (.slice (some ⟨g, 0, none⟩) (n + 1) cap)) w') :
    wpListIn F nF P ops Q (o :: rest) a (W.alloc (.cells cs T)) := by
  refine wpListIn_plain hgd fun K hK => ?_
  obtain ⟨g, cap, w', hr, h2, h3, h4⟩ := run_append1 (P := P) W t o.type e sz bytes T z ht hinfo hzs hsz v n xs hown cs hl h1 h63 hbytes
  unfold Oper.wpIn
  refine ⟨?_, ?_⟩
  · simp [Oper.about, ho, resolve, Target.leads, Sem.run_pure]
  · rw [Oper.semAt_plain F _ _ (by rw [ho]; intro c hc'; cases hc')]
    simp only [execOp, ho, resolve, invoke, builtin, Sem.run_bind, Sem.run_pure, Result.andThen_ok, List.map_toArray, List.map_cons, List.map_nil, hs, hx, hr]
    exact hK _ _ (h g cap w' h2 h3 h4)
theorem wpList_append1 {W : World} (hgd : o.guard = none) (s x : Operand) (t : TypeId) (ho : o.op = .call { callee := .builtin .append, args := #[s, x], argTypes := #[t, t] })
    (e sz bytes T : Nat) (z : Value) (ht : P.underlying t = some (.slice e)) (hinfo : (P.info? e).map (fun i => (i.zero, i.size, i.bytes)) = some (some z, sz, bytes)) (hzs : z.cells.size = sz) (hsz : 0 < sz)
    (v : Value) (n : Nat) (xs : List Value) (hs : a.eval s = v) (hown : Row W e sz v n xs) (cs : Array Value) (hx : a.eval x = .slice (some ⟨W.heap.size, 0, none⟩) 1 1) (hl : cs.size = sz) (h1 : ∀ u ∈ cs.toList, u.oneCell' = true)
    (h63 : n + 1 ≤ 140737488355328) (hbytes : (n + 1) * bytes ≤ 140737488355328)
    (h : ∀ g cap w', Row w' e sz (.slice (some ⟨g, 0, none⟩) (n + 1) cap) (n + 1) (xs ++ cs.toList) → W.grownBy w' v.ownBlock → (v.ownBlock = some g ∨ W.heap.size ≤ g) → wpList P ops Q rest (a.put o.dst (.slice (some ⟨g, 0, none⟩) (n + 1) cap)) w') :
    wpList P ops Q (o :: rest) a (W.alloc (.cells cs T)) := by
  refine wpList_plain hgd fun K hK => ?_
  obtain ⟨g, cap, w', hr, h2, h3, h4⟩ := run_append1 (P := P) W t o.type e sz bytes T z ht hinfo hzs hsz v n xs hown cs hl h1 h63 hbytes
  unfold Oper.wp execOp
  simp only [ho, resolve, invoke, builtin, Sem.run_bind, Sem.run_pure, Result.andThen_ok, List.map_toArray, List.map_cons, List.map_nil, hs, hx, hr]
  exact hK _ _ (h g cap w' h2 h3 h4)
end
theorem cellB {w w' : World} {p : Addr} {v : Value} (h : Below w.heap.size w w') (hc : w.cell? p = some v) : w'.cell? p = some v := (h.cell (World.block_lt_of_cell? w _ hc)).trans hc
theorem cellK {S : Nat → Prop} {w w' : World} {p : Addr} {v : Value} (h : KeptOn S w w') (hc : w.cell? p = some v) (hS : S p.block) : w'.cell? p = some v :=
  (World.cell?_of_block (h.block _ (World.block_lt_of_cell? w _ hc) hS)).trans hc
theorem one1 {v : Value} (h : v.oneCell' = true) : ∀ u ∈ (#[v] : Array Value).toList, u.oneCell' = true := by
  intro u hu
  simp at hu
  subst hu
  exact h
theorem one2 {v1 v2 : Value} (h1 : v1.oneCell' = true) (h2 : v2.oneCell' = true) : ∀ u ∈ (#[v1, v2] : Array Value).toList, u.oneCell' = true := by
  intro u hu
  simp at hu
  rcases hu with rfl | rfl <;> assumption
theorem one3 {v1 v2 v3 : Value} (h1 : v1.oneCell' = true) (h2 : v2.oneCell' = true) (h3 : v3.oneCell' = true) : ∀ u ∈ (#[v1, v2, v3] : Array Value).toList, u.oneCell' = true := by
  intro u hu
  simp at hu
  rcases hu with rfl | rfl | rfl <;> assumption
theorem bd1 {n k : Nat} (h : n ≤ k) (hk : k ≤ 140737488355328) : n ≤ 140737488355328 := Nat.le_trans h hk
theorem bd2 {n k b : Nat} (h : n ≤ k) (hk : k * b ≤ 140737488355328) : n * b ≤ 140737488355328 := Nat.le_trans (Nat.mul_le_mul_right b h) hk
end Go.Proofs.Er
