import Derived.Test.YtmidnppbnhahpaaDoorWF
import Derived.Deep.RegionHeld3
import Derived.Deep.DeepCutAuto
import Derived.Deep.OwnRows
import Derived.LoopTactic
namespace Go.Proofs.Er
open Go Go.RowKit Go.Shelf Go.Proofs
attribute [local go_sem] Oper.semAt_some

def tabC (N : Nat) (f : Nat → Nat) : Array Value := Array.ofFn (n := N) fun i => Value.int .u8 (f i)
theorem tabC_size (N : Nat) (f : Nat → Nat) : (tabC N f).size = N := by simp [tabC]
theorem tabC_get (N : Nat) (f : Nat → Nat) (i : Nat) (h : i < N) : (tabC N f)[i]? = some (.int .u8 (f i)) := by simp [tabC, h]
theorem tabC_set (N : Nat) (f f' : Nat → Nat) (i v : Nat) (hv : f' i = v) (ho : ∀ j, j ≠ i → f' j = f j) : (tabC N f).setIfInBounds i (.int .u8 v) = tabC N f' := by
  apply Array.ext
  · simp [tabC]
  · intro k h1 h2
    by_cases e : i = k
    · subst e; simp [tabC, hv]
    · rw [Array.getElem_setIfInBounds_ne (by simpa using h1) e]; simp [tabC, ho k (fun x => e x.symm)]
theorem tabC_ext (N : Nat) (f f' : Nat → Nat) (h : ∀ i, f i = f' i) : tabC N f = tabC N f' := by
  have : f = f' := funext h
  rw [this]

def fewT (a b : List Int) (d x : Nat) : Nat := if x < d then (gridF a b (x / (b.length + 1)) (x % (b.length + 1))).2 else 0
def kindT (a b : List Int) (d x : Nat) : Nat := if x < d then (gridF a b (x / (b.length + 1)) (x % (b.length + 1))).1 else 0

/-- A grid that is being filled: the first d places are filled. -/
structure FG (W2 : World) (va vb : Value) (a b : List Int) (G F K N d : Nat) (W : World) : Prop where
  kept : Below W2.heap.size W2 W
  lg : W2.heap.size ≤ G
  lf : W2.heap.size ≤ F
  lk : W2.heap.size ≤ K
  gf : G ≠ F
  gk : G ≠ K
  fk : F ≠ K
  g : W.heap[G]? = some (.cells #[va, vb, .slice (some ⟨F, 0, none⟩) N N, .slice (some ⟨K, 0, none⟩) N N] 117 (0, 0))
  f : W.heap[F]? = some (.cells (tabC N (fewT a b d)) 5 (0, 0))
  k : W.heap[K]? = some (.cells (tabC N (kindT a b d)) 5 (0, 0))

theorem FG.below {W2 : World} {va vb : Value} {a b : List Int} {G F K N d : Nat} {W W' : World} (h : FG W2 va vb a b G F K N d W) (hb : Below W.heap.size W W') : FG W2 va vb a b G F K N d W' :=
  have lt : ∀ {k : Nat} {o : Obj}, W.heap[k]? = some o → k < W.heap.size := fun hh => (Array.getElem?_eq_some_iff.1 hh).1
  ⟨h.kept.trans (hb.mono h.kept.size), h.lg, h.lf, h.lk, h.gf, h.gk, h.fk, (hb.block _ (lt h.g)).trans h.g, (hb.block _ (lt h.f)).trans h.f, (hb.block _ (lt h.k)).trans h.k⟩

theorem grid_row {W : World} {v : Value} {a : List Int} (h : Row W 21 1 v a.length (a.map (Value.int .i32))) : ∃ A c, v = .slice A a.length c ∧ (0 < a.length → ∃ ad, A = some ad ∧ ∀ (i : Nat) x, a[i]? = some x → W.cell? (ad.add i) = some (.int .i32 x)) := by
  obtain ⟨_, A, c, rfl, _, h3⟩ := Rd.of_row h
  refine ⟨A, c, rfl, fun hn => ?_⟩
  obtain ⟨ad, rfl, _, hc⟩ := h3 hn
  exact ⟨ad, rfl, fun i x hx => hc i _ (by simp [hx])⟩
theorem cell_at {W : World} {g o : Nat} {cs : Array Value} {T : Nat} {v : Value} (h : W.heap[g]? = some (.cells cs T (0, 0))) (hv : cs[o]? = some v) : W.cell? ⟨g, o, none⟩ = some v := by
  rw [cell_of_row _ _ _ _ _ _ h]; exact hv
theorem FG.grid {W2 : World} {va vb : Value} {a b : List Int} {G F K N d : Nat} {W : World} (h : FG W2 va vb a b G F K N d W) (ra : Row W2 21 1 va a.length (a.map (Value.int .i32))) (rb : Row W2 21 1 vb b.length (b.map (Value.int .i32))) (la : a.length ≤ 64) (lb : b.length ≤ 64) :
    Grid W G a b (some ⟨F, 0, none⟩) (some ⟨K, 0, none⟩) N := by
  obtain ⟨A, c, rfl, hA⟩ := grid_row (ra.below h.kept)
  obtain ⟨B, c', rfl, hB⟩ := grid_row (rb.below h.kept)
  exact ⟨la, lb, ⟨_, _, cell_at h.g rfl, hA⟩, ⟨_, _, cell_at h.g rfl, hB⟩, ⟨_, cell_at h.g rfl⟩, ⟨_, cell_at h.g rfl⟩⟩
theorem FG.few {W2 : World} {va vb : Value} {a b : List Int} {G F K N d : Nat} {W : World} (h : FG W2 va vb a b G F K N d W) {i j : Nat} (hj : j ≤ b.length) (hd : i * (b.length + 1) + j < d) (hN : i * (b.length + 1) + j < N) :
    W.cell? ((⟨F, 0, none⟩ : Addr).add (i * (b.length + 1) + j)) = some (.int .u8 ((gridF a b i j).2 : Nat)) := by
  have h1 : (i * (b.length + 1) + j) / (b.length + 1) = i := by
    rw [Nat.mul_comm, Nat.mul_add_div (by omega), Nat.div_eq_of_lt (by omega)]; rfl
  have h2 : (i * (b.length + 1) + j) % (b.length + 1) = j := by
    rw [Nat.mul_comm, Nat.mul_add_mod, Nat.mod_eq_of_lt (by omega)]
  rw [add_zero_]
  refine cell_at h.f ?_
  rw [tabC_get _ _ _ hN, fewT, if_pos hd, h1, h2]
theorem FG.kind {W2 : World} {va vb : Value} {a b : List Int} {G F K N d : Nat} {W : World} (h : FG W2 va vb a b G F K N d W) {i j : Nat} (hj : j ≤ b.length) (hd : i * (b.length + 1) + j < d) (hN : i * (b.length + 1) + j < N) :
    W.cell? ((⟨K, 0, none⟩ : Addr).add (i * (b.length + 1) + j)) = some (.int .u8 ((gridF a b i j).1 : Nat)) := by
  have h1 : (i * (b.length + 1) + j) / (b.length + 1) = i := by
    rw [Nat.mul_comm, Nat.mul_add_div (by omega), Nat.div_eq_of_lt (by omega)]; rfl
  have h2 : (i * (b.length + 1) + j) % (b.length + 1) = j := by
    rw [Nat.mul_comm, Nat.mul_add_mod, Nat.mod_eq_of_lt (by omega)]
  rw [add_zero_]
  refine cell_at h.k ?_
  rw [tabC_get _ _ _ hN, kindT, if_pos hd, h1, h2]

theorem best_calls {W2 : World} {va vb : Value} {a b : List Int} {G F K N : Nat} {W : World} (i j : Nat) (h : FG W2 va vb a b G F K N (i * (b.length + 1) + j) W) (ra : Row W2 21 1 va a.length (a.map (Value.int .i32))) (rb : Row W2 21 1 vb b.length (b.map (Value.int .i32)))
    (la : a.length ≤ 64) (lb : b.length ≤ 64) (hN : N = (a.length + 1) * (b.length + 1)) (hi : i ≤ a.length) (hj : j ≤ b.length) (h0 : 0 < i + j) :
    Calls Tryd.prog 84 #[.pointer (some ⟨G, 0, none⟩), .int .i64 (i : Int), .int .i64 (j : Int)] W fun e w' =>
      e = .returned (.tuple #[.int .u8 ((gridF a b i j).1 : Nat), .int .u8 ((gridF a b i j).2 : Nat)]) ∧ Below W.heap.size W w' := by
  have hg := h.grid ra rb la lb
  have hN2 : N ≤ 5000 := by
    have := Nat.mul_le_mul (show a.length + 1 ≤ 65 by omega) (show b.length + 1 ≤ 65 by omega)
    omega
  have q1 : (a.length + 1) * (b.length + 1) = a.length * (b.length + 1) + (b.length + 1) := by rw [Nat.succ_mul]
  have q2 : i * (b.length + 1) ≤ a.length * (b.length + 1) := Nat.mul_le_mul_right _ hi
  cases i with
  | zero =>
    cases j with
    | zero => omega
    | succ j =>
      have := best_top a b G ⟨F, 0, none⟩ _ N j (gridF a b 0 j).2 W hg (by omega) hN2 (by omega) (by have := h.few (i := 0) (j := j) (by omega) (by omega) (by omega); simpa using this) (by have := gridF_le a b 0 j; omega)
      refine this.mono ?_
      rintro e w' ⟨rfl, hb⟩
      exact ⟨rfl, hb⟩
  | succ i =>
    have q3 : (i + 1) * (b.length + 1) = i * (b.length + 1) + (b.length + 1) := by rw [Nat.succ_mul]
    cases j with
    | zero =>
      have := best_left a b G ⟨F, 0, none⟩ _ N i (gridF a b i 0).2 W hg (by omega) hN2 (by omega) (by have := h.few (i := i) (j := 0) (by omega) (by omega) (by omega); simpa using this) (by have := gridF_le a b i 0; omega)
      refine this.mono ?_
      rintro e w' ⟨rfl, hb⟩
      exact ⟨rfl, hb⟩
    | succ j =>
      have := best_both a b G ⟨F, 0, none⟩ ⟨K, 0, none⟩ N i j (gridF a b i j).2 (gridF a b i (j + 1)).2 (gridF a b (i + 1) j).2 W hg (by omega) hN2 (by omega) (by omega)
        (h.few (by omega) (by omega) (by omega)) (h.few (by omega) (by omega) (by omega)) (h.few (by omega) (by omega) (by omega))
        (by have := gridF_le a b i j; omega) (by have := gridF_le a b i (j + 1); omega) (by have := gridF_le a b (i + 1) j; omega)
      refine this.mono ?_
      rintro e w' ⟨rfl, hb⟩
      exact ⟨rfl, hb⟩
end Go.Proofs.Er
