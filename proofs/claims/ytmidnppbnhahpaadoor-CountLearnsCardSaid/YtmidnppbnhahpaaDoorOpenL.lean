import Derived.Test.YtmidnppbnhahpaaDoorSl
import Derived.Deep.Slices
import Derived.Lib.LaidU8
import Derived.SizedLaws
namespace Go.Proofs.Er
open Go Go.RowKit Go.ChangeShapes Go.WideShapes Go.Deep

theorem weightsAll_of {H : Type} {P : Program} {e : TypeId} : ∀ {l : List (DataW H)} {d : DataW H}, d ∈ l → ∀ n ∈ d.weights P e, n ∈ DataW.weightsAll P e l
  | [], _, h, _, _ => by cases h
  | x :: r, d, h, n, hn => by
    rw [DataW.weightsAll]
    rcases List.mem_cons.1 h with rfl | h
    · exact List.mem_append_left _ hn
    · exact List.mem_append_right _ (weightsAll_of h n hn)

theorem choose_list {α : Type} (p : Nat → α → Prop) : ∀ (n : Nat), (∀ i, i < n → ∃ y, p i y) → ∃ l : List α, l.length = n ∧ ∀ i y, l[i]? = some y → p i y
  | 0, _ => ⟨[], rfl, fun i y h => by simp at h⟩
  | n + 1, h => by
    obtain ⟨l, hl, hp⟩ := choose_list p n (fun i hi => h i (by omega))
    obtain ⟨y, hy⟩ := h n (by omega)
    refine ⟨l ++ [y], by simp [hl], fun i z hz => ?_⟩
    by_cases hi : i < l.length
    · rw [List.getElem?_append_left hi] at hz; exact hp i z hz
    · rw [List.getElem?_append_right (by omega)] at hz
      have : i = n := by
        have := (List.getElem?_eq_some_iff.1 hz).1
        simp at this; omega
      subst this
      simp [hl] at hz
      subst hz; exact hy

section
variable {H : Type} {enc : TypeId × Value → H} {P : Program} {w : World} {base : Nat} {spare : Nat → Bool} {held : Bool}
/-- A slice that came in, of structs or of one-cell elements: the list that it holds. -/
theorem open_list {α : Type} [Inhabited α] {t e : TypeId} {sz : Nat} (ht : P.underlying t = some (.slice e)) (hsz : P.cellsOf e = sz) (h0 : 0 < sz) (hby : 0 < P.bytesOf e) (enc' : α → List Value) (hlen : ∀ y, (enc' y).length = sz) (Good : α → Prop)
    (hel : ∀ n cs' (x : DataW H × List MemPlace), DataW.trod enc P w base spare held n e cs' = some x → (∀ k ∈ x.1.weights P e, k ≤ reachBytes) → ∃ y, cs' = enc' y ∧ Good y)
    {fuel : Nat} {cs : List Value} {x : DataW H × List MemPlace} (h : DataW.trod enc P w base spare held fuel t cs = some x) (hw : ∀ k ∈ x.1.weights P t, k ≤ reachBytes) :
    ∃ (v : Value) (l : List α), cs = [v] ∧ Sl w (fun _ => True) sz v l.length (l.flatMap enc') ∧ (∀ y ∈ l, Good y) ∧ l.length ≤ reachBytes := by
  rcases open_slice ht h with ⟨rfl, rfl⟩ | ⟨a, len, cap, m, n, D, Pl, rfl, hb, hl, hm, hmm, rfl, hi⟩
  · exact ⟨_, [], rfl, Sl.nil _ _ _ _ _, by simp, by simp⟩
  · have hle : len ≤ m := by rw [hmm]; split <;> omega
    simp only [DataW.weights, ht] at hw
    have hlw : len ≤ reachBytes := by
      have h1 := hw _ (List.mem_cons_self ..)
      simp only [List.length_map, List.length_range] at h1
      have h2 : len * 1 ≤ (len + (m - len)) * P.bytesOf e := Nat.mul_le_mul (by omega) hby
      omega
    obtain ⟨l, hll, hp⟩ := choose_list (fun i y => w.cells? base (a.add (i * P.cellsOf e)) (P.cellsOf e) = some (enc' y) ∧ Good y) len (fun i hi' => by
      obtain ⟨cs', hc, ht'⟩ := hi i (by omega)
      obtain ⟨y, rfl, hy⟩ := hel _ _ _ ht' (fun k hk => hw k (List.mem_cons_of_mem _ (List.mem_append_left _ (weightsAll_of (List.mem_map.2 ⟨i, List.mem_range.2 hi', rfl⟩) k hk))))
      exact ⟨y, hc, hy⟩)
    refine ⟨_, l, rfl, ?_, fun y hy => ?_, by omega⟩
    · refine ⟨by rw [flat_len enc' sz hlen], ?_⟩
      have hcell : ∀ i j y u, l[i]? = some y → (enc' y)[j]? = some u → w.cell? ((a.add (i * sz)).add j) = some u := fun i j y u hy hu => by
        have h1 := (hp i y hy).1
        rw [hsz] at h1
        obtain ⟨_, _, h3⟩ := World.cells?_some h1
        have hj : j < sz := by have := (List.getElem?_eq_some_iff.1 hu).1; rwa [hlen] at this
        rw [h3 j hj]; exact hu
      by_cases hn : l.length = 0
      · left; rw [← hll, hn]; exact ⟨rfl, _, _, rfl⟩
      · right
        obtain ⟨b, o, sp⟩ := a
        obtain ⟨y, hy⟩ : ∃ y, l[0]? = some y := ⟨l[0]'(by omega), List.getElem?_eq_getElem (by omega)⟩
        obtain ⟨u, hu⟩ : ∃ u, (enc' y)[0]? = some u := ⟨(enc' y)[0]'(by rw [hlen]; exact h0), List.getElem?_eq_getElem (by rw [hlen]; exact h0)⟩
        have h00 := hcell 0 0 y u hy hu
        obtain rfl : sp = none := by
          have : (Addr.add (Addr.add ⟨b, o, sp⟩ (0 * sz)) 0) = ⟨b, o, sp⟩ := by simp [Addr.add]
          rw [this] at h00
          exact cell_spot h00
        have hb0 : b < w.heap.size := by
          have := World.block_lt_of_cell? w _ h00
          rwa [add_block, add_block] at this
        refine ⟨b, o, cap, by rw [hll], by omega, trivial, hb0, fun j u hu => ?_⟩
        have hj : j < l.length * sz := by have := (List.getElem?_eq_some_iff.1 hu).1; rwa [flat_len enc' sz hlen] at this
        have hq : j / sz < l.length := (Nat.div_lt_iff_lt_mul h0).2 hj
        have hjq : j = (j / sz) * sz + j % sz := by rw [Nat.mul_comm]; exact (Nat.div_add_mod j sz).symm
        have hx : l[j / sz]? = some (l[j / sz]'hq) := List.getElem?_eq_getElem hq
        rw [hjq, flat_at enc' sz hlen _ _ _ _ hx (Nat.mod_lt _ h0)] at hu
        have := hcell _ _ _ _ hx hu
        rw [Addr.add_lit, Addr.add_lit] at this
        rw [show o + j = o + j / sz * sz + j % sz by omega]
        exact this
    · obtain ⟨i, hi'⟩ := List.mem_iff_getElem?.1 hy
      exact (hp i y hi').2
end
end Go.Proofs.Er
