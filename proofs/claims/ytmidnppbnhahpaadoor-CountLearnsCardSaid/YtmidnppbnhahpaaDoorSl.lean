import Derived.Test.YtmidnppbnhahpaaDoorMem
import Derived.Test.YtmidnppbnhahpaaDoorRowQ
namespace Go.Proofs.Er
open Go Go.RowKit Go.Sort
/-- A slice that is read, of n elements of sz cells: it lies in a block of S. -/
def Sl (W : World) (S : Nat → Prop) (sz : Nat) (v : Value) (n : Nat) (xs : List Value) : Prop :=
  xs.length = n * sz ∧ ((n = 0 ∧ ∃ A c, v = .slice A 0 c) ∨
    ∃ b off c, v = .slice (some ⟨b, off, none⟩) n c ∧ n ≤ c ∧ S b ∧ b < W.heap.size ∧ ∀ (j : Nat) u, xs[j]? = some u → W.cell? ⟨b, off + j, none⟩ = some u)
section
variable {W W' : World} {S T : Nat → Prop} {sz n : Nat} {v : Value} {xs : List Value}
theorem Sl.nil (W : World) (S : Nat → Prop) (sz : Nat) (A : Option Addr) (c : Nat) : Sl W S sz (.slice A 0 c) 0 [] := ⟨by simp, .inl ⟨rfl, A, c, rfl⟩⟩
theorem Sl.imp (h : Sl W S sz v n xs) (hS : ∀ k, k < W.heap.size → S k → T k) : Sl W T sz v n xs := by
  obtain ⟨h1, h2 | ⟨b, off, c, rfl, h3, h4, h5, h6⟩⟩ := h
  · exact ⟨h1, .inl h2⟩
  · exact ⟨h1, .inr ⟨b, off, c, rfl, h3, hS b h5 h4, h5, h6⟩⟩
theorem Sl.keep (h : Sl W S sz v n xs) (hk : KeptOn S W W') : Sl W' S sz v n xs := by
  obtain ⟨h1, h2 | ⟨b, off, c, rfl, h3, h4, h5, h6⟩⟩ := h
  · exact ⟨h1, .inl h2⟩
  · exact ⟨h1, .inr ⟨b, off, c, rfl, h3, h4, Nat.lt_of_lt_of_le h5 hk.size, fun j u hu => cellK hk (h6 j u hu) h4⟩⟩
theorem Sl.below (h : Sl W S sz v n xs) (hk : Below W.heap.size W W') : Sl W' S sz v n xs := h.keep (KeptOn.of_all hk)
theorem Sl.drew (h : Sl W S sz v n xs) : Sl W.drew S sz v n xs := h.keep ((KeptOn.refl _ _).drew)
theorem Sl.of_row {e : Nat} (h : Row W e sz v n xs) : Sl W (fun k => v.ownBlock = some k) sz v n xs := by
  refine ⟨h.1, ?_⟩
  rcases h.2 with ⟨rfl, rfl⟩ | ⟨g, cap, cur, rfl, _, hh, hc, _, _, ht⟩
  · exact .inl ⟨rfl, none, 0, rfl⟩
  · refine .inr ⟨g, 0, cap, rfl, hc, rfl, (Array.getElem?_eq_some_iff.1 hh).1, fun j u hu => ?_⟩
    have := h.cells rfl j u hu
    rw [add_zero_] at this
    simpa using this
theorem Sl.len (h : Sl W S sz v n xs) : xs.length = n * sz := h.1
theorem Sl.form (h : Sl W S sz v n xs) : ∃ A c, v = .slice A n c := by
  obtain ⟨h1, ⟨rfl, A, c, rfl⟩ | ⟨b, off, c, rfl, _⟩⟩ := h
  · exact ⟨A, c, rfl⟩
  · exact ⟨_, c, rfl⟩
/-- Where it has an element: its block. -/
theorem Sl.at_ (h : Sl W S sz v n xs) (hn : 0 < n) : ∃ b off c, v = .slice (some ⟨b, off, none⟩) n c ∧ n ≤ c ∧ S b ∧ b < W.heap.size ∧ ∀ (j : Nat) u, xs[j]? = some u → W.cell? ⟨b, off + j, none⟩ = some u := by
  obtain ⟨h1, ⟨rfl, _⟩ | h2⟩ := h
  · omega
  · exact h2
end
/-- The cells of element i of a list. -/
theorem flat_at {α : Type} (enc : α → List Value) (k : Nat) (hk : ∀ x, (enc x).length = k) (l : List α) (i j : Nat) (x : α) (hx : l[i]? = some x) (hj : j < k) : (l.flatMap enc)[i * k + j]? = (enc x)[j]? := by
  induction l generalizing i with
  | nil => simp at hx
  | cons a l ih =>
    rw [List.flatMap_cons]
    cases i with
    | zero =>
      simp at hx; subst hx
      rw [List.getElem?_append_left (by rw [hk]; omega)]; simp
    | succ i =>
      rw [List.getElem?_append_right (by rw [hk, Nat.succ_mul]; omega), hk]
      rw [show (i + 1) * k + j - k = i * k + j by rw [Nat.succ_mul]; omega]
      exact ih i (by simpa using hx)
theorem Sl.elem {α : Type} {enc : α → List Value} {k : Nat} (hk : ∀ x, (enc x).length = k) {W : World} {b off : Nat} {l : List α} (h : ∀ (j : Nat) u, (l.flatMap enc)[j]? = some u → W.cell? ⟨b, off + j, none⟩ = some u) (i : Nat) (x : α) (hx : l[i]? = some x) (j : Nat) (u : Value) (hu : (enc x)[j]? = some u) :
    W.cell? ⟨b, off + (i * k + j), none⟩ = some u := by
  have hj : j < k := by have := (List.getElem?_eq_some_iff.1 hu).1; rwa [hk] at this
  exact h _ _ (by rw [flat_at enc k hk l i j x hx hj]; exact hu)
/-- A piece of it. -/
theorem Sl.sub {α : Type} [Inhabited α] {enc : α → List Value} {k : Nat} (hk : ∀ x, (enc x).length = k) {W : World} {S : Nat → Prop} {b off n c : Nat} {l : List α} (hl : l.length = n) (h : Sl W S k (.slice (some ⟨b, off, none⟩) n c) n (l.flatMap enc)) (lo hi : Nat) (h1 : lo < hi) (h2 : hi ≤ n) (c' : Nat) (hc' : hi - lo ≤ c') :
    Sl W S k (.slice (some ⟨b, off + lo * k, none⟩) (hi - lo) c') (hi - lo) (((l.take hi).drop lo).flatMap enc) := by
  have hlen : ((l.take hi).drop lo).length = hi - lo := by simp; omega
  obtain ⟨b', off', c'', he, _, hS, hb, hc⟩ := h.at_ (by omega)
  injection he with he1 he2 he3
  injection he1 with he1
  injection he1 with hb1 ho1
  subst hb1 ho1
  refine ⟨by rw [flat_len enc k hk, hlen], .inr ⟨b, off + lo * k, c', rfl, hc', hS, hb, fun j u hu => ?_⟩⟩
  have hj : j < (hi - lo) * k := by have := (List.getElem?_eq_some_iff.1 hu).1; rwa [flat_len enc k hk, hlen] at this
  have k0 : 0 < k := by rcases Nat.eq_zero_or_pos k with h0 | h0; · subst h0; simp at hj
                        · exact h0
  have hq : j / k < hi - lo := (Nat.div_lt_iff_lt_mul k0).2 hj
  have hm : j % k < k := Nat.mod_lt _ k0
  have hjq : j = (j / k) * k + j % k := by rw [Nat.mul_comm]; exact (Nat.div_add_mod j k).symm
  have hx : ((l.take hi).drop lo)[j / k]? = some (l[lo + j / k]'(by omega)) := by
    rw [List.getElem?_drop, List.getElem?_take_of_lt (by omega), List.getElem?_eq_getElem (by omega)]
  rw [hjq, flat_at enc k hk _ _ _ _ hx hm] at hu
  have hx2 : l[lo + j / k]? = some (l[lo + j / k]'(by omega)) := List.getElem?_eq_getElem (by omega)
  have := hc ((lo + j / k) * k + j % k) u (by rw [flat_at enc k hk _ _ _ _ hx2 hm]; exact hu)
  rw [show off + lo * k + j = off + ((lo + j / k) * k + j % k) by rw [Nat.add_mul]; omega]
  exact this
end Go.Proofs.Er
