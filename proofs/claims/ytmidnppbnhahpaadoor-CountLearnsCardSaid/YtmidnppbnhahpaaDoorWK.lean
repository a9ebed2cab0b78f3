import Derived.Test.YtmidnppbnhahpaaDoorWJ
import Derived.Test.YtmidnppbnhahpaaDoorRowQ
namespace Go.Proofs.Er
open Go Go.RowKit Go.Shelf Go.Proofs Go.Sort
attribute [local go_sem] Oper.semAt_some

theorem cStp_len (x : Stp) : (cStp x).length = 3 := rfl
theorem cStp_one (x : Stp) : ∀ v ∈ cStp x, v.oneCell' = true := by intro v hv; simp [cStp] at hv; rcases hv with rfl | rfl | rfl <;> rfl

theorem collectStp_calls {g : Nat} {lb : Array Value} {It Rd : Nat → Prop} {G : List Stp → Stp → Prop} {S Sp : List Stp → Prop} (w : World)
    (eg : ∀ args w, (callFunc g args).run Tryd.prog w = .ok (.enter g args) w)
    (hit : IterC Tryd.prog g lb (fun s : Stp => #[encStp s]) It Rd (fun _ => False) (fun pre x _ => G pre x) (fun xs _ => S xs) (fun pre _ => Sp pre) w) (hItl : ∀ k, It k ∨ Rd k → k < w.heap.size) (hG : ∀ pre x, G pre x → pre.length + 1 ≤ 1000000) :
    Calls Tryd.prog 61 #[.func (.func g) #[] lb] w fun e w' => ∃ xs v, e = .returned v ∧ S xs ∧ KeptOn (fun k => ¬ It k) w w' ∧ Row w' 136 3 v xs.length (xs.flatMap cStp) ∧ ∀ k, v.ownBlock = some k → w.heap.size ≤ k := by
  have C := appendSeqStp_calls w eg hit hItl hG
  go_enter Tryd.func61, Tryd.ntmps61
  go_wp2_with fail
  refine C.mono ?_
  rintro e w' ⟨xs, v, rfl, h⟩
  have H := Lib.hid h
  clear h
  go_wp2
  go_ret
  exact ⟨xs, v, rfl, H.out⟩

theorem reverseStp_calls (l : List Stp) (v : Value) (w : World) (h : Row w 136 3 v l.length (l.flatMap cStp)) (hl : l.length ≤ 1000000) :
    Calls Tryd.prog 63 #[v] w fun e w' => e = .returned (.tuple #[]) ∧ Row w' 136 3 v l.reverse.length (l.reverse.flatMap cStp) ∧ KeptOn (fun k => v.ownBlock ≠ some k) w w' := by
  have h0 := h
  rcases h.2 with ⟨rfl, hn⟩ | ⟨g, cap, cur, rfl, _, _, _, _⟩
  · have : l = [] := List.length_eq_zero_iff.1 hn
    subst this
    refine (AnyQ.slices_Reverse_empty Tryd.revStep none 0 w).mono ?_
    rintro e w' ⟨rfl, rfl⟩
    exact ⟨rfl, h0, KeptOn.refl _ _⟩
  · have hH := holdsK_of_row cStp_len rfl h0
    have := AnyQ.slices_Reverse Tryd.revStep 3 (fun _ => by kernel_rfl) (fun _ => by kernel_rfl) cStp cStp_len cStp_one g 0 cap l.toArray w hH (by simp; omega)
    rw [show (l.toArray).size = l.length by simp] at this
    refine this.mono ?_
    rintro e w' ⟨rfl, n, rfl⟩
    refine ⟨rfl, ?_, (kept_putRow id w n g 0 _).imp (fun k _ hk => by simpa [Value.ownBlock, eq_comm] using hk)⟩
    have := row_putRowK cStp_len h0 n l.toArray.reverse (by simp)
    simpa using this

def stepsR (n t : ByteArray) : List Stp × Int :=
  if (tokenF n).2 ≠ 0 then ([], (tokenF n).2) else if (tokenF t).2 ≠ 0 then ([], (tokenF t).2) else (stepsF (tokenF n).1 (tokenF t).1, 0)

theorem backF_len (a b : List Int) (f i j : Nat) : (backF a b f i j).length ≤ f := by
  induction f generalizing i j with
  | zero => simp [backF]
  | succ f ih =>
    unfold backF
    split
    · simp
    · simp only [List.length_cons]; have := ih (if (gridF a b i j).1 = 3 then i else i - 1) (if (gridF a b i j).1 = 2 then j else j - 1); omega

theorem steps_calls (n t : ByteArray) (w : World) (hT : Tabs w) (hgw : 0 < w.heap.size ∧ 1 < w.heap.size) (hn : n.size ≤ 1000000) (ht : t.size ≤ 1000000) :
    Calls Tryd.prog 32 #[.string n, .string t] w fun e w' => ∃ v, e = .returned (.tuple #[v, .int .i64 (stepsR n t).2]) ∧ Below w.heap.size w w' ∧ Row w' 136 3 v (stepsR n t).1.length ((stepsR n t).1.flatMap cStp) ∧ ∀ k, v.ownBlock = some k → w.heap.size ≤ k := by
  have C := fill_calls n t w hT hgw hn ht
  unfold stepsR
  unfold FillP at C
  by_cases h1 : (tokenF n).2 ≠ 0
  · simp only [if_pos h1] at C ⊢
    have hb1 : ((tokenF n).2 != 0) = true := by simpa using h1
    have H1 := Lib.hid h1
    clear h1
    go_enter Tryd.func32, Tryd.ntmps32
    go_wp2_with fail
    refine C.mono ?_
    rintro e w1 ⟨hB, rfl⟩
    go_wp2
    go_ret2
    exact ⟨_, rfl, hB, Row.nil _ _ _, by intro k h; cases h⟩
  · by_cases h2 : (tokenF t).2 ≠ 0
    · simp only [if_neg h1, if_pos h2] at C ⊢
      have hb1 : ((tokenF t).2 != 0) = true := by simpa using h2
      have H1 := Lib.hid h1
      have H2 := Lib.hid h2
      clear h1 h2
      go_enter Tryd.func32, Tryd.ntmps32
      go_wp2_with fail
      refine C.mono ?_
      rintro e w1 ⟨hB, rfl⟩
      go_wp2
      go_ret2
      exact ⟨_, rfl, hB, Row.nil _ _ _, by intro k h; cases h⟩
    · simp only [if_neg h1, if_neg h2] at C ⊢
      have la := tokenF_len n (by omega)
      have lb := tokenF_len t (by omega)
      have H1 := Lib.hid h1
      have H2 := Lib.hid h2
      clear h1 h2
      generalize (tokenF n).1 = a at C la ⊢
      generalize (tokenF t).1 = b at C lb ⊢
      rw [show stepsF a b = (backF a b (a.length + b.length) a.length b.length).reverse from rfl]
      obtain ⟨X, hX⟩ : ∃ X, X = backF a b (a.length + b.length) a.length b.length := ⟨_, rfl⟩
      rw [← hX]
      have hl : X.length ≤ a.length + b.length := by rw [hX]; exact backF_len _ _ _ _ _
      have HX := Lib.hid hX
      clear hX
      go_enter Tryd.func32, Tryd.ntmps32
      go_wp2_with fail
      refine C.mono ?_
      rintro e w1 ⟨hB, W2, va, vb, G, F, K, rfl, hB2, ra, rb, hF⟩
      clear C
      have HF := Lib.hid hF
      have HRA := Lib.hid ra
      have HRB := Lib.hid rb
      clear hF ra rb
      go_wp2_with fail
      refine (back_calls G w1).mono ?_
      rintro e w3 ⟨rfl, rfl⟩
      have hb3 := Box.new w1 113 (.pointer (some ⟨G, 0, none⟩))
      have hB3 : Below w1.heap.size w1 (w1.alloc (.cells #[.pointer (some ⟨G, 0, none⟩)] 113)) := (Below.refl _ _).alloc (Nat.le_refl _) _
      have hF3 := HF.out.below hB3
      have hit := back_iter w1.heap.size (fun _ => False) _ hb3 rfl hF3 HRA.out HRB.out la lb
      have hCol := collectStp_calls (w1.alloc (.cells #[.pointer (some ⟨G, 0, none⟩)] 113)) (enters_of Tryd.func96 (by kernel_rfl) rfl) hit (fun k hk => hk.elim (fun h => h.elim) id) (fun pre x h => by
        have h1 := h.length_le
        have h2 := backF_len a b (a.length + b.length) a.length b.length
        simp only [List.length_append, List.length_cons, List.length_nil] at h1
        omega)
      clear hit hF3
      generalize (w1.alloc (.cells #[.pointer (some ⟨G, 0, none⟩)] 113)) = w3 at hb3 hB3 hCol ⊢
      go_wp2_with fail
      refine hCol.mono ?_
      rintro e w4 ⟨xs, v, rfl, hxs, hk4, hrow, hloc⟩
      obtain rfl : xs = X := hxs.trans HX.out.symm
      have hs3 := hB3.size
      have hs1 := hB.size
      clear hCol hxs HX
      have hrev := reverseStp_calls xs v w4 hrow (by omega)
      have HL := Lib.hid hloc
      clear hloc hrow
      go_wp2_with fail
      refine hrev.mono ?_
      rintro e w5 ⟨rfl, hrow5, hk5⟩
      have HR5 := Lib.hid hrow5
      clear hrow5 hrev
      go_wp2
      go_ret2
      refine ⟨v, rfl, ?_, HR5.out, fun k h => by have := HL.out k h; omega⟩
      have h3 : KeptOn (fun k => k < w.heap.size) w w3 := (KeptOn.of_below (hB.trans (hB3.mono hs1)))
      have h4 := h3.trans hk4 (S := fun k => k < w.heap.size) (fun _ _ _ h => h)
      have h5 := h4.trans hk5 (S := fun k => k < w.heap.size) (fun k _ hk h => by have := HL.out k h; omega)
      exact h5.below (Nat.le_refl _) (fun _ h => h)
end Go.Proofs.Er
