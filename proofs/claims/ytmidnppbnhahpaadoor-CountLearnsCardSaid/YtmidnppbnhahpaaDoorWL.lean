import Derived.Test.YtmidnppbnhahpaaDoorWK
import Derived.Test.YtmidnppbnhahpaaDoorSl
import Derived.Shelf.SlicesQ.IndexFunc
namespace Go.Proofs.Er
open Go Go.RowKit Go.Shelf Go.Proofs Go.Sort
attribute [local go_sem] Oper.semAt_some

theorem may_calls (s : Stp) (w : World) : Calls Tryd.prog 99 #[encStp s] w fun e w' => e = .returned (.bool (mayF s)) ∧ Below w.heap.size w w' := by
  obtain ⟨k, a, b⟩ := s
  have CA := fun W => Tryd.utf8_ValidRune a W
  have CB := fun W => Tryd.utf8_ValidRune b W
  have hm : mayF ⟨k, a, b⟩ = (Lib.validRune a && Lib.validRune b && (if k = 0 then a == b else if k = 1 then a != b else if k = 2 then b == 0 else if k = 3 then a == 0 else false)) := rfl
  unfold encStp
  have hB : Below w.heap.size w (w.alloc (.cells #[.int .i64 k, .int .i32 a, .int .i32 b] 136)) := (Below.refl _ w).alloc (Nat.le_refl _) _
  generalize mayF ⟨k, a, b⟩ = m at hm ⊢
  generalize Lib.validRune a = va at hm CA
  generalize Lib.validRune b = vb at hm CB
  have HM := Lib.hid hm
  have HB := Lib.hid hB
  clear hm hB
  have key : ∀ (k0 k1 k2 k3 : Bool), (k == 0) = k0 → (k == 1) = k1 → (k == 2) = k2 → (k == 3) = k3 → ∀ r : Bool, m = r → (k0 = true ∨ k1 = true ∨ k2 = true ∨ k3 = true ∨ (k0 = false ∧ k1 = false ∧ k2 = false ∧ k3 = false)) → True := fun _ _ _ _ _ _ _ _ _ _ _ => trivial
  clear key
  cases va <;> cases vb
  case true.true =>
    rcases (by omega : k = 0 ∨ k = 1 ∨ k = 2 ∨ k = 3 ∨ (k ≠ 0 ∧ k ≠ 1 ∧ k ≠ 2 ∧ k ≠ 3)) with rfl | rfl | rfl | rfl | ⟨n0, n1, n2, n3⟩
    case inr.inr.inr.inr =>
      have b0 : (k == 0) = false := by simpa using n0
      have b1 : (k == 1) = false := by simpa using n1
      have b2 : (k == 2) = false := by simpa using n2
      have b3 : (k == 3) = false := by simpa using n3
      have hmf : m = false := by rw [HM.out]; simp [n0, n1, n2, n3]
      clear n0 n1 n2 n3 HM
      subst hmf
      go_enter Tryd.func99, Tryd.ntmps99
      go_wp2_with (first | (go_at_call_of 126 (Value.int IntKind.i32 a); refine (CA _).mono ?_; rintro e w' ⟨rfl, rfl⟩) | (go_at_call_of 126 (Value.int IntKind.i32 b); refine (CB _).mono ?_; rintro e w' ⟨rfl, rfl⟩))
      go_ret
      exact ⟨rfl, HB.out⟩
    all_goals
      go_enter Tryd.func99, Tryd.ntmps99
      go_wp2_with (first | (go_at_call_of 126 (Value.int IntKind.i32 a); refine (CA _).mono ?_; rintro e w' ⟨rfl, rfl⟩) | (go_at_call_of 126 (Value.int IntKind.i32 b); refine (CB _).mono ?_; rintro e w' ⟨rfl, rfl⟩))
      go_ret
      exact ⟨by rw [HM.out]; simp, HB.out⟩
  all_goals
    go_enter Tryd.func99, Tryd.ntmps99
    go_wp2_with (first | (go_at_call_of 126 (Value.int IntKind.i32 a); refine (CA _).mono ?_; rintro e w' ⟨rfl, rfl⟩) | (go_at_call_of 126 (Value.int IntKind.i32 b); refine (CB _).mono ?_; rintro e w' ⟨rfl, rfl⟩))
    go_ret
    exact ⟨by rw [HM.out]; simp, HB.out⟩

theorem checkP_calls (s : Stp) (w : World) : Calls Tryd.prog 98 #[encStp s] w fun e w' => e = .returned (.bool (!mayF s)) ∧ Below w.heap.size w w' := by
  have hB : Below w.heap.size w (w.alloc (.cells #[.int .i64 s.k, .int .i32 s.a, .int .i32 s.b] 136)) := (Below.refl _ w).alloc (Nat.le_refl _) _
  have C := may_calls s (w.alloc (.cells #[.int .i64 s.k, .int .i32 s.a, .int .i32 s.b] 136))
  have HB := Lib.hid hB
  have hs := hB.size
  clear hB
  generalize mayF s = m at C ⊢
  unfold encStp at C ⊢
  cases m
  all_goals
    go_enter Tryd.func98, Tryd.ntmps98
    go_wp2_with fail
    refine C.mono ?_
    rintro e w' ⟨rfl, hb'⟩
    have HB2 := Lib.hid hb'
    clear hb' C
    go_wp2
    go_ret
    exact ⟨rfl, HB.out.trans (HB2.out.mono hs)⟩

theorem check_calls (l : List Stp) (v : Value) (S : Nat → Prop) (w : World) (h : Sl w S 3 v l.length (l.flatMap cStp)) (hl : l.length ≤ 1000000) (h0 : 0 < l.length) :
    Calls Tryd.prog 64 #[v] w fun e w' => e = .returned (.int .i64 (if checkS l then 0 else 7)) ∧ Below w.heap.size w w' := by
  obtain ⟨b, off, c, rfl, _, _, hb, hc⟩ := h.at_ h0
  have C := AnyQ.slices_ContainsFunc Tryd.anyStep 3 (fun _ => by kernel_rfl) (fun _ => by kernel_rfl) cStp cStp_len (fun s => !mayF s) 98 #[] (enters_of Tryd.func98 (by kernel_rfl) rfl) b off l.length c l w
    (fun W x hb => (checkP_calls x W).mono fun _ _ h => ⟨h.1, hb.trans (h.2.mono hb.size)⟩) (Nat.le_refl _) (by omega) hb (fun j hj i u hu => by
      have hx : l[j]? = some l[j]! := by rw [List.getElem?_eq_getElem hj, getElem!_pos l j hj]
      have := Sl.elem cStp_len hc j l[j]! hx i u hu
      rw [Nat.add_assoc]; exact this)
  have hany : (l.take l.length).any (fun s => !mayF s) = !checkS l := by simp [checkS, List.all_eq_not_any_not]
  rw [hany] at C
  clear hany
  have hv : ((if checkS l then 0 else 7 : Nat) : Int) = if checkS l then 0 else 7 := by split <;> rfl
  obtain ⟨r, hr⟩ : ∃ r : Int, r = if checkS l then 0 else 7 := ⟨_, rfl⟩
  rw [← hr]
  clear hv
  cases hck : checkS l
  all_goals
    rw [hck] at C hr
    have HR := Lib.hid hr
    clear hr hck
    go_enter Tryd.func64, Tryd.ntmps64
    go_wp2_with fail
    refine C.mono ?_
    rintro e w' ⟨rfl, hb'⟩
    have HB := Lib.hid hb'
    clear hb' C
    go_wp2
    go_ret
    exact ⟨by rw [HR.out]; rfl, HB.out⟩
end Go.Proofs.Er
