import Derived.Test.YtmidnppbnhahpaaDoorWM
namespace Go.Proofs.Er
open Go Go.RowKit Go.Shelf Go.Proofs Go.Sort
attribute [local go_sem] Oper.semAt_some

/-- Where the row of steps that begins at i ends. -/
def runEnd (l : List Stp) (i : Nat) : Nat := i + ((l.drop i).takeWhile (·.k ≠ 0)).length
def kindAt (l : List Stp) (i : Nat) : Int := (l[i]?.map (·.k)).getD 0
def rowsP (l : List Stp) : Nat → Nat → List (Nat × Nat)
  | 0, _ => []
  | f + 1, i => if l.length ≤ i then [] else if kindAt l i = 0 then rowsP l f (i + 1) else (i, runEnd l i) :: rowsP l f (runEnd l i + 1)
theorem runEnd_le (l : List Stp) (i : Nat) (hi : i ≤ l.length) : runEnd l i ≤ l.length := by
  unfold runEnd
  have := (List.takeWhile_prefix (p := fun s : Stp => decide (s.k ≠ 0)) (l := l.drop i)).length_le
  simp only [List.length_drop] at this
  omega
theorem kindAt_of {l : List Stp} {i : Nat} {s : Stp} (h : l[i]? = some s) : kindAt l i = s.k := by simp [kindAt, h]
theorem takeWhile_len {l : List Stp} : ∀ {n : Nat}, n ≤ l.length → (∀ x, x < n → kindAt l x ≠ 0) → (n = l.length ∨ kindAt l n = 0) → (l.takeWhile (·.k ≠ 0)).length = n := by
  induction l with
  | nil => intro n hn _ _; simp at hn; subst hn; rfl
  | cons a l ih =>
    intro n hn h1 h2
    cases n with
    | zero =>
      have : a.k = 0 := by
        rcases h2 with h2 | h2
        · simp at h2
        · simpa [kindAt] using h2
      simp [this]
    | succ n =>
      have ha : a.k ≠ 0 := by simpa [kindAt] using h1 0 (by omega)
      rw [List.takeWhile_cons, if_pos (by simpa using ha), List.length_cons, ih (n := n) (by simpa using hn) (fun x hx => by simpa [kindAt] using h1 (x + 1) (by omega)) (by
        rcases h2 with h2 | h2
        · left; simpa using h2
        · right; simpa [kindAt] using h2)]
theorem runEnd_eq {l : List Stp} {i j : Nat} (hij : i ≤ j) (hj : j ≤ l.length) (h1 : ∀ x, i ≤ x → x < j → kindAt l x ≠ 0) (h2 : j = l.length ∨ kindAt l j = 0) : runEnd l i = j := by
  unfold runEnd
  rw [takeWhile_len (n := j - i) (by simp; omega) (fun x hx => by
    have := h1 (i + x) (by omega) (by omega)
    simpa [kindAt] using this) (by
    rcases h2 with h2 | h2
    · left; simp; omega
    · right; simpa [kindAt, show i + (j - i) = j by omega] using h2)]
  omega
theorem runEnd_gt {l : List Stp} {i : Nat} (hi : i < l.length) (h : kindAt l i ≠ 0) : i < runEnd l i := by
  unfold runEnd
  obtain ⟨s, hs⟩ : ∃ s, l[i]? = some s := ⟨l[i], List.getElem?_eq_getElem hi⟩
  rw [kindAt_of hs] at h
  have : l.drop i = s :: l.drop (i + 1) := by
    rw [List.drop_eq_getElem_cons hi]
    have : l[i] = s := by rw [List.getElem?_eq_getElem hi] at hs; exact Option.some.inj hs
    rw [this]
  rw [this, List.takeWhile_cons, if_pos (by simpa using h)]
  simp
theorem dropWhile_drop {α : Type} (p : α → Bool) (l : List α) : l.dropWhile p = l.drop (l.takeWhile p).length := by
  induction l with
  | nil => rfl
  | cons a l ih => by_cases h : p a <;> simp [h, ih]
theorem rowsP_rowsF (l : List Stp) : ∀ (f i : Nat), l.length - i ≤ f → rowsF f (l.drop i) = (rowsP l f i).map fun x => (l.take x.2).drop x.1 := by
  intro f
  induction f with
  | zero => intro i hi; rfl
  | succ f ih =>
    intro i hi
    by_cases hil : l.length ≤ i
    · rw [rowsP, if_pos hil, List.drop_eq_nil_of_le hil]; rfl
    · have hlt : i < l.length := by omega
      obtain ⟨s, hs⟩ : ∃ s, l[i]? = some s := ⟨l[i], List.getElem?_eq_getElem hlt⟩
      have hd : l.drop i = s :: l.drop (i + 1) := by
        rw [List.drop_eq_getElem_cons hlt]
        have : l[i] = s := by rw [List.getElem?_eq_getElem hlt] at hs; exact Option.some.inj hs
        rw [this]
      rw [rowsP, if_neg hil, hd, kindAt_of hs]
      by_cases hk : s.k = 0
      · rw [if_pos hk]; simp only [rowsF]; rw [if_pos hk]; exact ih (i + 1) (by omega)
      · rw [if_neg hk]; simp only [rowsF]; rw [if_neg hk, List.map_cons]
        have hre : runEnd l i = i + 1 + ((l.drop (i + 1)).takeWhile (·.k ≠ 0)).length := by
          unfold runEnd; rw [hd, List.takeWhile_cons, if_pos (by simpa using hk), List.length_cons]; omega
        congr 1
        · have h1 : (l.take (runEnd l i)).drop i = (l.drop i).take (runEnd l i - i) := by rw [List.drop_take]
          rw [h1, hd, hre, show i + 1 + ((l.drop (i + 1)).takeWhile (·.k ≠ 0)).length - i = ((l.drop (i + 1)).takeWhile (·.k ≠ 0)).length + 1 by omega, List.take_succ_cons]
          congr 1
          exact List.prefix_iff_eq_take.1 (List.takeWhile_prefix _)
        · have h2 : ((l.drop (i + 1)).dropWhile (·.k ≠ 0)).tail = l.drop (runEnd l i + 1) := by
            rw [dropWhile_drop, List.tail_drop, List.drop_drop, hre]
            first | rfl | (congr 1; omega)
          rw [h2]
          exact ih _ (by rw [hre]; omega)

theorem rows_calls (v : Value) (A : Option Addr) (n c : Nat) (hv : v = .slice A n c) (w : World) : Calls Tryd.prog 65 #[v] w fun e w' => e = .returned (.func (.func 100) #[] #[.pointer (some ⟨w.heap.size, 0, none⟩)]) ∧ w' = w.alloc (.cells #[v] 70) := by
  subst hv
  go_enter Tryd.func65, Tryd.ntmps65
  go_wp2
  go_ret
  exact ⟨rfl, rfl⟩

def encRow (b off c : Nat) (x : Nat × Nat) : Array Value := #[.slice (some ⟨b, off + x.1 * 3, none⟩) (x.2 - x.1) (c - x.1)]

theorem rowsP_end (l : List Stp) (f i : Nat) (h : l.length ≤ i) : rowsP l f i = [] := by
  cases f with
  | zero => rfl
  | succ f => rw [rowsP, if_pos h]

set_option maxHeartbeats 1000000 in
theorem rows_iter (l : List Stp) (B b off c : Nat) (ro : Nat → Prop) (w : World) (hb : Box w B 70 (.slice (some ⟨b, off, none⟩) l.length c)) (_hbw : b < w.heap.size) (hlc : l.length ≤ c) (hl : l.length ≤ 1000000) (hcap : c ≤ 9223372036854775807)
    (hc : ∀ (j : Nat) u, (l.flatMap cStp)[j]? = some u → w.cell? ⟨b, off + j, none⟩ = some u) :
    IterC Tryd.prog 100 #[.pointer (some ⟨B, 0, none⟩)] (encRow b off c) (fun _ => False) (fun k => k = B ∨ k = b) ro (fun pre x _ => (pre ++ [x]) <+: rowsP l l.length 0)
      (fun xs _ => xs = rowsP l l.length 0) (fun pre _ => pre <+: rowsP l l.length 0) w := by
  intro ly own0 J Jx W hW hdis hJ hJx hY h0
  have hbc := hb.cell
  have cellW : ∀ {p v}, w.cell? p = some v → W.cell? p = some v := fun hc => cellK hW hc trivial
  have hK : ∀ i, i < l.length → w.cell? ⟨b, off + i * 3, none⟩ = some (.int .i64 (kindAt l i)) := fun i hi => by
    obtain ⟨s, hs⟩ : ∃ s, l[i]? = some s := ⟨l[i], List.getElem?_eq_getElem hi⟩
    rw [kindAt_of hs]
    exact Sl.elem cStp_len hc i s hs 0 _ rfl
  have HK := Lib.hid hK
  clear hK hc
  refine callsIn_of_wp Tryd.func100 rfl trivial ?_ rfl
  simp only [Tryd.ntmps100, List.size_toArray, List.length_cons, List.length_nil, Nat.reduceAdd, Nat.reduceSub, Array.replicate_succ, Array.replicate_zero, List.push_toArray, List.append_toArray, List.nil_append, List.cons_append]
  try refine wpIn_scope_wide ?_
  gi_wp2_with fail
  refine wpIn_label ?_
  gi_wp2_with fail
  gi_loopw [3] (fun iv wr => ∃ own pre f, ∃ i : Nat, iv = .int .i64 i ∧ i ≤ l.length + 1 ∧ l.length - i ≤ f ∧ rowsP l l.length 0 = pre ++ rowsP l f i ∧ J own pre wr ∧ (∀ k, own k → own0 k ∨ W.heap.size ≤ k) ∧ KeptOn (fun k => ¬ own0 k) W wr)
    (fun iv _ => l.length + 1 - (intOf iv).toNat)
  case atStart => exact ⟨own0, [], l.length, 0, rfl, by omega, by omega, rfl, hJ.keep _ _ _ _ h0 (KeptOn.refl _ _), fun _ h => .inl h, KeptOn.refl _ _⟩
  case round =>
    obtain ⟨own, pre, f, i, rfl, hi, hf, hall, hJr, hsub, hkept⟩ := hrel
    clear h0
    have cellr : ∀ {p v}, (p.block = B ∨ p.block = b) → w.cell? p = some v → wr.cell? p = some v := fun hp hc => cellK hkept (cellW hc) (fun h => (hdis _ h).2.1 hp)
    have kb := cellr (.inl rfl) hbc
    rcases Nat.lt_or_ge i l.length with hlt | hge
    · have hb1 : (i : Int) < (l.length : Int) := by omega
      have hki := cellr (.inr rfl) (HK.out i hlt)
      obtain ⟨f, rfl⟩ : ∃ m, f = m + 1 := ⟨f - 1, by omega⟩
      rw [rowsP, if_neg (by omega)] at hall
      by_cases hk0 : kindAt l i = 0
      · rw [if_pos hk0] at hall
        rw [hk0] at hki
        have HALL := Lib.hid hall
        clear hall
        gi_wp2_with fail
        exact ⟨⟨own, pre, f, i + 1, by push_cast; rfl, by omega, by omega, HALL.out, hJr, hsub, hkept⟩, by simp [intOf]; omega⟩
      · have hk1 : (kindAt l i == 0) = false := by simpa using hk0
        rw [if_neg hk0] at hall
        have HALL := Lib.hid hall
        have HKI := Lib.hid hk0
        clear hall
        gi_wp2_with fail
        gi_loopw [3] (fun jv W' => W' = wr ∧ ∃ j : Nat, jv = .int .i64 j ∧ i ≤ j ∧ j ≤ l.length ∧ ∀ x, i ≤ x → x < j → kindAt l x ≠ 0) (fun jv _ => l.length - (intOf jv).toNat)
        case atStart => exact ⟨rfl, i, rfl, Nat.le_refl _, by omega, fun x h1 h2 => by omega⟩
        case round =>
          obtain ⟨rfl, j, rfl, hij, hjl, hruns⟩ := hrel
          have HRUN := Lib.hid hruns
          clear hruns hki hk1 hb1 hk0
          have fin : ∀ (_ : j = l.length ∨ kindAt l j = 0), i < j ∧ rowsP l l.length 0 = (pre ++ [(i, j)]) ++ rowsP l f (j + 1) := fun h => by
            have he := runEnd_eq hij hjl HRUN.out h
            have hg := runEnd_gt hlt HKI.out
            rw [HALL.out, he]
            exact ⟨by omega, by simp⟩
          rcases Nat.lt_or_ge j l.length with hjlt | hjge
          · have hb1 : (j : Int) < (l.length : Int) := by omega
            have hkj := cellr (.inr rfl) (HK.out j hjlt)
            by_cases hj0 : kindAt l j = 0
            · have hb2 : (kindAt l j != 0) = false := by simpa using hj0
              obtain ⟨hlt2, hall2⟩ := fin (.inr hj0)
              have HALL2 := Lib.hid hall2
              obtain ⟨fn, tmps, assign, body, hy, hR⟩ := hY own pre (i, j) _ hJr ⟨_, hall2.symm⟩
              dsimp only [encRow] at hy
              have b1 : (i : Int) ≤ (j : Int) := by omega
              have b2 : (j : Int) ≤ (c : Int) := by omega
              have b3 : (i : Int) < (c : Int) := by omega
              clear fin hall2 hY hj0
              gi_wp2_with fail
              refine ⟨rfl, hR.mono ?_⟩
              rintro e W' ⟨own', ho', hk', hend⟩
              have hs1 := hkept.size
              have hk2 : KeptOn (fun k => ¬ own0 k) W W' := hkept.trans hk' (fun k hk h h2 => (hsub k h2).elim h (by omega))
              have hsub' : ∀ k, own' k → own0 k ∨ W.heap.size ≤ k := fun k hk => (ho' k hk).elim (hsub k) (fun h => .inr (by omega))
              rcases hend with ⟨rfl, hj'⟩ | ⟨rfl, hj'⟩
              · clear hy hR
                gi_wp2_with fail
                exact ⟨⟨own', _, f, j + 1, by push_cast; rfl, by omega, by omega, HALL2.out, hj', hsub', hk2⟩, by simp [intOf]; omega⟩
              · clear hy hR
                gi_wp2_with fail
                first | rw [Exit.noGoto_ret] | skip
                refine bodyPost_ret (results_none rfl _ _ _) rfl ?_
                first | exact ⟨⟨_, rfl⟩, own', hsub', hk2.imp (fun _ _ h => h.1), .inr ⟨_, ⟨_, HALL2.out.symm⟩, hj'⟩⟩ | exact ⟨⟨_, rfl⟩, own', hsub', hk2, .inr ⟨_, ⟨_, HALL2.out.symm⟩, hj'⟩⟩
            · have hb2 : (kindAt l j != 0) = true := by simpa using hj0
              clear fin
              gi_wp2_with fail
              refine ⟨⟨trivial, j + 1, by push_cast; rfl, by omega, by omega, fun x h1 h2 => ?_⟩, by simp [intOf]; omega⟩
              rcases Nat.lt_or_ge x j with h3 | h3
              · exact HRUN.out x h1 h3
              · have : x = j := by omega
                subst this; exact hj0
          · have hjl2 : j = l.length := by omega
            subst hjl2
            have hb1 : ¬ (l.length : Int) < (l.length : Int) := by omega
            obtain ⟨hlt2, hall2⟩ := fin (.inl rfl)
            have HALL2 := Lib.hid hall2
            obtain ⟨fn, tmps, assign, body, hy, hR⟩ := hY own pre (i, l.length) _ hJr ⟨_, hall2.symm⟩
            dsimp only [encRow] at hy
            have b1 : (i : Int) ≤ (l.length : Int) := by omega
            have b2 : (l.length : Int) ≤ (c : Int) := by omega
            have b3 : (i : Int) < (c : Int) := by omega
            clear fin hall2 hY
            gi_wp2_with fail
            refine ⟨rfl, hR.mono ?_⟩
            rintro e W' ⟨own', ho', hk', hend⟩
            have hs1 := hkept.size
            have hk2 : KeptOn (fun k => ¬ own0 k) W W' := hkept.trans hk' (fun k hk h h2 => (hsub k h2).elim h (by omega))
            have hsub' : ∀ k, own' k → own0 k ∨ W.heap.size ≤ k := fun k hk => (ho' k hk).elim (hsub k) (fun h => .inr (by omega))
            rcases hend with ⟨rfl, hj'⟩ | ⟨rfl, hj'⟩
            · clear hy hR
              gi_wp2_with fail
              exact ⟨⟨own', _, f, l.length + 1, by push_cast; rfl, by omega, by omega, HALL2.out, hj', hsub', hk2⟩, by simp [intOf]; omega⟩
            · clear hy hR
              gi_wp2_with fail
              first | rw [Exit.noGoto_ret] | skip
              refine bodyPost_ret (results_none rfl _ _ _) rfl ?_
              first | exact ⟨⟨_, rfl⟩, own', hsub', hk2.imp (fun _ _ h => h.1), .inr ⟨_, ⟨_, HALL2.out.symm⟩, hj'⟩⟩ | exact ⟨⟨_, rfl⟩, own', hsub', hk2, .inr ⟨_, ⟨_, HALL2.out.symm⟩, hj'⟩⟩
    · have hb1 : ¬ (i : Int) < (l.length : Int) := by omega
      have HALL := Lib.hid hall
      clear hall
      gi_wp2_with fail
      refine bodyPost_end (results_none rfl _ _ _) rfl ?_
      refine ⟨⟨_, rfl⟩, own, hsub, hkept, .inl ?_⟩
      rw [HALL.out, rowsP_end l f i hge, List.append_nil]
      exact hJr
end Go.Proofs.Er
