import Derived.Test.YtmidnppbnhahpaaDoorWY
import Derived.Test.YtmidnppbnhahpaaDoorAppR
namespace Go.Proofs.Er
open Go Go.RowKit Go.Shelf Go.Proofs Go.Sort
attribute [local go_sem] Oper.semAt_some

def cPr (p : Pr) : List Value := [.string p.n, .string p.t]
theorem cPr_len (x : Pr) : (cPr x).length = 2 := rfl
def CellsP (w : World) (A : Option Addr) (l : List Pr) : Prop := ∀ (i : Nat) p, l[i]? = some p → ∃ g off, A = some ⟨g, off, none⟩ ∧ w.cell? ⟨g, off + i * 2, none⟩ = some (.string p.n) ∧ w.cell? ⟨g, off + i * 2 + 1, none⟩ = some (.string p.t)
theorem Sl.cellsP {w : World} {S : Nat → Prop} {v : Value} {l : List Pr} (h : Sl w S 2 v l.length (l.flatMap cPr)) : ∃ A c, v = .slice A l.length c ∧ CellsP w A l := by
  obtain ⟨A, c, rfl⟩ := h.form
  refine ⟨A, c, rfl, fun i b hb => ?_⟩
  have hi := (List.getElem?_eq_some_iff.1 hb).1
  obtain ⟨g, off, c', he, _, _, _, hc⟩ := h.at_ (by omega)
  injection he with he
  exact ⟨g, off, he, Sl.elem cPr_len hc i b hb 0 _ rfl, Sl.elem cPr_len hc i b hb 1 _ rfl⟩

theorem ofF_small (l : List Stp) (hl : l.length ≤ 200) : (ofF l).1.length ≤ 200 ∧ ∀ b ∈ (ofF l).1, b.f.size ≤ 1000 ∧ b.t.size ≤ 1000 := by
  cases h : checkS l
  · simp [ofF, h]
  · rw [ofF_ok l h]
    refine ⟨?_, ?_⟩
    · have h1 := outP_len l (rowsP l l.length 0)
      have h2 := rowsP_len l l.length 0
      simp only; omega
    · intro b hb
      simp only [outP] at hb
      obtain ⟨r, hr, rfl⟩ := List.mem_map.1 hb
      obtain ⟨x, hx, rfl⟩ := List.mem_map.1 (List.mem_filter.1 hr).1
      have h1 := readF_size (subL l x)
      have h2 : (subL l x).length ≤ l.length := by simp [subL]; omega
      rw [madeF_eq]
      exact ⟨by simp only; omega, by simp only; omega⟩
theorem pairF_small (n t : ByteArray) : (pairF n t).1.length ≤ 200 ∧ ∀ b ∈ (pairF n t).1, b.f.size ≤ 1000 ∧ b.t.size ≤ 1000 := by
  rw [pairF_eq]
  by_cases h : (stepsR n t).2 ≠ 0
  · simp [if_pos h]
  · rw [if_neg h]
    exact ofF_small _ (by have := stepsR_len n t (by omega); omega)

def allP (l : List Pr) : List Blk := l.flatMap fun p => (pairF p.n p.t).1
theorem allP_len (l : List Pr) : (allP l).length ≤ 200 * l.length := by
  induction l with
  | nil => simp [allP]
  | cons p l ih => unfold allP at *; have := (pairF_small p.n p.t).1; simp only [List.flatMap_cons, List.length_append, List.length_cons]; omega
theorem pairsGo_drop (l : List Pr) (i : Nat) (p : Pr) (hp : l[i]? = some p) (acc : List Blk) : pairsGo (l.drop i) acc = if (pairF p.n p.t).2 ≠ 0 then ([], (pairF p.n p.t).2) else pairsGo (l.drop (i + 1)) (acc ++ (pairF p.n p.t).1) := by
  have hi := (List.getElem?_eq_some_iff.1 hp).1
  rw [List.drop_eq_getElem_cons hi]
  have : l[i] = p := by rw [List.getElem?_eq_getElem hi] at hp; exact Option.some.inj hp
  rw [this]
  rfl

set_option maxHeartbeats 2000000 in
set_option maxRecDepth 100000 in
theorem pairs_calls (l : List Pr) (v : Value) (S : Nat → Prop) (w : World) (h : Sl w S 2 v l.length (l.flatMap cPr)) (hl : l.length ≤ 5000) (hT : Tabs w) (hgw : 0 < w.heap.size ∧ 1 < w.heap.size)
    (hsz : ∀ (i : Nat) (p : Pr), l[i]? = some p → (∀ (j : Nat) (q : Pr), j < i → l[j]? = some q → (pairF q.n q.t).2 = 0) → p.n.size ≤ 1000000 ∧ p.t.size ≤ 1000000) :
    Calls Tryd.prog 13 #[v] w fun e w' => ∃ u, e = .returned (.tuple #[u, .int .i64 (pairsF l).2]) ∧ Below w.heap.size w w' ∧ Row w' 69 3 u (pairsF l).1.length ((pairsF l).1.flatMap cBlk) ∧ ∀ k, u.ownBlock = some k → w.heap.size ≤ k := by
  obtain ⟨A, c, rfl, hq⟩ := h.cellsP
  obtain ⟨R, hR⟩ : ∃ R, R = pairsF l := ⟨_, rfl⟩
  rw [← hR]
  unfold pairsF at hR
  rw [if_neg (by omega)] at hR
  have HQ := Lib.hid hq
  have HR := Lib.hid hR
  have HT := Lib.hid hT
  have HZ := Lib.hid hsz
  have HGW := Lib.hid hgw
  have hli : ¬ (65536 : Int) < (l.length : Int) := by omega
  clear h hq hR hT hsz hgw
  go_enter Tryd.func13, Tryd.ntmps13
  go_wp2_with fail
  go_loopw [4, 14] (fun av iv W => ∃ i : Nat, iv = .int .i64 i ∧ i ≤ l.length ∧ Below w.heap.size w W ∧ Row W 69 3 av (allP (l.take i)).length ((allP (l.take i)).flatMap cBlk) ∧ (∀ k, av.ownBlock = some k → w.heap.size ≤ k) ∧ pairsGo l [] = pairsGo (l.drop i) (allP (l.take i)) ∧ (∀ (j : Nat) (q : Pr), j < i → l[j]? = some q → (pairF q.n q.t).2 = 0)) (fun _ iv _ => l.length - (intOf iv).toNat)
  case atStart => exact ⟨0, rfl, by omega, Below.refl _ _, Row.nil _ _ _, by simp [Value.ownBlock], rfl, fun j q hj => by omega⟩
  case round =>
    obtain ⟨i, rfl, hi, hB, hrow, hloc, hgo, hok⟩ := hrel
    rcases Nat.lt_or_ge i l.length with hlt | hge
    · have hb1 : (i : Int) < (l.length : Int) := by omega
      obtain ⟨p, hp⟩ : ∃ p, l[i]? = some p := ⟨l[i], List.getElem?_eq_getElem hlt⟩
      obtain ⟨g, off, rfl, h0, h1⟩ := HQ.out i p hp
      have e0 := cellB hB h0
      have e1 := cellB hB h1
      have hz := HZ.out i p hp hok
      have hBa := hB.alloc hB.size (.cells #[.string p.n, .string p.t] 26)
      have C := pair_calls p.n p.t (wr.alloc (.cells #[.string p.n, .string p.t] 26)) (HT.out.below hBa) ⟨Nat.lt_of_lt_of_le HGW.out.1 hBa.size, Nat.lt_of_lt_of_le HGW.out.2 hBa.size⟩ hz.1 hz.2
      have hrow1 : Row (wr.alloc (.cells #[.string p.n, .string p.t] 26)) 69 3 u4 _ _ := hrow.alloc _
      have htk : allP (l.take (i + 1)) = allP (l.take i) ++ (pairF p.n p.t).1 := by
        rw [List.take_add_one, hp]; simp [allP]
      rw [pairsGo_drop l i p hp] at hgo
      have hsm := pairF_small p.n p.t
      have hal := allP_len (l.take i)
      have hbig : (allP (l.take i)).length ≤ 1000000 := by simp at hal; omega
      have HTK := Lib.hid htk
      have HGO := Lib.hid hgo
      have HOK := Lib.hid hok
      have HBA := Lib.hid hBa
      have HROW := Lib.hid hrow1
      have HLOC := Lib.hid hloc
      have HP := Lib.hid hp
      have HSM := Lib.hid hsm
      clear htk hgo hok hBa hrow1 hrow hloc hp hB h0 h1 hz hsm hal
      by_cases hk : (pairF p.n p.t).2 = 0
      · rw [hk] at C
        have HK := Lib.hid hk
        clear hk
        go_wp2_with fail
        refine C.mono ?_
        rintro e w2 ⟨u, rfl, hB2, hrow2, hloc2⟩
        have HB2 := Lib.hid hB2
        have HR2 := Lib.hid hrow2
        have HL2 := Lib.hid hloc2
        have HRV := Lib.hid (HROW.out.below hB2)
        have q1 : (allP (l.take i)).length + (pairF p.n p.t).1.length ≤ 1000200 := by have := HSM.out.1; omega
        clear hB2 hrow2 hloc2 C
        go_wp2_with (at_builtin; refine wpList_appendR rfl _ _ 24 rfl 69 3 40 (.agg #[.string ⟨#[]⟩, .string ⟨#[]⟩, .int .i64 0]) Tryd.underlying24 Tryd.info69 rfl (by decide) _ _ _ rfl HRV.out _ _ _ rfl HR2.out ?_ ?_ ?_ ?_)
        case refine_1 =>
          intro y hy
          obtain ⟨b, _, hb⟩ := List.mem_flatMap.1 hy
          exact cBlk_one b y hb
        case refine_2 => omega
        case refine_3 => omega
        intro v' w3 hr3 hg3 hl3
        have H3 := Lib.hid hr3
        have HL3 := Lib.hid hl3
        have HG3 := Lib.hid hg3
        clear hr3 hl3 hg3
        go_wp2_with fail
        have hB2a := HBA.out.trans (HB2.out.mono HBA.out.size)
        refine ⟨⟨i + 1, by push_cast; rfl, by omega, hB2a.trans ((KeptOn.of_grown HG3.out).below hB2a.size (fun k hk e => by have := HLOC.out k e.symm; omega)), ?_, ?_, ?_, ?_⟩, by simp [intOf]; omega⟩
        · rw [HTK.out, List.length_append, List.flatMap_append]; exact H3.out
        · intro k hk
          rcases HL3.out k hk with h | h
          · exact HLOC.out k h
          · have := hB2a.size; omega
        · rw [HGO.out, HTK.out, if_neg (by rw [HK.out]; simp)]
        · intro j q hj hq
          rcases Nat.lt_or_ge j i with h | h
          · exact HOK.out j q h hq
          · have : j = i := by omega
            subst this
            rw [HP.out] at hq
            injection hq with hq
            rw [← hq]; exact HK.out
      · have hr : R = ([], (pairF p.n p.t).2) := by
          rw [HR.out, HGO.out, if_pos hk]
          simp only
          rw [if_pos hk]
        generalize (pairF p.n p.t).2 = ec at C hk hr
        have hb0 : (ec != 0) = true := by simpa using hk
        have HK := Lib.hid hk
        clear hk HR HGO
        subst hr
        go_wp2_with fail
        refine C.mono ?_
        rintro e w2 ⟨u, rfl, hB2, hrow2, hloc2⟩
        have HB2 := Lib.hid (HBA.out.trans (hB2.mono HBA.out.size))
        clear hB2 hrow2 hloc2 C
        go_wp2_with fail
        go_ret2
        exact ⟨_, rfl, HB2.out, Row.nil _ _ _, by intro k h; cases h⟩
    · have hil : i = l.length := by omega
      subst hil
      rw [List.take_length, List.drop_length] at hgo
      rw [List.take_length] at hrow
      have hgo2 : pairsGo l [] = (allP l, 0) := hgo
      have hr : R = tableF (allP l) := by rw [HR.out, hgo2]; simp
      have hal := allP_len l
      have hsmall : ∀ b ∈ allP l, b.f.size ≤ 1000000000 ∧ b.t.size ≤ 1000000000 := fun b hb => by
        obtain ⟨p, _, hp⟩ := List.mem_flatMap.1 hb
        have := (pairF_small p.n p.t).2 b hp
        omega
      have C := table_calls (allP l) u4 _ wr (Sl.of_row hrow) (by omega) (HT.out.below hB) hsmall
      have hb1 : ¬ (l.length : Int) < (l.length : Int) := by omega
      obtain ⟨A4, c4, rfl, _⟩ := hrow.form
      have HB := Lib.hid hB
      have hs1 := hB.size
      clear hgo hgo2 hrow hok hB HR hal hsmall hloc
      subst hr
      go_wp2_with fail
      refine C.mono ?_
      rintro e w9 ⟨u, rfl, hB9, hr9, hl9⟩
      have HB9 := Lib.hid hB9
      have HR9 := Lib.hid hr9
      have HL9 := Lib.hid hl9
      clear hB9 hr9 hl9 C
      go_wp2
      go_ret2
      exact ⟨u, rfl, HB.out.trans (HB9.out.mono hs1), HR9.out, fun k hk => by have := HL9.out k hk; omega⟩
end Go.Proofs.Er
