import Derived.Test.YtmidnppbnhahpaaDoorWU
namespace Go.Proofs.Er
open Go Go.RowKit Go.Shelf Go.Proofs Go.Sort
attribute [local go_sem] Oper.semAt_some

theorem cBlk_len (x : Blk) : (cBlk x).length = 3 := rfl
theorem cBlk_one (x : Blk) : ∀ v ∈ cBlk x, v.oneCell' = true := by intro v hv; simp [cBlk] at hv; rcases hv with rfl | rfl | rfl <;> rfl
/-- What is known of a slice's cells in every later world. -/
def CellsQ (w : World) (A : Option Addr) (l : List Blk) : Prop := ∀ (i : Nat) b, l[i]? = some b → ∃ g off, A = some ⟨g, off, none⟩ ∧ w.cell? ⟨g, off + i * 3, none⟩ = some (.string b.f) ∧ w.cell? ⟨g, off + i * 3 + 1, none⟩ = some (.string b.t) ∧ w.cell? ⟨g, off + i * 3 + 2, none⟩ = some (.int .i64 b.n)
theorem Sl.cellsQ {w : World} {S : Nat → Prop} {v : Value} {l : List Blk} (h : Sl w S 3 v l.length (l.flatMap cBlk)) : ∃ A c, v = .slice A l.length c ∧ CellsQ w A l := by
  obtain ⟨A, c, rfl⟩ := h.form
  refine ⟨A, c, rfl, fun i b hb => ?_⟩
  have hi := (List.getElem?_eq_some_iff.1 hb).1
  obtain ⟨g, off, c', he, _, _, _, hc⟩ := h.at_ (by omega)
  injection he with he
  exact ⟨g, off, he, Sl.elem cBlk_len hc i b hb 0 _ rfl, Sl.elem cBlk_len hc i b hb 1 _ rfl, Sl.elem cBlk_len hc i b hb 2 _ rfl⟩

theorem eachF_drop (l : List Blk) (i : Nat) (b : Blk) (hb : l[i]? = some b) : eachF (l.drop i) = if blkCheck b ≠ 0 then blkCheck b else eachF (l.drop (i + 1)) := by
  have hi := (List.getElem?_eq_some_iff.1 hb).1
  rw [List.drop_eq_getElem_cons hi]
  have : l[i] = b := by rw [List.getElem?_eq_getElem hi] at hb; exact Option.some.inj hb
  rw [this]
  rfl

set_option maxHeartbeats 1000000 in
theorem each_calls (l : List Blk) (v : Value) (S : Nat → Prop) (w : World) (h : Sl w S 3 v l.length (l.flatMap cBlk)) (hl : l.length ≤ 1000000000) (hT : Tabs w) (hsz : ∀ b ∈ l, b.f.size ≤ 1000000000 ∧ b.t.size ≤ 1000000000) :
    Calls Tryd.prog 34 #[v] w fun e w' => e = .returned (.int .i64 (eachF l)) ∧ Below w.heap.size w w' := by
  obtain ⟨A, c, rfl, hq⟩ := h.cellsQ
  have HQ := Lib.hid hq
  have HT := Lib.hid hT
  have HZ := Lib.hid hsz
  obtain ⟨r, hr⟩ : ∃ r, r = eachF l := ⟨_, rfl⟩
  rw [← hr]
  clear h hq hT hsz
  go_enter Tryd.func34, Tryd.ntmps34
  go_wp2_with fail
  go_loopw [8] (fun iv W => ∃ i : Nat, iv = .int .i64 i ∧ i ≤ l.length ∧ Below w.heap.size w W ∧ r = eachF (l.drop i)) (fun iv _ => l.length - (intOf iv).toNat)
  case atStart => exact ⟨0, rfl, by omega, Below.refl _ _, hr⟩
  case round =>
    obtain ⟨i, rfl, hi, hB, hri⟩ := hrel
    rcases Nat.lt_or_ge i l.length with hlt | hge
    · have hb1 : (i : Int) < (l.length : Int) := by omega
      obtain ⟨b, hb⟩ : ∃ b, l[i]? = some b := ⟨l[i], List.getElem?_eq_getElem hlt⟩
      obtain ⟨g, off, rfl, h0, h1, h2⟩ := HQ.out i b hb
      have e0 := cellB hB h0
      have e1 := cellB hB h1
      have e2 := cellB hB h2
      rw [eachF_drop l i b hb] at hri
      have hz := HZ.out b (List.mem_of_getElem? hb)
      have hBa := hB.alloc hB.size (.cells #[.string b.f, .string b.t, .int .i64 b.n] 69)
      have C := blkCheck_calls b (wr.alloc (.cells #[.string b.f, .string b.t, .int .i64 b.n] 69)) (HT.out.below hBa) hz.1 hz.2
      unfold encBlk at C
      have HBa := Lib.hid hBa
      generalize blkCheck b = k at C hri
      have HRI := Lib.hid hri
      clear hri hr h0 h1 h2 hz hBa hB
      by_cases hk : k = 0
      · subst hk
        go_wp2_with fail
        refine C.mono ?_
        rintro e w2 ⟨rfl, hb2⟩
        have HB2 := Lib.hid (HBa.out.trans (hb2.mono HBa.out.size))
        clear hb2 C
        go_wp2_with fail
        refine ⟨⟨i + 1, by push_cast; rfl, by omega, HB2.out, ?_⟩, by simp [intOf]; omega⟩
        rw [HRI.out]; simp
      · have hb0 : (k != 0) = true := by simpa using hk
        have HK := Lib.hid hk
        clear hk
        go_wp2_with fail
        refine C.mono ?_
        rintro e w2 ⟨rfl, hb2⟩
        have HB2 := Lib.hid (HBa.out.trans (hb2.mono HBa.out.size))
        clear hb2 C
        go_wp2_with fail
        go_ret
        exact ⟨by rw [HRI.out, if_pos HK.out]; rfl, HB2.out⟩
    · have hb1 : ¬ (i : Int) < (l.length : Int) := by omega
      have hr0 : r = 0 := by rw [hri, List.drop_eq_nil_of_le hge]; rfl
      clear hri hr
      subst hr0
      have HB := Lib.hid hB
      clear hB
      go_wp2_with fail
      go_ret
      exact ⟨rfl, HB.out⟩

theorem sumOk_drop (l : List Blk) (i : Nat) (b : Blk) (hb : l[i]? = some b) (acc : Int) : sumOk acc (l.drop i) = if 1073741824 < acc + b.n then false else sumOk (acc + b.n) (l.drop (i + 1)) := by
  have hi := (List.getElem?_eq_some_iff.1 hb).1
  rw [List.drop_eq_getElem_cons hi]
  have : l[i] = b := by rw [List.getElem?_eq_getElem hi] at hb; exact Option.some.inj hb
  rw [this]
  rfl

set_option maxHeartbeats 1000000 in
theorem sum_calls (l : List Blk) (v : Value) (S : Nat → Prop) (w : World) (h : Sl w S 3 v l.length (l.flatMap cBlk)) (hl : l.length ≤ 1000000000) (hn : ∀ b ∈ l, 0 ≤ b.n ∧ b.n ≤ 1073741824) :
    Calls Tryd.prog 35 #[v] w fun e w' => (∃ n, e = .returned (.tuple #[.int .i64 n, .bool (sumOk 0 l)])) ∧ Below w.heap.size w w' := by
  obtain ⟨A, c, rfl, hq⟩ := h.cellsQ
  have HQ := Lib.hid hq
  have HZ := Lib.hid hn
  obtain ⟨r, hr⟩ : ∃ r, r = sumOk 0 l := ⟨_, rfl⟩
  rw [← hr]
  clear h hq hn
  go_enter Tryd.func35, Tryd.ntmps35
  go_wp2_with fail
  go_loopw [2, 8] (fun nv iv W => ∃ (i : Nat) (acc : Int), iv = .int .i64 i ∧ nv = .int .i64 acc ∧ 0 ≤ acc ∧ acc ≤ 1073741824 ∧ i ≤ l.length ∧ Below w.heap.size w W ∧ r = sumOk acc (l.drop i)) (fun _ iv _ => l.length - (intOf iv).toNat)
  case atStart => exact ⟨0, 0, rfl, rfl, by omega, by omega, by omega, Below.refl _ _, hr⟩
  case round =>
    obtain ⟨i, acc, rfl, rfl, ha0, ha1, hi, hB, hri⟩ := hrel
    rcases Nat.lt_or_ge i l.length with hlt | hge
    · have hb1 : (i : Int) < (l.length : Int) := by omega
      obtain ⟨b, hb⟩ : ∃ b, l[i]? = some b := ⟨l[i], List.getElem?_eq_getElem hlt⟩
      obtain ⟨g, off, rfl, h0, h1, h2⟩ := HQ.out i b hb
      have e0 := cellB hB h0
      have e1 := cellB hB h1
      have e2 := cellB hB h2
      rw [sumOk_drop l i b hb] at hri
      have hz := HZ.out b (List.mem_of_getElem? hb)
      have hBa := hB.alloc hB.size (.cells #[.string b.f, .string b.t, .int .i64 b.n] 69)
      have HBa := Lib.hid hBa
      have HRI := Lib.hid hri
      have e4 : IntKind.i64.wrap (acc + b.n) = acc + b.n := IntWalk.i64_in _ (by omega)
      clear hri hr h0 h1 h2 hBa hB
      by_cases hk : 1073741824 < acc + b.n
      · go_wp2_with fail
        go_ret2
        exact ⟨⟨_, by rw [HRI.out, if_pos hk]; rfl⟩, HBa.out⟩
      · go_wp2_with fail
        refine ⟨⟨i + 1, acc + b.n, by push_cast; rfl, rfl, by omega, by omega, by omega, HBa.out, ?_⟩, by simp [intOf]; omega⟩
        rw [HRI.out, if_neg hk]
    · have hb1 : ¬ (i : Int) < (l.length : Int) := by omega
      have hr0 : r = true := by rw [hri, List.drop_eq_nil_of_le hge]; rfl
      clear hri hr
      subst hr0
      have HB := Lib.hid hB
      clear hB
      go_wp2_with fail
      go_ret2
      exact ⟨⟨_, rfl⟩, HB.out⟩

def sameF (a b : List Blk) : Bool := decide (a = b)

set_option maxHeartbeats 1000000 in
theorem same_calls (a b : List Blk) (u v : Value) (S T : Nat → Prop) (w : World) (ha : Sl w S 3 u a.length (a.flatMap cBlk)) (hb : Sl w T 3 v b.length (b.flatMap cBlk)) (hl : a.length ≤ 1000000000) (_hl2 : b.length ≤ 1000000000) :
    Calls Tryd.prog 15 #[u, v] w fun e w' => e = .returned (.bool (sameF a b)) ∧ Below w.heap.size w w' := by
  obtain ⟨A, c, rfl, hq⟩ := ha.cellsQ
  obtain ⟨B, c2, rfl, hq2⟩ := hb.cellsQ
  have HA := Lib.hid hq
  have HBq := Lib.hid hq2
  obtain ⟨r, hr⟩ : ∃ r, r = sameF a b := ⟨_, rfl⟩
  rw [← hr]
  have HR := Lib.hid hr
  clear ha hb hq hq2 hr
  by_cases hlen : a.length = b.length
  · have hlb : ((a.length : Int) != (b.length : Int)) = false := by simp [hlen]
    have HLEN := Lib.hid hlen
    clear hlen
    go_enter Tryd.func15, Tryd.ntmps15
    go_wp2_with fail
    go_loopw [13] (fun iv W => ∃ i : Nat, iv = .int .i64 i ∧ i ≤ a.length ∧ Below w.heap.size w W ∧ ∀ j, j < i → a[j]? = b[j]?) (fun iv _ => a.length - (intOf iv).toNat)
    case atStart => exact ⟨0, rfl, by omega, Below.refl _ _, fun j hj => by omega⟩
    case round =>
      obtain ⟨i, rfl, hi, hB, hall⟩ := hrel
      have HALL := Lib.hid hall
      clear hall
      rcases Nat.lt_or_ge i a.length with hlt | hge
      · have hb1 : (i : Int) < (a.length : Int) := by omega
        have hb2 : (i : Int) < (b.length : Int) := by have := HLEN.out; omega
        obtain ⟨x, hx⟩ : ∃ x, a[i]? = some x := ⟨a[i], List.getElem?_eq_getElem hlt⟩
        obtain ⟨y, hy⟩ : ∃ y, b[i]? = some y := ⟨b[i]'(by omega), List.getElem?_eq_getElem (by omega)⟩
        obtain ⟨g, off, rfl, h0, h1, h2⟩ := HA.out i x hx
        obtain ⟨g2, off2, rfl, h3, h4, h5⟩ := HBq.out i y hy
        have e0 := cellB hB h0
        have e1 := cellB hB h1
        have e2 := cellB hB h2
        have e3 := cellB hB h3
        have e4 := cellB hB h4
        have e5 := cellB hB h5
        have z0 : (0 : Int) ≤ (i : Int) := by omega
        have HX := Lib.hid hx
        have HY := Lib.hid hy
        have HBW := Lib.hid hB
        clear h0 h1 h2 h3 h4 h5 hx hy hB
        have hne : x ≠ y → r = false := fun h => by
          rw [HR.out, sameF]
          refine decide_eq_false (fun e => h ?_)
          have h1 := HX.out
          rw [e, HY.out] at h1
          exact (Option.some.inj h1).symm
        have HNE := Lib.hid hne
        clear hne
        by_cases q1 : x.f.toList = y.f.toList
        · by_cases q2 : x.t.toList = y.t.toList
          · by_cases q3 : x.n = y.n
            · have hxy : x = y := by
                cases x; cases y
                simp only at q1 q2 q3
                rw [toList_inj q1, toList_inj q2, q3]
              have HXY := Lib.hid hxy
              clear hxy
              go_wp2_with fail
              go_region
              all_goals
                go_wp2_with fail
                refine ⟨⟨i + 1, by push_cast; rfl, by omega, HBW.out.drew, fun j hj => ?_⟩, by simp [intOf]; omega⟩
                rcases Nat.lt_or_ge j i with h | h
                · exact HALL.out j h
                · have : j = i := by omega
                  subst this
                  rw [HX.out, HY.out, HXY.out]
            · go_wp2_with fail
              go_region
              all_goals
                go_wp2_with fail
                go_ret
                exact ⟨by rw [HNE.out (fun e => q3 (by rw [e]))]; rfl, HBW.out.drew⟩
          · go_wp2_with fail
            go_region
            all_goals
              go_wp2_with fail
              go_ret
              exact ⟨by rw [HNE.out (fun e => q2 (by rw [e]))]; rfl, HBW.out.drew⟩
        · go_wp2_with fail
          go_region
          all_goals
            go_wp2_with fail
            go_ret
            exact ⟨by rw [HNE.out (fun e => q1 (by rw [e]))]; rfl, HBW.out.drew⟩
      · have hb1 : ¬ (i : Int) < (a.length : Int) := by omega
        have hr : r = true := by
          rw [HR.out, sameF]
          have hlen := HLEN.out
          refine decide_eq_true (List.ext_getElem? fun j => ?_)
          rcases Nat.lt_or_ge j i with h | h
          · exact HALL.out j h
          · rw [List.getElem?_eq_none (by omega), List.getElem?_eq_none (by omega)]
        have HB := Lib.hid hB
        have Hr := Lib.hid hr
        clear hB hr
        go_wp2_with fail
        go_ret
        exact ⟨by rw [Hr.out]; rfl, HB.out⟩
  · have hlb : ((a.length : Int) != (b.length : Int)) = true := by
      have : (a.length : Int) ≠ (b.length : Int) := by omega
      exact bne_iff_ne.2 this
    have hr : r = false := by rw [HR.out, sameF]; exact decide_eq_false (fun e => hlen (by rw [e]))
    have Hr := Lib.hid hr
    have HLEN := Lib.hid hlen
    clear hlen hr
    go_enter Tryd.func15, Tryd.ntmps15
    go_wp2
    go_ret
    exact ⟨by rw [Hr.out]; rfl, Below.refl _ _⟩
end Go.Proofs.Er
