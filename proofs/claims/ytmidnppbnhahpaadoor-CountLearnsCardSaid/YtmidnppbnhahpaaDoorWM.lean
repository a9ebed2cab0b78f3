import Derived.Test.YtmidnppbnhahpaaDoorWN
import Derived.Laws.BytesArg
namespace Go.Proofs.Er
open Go Go.RowKit Go.Shelf Go.Proofs Go.Sort
attribute [local go_sem] Oper.semAt_some

theorem conv_row {P : Program} {src e dst : TypeId} (hs : P.underlying src = some (.slice e)) (he : P.underlying e = some (.int .u8)) (hd : P.underlying dst = some .string) {W : World} {eT n : Nat} {v : Value} (zs : List Int) (hz : zs.length = n)
    (h : Row W eT 1 v n (zs.map (Value.int .u8))) : (convert src dst v).run P W = .ok (.string (strOfNums zs)) W := by
  rcases h.2 with ⟨rfl, rfl⟩ | ⟨g, cap, cur, rfl, _, hh, hc, _, _, ht⟩
  · have : zs = [] := List.length_eq_zero_iff.1 hz
    subst this
    exact run_convert_bytes_nil W src e hs he 0 0 dst hd
  · refine run_convert_bytes_arg W src e hs he g 0 n cap zs hz (fun i hi => ?_) dst hd
    have hi' : i < zs.length := by omega
    have := h.cells rfl i (.int .u8 (zs.getD i 0)) (by simp [List.getElem?_eq_getElem hi'])
    rw [add_zero_] at this
    simpa using this

def numsA (l : List Stp) : List Int := (l.filter (·.k ≠ 3)).flatMap fun s => Lib.encodeRuneZ s.a
def numsB (l : List Stp) : List Int := (l.filter (·.k ≠ 2)).flatMap fun s => Lib.encodeRuneZ s.b
theorem nums_noisy (l : List Stp) : strOfNums (numsA l) = noisyF l := by
  unfold strOfNums noisyF numsA bytesR Lib.encodeRune
  congr 1
  rw [List.map_flatMap]
theorem nums_truth (l : List Stp) : strOfNums (numsB l) = truthF l := by
  unfold strOfNums truthF numsB bytesR Lib.encodeRune
  congr 1
  rw [List.map_flatMap]
theorem numsA_len (l : List Stp) : (numsA l).length ≤ 4 * l.length := by
  induction l with
  | nil => simp [numsA]
  | cons s l ih =>
    unfold numsA at *
    have := Lib.encodeRuneZ_length s.a
    by_cases h : s.k = 3 <;> simp [h] at * <;> omega
theorem numsB_len (l : List Stp) : (numsB l).length ≤ 4 * l.length := by
  induction l with
  | nil => simp [numsB]
  | cons s l ih =>
    unfold numsB at *
    have := Lib.encodeRuneZ_length s.b
    by_cases h : s.k = 2 <;> simp [h] at * <;> omega
theorem numsA_snoc (l : List Stp) (s : Stp) : numsA (l ++ [s]) = if s.k ≠ 3 then numsA l ++ Lib.encodeRuneZ s.a else numsA l := by
  unfold numsA
  by_cases h : s.k = 3 <;> simp [h, List.filter_append]
theorem numsB_snoc (l : List Stp) (s : Stp) : numsB (l ++ [s]) = if s.k ≠ 2 then numsB l ++ Lib.encodeRuneZ s.b else numsB l := by
  unfold numsB
  by_cases h : s.k = 2 <;> simp [h, List.filter_append]

def readF (l : List Stp) : ByteArray × ByteArray × Int := if checkS l then (noisyF l, truthF l, 0) else (⟨#[]⟩, ⟨#[]⟩, 7)

theorem valid_range (r : Int) (h : Lib.validRune r = true) : -2147483648 ≤ r ∧ r ≤ 2147483647 := by
  unfold Lib.validRune at h
  simp at h
  omega
theorem may_range (s : Stp) (h : mayF s = true) : (-2147483648 ≤ s.a ∧ s.a ≤ 2147483647) ∧ (-2147483648 ≤ s.b ∧ s.b ≤ 2147483647) := by
  unfold mayF at h
  simp only [Bool.and_eq_true] at h
  exact ⟨valid_range _ h.1.1, valid_range _ h.1.2⟩

set_option maxHeartbeats 1000000 in
theorem read_calls (l : List Stp) (v : Value) (S : Nat → Prop) (w : World) (h : Sl w S 3 v l.length (l.flatMap cStp)) (hl : l.length ≤ 1000000) (h0 : 0 < l.length) :
    Calls Tryd.prog 101 #[v] w fun e w' => e = .returned (.tuple #[.string (readF l).1, .string (readF l).2.1, .int .i64 (readF l).2.2]) ∧ Below w.heap.size w w' := by
  have C := check_calls l v S w h hl h0
  unfold readF
  cases hck : checkS l
  · rw [hck] at C
    simp only [Bool.false_eq_true, if_false] at C ⊢
    go_enter Tryd.func101, Tryd.ntmps101
    go_wp2_with fail
    refine C.mono ?_
    rintro e w' ⟨rfl, hb'⟩
    have HB := Lib.hid hb'
    clear hb' C
    go_wp2
    go_ret3
    exact ⟨rfl, HB.out⟩
  · rw [hck] at C
    simp only [if_true] at C ⊢
    have hmay : ∀ s ∈ l, mayF s = true := by simpa [checkS] using hck
    clear hck
    rw [← nums_noisy, ← nums_truth]
    obtain ⟨b, off, c, rfl, _, _, hb, hc⟩ := h.at_ h0
    have HC := Lib.hid hc
    have HM := Lib.hid hmay
    clear hc hmay h
    go_enter Tryd.func101, Tryd.ntmps101
    go_wp2_with fail
    refine C.mono ?_
    rintro e w1 ⟨rfl, hb1⟩
    have HB1 := Lib.hid hb1
    clear hb1 C
    go_wp2_with fail
    go_loopw [6, 7, 17] (fun va vb iv W => ∃ i : Nat, iv = .int .i64 i ∧ i ≤ l.length ∧ Below w1.heap.size w1 W ∧ Row W 5 1 va (numsA (l.take i)).length ((numsA (l.take i)).map (Value.int .u8)) ∧ Row W 5 1 vb (numsB (l.take i)).length ((numsB (l.take i)).map (Value.int .u8)) ∧
        (∀ k, va.ownBlock = some k → w1.heap.size ≤ k) ∧ (∀ k, vb.ownBlock = some k → w1.heap.size ≤ k) ∧ (∀ k, va.ownBlock = some k → vb.ownBlock ≠ some k))
      (fun _ _ iv _ => l.length - (intOf iv).toNat)
    case atStart => exact ⟨0, rfl, by omega, Below.refl _ _, Row.nil _ _ _, Row.nil _ _ _, by simp [Value.ownBlock], by simp [Value.ownBlock], by simp [Value.ownBlock]⟩
    case round =>
      obtain ⟨i, rfl, hi, hB, ha, hbb, hoa, hob, hne⟩ := hrel
      rcases Nat.lt_or_ge i l.length with hlt | hge
      · have hb1 : (i : Int) < (l.length : Int) := by omega
        obtain ⟨s, hs⟩ : ∃ s, l[i]? = some s := ⟨l[i], List.getElem?_eq_getElem hlt⟩
        have hms := may_range s (HM.out s (List.mem_of_getElem? hs))
        have e0 : wr.cell? ⟨b, off + i * 3, none⟩ = some (.int .i64 s.k) := cellB hB (cellB HB1.out (Sl.elem cStp_len HC.out i s hs 0 _ rfl))
        have e1 : wr.cell? ⟨b, off + i * 3 + 1, none⟩ = some (.int .i32 s.a) := cellB hB (cellB HB1.out (Sl.elem cStp_len HC.out i s hs 1 _ rfl))
        have e2 : wr.cell? ⟨b, off + i * 3 + 2, none⟩ = some (.int .i32 s.b) := cellB hB (cellB HB1.out (Sl.elem cStp_len HC.out i s hs 2 _ rfl))
        have HS := Lib.hid hs
        have HA := Lib.hid ha
        have HBB := Lib.hid hbb
        have HOA := Lib.hid hoa
        have HOB := Lib.hid hob
        have HNE := Lib.hid hne
        have HI := Lib.hid hi
        clear hs ha hbb hoa hob hne hi
        have ht : l.take (i + 1) = l.take i ++ [s] := by rw [List.take_add_one, HS.out]; rfl
        have HT := Lib.hid ht
        have hvv : Lib.validRune s.a = true ∧ Lib.validRune s.b = true := by
          have := HM.out s (List.mem_of_getElem? HS.out)
          unfold mayF at this
          simp only [Bool.and_eq_true] at this
          exact ⟨this.1.1, this.1.2⟩
        have HV := Lib.hid hvv
        clear ht hvv hms
        rcases (by omega : s.k = 3 ∨ s.k = 2 ∨ (s.k ≠ 3 ∧ s.k ≠ 2)) with hk | hk | ⟨n3, n2⟩
        · rw [hk] at e0
          have hb0 : KeptOn (fun _ => True) wr (wr.alloc (.cells #[.int .i64 3, .int .i32 s.a, .int .i32 s.b] 136)) := (KeptOn.refl _ _).alloc _
          have hBa : Below w1.heap.size w1 (wr.alloc (.cells #[.int .i64 3, .int .i32 s.a, .int .i32 s.b] 136)) := hB.alloc hB.size _
          have hra : Row (wr.alloc (.cells #[.int .i64 3, .int .i32 s.a, .int .i32 s.b] 136)) 5 1 u6 _ _ := HA.out.keep hb0 (fun _ _ => trivial)
          have hrb : Row (wr.alloc (.cells #[.int .i64 3, .int .i32 s.a, .int .i32 s.b] 136)) 5 1 u7 _ _ := HBB.out.keep hb0 (fun _ _ => trivial)
          have hsz : wr.heap.size ≤ (wr.alloc (.cells #[.int .i64 3, .int .i32 s.a, .int .i32 s.b] 136)).heap.size := hb0.size
          have hs1 := hB.size
          have CB := appendRune_calls s.b HV.out.2 u7 _ _ _ hrb (by have := numsB_len (l.take i); simp at this; omega)
          have HRA := Lib.hid hra
          have HRB := Lib.hid hrb
          clear hra hrb
          go_wp2_with fail
          refine CB.mono ?_
          rintro e w2 ⟨v', rfl, hr2, hk2, hl2⟩
          clear CB
          have H2 := Lib.hid hr2
          have HL2 := Lib.hid hl2
          clear hr2 hl2
          go_wp2_with fail
          refine ⟨⟨i + 1, by push_cast; rfl, by omega, (hBa.trans (hk2.below hBa.size (fun k hk e => by have := HOB.out k e; omega))), ?_, ?_, HOA.out, ?_, ?_⟩, by simp [intOf]; omega⟩
          · rw [HT.out, numsA_snoc, if_neg (by simpa using hk)]
            exact HRA.out.keep hk2 (fun k hk e => HNE.out k hk e)
          · rw [HT.out, numsB_snoc, if_pos (by rw [hk]; decide)]
            have := H2.out
            simpa [Lib.runeCells] using this
          · intro k hk
            rcases HL2.out k hk with h | h
            · exact HOB.out k h
            · omega
          · intro k hk h
            rcases HL2.out k h with h | h
            · exact HNE.out k hk h
            · have := HRA.out.lt k hk; omega
        · rw [hk] at e0
          have hb0 : KeptOn (fun _ => True) wr (wr.alloc (.cells #[.int .i64 2, .int .i32 s.a, .int .i32 s.b] 136)) := (KeptOn.refl _ _).alloc _
          have hBa : Below w1.heap.size w1 (wr.alloc (.cells #[.int .i64 2, .int .i32 s.a, .int .i32 s.b] 136)) := hB.alloc hB.size _
          have hra : Row (wr.alloc (.cells #[.int .i64 2, .int .i32 s.a, .int .i32 s.b] 136)) 5 1 u6 _ _ := HA.out.keep hb0 (fun _ _ => trivial)
          have hrb : Row (wr.alloc (.cells #[.int .i64 2, .int .i32 s.a, .int .i32 s.b] 136)) 5 1 u7 _ _ := HBB.out.keep hb0 (fun _ _ => trivial)
          have hsz : wr.heap.size ≤ (wr.alloc (.cells #[.int .i64 2, .int .i32 s.a, .int .i32 s.b] 136)).heap.size := hb0.size
          have hs1 := hB.size
          have CA := appendRune_calls s.a HV.out.1 u6 _ _ _ hra (by have := numsA_len (l.take i); simp at this; omega)
          have HRA := Lib.hid hra
          have HRB := Lib.hid hrb
          clear hra hrb
          go_wp2_with fail
          refine CA.mono ?_
          rintro e w2 ⟨v', rfl, hr2, hk2, hl2⟩
          have hq : w2.cell? ⟨wr.heap.size, 0, none⟩ = some (.int .i64 2) := cellK hk2 (by simp) (fun e => by have := HRA.out.lt _ e; have := HA.out.lt _ e; dsimp only at *; omega)
          clear CA
          have H2 := Lib.hid hr2
          have HL2 := Lib.hid hl2
          clear hr2 hl2
          go_wp2_with fail
          refine ⟨⟨i + 1, by push_cast; rfl, by omega, (hBa.trans (hk2.below hBa.size (fun k hk e => by have := HOA.out k e; omega))), ?_, ?_, ?_, HOB.out, ?_⟩, by simp [intOf]; omega⟩
          · rw [HT.out, numsA_snoc, if_pos (by rw [hk]; decide)]
            have := H2.out
            simpa [Lib.runeCells] using this
          · rw [HT.out, numsB_snoc, if_neg (by simpa using hk)]
            exact HRB.out.keep hk2 (fun k hk e => HNE.out k e hk)
          · intro k hk
            rcases HL2.out k hk with h | h
            · exact HOA.out k h
            · omega
          · intro k hk h
            rcases HL2.out k hk with hk | hk
            · exact HNE.out k hk h
            · have := HRB.out.lt k h; omega
        · have n3' : (s.k != 3) = true := by simpa using n3
          have n2' : (s.k != 2) = true := by simpa using n2
          have hb0 : KeptOn (fun _ => True) wr (wr.alloc (.cells #[.int .i64 s.k, .int .i32 s.a, .int .i32 s.b] 136)) := (KeptOn.refl _ _).alloc _
          have hBa : Below w1.heap.size w1 (wr.alloc (.cells #[.int .i64 s.k, .int .i32 s.a, .int .i32 s.b] 136)) := hB.alloc hB.size _
          have hra : Row (wr.alloc (.cells #[.int .i64 s.k, .int .i32 s.a, .int .i32 s.b] 136)) 5 1 u6 _ _ := HA.out.keep hb0 (fun _ _ => trivial)
          have hrb : Row (wr.alloc (.cells #[.int .i64 s.k, .int .i32 s.a, .int .i32 s.b] 136)) 5 1 u7 _ _ := HBB.out.keep hb0 (fun _ _ => trivial)
          have hsz : wr.heap.size ≤ (wr.alloc (.cells #[.int .i64 s.k, .int .i32 s.a, .int .i32 s.b] 136)).heap.size := hb0.size
          have hs1 := hB.size
          have CA := appendRune_calls s.a HV.out.1 u6 _ _ _ hra (by have := numsA_len (l.take i); simp at this; omega)
          have HRA := Lib.hid hra
          have HRB := Lib.hid hrb
          clear hra hrb
          go_wp2_with fail
          refine CA.mono ?_
          rintro e w2 ⟨v', rfl, hr2, hk2, hl2⟩
          have hne0 : ∀ v : Value, u6.ownBlock ≠ some wr.heap.size := fun _ e => by have := HA.out.lt _ e; omega
          have hq : w2.cell? ⟨wr.heap.size, 0, none⟩ = some (.int .i64 s.k) := cellK hk2 (by simp) (hne0 u6)
          have hq2 : w2.cell? ⟨wr.heap.size, 2, none⟩ = some (.int .i32 s.b) := cellK hk2 (by simp) (hne0 u6)
          have hrb2 : Row w2 5 1 u7 _ _ := HRB.out.keep hk2 (fun k hk e => HNE.out k e hk)
          have CB := appendRune_calls s.b HV.out.2 u7 _ _ _ hrb2 (by have := numsB_len (l.take i); simp at this; omega)
          have hs2 := hk2.size
          have HRB2 := Lib.hid hrb2
          clear CA hrb2
          have H2 := Lib.hid hr2
          have HL2 := Lib.hid hl2
          clear hr2 hl2
          go_wp2_with fail
          refine CB.mono ?_
          rintro e w3 ⟨v3, rfl, hr3, hk3, hl3⟩
          clear CB
          have H3 := Lib.hid hr3
          have HL3 := Lib.hid hl3
          clear hr3 hl3 hq hq2
          have hNE2 : ∀ k, v'.ownBlock = some k → u7.ownBlock ≠ some k := fun k hk h => by
            rcases HL2.out k hk with hk | hk
            · exact HNE.out k hk h
            · have := HRB.out.lt k h; omega
          go_wp2_with fail
          have hBc : Below w1.heap.size w1 w2 := hBa.trans (hk2.below hBa.size (fun k hk e => by have := HOA.out k e; omega))
          refine ⟨⟨i + 1, by push_cast; rfl, by omega, (hBc.trans (hk3.below hBc.size (fun k hk e => by have := HOB.out k e; omega))), ?_, ?_, ?_, ?_, ?_⟩, by simp [intOf]; omega⟩
          · rw [HT.out, numsA_snoc, if_pos n3]
            have := H2.out.keep hk3 (fun k hk e => hNE2 k hk e)
            simpa [Lib.runeCells] using this
          · rw [HT.out, numsB_snoc, if_pos n2]
            have := H3.out
            simpa [Lib.runeCells] using this
          · intro k hk
            rcases HL2.out k hk with h | h
            · exact HOA.out k h
            · omega
          · intro k hk
            rcases HL3.out k hk with h | h
            · exact HOB.out k h
            · omega
          · intro k hk h
            rcases HL3.out k h with h | h
            · exact hNE2 k hk h
            · have := H2.out.lt k hk; omega
      · have hil : i = l.length := by omega
        subst hil
        rw [List.take_length] at ha hbb
        have hb1 : ¬ (l.length : Int) < (l.length : Int) := by omega
        have hca : ∀ m, Sem.run Tryd.prog (convert 105 9 u6) (wr.drewN m) = .ok (.string (strOfNums (numsA l))) (wr.drewN m) := fun m => conv_row Tryd.underlying105 Tryd.underlying5 Tryd.underlying9 (numsA l) rfl (ha.drewN m)
        have hcb : ∀ m, Sem.run Tryd.prog (convert 105 9 u7) (wr.drewN m) = .ok (.string (strOfNums (numsB l))) (wr.drewN m) := fun m => conv_row Tryd.underlying105 Tryd.underlying5 Tryd.underlying9 (numsB l) rfl (hbb.drewN m)
        have HBf := Lib.hid (HB1.out.trans (hB.mono HB1.out.size))
        obtain ⟨Aa, ca, rfl, hca1⟩ := ha.form
        obtain ⟨Ab, cb, rfl, hcb1⟩ := hbb.form
        clear ha hbb hoa hob hne hB hi
        go_wp2_with fail
        go_quiet (fail)
        go_wp2_with fail
        go_ret3
        exact ⟨rfl, below_drewN HBf.out _⟩
end Go.Proofs.Er
