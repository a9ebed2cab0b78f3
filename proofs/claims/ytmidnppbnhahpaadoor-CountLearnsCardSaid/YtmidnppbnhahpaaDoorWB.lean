import Derived.Test.YtmidnppbnhahpaaDoorWA
import Derived.Shelf.Unicode.DecodeSlow
import Derived.Lib.DecodeN
import Derived.Lib.Hide
namespace Go.Proofs.Er
open Go Go.RowKit Go.Shelf Go.Proofs
attribute [local go_sem] Oper.semAt_some

def Tabs (w : World) : Prop := Lib.Utf8Tabs 0 1 w
theorem Tabs.keep {S : Nat → Prop} {w w' : World} (h : Tabs w) (hk : KeptOn S w w') (hS : S 0 ∧ S 1) : Tabs w' := by
  have hc : ∀ (b : Nat) (o : Nat) v, S b → w.cell? ⟨b, o, none⟩ = some v → w'.cell? ⟨b, o, none⟩ = some v := fun b o v hs hv =>
    (World.cell?_of_block (hk.block b (World.block_lt_of_cell? w _ hv) hs)).trans hv
  refine ⟨fun c hc' => hc _ _ _ hS.1 (h.1 c hc'), fun i hi => ⟨hc _ _ _ hS.2 (h.2 i hi).1, hc _ _ _ hS.2 (h.2 i hi).2⟩⟩
theorem Tabs.below {w w' : World} (h : Tabs w) (hk : Below w.heap.size w w') : Tabs w' := h.keep (S := fun _ => True) (KeptOn.of_all hk) ⟨trivial, trivial⟩

def DecSaid : Prop := ∀ (s : ByteArray) (w : World), Tabs w → Calls Tryd.prog 87 #[.string s] w fun e w' => e = .returned (.tuple #[.int .i32 (dec1 s).1, .int .i64 (dec1 s).2]) ∧ Below w.heap.size w w'

theorem runesFrom_step (k : Nat) (t : ByteArray) (h : t.size ≠ 0) : runesFrom (k + 1) t = (((dec1 t).1 : Int), decide (((dec1 t).1 : Int) ≠ 65533) || decide (1 < ((dec1 t).2 : Int))) :: runesFrom k (t.extract (dec1 t).2 t.size) := by
  rw [runesFrom, if_neg h]
theorem runesFrom_end (k : Nat) (t : ByteArray) (h : t.size = 0) : runesFrom k t = [] := by
  cases k
  · rfl
  · rw [runesFrom, if_pos h]
theorem dec1_pos (t : ByteArray) (h : t.size ≠ 0) : 1 ≤ (dec1 t).2 ∧ (dec1 t).2 ≤ t.size := by
  unfold dec1
  have h1 : 1 ≤ t.size := by omega
  rw [if_neg h, Lib.decode_at, Nat.sub_zero]
  clear h
  unfold Lib.decodeN
  repeat' split
  all_goals simp only
  all_goals omega
theorem box_set {W : World} {B T : Nat} {v : Value} {z : Nat × Nat} (h : W.heap[B]? = some (.cells #[v] T z)) (u : Value) : (W.setCell ⟨B, 0, none⟩ u).heap[B]? = some (.cells #[u] T z) := by
  simp [World.setCell, Array.getElem?_modify, h]
theorem Lib.size_extract_to_end (t : ByteArray) (n : Nat) : (t.extract n t.size).size = t.size - n := by simp [ByteArray.size_extract]
def strAt (B : Nat) (w : World) : Nat := match w.cell? ⟨B, 0, none⟩ with | some (.string t) => t.size | _ => 0
theorem strAt_of {B : Nat} {w : World} {t : ByteArray} (h : w.cell? ⟨B, 0, none⟩ = some (.string t)) : strAt B w = t.size := by simp [strAt, h]

set_option maxHeartbeats 1000000 in
theorem all_iter (hdec : DecSaid) (s : ByteArray) (B : Nat) (ro : Nat → Prop) (w : World) (hro : ∀ k, ro k → k ≠ B) (hgB : B ≠ 0 ∧ B ≠ 1) (hT : Tabs w) (hb : w.heap[B]? = some (.cells #[.string s] 9 (0, 0))) :
    IterC Tryd.prog 86 #[.pointer (some ⟨B, 0, none⟩)] (fun x : Int × Bool => #[.int .i32 x.1, .bool x.2]) (fun k => k = B) (fun k => k = 0 ∨ k = 1) ro
      (fun pre x _ => (pre ++ [x]) <+: allF s) (fun xs _ => xs = allF s) (fun pre _ => pre <+: allF s) w := by
  intro l own0 J Jx W hW hdis hJ hJx hY h0
  have hlB : B < w.heap.size := (Array.getElem?_eq_some_iff.1 hb).1
  have hTW : Tabs W := hT.keep hW ⟨trivial, trivial⟩
  have hbW : W.heap[B]? = some (.cells #[.string s] 9 (0, 0)) := (hW.block B hlB trivial).trans hb
  refine callsIn_of_wp Tryd.func86 rfl trivial ?_ rfl
  simp only [Tryd.ntmps86, List.size_toArray, List.length_cons, List.length_nil, Nat.reduceAdd, Nat.reduceSub, Array.replicate_succ, Array.replicate_zero, List.push_toArray, List.append_toArray, List.nil_append, List.cons_append]
  gi_wp2
  gi_loopw [3, 4] (fun _ _ wr => ∃ own pre k t, wr.heap[B]? = some (.cells #[.string t] 9 (0, 0)) ∧ allF s = pre ++ runesFrom k t ∧ t.size ≤ k ∧ J own pre wr ∧ (∀ j, own j → own0 j ∨ W.heap.size ≤ j) ∧ KeptOn (fun j => ¬ own0 j ∧ ¬ j = B) W wr)
    (fun _ _ wr => strAt B wr)
  case atStart => exact ⟨own0, [], s.size, s, hbW, rfl, Nat.le_refl _, h0, fun _ h => .inl h, KeptOn.refl _ _⟩
  case round =>
    obtain ⟨own, pre, k, t, hbt, hall, hk, hj, hsub, hkept⟩ := hrel
    have hcell := cell_of_one hbt
    have hfree := free_of_one hbt
    by_cases hz : t.size = 0
    · gi_wp2
      go_end0
      refine ⟨⟨_, rfl⟩, own, hsub, hkept, .inl ⟨pre, ?_, hj⟩⟩
      rw [hall, runesFrom_end _ _ hz, List.append_nil]
    · obtain ⟨k, rfl⟩ : ∃ m, k = m + 1 := ⟨k - 1, by omega⟩
      rw [runesFrom_step _ _ hz] at hall
      have hpos := dec1_pos t hz
      have hTwr : Tabs wr := hTW.keep hkept ⟨⟨fun h => (hdis _ h).2.1 (.inl rfl), fun h => hgB.1 h.symm⟩, ⟨fun h => (hdis _ h).2.1 (.inr rfl), fun h => hgB.2 h.symm⟩⟩
      have hC := hdec t wr hTwr
      have hnb : ¬ own B := fun h => (hsub _ h).elim (fun h => (hdis _ h).1 rfl) (fun h => by have := (Array.getElem?_eq_some_iff.1 hbW).1; omega)
      generalize hd : dec1 t = d at hC hall hpos
      obtain ⟨r, n⟩ := d
      simp only at hC hall hpos
      gi_wp2_with fail
      refine ⟨trivial, rfl, (callsIn_wide.2 hC).mono ?_⟩
      rintro e W1 ⟨rfl, hB1⟩
      clear hC hd
      have hj1 : J own pre W1 := hJ.keep _ _ _ _ hj (KeptOn.of_all hB1)
      have hbt1 := (hB1.block B (Array.getElem?_eq_some_iff.1 hbt).1).trans hbt
      have hcell1 := cell_of_one hbt1
      have hfree1 := free_of_one hbt1
      have hk1 : KeptOn (fun j => ¬ own0 j ∧ ¬ j = B) W W1 := hkept.trans (KeptOn.of_all hB1) (S := fun j => ¬ own0 j ∧ ¬ j = B) (T := fun _ => True) (fun _ _ _ => trivial)
      have hs1 := hB1.size
      have hpre : ∀ b, (decide ((r : Int) ≠ 65533) || decide (1 < (n : Int))) = b → (pre ++ [((r : Int), b)]) <+: allF s := by
        rintro b rfl
        rw [hall]
        exact ⟨runesFrom k (t.extract n t.size), by simp⟩
      have hfin : ∀ b, (decide ((r : Int) ≠ 65533) || decide (1 < (n : Int))) = b → allF s = (pre ++ [((r : Int), b)]) ++ runesFrom k (t.extract n t.size) := by
        rintro b rfl
        rw [hall]
        simp
      have Hall := Lib.hid hall
      clear hall
      by_cases hr : (r : Int) = 65533
      all_goals
        first
          | (have hrb : ((r : Int) != 65533) = false := by simp [hr]
             have hbb : (decide ((r : Int) ≠ 65533) || decide (1 < (n : Int))) = decide (1 < (n : Int)) := by simp [hr])
          | (have hrb : ((r : Int) != 65533) = true := by simp [hr]
             have hbb : (decide ((r : Int) ≠ 65533) || decide (1 < (n : Int))) = true := by simp [hr])
        have hfin1 := Lib.hid (hfin _ hbb)
        obtain ⟨fn, tmps, assign, body, hy, hR⟩ := hY own pre _ W1 hj1 (hpre _ hbb)
        dsimp only at hy
        have HRc := Lib.hid hr
        clear hpre hfin hbb hr
        gi_wp2_with fail
        refine ⟨rfl, hR.mono ?_⟩
        rintro e W' ⟨own', ho', hk', (⟨rfl, hj'⟩ | ⟨rfl, hj'⟩)⟩
        · have hbt' := (hk'.block B (Array.getElem?_eq_some_iff.1 hbt1).1 hnb).trans hbt1
          have hcell' := cell_of_one hbt'
          have hfree' := free_of_one hbt'
          have hsub' : ∀ j, own' j → own0 j ∨ W.heap.size ≤ j := fun j hj => (ho' j hj).elim (hsub j) (fun h => .inr (by have := hk1.size; omega))
          have hk2 : KeptOn (fun j => ¬ own0 j ∧ ¬ j = B) W W' := hk1.trans hk' (fun j hj h h2 => (hsub j h2).elim h.1 (by omega))
          have hnb' : ¬ own' B := fun h => (ho' _ h).elim hnb (by have := (Array.getElem?_eq_some_iff.1 hbt1).1; omega)
          clear hY hy
          gi_wp2_with fail
          have hb2 := box_set hbt' (.string (t.extract n t.size))
          refine ⟨⟨own', _, k, _, hb2, hfin1.out, ?_, hJ.keep _ _ _ _ hj' ((KeptOn.refl _ _).setCell _ _ ?_), hsub', hk2.setCell _ _ (fun _ h => h.2 rfl)⟩, ?_⟩
          · rw [Lib.size_extract_to_end]; omega
          · rintro _ (h | h)
            · exact hnb' h
            · exact hro _ h rfl
          · rw [strAt_of (cell_of_one hb2), strAt_of hcell, Lib.size_extract_to_end]; omega
        · clear hY hy
          gi_wp2_with fail
          refine bodyPost_ret (results_none rfl _ _ _) rfl ?_
          have hk2 : KeptOn (fun j => ¬ own0 j ∧ ¬ j = B) W W' := hk1.trans hk' (fun j hj h h2 => (hsub j h2).elim h.1 (by omega))
          exact ⟨⟨_, rfl⟩, own', fun j hj => (ho' j hj).elim (hsub j) (fun h => .inr (by have := hk1.size; omega)), hk2, .inr ⟨_, ⟨_, hfin1.out.symm⟩, hj'⟩⟩
end Go.Proofs.Er
