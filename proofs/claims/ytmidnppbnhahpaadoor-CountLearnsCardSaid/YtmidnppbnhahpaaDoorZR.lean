import Derived.Test.YtmidnppbnhahpaaDoorZC
import Derived.Test.YtmidnppbnhahpaaDoorOpenL
import Derived.Test.YtmidnppbnhahpaaDoorRows
import Derived.Lib.LaidIn
import Derived.Lib.LaidU8T
import Derived.Deep.DeepHandedRow
import Derived.Deep.DeepWitnessRowRef
import Derived.ProofKit
import Derived.SizedLaws
import Derived.ChangeSame
import Derived.Deep.Fields
import Derived.JoinedCond
namespace Go.Proofs.Er
open Go Go.Shelf Go.Proofs Go.Proofs.YtmidnppbnhahpaaDoor
open Go.ChangeShapes Go.WideShapes Go.ChangeAt Go.RowKit Go.Lib
open Go.ChangeMaps (open_string shut_string)

theorem own_ : ownKnob Tryd.prog.godebug = none := by kernel_rfl
noncomputable def laidWorld (os : Os) : World :=
  let w0 := World.holding Tryd.prog os ⟨#[], #[], []⟩
  let put (h : Array Obj) (g : Nat) (cs : Array Value) : Array Obj := h.modify g fun
    | .cells _ t frozen => .cells cs t frozen
    | o => o
  let h1 := put w0.heap 0 (Lib.firstTab.map fun z => Value.int .u8 z).toArray
  let h2 := put h1 1 ((List.range 16).flatMap fun i => [Value.int .u8 (Lib.accLo i), Value.int .u8 (Lib.accHi i)]).toArray
  { w0 with heap := h2 }
theorem accEq : (Rows.laid_unicode_utf8_acceptRanges : DataW Unit) = Lib.acceptData := by kernel_rfl
theorem firstEq : Rows.laid_unicode_utf8_first = Lib.firstData := by kernel_rfl
theorem laidEq : Rows.countLearnsRow.laid = [("unicode/utf8.acceptRanges", Lib.acceptData), ("unicode/utf8.first", Lib.firstData)] := by
  rw [← accEq, ← firstEq]; rfl
theorem laid_met (os : Os) (args : Array Value) : laidMet Tryd.prog Rows.countLearnsRow.laid ((laidWorld os).forCall (fun _ _ => 0) ⟨#[], args, []⟩).memory := by
  rw [laidEq]
  exact (LaidIn.of_run (l := [("unicode/utf8.acceptRanges", Lib.acceptData), ("unicode/utf8.first", Lib.firstData)]) [1, 0] 8 (by kernel_rfl) (by kernel_rfl) (by kernel_rfl) (by kernel_rfl)).met

section
variable {H : Type} {enc : TypeId × Value → H} {w : World} {base : Nat} {spare : Nat → Bool} {held : Bool}
theorem cells26 : Tryd.prog.cellsOf 26 = 2 := by kernel_rfl
theorem bytes26 : 0 < Tryd.prog.bytesOf 26 := of_decide_eq_true (by kernel_rfl)
set_option maxRecDepth 100000 in
theorem pair_el (n : Nat) (cs' : List Value) (x : DataW H × List MemPlace) (h : DataW.trod enc Tryd.prog w base spare held n 26 cs' = some x) (hw : ∀ k ∈ x.1.weights Tryd.prog 26, k ≤ reachBytes) :
    ∃ y : Pr, cs' = cPr y ∧ (y.n.size ≤ reachBytes ∧ y.t.size ≤ reachBytes) := by
  obtain ⟨xs, n', rfl, rfl, hcl, hxl, hall⟩ := DataW.trod_struct Tryd.underlying26 h
  rw [cells26] at hcl
  obtain ⟨c0, c1, rfl⟩ : ∃ c0 c1, cs' = [c0, c1] := by
    match cs', hcl with
    | [c0, c1], _ => exact ⟨c0, c1, rfl⟩
  obtain ⟨y0, y1, rfl⟩ : ∃ y0 y1, xs = [y0, y1] := by
    match xs, hxl with
    | [y0, y1], _ => exact ⟨y0, y1, rfl⟩
  have f0 := hall 0 _ rfl
  have f1 := hall 1 _ rfl
  change DataW.trod _ _ _ _ _ _ _ 9 (([c0, c1].drop 0).take (Tryd.prog.cellsOf 9)) = some y0 at f0
  change DataW.trod _ _ _ _ _ _ _ 9 (([c0, c1].drop 1).take (Tryd.prog.cellsOf 9)) = some y1 at f1
  rw [cells9] at f0 f1
  obtain ⟨s0, e0, rfl, _⟩ := DataW.trod_string Tryd.underlying9 f0
  obtain ⟨s1, e1, rfl, _⟩ := DataW.trod_string Tryd.underlying9 f1
  simp at e0 e1
  subst e0 e1
  refine ⟨⟨s0, s1⟩, rfl, ?_, ?_⟩
  · have := hw s0.data.toList.length (by simp [DataW.weights, Tryd.underlying26, DataW.weightsEach])
    simpa using this
  · have := hw s1.data.toList.length (by simp [DataW.weights, Tryd.underlying26, DataW.weightsEach])
    simpa using this
end

theorem witness_row (os : Os) {H : Type} (enc : TypeId × Value → H) :
    (OpenSpec.ofChange Rows.countLearnsSpec).preRow enc Tryd.prog Tryd.f3 Rows.countLearnsRow.domain false Rows.countLearnsRow.laid ((laidWorld os).forCall (fun _ _ => 0) ⟨#[], #[.slice none 0 0], []⟩).memory #[.slice none 0 0] := by
  have hw : (DataW.whole enc Tryd.prog ((laidWorld os).forCall (fun _ _ => 0) ⟨#[], #[.slice none 0 0], []⟩).memory Tryd.f3.params.toList (OpenSpec.ofChange Rows.countLearnsSpec).vars false #[Value.slice none 0 0].toList 8).map (fun x => (x.1, x.2.1)) =
      some ([.nil], []) := by kernel_rfl
  obtain ⟨⟨x1, x2, x3⟩, hx, hx1⟩ := Option.map_eq_some_iff.1 hw
  simp only [Prod.mk.injEq] at hx1
  obtain ⟨rfl, rfl⟩ := hx1
  exact OpenSpec.preRow_of_cond 8 hx (by kernel_rfl) (fun k hk => by cases hk) (by kernel_rfl) (laid_met os _)
theorem laidOutR : laidOutB Tryd.prog = true := laidOutP

set_option maxRecDepth 100000 in
set_option maxHeartbeats 2000000 in
theorem lifted (os : Os) (started : os.Started) (H : Type) (enc : TypeId × Value → H) (F : Stop.Interp) :
    ReturnsInHanded {} Tryd.checked os 3 .any ((OpenSpec.ofChange Rows.countLearnsSpec).preRow enc Tryd.prog Tryd.f3 Rows.countLearnsRow.domain false Rows.countLearnsRow.laid) (((OpenSpec.ofChange Rows.countLearnsSpec).at F).post enc Tryd.prog Tryd.f3 false true false false) := by
  refine returnsInHanded_of_row (C := Tryd.checked) (s := OpenSpec.ofChange Rows.countLearnsSpec) own_ started (by kernel_rfl) Tryd.func3
    (witness_row_atRef (enc := enc) (C := Tryd.checked) false (laidWorld os) #[.slice none 0 0] rfl (by kernel_rfl) (by kernel_rfl) (by kernel_rfl) (witness_row os enc)) ?_
  intro W base args ds gs before hval0 hW _ _ hsz0 hL _ _
  have hval : ∀ (j : Nat) t v, Tryd.f3.params[j]? = some t → args[j]? = some v → Value.okWide Tryd.prog W .any base t v := hval0
  have hsz : (DataW.weightsEach Tryd.prog (Tryd.f3.params.toList ++ (OpenSpec.ofChange Rows.countLearnsSpec).bare.plain.varTypes Tryd.prog) (ds ++ gs)).all (· ≤ reachBytes) = true := hsz0
  have hW' := hW
  obtain ⟨p, q, hA0, hV0, rfl, _, _⟩ := hW
  have hA : DataW.TrodAll enc Tryd.prog W 0 (fun _ => true) true Tryd.f3.params.toList args.toList ds p := hA0
  rw [Tryd.params3] at hA hval hsz
  obtain ⟨v0, d0, rfl, rfl, h0⟩ := trodAll_one hA
  obtain ⟨rfl, rfl⟩ := trodVars_none hV0
  have k0 := h0
  have lt0 : ∀ x ∈ p, x.block < W.heap.size := by obtain ⟨m, hm⟩ := k0; exact DataW.trod_lt m _ _ _ hm
  obtain ⟨a0, len0, cap0, rfl⟩ := okWide_slice Tryd.underlying22 (hval 0 22 _ rfl rfl)
  have hwt : ∀ k ∈ d0.weights Tryd.prog 22, k ≤ reachBytes := fun k hk => by
    have := List.all_eq_true.1 hsz k (DataW.weights_mem_each (j := 0) (t := 22) rfl rfl k hk)
    simpa using this
  obtain ⟨fuel, hf⟩ := h0
  obtain ⟨v', l, hcs, hs, hg, hll⟩ := open_list Tryd.underlying22 cells26 (by omega) bytes26 cPr cPr_len (fun y => y.n.size ≤ reachBytes ∧ y.t.size ≤ reachBytes) pair_el hf hwt
  have hv' : v' = .slice a0 len0 cap0 := by simpa [Value.cells] using hcs.symm
  subst hv'
  have hL2 := hL
  rw [laidEq] at hL2
  have htab : Tabs W :=
    utf8Tabs_of_readsT (U8Types.of196 Tryd.lays196) ⟨by kernel_rfl, by kernel_rfl, by kernel_rfl, by kernel_rfl, by kernel_rfl, by kernel_rfl, by kernel_rfl⟩ (Lib.laidMet.reads hL2 (.tail _ (.head _))) (Lib.laidMet.reads hL2 (.head _))
  have hgw : 0 < W.heap.size ∧ 1 < W.heap.size := ⟨World.block_lt_of_cell? W _ (htab.1 0 (by omega)), World.block_lt_of_cell? W _ (htab.2 0 (by omega)).1⟩
  have hrb := reachBytes_lt
  clear hA0 hval0 hsz0 hsz hL hL2
  refine (countLearns_calls sameSaid l _ _ W hs htab hgw (by omega) (fun p hp => by have := hg p hp; omega)).mono ?_
  rintro e W' ⟨rfl, bel⟩
  exact ⟨_, rfl, _, _, _, [], _, [], hW', trodAll_mk1 (shut_bool Tryd.underlying4 _), trodAll_mk1 (Below.trod laidOutR (by kernel_rfl) (of_decide_eq_true (by kernel_rfl)) k0 bel lt0), rfl, bel.frame _, fun h => by cases h⟩

theorem countLearns_holds : Rows.CountLearnsSaid :=
  OpenClaim.holds_of_cond 3 Tryd.f3 rfl rfl rfl rfl rfl rfl rfl ⟨rfl, rfl, rfl, rfl, rfl⟩ rfl rfl rfl rfl rfl (by kernel_rfl) Tryd.func3 (by kernel_rfl)
    (of_decide_eq_true (by kernel_rfl)) (by unfold Func.isWrapper; rw [if_neg (of_decide_eq_false (by kernel_rfl))]; exact ⟨rfl, rfl⟩)
    (fun os started H enc _ F0 => by rw [OpenClaim.pre_eq_preRow]; exact lifted os started H enc F0)
#print axioms countLearns_holds
end Go.Proofs.Er
