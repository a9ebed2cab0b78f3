import Derived.Test.YtmidnppbnhahpaaDoorWZ
namespace Go.Proofs.Er
open Go Go.RowKit Go.Shelf Go.Proofs Go.Sort
attribute [local go_sem] Oper.semAt_some

def exA : Blk := ⟨⟨#[114, 110]⟩, ⟨#[109]⟩, 1⟩
def exB : Blk := ⟨⟨#[108]⟩, ⟨#[105]⟩, 1⟩
def exC : Blk := ⟨⟨#[114, 110]⟩, ⟨#[109]⟩, 2⟩
theorem exTable : tableF [exA, exB, exA] = ([exB, exC], 0) := by decide +kernel

set_option maxHeartbeats 2000000 in
set_option maxRecDepth 100000 in
theorem alive06_calls (w : World) (hT : Tabs w) : Calls Tryd.prog 11 #[] w fun e w' => e = .returned (.bool true) ∧ Below w.heap.size w w' := by
  have cellsL : ∀ (W : World), Below w.heap.size w W → ∃ W', W' = W.alloc (.cells #[.string ⟨#[114, 110]⟩, .string ⟨#[109]⟩, .int .i64 1, .string ⟨#[108]⟩, .string ⟨#[105]⟩, .int .i64 1, .string ⟨#[114, 110]⟩, .string ⟨#[109]⟩, .int .i64 1] 69) ∧
      Calls Tryd.prog 14 #[.slice (some ⟨W.heap.size, 0, none⟩) 3 3] W' fun e w' => ∃ g cap, e = .returned (.tuple #[.slice (some ⟨g, 0, none⟩) 2 cap, .int .i64 0]) ∧ Below W.heap.size W w' ∧
        w'.cell? ⟨g, 0, none⟩ = some (.string ⟨#[108]⟩) ∧ w'.cell? ⟨g, 1, none⟩ = some (.string ⟨#[105]⟩) ∧ w'.cell? ⟨g, 2, none⟩ = some (.int .i64 1) ∧ w'.cell? ⟨g, 5, none⟩ = some (.int .i64 2) := fun W hB => by
    refine ⟨_, rfl, ?_⟩
    have hb : Below W.heap.size W (W.alloc (.cells #[.string ⟨#[114, 110]⟩, .string ⟨#[109]⟩, .int .i64 1, .string ⟨#[108]⟩, .string ⟨#[105]⟩, .int .i64 1, .string ⟨#[114, 110]⟩, .string ⟨#[109]⟩, .int .i64 1] 69)) := (Below.refl _ _).alloc (Nat.le_refl _) _
    have hh := heap_alloc_new W (.cells #[.string ⟨#[114, 110]⟩, .string ⟨#[109]⟩, .int .i64 1, .string ⟨#[108]⟩, .string ⟨#[105]⟩, .int .i64 1, .string ⟨#[114, 110]⟩, .string ⟨#[109]⟩, .int .i64 1] 69)
    have hs : Sl (W.alloc (.cells #[.string ⟨#[114, 110]⟩, .string ⟨#[109]⟩, .int .i64 1, .string ⟨#[108]⟩, .string ⟨#[105]⟩, .int .i64 1, .string ⟨#[114, 110]⟩, .string ⟨#[109]⟩, .int .i64 1] 69)) (fun _ => True) 3 (.slice (some ⟨W.heap.size, 0, none⟩) 3 3) [exA, exB, exA].length ([exA, exB, exA].flatMap cBlk) := by
      refine ⟨rfl, .inr ⟨_, _, 3, rfl, Nat.le_refl _, trivial, by simp, fun j u hu => ?_⟩⟩
      rw [Nat.zero_add]
      refine cell_at hh ?_
      simpa [exA, exB, cBlk] using hu
    have C := table_calls _ _ _ _ hs (by decide) (hT.below (hB.trans (hb.mono hB.size))) (by decide)
    rw [exTable] at C
    refine C.mono ?_
    rintro e w' ⟨u, rfl, hB2, hrow, _⟩
    rcases hrow.2 with ⟨_, h0⟩ | ⟨g, cap, cur, rfl, _⟩
    · exact absurd h0 (by decide)
    · have hc := fun j u h => by have := hrow.cells rfl j u h; rw [add_zero_] at this; exact this
      refine ⟨g, cap, rfl, hb.trans (hB2.mono (by simp)), hc 0 _ rfl, hc 1 _ rfl, hc 2 _ rfl, hc 5 _ rfl⟩
  have HC := Lib.hid cellsL
  clear cellsL
  go_enter Tryd.func11, Tryd.ntmps11
  go_wp2_with fail
  have hb2 : Below w.heap.size w ((w.alloc (.cells #[.string ⟨#[114, 110]⟩, .string ⟨#[109]⟩, .int .i64 1] 69)).alloc (.cells #[.string ⟨#[108]⟩, .string ⟨#[105]⟩, .int .i64 1] 69)) := ((Below.refl _ w).alloc (Nat.le_refl _) _).alloc (by simp) _
  obtain ⟨W', hW', hC⟩ := HC.out _ hb2
  have hn := (two_allocs w (.cells #[.string ⟨#[114, 110]⟩, .string ⟨#[109]⟩, .int .i64 1] 69) (.cells #[.string ⟨#[108]⟩, .string ⟨#[105]⟩, .int .i64 1] 69)).2
  have hsz : ((w.alloc (.cells #[.string ⟨#[114, 110]⟩, .string ⟨#[109]⟩, .int .i64 1] 69)).alloc (.cells #[.string ⟨#[108]⟩, .string ⟨#[105]⟩, .int .i64 1] 69)).heap.size = w.heap.size + 1 + 1 := by simp
  rw [← hW']
  rw [hsz] at hC
  refine hC.mono ?_
  rintro e w3 ⟨g, cap, rfl, hB3, d0, d1, d2, d5⟩
  have hn3 := (hB3.block (w.heap.size + 1) (by omega)).trans hn
  have c0 : w3.cell? ⟨w.heap.size + 1, 0, none⟩ = some (.string ⟨#[108]⟩) := cell_at (o := 0) hn3 rfl
  have c1 : w3.cell? ⟨w.heap.size + 1, 1, none⟩ = some (.string ⟨#[105]⟩) := cell_at (o := 1) hn3 rfl
  have c2 : w3.cell? ⟨w.heap.size + 1, 2, none⟩ = some (.int .i64 1) := cell_at (o := 2) hn3 rfl
  have HB := Lib.hid (hb2.trans (hB3.mono (by omega)))
  clear hn3 hn hB3 hC hW' hb2 HC hsz hT
  go_wp2_with fail
  go_region
  go_wp2_with fail
  go_ret
  exact ⟨rfl, HB.out.drew⟩
end Go.Proofs.Er
