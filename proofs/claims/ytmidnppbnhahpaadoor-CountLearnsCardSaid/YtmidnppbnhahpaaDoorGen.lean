import Derived.RangeFuncNested
import Derived.RangeFuncBound
import Derived.RangeFuncCalls
import Derived.Deep.Draws
namespace Go.Proofs.Er
open Go Go.RowKit

/-- What a step keeps: the blocks of S that lay lie as they lay; the streams are as they were; no block has gone. -/
structure KeptOn (S : Nat → Prop) (W W' : World) : Prop where
  os : W'.os = W.os
  tape : W'.tape = W.tape
  output : W'.output = W.output
  size : W.heap.size ≤ W'.heap.size
  block : ∀ k, k < W.heap.size → S k → W'.heap[k]? = W.heap[k]?

theorem KeptOn.refl (S : Nat → Prop) (W : World) : KeptOn S W W := ⟨rfl, rfl, rfl, Nat.le_refl _, fun _ _ _ => rfl⟩
theorem KeptOn.imp {S T : Nat → Prop} {A B : World} (h : KeptOn S A B) (hs : ∀ k, k < A.heap.size → T k → S k) : KeptOn T A B :=
  ⟨h.os, h.tape, h.output, h.size, fun k hk ht => h.block k hk (hs k hk ht)⟩
theorem KeptOn.trans {S T : Nat → Prop} {A B C : World} (h : KeptOn S A B) (k : KeptOn T B C) (hs : ∀ j, j < A.heap.size → S j → T j) : KeptOn S A C :=
  ⟨k.os.trans h.os, k.tape.trans h.tape, k.output.trans h.output, Nat.le_trans h.size k.size, fun j hj hS =>
    (k.block j (Nat.lt_of_lt_of_le hj h.size) (hs j hj hS)).trans (h.block j hj hS)⟩
theorem KeptOn.alloc {S : Nat → Prop} {A B : World} (h : KeptOn S A B) (o : Obj) : KeptOn S A (B.alloc o) :=
  h.trans (T := fun _ => True) ⟨rfl, rfl, rfl, by simp, fun k hk _ => Below.heap_alloc _ _ _ hk⟩ (fun _ _ _ => trivial)
theorem KeptOn.drew {S : Nat → Prop} {A B : World} (h : KeptOn S A B) : KeptOn S A B.drew := ⟨h.os, h.tape, h.output, h.size, h.block⟩
theorem KeptOn.drewN {S : Nat → Prop} {A B : World} (h : KeptOn S A B) (n : Nat) : KeptOn S A (B.drewN n) := ⟨h.os, h.tape, h.output, h.size, h.block⟩
theorem KeptOn.setCell {S : Nat → Prop} {A B : World} (h : KeptOn S A B) (p : Addr) (v : Value) (hp : p.block < A.heap.size → ¬ S p.block) : KeptOn S A (B.setCell p v) :=
  ⟨h.os, h.tape, h.output, by simpa [World.setCell] using h.size, fun k hk hS => by
    rw [Below.heap_setCell _ _ _ _ (by rintro rfl; exact hp hk hS)]; exact h.block k hk hS⟩
theorem KeptOn.putObj {S : Nat → Prop} {A B : World} (h : KeptOn S A B) (r : Nat) (o : Obj) (hp : r < A.heap.size → ¬ S r) : KeptOn S A (B.putObj r o) :=
  ⟨h.os, h.tape, h.output, by simpa using h.size, fun k hk hS => by
    rw [World.putObj_heap_other (by rintro rfl; exact hp hk hS)]; exact h.block k hk hS⟩
theorem KeptOn.of_below {B : Nat} {A C : World} (h : Below B A C) : KeptOn (fun k => k < B) A C := ⟨h.os, h.tape, h.output, h.size, fun k _ hk => h.block k hk⟩
theorem KeptOn.below {S : Nat → Prop} {B : Nat} {A C : World} (h : KeptOn S A C) (hB : B ≤ A.heap.size) (hS : ∀ k, k < B → S k) : Below B A C :=
  ⟨h.os, h.tape, h.output, h.size, fun k hk => h.block k (by omega) (hS k hk)⟩
theorem KeptOn.of_grown {A C : World} {row : Option Nat} (h : A.grownBy C row) : KeptOn (fun k => some k ≠ row) A C := ⟨h.os, h.tape, h.output, h.size, fun k hk hr => h.block k hk hr⟩
theorem KeptOn.of_all {S : Nat → Prop} {A C : World} (h : Below A.heap.size A C) : KeptOn S A C := ⟨h.os, h.tape, h.output, h.size, fun k hk _ => h.block k hk⟩
theorem KeptOn.all {S : Nat → Prop} {A C : World} (h : KeptOn S A C) (hS : ∀ k, k < A.heap.size → S k) : Below A.heap.size A C :=
  ⟨h.os, h.tape, h.output, h.size, fun k hk => h.block k hk (hS k hk)⟩

/-- A party's invariant: it speaks of blocks that lie, and it stays where its own blocks and those that are read stay. -/
structure Stable {β : Type} (ro : Nat → Prop) (I : (Nat → Prop) → β → World → Prop) : Prop where
  lt : ∀ own s A, I own s A → ∀ k, own k → k < A.heap.size
  keep : ∀ own s A B, I own s A → KeptOn (fun k => own k ∨ ro k) A B → I own s B

/-- An iterator's contract. -/
def IterC {α : Type} (P : Program) (g : Nat) (lb : Array Value) (encs : α → Array Value) (It Rd ro : Nat → Prop) (G : List α → α → World → Prop) (S Sp : List α → World → Prop) (w : World) : Prop :=
  ∀ (l : Nat) (own0 : Nat → Prop) (J Jx : (Nat → Prop) → List α → World → Prop) (W : World),
    KeptOn (fun _ => True) w W → (∀ k, own0 k → ¬ It k ∧ ¬ Rd k ∧ k < W.heap.size) → Stable ro J → Stable ro Jx →
    (∀ own pre x W1, J own pre W1 → G pre x W1 → YieldAt Fence.wide 0 P l (encs x) W1 fun e W' =>
      ∃ own', (∀ k, own' k → own k ∨ W1.heap.size ≤ k) ∧ KeptOn (fun k => ¬ own k) W1 W' ∧
        ((e = .returned (.bool true) ∧ J own' (pre ++ [x]) W') ∨ (e = .returned (.bool false) ∧ Jx own' (pre ++ [x]) W'))) →
    J own0 [] W →
    CallsIn Fence.wide 0 P g (#[.func (.yield l) #[] #[]] ++ lb) W fun e W' => (∃ v, e = .returned v) ∧
      ∃ own', (∀ k, own' k → own0 k ∨ W.heap.size ≤ k) ∧ KeptOn (fun k => ¬ own0 k ∧ ¬ It k) W W' ∧
        ((∃ xs, S xs W' ∧ J own' xs W') ∨ (∃ pre, Sp pre W' ∧ Jx own' pre W'))

/-- How a loop's body may be left. -/
def bodyOut {α : Type} (I : (Nat → Prop) → List α → World → Prop) (Ix : Code → (Nat → Prop) → List α → World → Prop) (own : Nat → Prop) (xs : List α) (W : World) : Exit → Act → World → Prop
  | .normal, _, W' => ∃ own', (∀ k, own' k → own k ∨ W.heap.size ≤ k) ∧ KeptOn (fun k => ¬ own k) W W' ∧ I own' xs W'
  | .ret, _, W' => ∃ own', (∀ k, own' k → own k ∨ W.heap.size ≤ k) ∧ KeptOn (fun k => ¬ own k) W W' ∧ Ix .ret own' xs W'
  | .exit id, _, W' => ∃ own', (∀ k, own' k → own k ∨ W.heap.size ≤ k) ∧ KeptOn (fun k => ¬ own k) W W' ∧ Ix (.exit id) own' xs W'
  | .goto t, _, W' => ∃ own', (∀ k, own' k → own k ∨ W.heap.size ≤ k) ∧ KeptOn (fun k => ¬ own k) W W' ∧ Ix (.goto t) own' xs W'
  | .panic _, _, _ => False
  | .outgrown, _, _ => False

/-- What the assignment to the loop's left sides leaves. -/
def assignOut {α : Type} (A : (Nat → Prop) → List α → α → Act → World → Prop) (own : Nat → Prop) (pre : List α) (x : α) (W : World) (a₁ : Act) (W₁ : World) : Prop :=
  ∃ own₁, (∀ k, own₁ k → own k ∨ W.heap.size ≤ k) ∧ KeptOn (fun k => ¬ own k) W W₁ ∧ A own₁ pre x a₁ W₁
theorem assignOut.same {α : Type} {A : (Nat → Prop) → List α → α → Act → World → Prop} {own : Nat → Prop} {pre : List α} {x : α} {W : World} {a₁ : Act} (h : A own pre x a₁ W) : assignOut A own pre x W a₁ W :=
  ⟨own, fun _ h => .inl h, KeptOn.refl _ _, h⟩

variable {P : Program}

/-- A range over a function: the caller's law. -/
theorem wpIn_range {α : Type} {g : Operand} {ps : Array Tmp} {assign body : Code} {Q : Exit → Act → World → Prop} {a : Act} {w : World}
    {gf : Nat} {lb : Array Value} (hg : a.eval g = .func (.func gf) #[] lb) (eg : ∀ args w, (callFunc gf args).run P w = .ok (.enter gf args) w)
    {encs : α → Array Value} {It Rd ro : Nat → Prop} {G : List α → α → World → Prop} {S Sp : List α → World → Prop} (hit : IterC P gf lb encs It Rd ro G S Sp w) (hps : ∀ x, (encs x).size = ps.size)
    (I : (Nat → Prop) → List α → World → Prop) (Ix : Code → (Nat → Prop) → List α → World → Prop) (A : (Nat → Prop) → List α → α → Act → World → Prop)
    (hI : Stable ro I) (hIx : ∀ c, Stable ro (Ix c)) (hA : ∀ x a₁, Stable ro (fun own pre W => A own pre x a₁ W))
    (own0 : Nat → Prop) (hdis : ∀ k, own0 k → ¬ It k ∧ ¬ Rd k) (hro : ∀ k, ro k → k < w.heap.size) (hItl : ∀ k, It k ∨ Rd k → k < w.heap.size) (h0 : I own0 [] w)
    (hassign : ∀ (l : Nat) (own : Nat → Prop) (pre : List α) (x : α) (W : World), I own pre W → G pre x W →
      assign.wpIn (Fence.wide.inRound l) 0 P (Exit.then (assignOut A own pre x W) (fun _ _ _ => False))
        { tmps := (ps.zip (encs x)).foldl (fun t (p, v) => t.setIfInBounds p v) a.tmps, defers := [] } W)
    (hbody : ∀ (l : Nat) (own : Nat → Prop) (pre : List α) (x : α) (a₁ : Act) (W : World), A own pre x a₁ W → body.wpIn (Fence.wide.inRound l) 0 P (bodyOut I Ix own (pre ++ [x]) W) a₁ W)
    (hdone : ∀ (D : Nat) (own : Nat → Prop) (xs : List α) (W : World), w.heap.size ≤ D → KeptOn (fun k => ¬ own0 k ∧ ¬ It k) w W → (∀ k, own k → own0 k ∨ w.heap.size ≤ k) → S xs W → I own xs W → ¬ own D → W.heap[D]? = some (.deferred (some [])) → Q .normal { a with defers := { target := .collected D, args := #[] } :: a.defers } W)
    (hstop : ∀ (D : Nat) (c : Code) (own : Nat → Prop) (pre : List α) (W : World), w.heap.size ≤ D → KeptOn (fun k => ¬ own0 k ∧ ¬ It k) w W → (∀ k, own k → own0 k ∨ w.heap.size ≤ k) → Sp pre W → Ix c own pre W → ¬ own D → W.heap[D]? = some (.deferred (some [])) → c.wpIn Fence.wide 0 P Q { a with defers := { target := .collected D, args := #[] } :: a.defers } W)
    (hstab : ∀ xs (W : World) (o : Obj), S xs W → S xs (W.putObj (w.heap.size + 1) o)) (hstabp : ∀ xs (W : World) (o : Obj), Sp xs W → Sp xs (W.putObj (w.heap.size + 1) o)) :
    (Code.rangeFunc g ps assign body).wpIn Fence.wide 0 P Q a w := by
  refine wpIn_rangeFunc ?_
  intro fn hfn
  obtain ⟨rec, hrec⟩ : ∃ rec : LoopState → Option Code → Loop, rec = fun st pe => { state := st, pending := pe, fn, tmps := a.tmps, params := ps, assign, body, defers := w.heap.size } := ⟨_, rfl⟩
  obtain ⟨W1, hW1⟩ : ∃ W1, (w.alloc (.deferred (some []))).alloc (.loop (rec .ready none)) = W1 := ⟨_, rfl⟩
  have hs1 : W1.heap.size = w.heap.size + 2 := by rw [← hW1]; simp
  have hL1 : W1.heap[w.heap.size + 1]? = some (.loop (rec .ready none)) := by
    rw [← hW1]; have := World.alloc_heap_new (w.alloc (.deferred (some []))) (.loop (rec .ready none)); rwa [World.size_alloc] at this
  have hK1 : W1.heap[w.heap.size]? = some (.deferred (some [])) := by
    rw [← hW1]; exact (Below.heap_alloc _ _ _ (by simp)).trans (World.alloc_heap_new w _)
  have hkW1 : KeptOn (fun _ => True) w W1 := by rw [← hW1]; exact ((KeptOn.refl _ w).alloc _).alloc _
  have hI1 : I own0 [] W1 := hI.keep _ _ _ _ h0 (hkW1.imp (fun _ _ _ => trivial))
  have ho0 : ∀ k, own0 k → k < w.heap.size := hI.lt _ _ _ h0
  refine ⟨w.heap.size + 1, [{ target := .collected w.heap.size, args := #[] }], W1, { target := .fn (.func gf) lb, args := #[.func (.yield (w.heap.size + 1)) #[] #[]] }, W1, gf,
    #[.func (.yield (w.heap.size + 1)) #[] #[]] ++ lb, W1, ?_, ?_, ?_, ?_, fun h => by simp [Fence.wide] at h, ?_⟩
  · rw [← hW1, hrec]; exact run_enterLoop_outer _ _ _ _ _
  · simp only [resolve, hg]
    simp [go_sem]
  · intro f' _; trivial
  · simp [invoke, go_sem, eg]
  · refine (hit (w.heap.size + 1) (fun k => own0 k ∨ k = w.heap.size ∨ k = w.heap.size + 1)
      (fun own pre W => ∃ own1, (∀ k, own k ↔ own1 k ∨ k = w.heap.size ∨ k = w.heap.size + 1) ∧ ¬ own1 w.heap.size ∧ ¬ own1 (w.heap.size + 1) ∧ I own1 pre W ∧
        W.heap[w.heap.size + 1]? = some (.loop (rec .ready none)) ∧ W.heap[w.heap.size]? = some (.deferred (some [])))
      (fun own pre W => ∃ c own1, (∀ k, own k ↔ own1 k ∨ k = w.heap.size ∨ k = w.heap.size + 1) ∧ ¬ own1 w.heap.size ∧ ¬ own1 (w.heap.size + 1) ∧ Ix c own1 pre W ∧
        W.heap[w.heap.size + 1]? = some (.loop (rec .done (some c))) ∧ W.heap[w.heap.size]? = some (.deferred (some [])))
      W1 hkW1 ?_ ⟨?_, ?_⟩ ⟨?_, ?_⟩ ?_ ?_).mono ?_
    · rintro k (h | rfl | rfl)
      · exact ⟨(hdis k h).1, (hdis k h).2, by have := ho0 k h; omega⟩
      · exact ⟨fun hk => by have := hItl _ (.inl hk); omega, fun hk => by have := hItl _ (.inr hk); omega, by omega⟩
      · exact ⟨fun hk => by have := hItl _ (.inl hk); omega, fun hk => by have := hItl _ (.inr hk); omega, by omega⟩
    · rintro own s W ⟨own1, ho, _, _, hi, hl, hd⟩ k hk
      rcases (ho k).1 hk with h | rfl | rfl
      · exact hI.lt _ _ _ hi k h
      · exact (Array.getElem?_eq_some_iff.1 hd).1
      · exact (Array.getElem?_eq_some_iff.1 hl).1
    · rintro own s W B ⟨own1, ho, hn1, hn2, hi, hl, hd⟩ hk
      refine ⟨own1, ho, hn1, hn2, hI.keep _ _ _ _ hi (hk.imp fun k _ hx => hx.imp (fun h => (ho k).2 (.inl h)) id), ?_, ?_⟩
      · rw [hk.block _ (Array.getElem?_eq_some_iff.1 hl).1 (.inl ((ho _).2 (.inr (.inr rfl))))]; exact hl
      · rw [hk.block _ (Array.getElem?_eq_some_iff.1 hd).1 (.inl ((ho _).2 (.inr (.inl rfl))))]; exact hd
    · rintro own s W ⟨c, own1, ho, _, _, hi, hl, hd⟩ k hk
      rcases (ho k).1 hk with h | rfl | rfl
      · exact (hIx c).lt _ _ _ hi k h
      · exact (Array.getElem?_eq_some_iff.1 hd).1
      · exact (Array.getElem?_eq_some_iff.1 hl).1
    · rintro own s W B ⟨c, own1, ho, hn1, hn2, hi, hl, hd⟩ hk
      refine ⟨c, own1, ho, hn1, hn2, (hIx c).keep _ _ _ _ hi (hk.imp fun k _ hx => hx.imp (fun h => (ho k).2 (.inl h)) id), ?_, ?_⟩
      · rw [hk.block _ (Array.getElem?_eq_some_iff.1 hl).1 (.inl ((ho _).2 (.inr (.inr rfl))))]; exact hl
      · rw [hk.block _ (Array.getElem?_eq_some_iff.1 hd).1 (.inl ((ho _).2 (.inr (.inl rfl))))]; exact hd
    · -- one round
      rintro own pre x W ⟨own1, ho, hn1, hn2, hi, hl, hd⟩ hG
      have hlt : w.heap.size + 1 < W.heap.size := (Array.getElem?_eq_some_iff.1 hl).1
      have hy := run_yield (P := P) (args := encs x) hl (by rw [hrec]; exact hps x)
      rw [hrec] at hy
      refine ⟨fn, _, assign, body, hy, roundIn_of_wpIn hfn (wpIn_mono (hassign _ own1 pre x W hi hG) ?_)⟩
      intro e a₁ W₂ hp
      cases e with
      | normal =>
        obtain ⟨own2, ho2, hk2, hA2⟩ := hp
        have hl2 : W₂.heap[w.heap.size + 1]? = some (.loop (rec .ready none)) := (hk2.block _ hlt hn2).trans hl
        have hd2 : W₂.heap[w.heap.size]? = some (.deferred (some [])) := (hk2.block _ (by omega) hn1).trans hd
        have hlt2 := (Array.getElem?_eq_some_iff.1 hl2).1
        have hn12 : ¬ own2 w.heap.size := fun h => (ho2 _ h).elim hn1 (by omega)
        have hn22 : ¬ own2 (w.heap.size + 1) := fun h => (ho2 _ h).elim hn2 (by omega)
        refine ⟨_, run_beginRound hl2 (by rw [hrec]), ?_⟩
        obtain ⟨W₃, hW3⟩ : ∃ W₃, W₂.putObj (w.heap.size + 1) (.loop { rec .ready none with state := .busy }) = W₃ := ⟨_, rfl⟩
        rw [hW3]
        have hl3 : W₃.heap[w.heap.size + 1]? = some (.loop { rec .ready none with state := .busy }) := by rw [← hW3]; exact World.putObj_heap_same hlt2
        have hd3 : W₃.heap[w.heap.size]? = some (.deferred (some [])) := by rw [← hW3]; exact (World.putObj_heap_other (by omega)).trans hd2
        have hk3 : KeptOn (fun k => k ≠ w.heap.size + 1) W₂ W₃ := by rw [← hW3]; exact (KeptOn.refl _ _).putObj _ _ (fun _ h => h rfl)
        have hA3 : A own2 pre x a₁ W₃ := (hA x a₁).keep _ _ _ _ hA2 (hk3.imp (fun k _ h e => by
          subst e
          rcases h with h | h
          · exact hn22 h
          · have := hro _ h; omega))
        have hs3 : W₃.heap.size = W₂.heap.size := by rw [← hW3]; simp
        have fin : ∀ (jump : Option Code) (W4 : World) (own4 : Nat → Prop), (∀ k, own4 k → own2 k ∨ W₃.heap.size ≤ k) → KeptOn (fun k => ¬ own2 k) W₃ W4 →
            (Instr.endRound (w.heap.size + 1) jump).run P W4 = .ok (.bool jump.isNone) (W4.putObj (w.heap.size + 1) (.loop (rec (if jump.isNone then .ready else .done) jump))) ∧
            (W4.putObj (w.heap.size + 1) (.loop (rec (if jump.isNone then .ready else .done) jump))).heap[w.heap.size + 1]? = some (.loop (rec (if jump.isNone then .ready else .done) jump)) ∧
            (W4.putObj (w.heap.size + 1) (.loop (rec (if jump.isNone then .ready else .done) jump))).heap[w.heap.size]? = some (.deferred (some [])) ∧
            ¬ own4 w.heap.size ∧ ¬ own4 (w.heap.size + 1) ∧ (∀ k, own4 k → own1 k ∨ W.heap.size ≤ k) ∧
            KeptOn (fun k => k ≠ w.heap.size + 1) W4 (W4.putObj (w.heap.size + 1) (.loop (rec (if jump.isNone then .ready else .done) jump))) ∧
            KeptOn (fun k => ¬ own k) W (W4.putObj (w.heap.size + 1) (.loop (rec (if jump.isNone then .ready else .done) jump))) := fun jump W4 own4 ho4 hk4 => by
          have hl4 := (hk4.block _ (by omega) hn22).trans hl3
          have hd4 := (hk4.block _ (by omega) hn12).trans hd3
          have hr := run_endRound (P := P) jump hl4
          rw [hrec] at hr ⊢
          refine ⟨hr, World.putObj_heap_same (Array.getElem?_eq_some_iff.1 hl4).1, (World.putObj_heap_other (by omega)).trans hd4, ?_, ?_, ?_, (KeptOn.refl _ _).putObj _ _ (fun _ h => h rfl), ?_⟩
          · exact fun h => (ho4 _ h).elim hn12 (by omega)
          · exact fun h => (ho4 _ h).elim hn22 (by omega)
          · intro k h
            rcases ho4 k h with h | h
            · exact ho2 k h
            · right; have := hk2.size; omega
          · have h23 : KeptOn (fun k => ¬ own k) W W₃ := (hk2.imp (fun k _ h h' => h ((ho k).2 (.inl h')))).trans hk3 (fun j _ h e => h ((ho j).2 (.inr (.inr e))))
            refine KeptOn.putObj (h23.trans hk4 (fun j hj h h2 => ?_)) _ _ (fun _ h => h ((ho _).2 (.inr (.inr rfl))))
            rcases ho2 j h2 with h3 | h3
            · exact h ((ho j).2 (.inl h3))
            · omega
        have sub : ∀ own4 : Nat → Prop, (∀ k, own4 k → own1 k ∨ W.heap.size ≤ k) → ∀ k, (own4 k ∨ k = w.heap.size ∨ k = w.heap.size + 1) → own k ∨ W.heap.size ≤ k := fun own4 h4 k hk => by
          rcases hk with hk | hk | hk
          · exact (h4 k hk).imp (fun h => (ho k).2 (.inl h)) id
          · exact .inl ((ho k).2 (.inr (.inl hk)))
          · exact .inl ((ho k).2 (.inr (.inr hk)))
        have stab : ∀ (own4 : Nat → Prop) (W4 W5 : World), ¬ own4 (w.heap.size + 1) → KeptOn (fun k => k ≠ w.heap.size + 1) W4 W5 → KeptOn (fun k => own4 k ∨ ro k) W4 W5 := fun own4 W4 W5 hn h5 => h5.imp (fun k _ h e => by
          subst e
          rcases h with h | h
          · exact hn h
          · have := hro _ h; omega)
        refine wpIn_mono (hbody _ own2 pre x a₁ W₃ hA3) ?_
        rintro e a3 W4 hp
        cases e with
        | normal =>
          obtain ⟨own4, ho4, hk4, hi4⟩ := hp
          obtain ⟨hr, e1, e2, e3, e4, e5, e6, e7⟩ := fin none W4 own4 ho4 hk4
          exact ⟨_, _, hr, fun k => own4 k ∨ k = w.heap.size ∨ k = w.heap.size + 1, sub own4 e5, e7, .inl ⟨rfl, own4, fun _ => Iff.rfl, e3, e4, hI.keep _ _ _ _ hi4 (stab own4 _ _ e4 e6), e1, e2⟩⟩
        | ret =>
          obtain ⟨own4, ho4, hk4, hi4⟩ := hp
          obtain ⟨hr, e1, e2, e3, e4, e5, e6, e7⟩ := fin (some .ret) W4 own4 ho4 hk4
          exact ⟨_, _, hr, fun k => own4 k ∨ k = w.heap.size ∨ k = w.heap.size + 1, sub own4 e5, e7, .inr ⟨rfl, .ret, own4, fun _ => Iff.rfl, e3, e4, (hIx _).keep _ _ _ _ hi4 (stab own4 _ _ e4 e6), e1, e2⟩⟩
        | exit id =>
          obtain ⟨own4, ho4, hk4, hi4⟩ := hp
          obtain ⟨hr, e1, e2, e3, e4, e5, e6, e7⟩ := fin (some (.exit id)) W4 own4 ho4 hk4
          exact ⟨_, _, hr, fun k => own4 k ∨ k = w.heap.size ∨ k = w.heap.size + 1, sub own4 e5, e7, .inr ⟨rfl, .exit id, own4, fun _ => Iff.rfl, e3, e4, (hIx _).keep _ _ _ _ hi4 (stab own4 _ _ e4 e6), e1, e2⟩⟩
        | goto t =>
          obtain ⟨own4, ho4, hk4, hi4⟩ := hp
          obtain ⟨hr, e1, e2, e3, e4, e5, e6, e7⟩ := fin (some (.goto t)) W4 own4 ho4 hk4
          exact ⟨_, _, hr, fun k => own4 k ∨ k = w.heap.size ∨ k = w.heap.size + 1, sub own4 e5, e7, .inr ⟨rfl, .goto t, own4, fun _ => Iff.rfl, e3, e4, (hIx _).keep _ _ _ _ hi4 (stab own4 _ _ e4 e6), e1, e2⟩⟩
        | panic ch => exact hp.elim
        | outgrown => exact hp.elim
      | ret => exact hp.elim
      | exit id => exact hp.elim
      | goto t => exact hp.elim
      | panic ch => exact hp.elim
      | outgrown => exact hp.elim
    · exact ⟨own0, fun _ => Iff.rfl, fun h => by have := ho0 _ h; omega, fun h => by have := ho0 _ h; omega, hI1, hL1, hK1⟩
    · -- behind the iterator
      rintro e W2 ⟨⟨v, rfl⟩, ownE, hsub, hkept, (⟨xs, hS, own1, ho, hn1, hn2, hi, hl, hd⟩ | ⟨pre, hSp, c, own1, ho, hn1, hn2, hi, hl, hd⟩)⟩
      · have hlt : w.heap.size + 1 < W2.heap.size := (Array.getElem?_eq_some_iff.1 hl).1
        have hr := run_endLoop (P := P) hl (by rw [hrec]; simp)
        rw [hrec] at hr
        refine ⟨none, _, hr, hdone w.heap.size own1 xs _ (Nat.le_refl _) ?_ ?_ (hstab _ _ _ hS) (hI.keep _ _ _ _ hi ((KeptOn.refl (fun k => k ≠ w.heap.size + 1) W2).putObj _ _ (fun _ h => h rfl) |>.imp ?_)) hn1 ((World.putObj_heap_other (by omega)).trans hd)⟩
        · refine (hkW1.imp (fun _ _ _ => trivial)).trans ((hkept.imp (T := fun k => ¬ own0 k ∧ ¬ It k ∧ k < w.heap.size) ?_).putObj _ _ (fun _ h => by omega)) (fun j hj h => ⟨h.1, h.2, hj⟩)
          rintro k _ ⟨h1, h2, h3⟩
          exact ⟨by rintro (h | h | h) <;> first | exact h1 h | omega, h2⟩
        · intro k hk
          rcases hsub k ((ho k).2 (.inl hk)) with (h | h | h) | h
          · exact .inl h
          · right; omega
          · right; omega
          · right; omega
        · intro k _ h e
          subst e
          rcases h with h | h
          · exact hn2 h
          · have := hro _ h; omega
      · have hlt : w.heap.size + 1 < W2.heap.size := (Array.getElem?_eq_some_iff.1 hl).1
        have hr := run_endLoop (P := P) hl (by rw [hrec]; simp)
        rw [hrec] at hr
        refine ⟨some c, _, hr, hstop w.heap.size c own1 pre _ (Nat.le_refl _) ?_ ?_ (hstabp _ _ _ hSp) ((hIx c).keep _ _ _ _ hi ((KeptOn.refl (fun k => k ≠ w.heap.size + 1) W2).putObj _ _ (fun _ h => h rfl) |>.imp ?_)) hn1 ((World.putObj_heap_other (by omega)).trans hd)⟩
        · refine (hkW1.imp (fun _ _ _ => trivial)).trans ((hkept.imp (T := fun k => ¬ own0 k ∧ ¬ It k ∧ k < w.heap.size) ?_).putObj _ _ (fun _ h => by omega)) (fun j hj h => ⟨h.1, h.2, hj⟩)
          rintro k _ ⟨h1, h2, h3⟩
          exact ⟨by rintro (h | h | h) <;> first | exact h1 h | omega, h2⟩
        · intro k hk
          rcases hsub k ((ho k).2 (.inl hk)) with (h | h | h) | h
          · exact .inl h
          · right; omega
          · right; omega
          · right; omega
        · intro k _ h e
          subst e
          rcases h with h | h
          · exact hn2 h
          · have := hro _ h; omega
/-- Leaving a function: the marks of its loops over functions are taken, the blocks shut. -/
def shut : List Nat → World → World
  | [], W => W
  | D :: Ds, W => shut Ds (W.putObj D (.deferred none))
theorem shut_kept (Ds : List Nat) (W : World) : KeptOn (fun k => k ∉ Ds) W (shut Ds W) := by
  induction Ds generalizing W with
  | nil => exact KeptOn.refl _ _
  | cons D Ds ih =>
    exact ((KeptOn.refl (fun k => k ∉ D :: Ds) W).putObj D (.deferred none) (fun _ h => h (by simp))).trans (ih _) (fun j _ h h' => h (by simp [h']))
theorem leaves_shut {fn : Func} {tmps : Array Value} {R : Ending → World → Prop} {v : Value} (Ds : List Nat) (hnd : Ds.Nodup) (W : World) (hW : ∀ D ∈ Ds, W.heap[D]? = some (.deferred (some [])))
    (hr : (results fn tmps).run P (shut Ds W) = .ok v (shut Ds W)) (hR : R (.returned v) (shut Ds W)) :
    LeavesInM Fence.wide 0 P fn tmps R (Ds.map fun D => { target := .collected D, args := #[] }) .returning W := by
  induction Ds generalizing W with
  | nil => exact ⟨_, hr, hR⟩
  | cons D Ds ih =>
    rw [List.nodup_cons] at hnd
    refine ⟨by simp, .inl ⟨D, _, rfl, run_takeDeferred (hW D (by simp)), ih hnd.2 _ (fun E hE => ?_) hr hR⟩⟩
    rw [World.putObj_heap_other (by rintro rfl; exact hnd.1 hE)]
    exact hW E (by simp [hE])
theorem ret_shut {fn : Func} {tmps : Array Value} {R : Ending → World → Prop} {v : Value} (Ds : List Nat) (hnd : Ds.Nodup) (W : World) (hW : ∀ D ∈ Ds, W.heap[D]? = some (.deferred (some [])))
    (hr : (results fn tmps).run P (shut Ds W) = .ok v (shut Ds W)) (hR : R (.returned v) (shut Ds W)) :
    bodyPostM Fence.wide 0 P fn R .ret { tmps := tmps, defers := Ds.map fun D => { target := .collected D, args := #[] } } W := leaves_shut Ds hnd W hW hr hR
#print axioms wpIn_range
end Go.Proofs.Er
