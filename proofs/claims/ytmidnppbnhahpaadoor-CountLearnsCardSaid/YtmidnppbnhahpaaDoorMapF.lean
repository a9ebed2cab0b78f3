import Derived.Test.YtmidnppbnhahpaaDoorMem3
import Derived.Maps.OwnSet
import Derived.DeepKeys4
namespace Go.Proofs.Er
open Go Go.RowKit Go.Maps

open Classical in
noncomputable def updF (m : Lit → Option Int) (kl : Lit) (x : Int) : Lit → Option Int := fun k => if k = kl then some x else m k
theorem updF_same (m : Lit → Option Int) (kl : Lit) (x : Int) : updF m kl x kl = some x := by simp [updF]
theorem updF_other (m : Lit → Option Int) {kl k : Lit} (x : Int) (h : k ≠ kl) : updF m kl x k = m k := by simp [updF, h]
/-- Block b is a map of at most n entries; what m says of each key is in it. -/
def MapF (W : World) (P : Program) (K e : TypeId) (b n : Nat) (m : Lit → Option Int) : Prop :=
  ∃ D : DataW Unit, W.ownsMap P K (plainElem P e) b n D ∧ ∀ kl, Maps.has D kl = (m kl).isSome ∧ ∀ x, m kl = some x → D.atKey kl (.lit (.int .i64 0)) = .lit (.int .i64 x)
section
variable {W W' : World} {P : Program} {K e : TypeId} {b n : Nat} {m : Lit → Option Int} {S : Nat → Prop}
theorem MapF.lt (h : MapF W P K e b n m) : b < W.heap.size := by obtain ⟨D, h, _⟩ := h; exact h.lt
theorem MapF.keep (h : MapF W P K e b n m) (hk : KeptOn S W W') (hS : S b) : MapF W' P K e b n m := by
  obtain ⟨D, ⟨es, clock, hb, F, hs, hD⟩, h2⟩ := h
  exact ⟨D, ⟨es, clock, (hk.block b (Array.getElem?_eq_some_iff.1 hb).1 hS).trans hb, F, hs, hD⟩, h2⟩
theorem MapF.below (h : MapF W P K e b n m) (hk : Below W.heap.size W W') : MapF W' P K e b n m := h.keep (S := fun _ => True) (KeptOn.of_all hk) trivial
theorem MapF.made (W : World) (P : Program) (K e : TypeId) : MapF (W.alloc (.map #[] 0)) P K e W.heap.size 0 (fun _ => none) :=
  ⟨.map [], World.ownsMap_made W P K _, fun kl => ⟨rfl, fun x hx => by cases hx⟩⟩
theorem MapF.mono (h : MapF W P K e b n m) {n' : Nat} (hn : n ≤ n') : MapF W P K e b n' m := by obtain ⟨D, h, h2⟩ := h; exact ⟨D, h.mono hn, h2⟩
/-- 'v, ok := m[k]'. -/
theorem MapF.look {t : TypeId} (h : MapF W P K e b n m) (KK : Keyed P K) (ht : P.underlying t = some (.map K e)) (he : P.underlying e = some (.int .i64)) (hz : (zeroValue e).run P W = .ok (.int .i64 0) W) {key : Value} {kl : Lit} (hkey : keyOf P K key = some kl) :
    (Instr.lookup t (.map (some b)) key true).run P W = .ok (.tuple #[.int .i64 ((m kl).getD 0), .bool (m kl).isSome]) W := by
  obtain ⟨D, hD, h2⟩ := h
  obtain ⟨v, ps, hrun, hv⟩ := hD.look_ok KK ht hz (plainElem_int (H := Unit) he (by decide)) hkey
  obtain ⟨c, rfl, hc, hwc⟩ := plainElem_int_inv he hv
  rw [hrun, (h2 kl).1]
  cases hm : m kl with
  | none =>
    have : Maps.has D kl = false := by rw [(h2 kl).1, hm]; rfl
    have h3 := Maps.atKey_of_not_has this (.lit (.int .i64 0))
    have h4 : (DataW.lit (.int .i64 0) : DataW Unit) = .lit (.int .i64 c) := by rw [← h3]; exact congrArg Prod.fst hc
    injection h4 with h4
    injection h4 with _ h4
    rw [← h4]; rfl
  | some x =>
    have h3 := (h2 kl).2 x hm
    have h4 : (DataW.lit (.int .i64 x) : DataW Unit) = .lit (.int .i64 c) := by rw [← h3]; exact congrArg Prod.fst hc
    injection h4 with h4
    injection h4 with _ h4
    rw [← h4]; rfl
/-- 'm[k] = v'. -/
theorem MapF.store {t : TypeId} (h : MapF W P K e b n m) (KK : Keyed P K) (ht : P.underlying t = some (.map K e)) (he : P.underlying e = some (.int .i64)) (hn : n < maxLen) {key : Value} {kl : Lit} (hkey : keyOf P K key = some kl) (x : Int) (hx : (Lit.int .i64 x).wf = true) :
    ∃ W', (Instr.mapUpdate t (.map (some b)) key (.int .i64 x)).run P W = .ok () W' ∧ MapF W' P K e b (n + 1) (updF m kl x) ∧ KeptOn (fun k => k ≠ b) W W' := by
  obtain ⟨D, hD, h2⟩ := h
  obtain ⟨W', hrun, hD', hg⟩ := hD.update KK ht hn hkey (plainElem_int (H := Unit) he hx)
  refine ⟨W', hrun, ⟨_, hD', fun k => ?_⟩, (KeptOn.of_grown hg).imp (fun k _ hk e => hk (by injection e))⟩
  have hM := hD.isMap
  by_cases hk : k = kl
  · subst hk
    have hlit := KK.key hkey
    rw [updF_same, Maps.has_put_same hM hlit, Maps.atKey_put_same hM hlit]
    exact ⟨rfl, fun y hy => by injection hy with hy; rw [hy]⟩
  · rw [updF_other _ _ hk, Maps.has_put_other hk, Maps.atKey_put_other hk]
    exact h2 k
end
section
variable {P : Program} {ops : Array Oper} {rest : List Oper} {o : Oper} {a : Act} {Q : Exit → Act → World → Prop} {K e : TypeId} {b n : Nat} {m : Lit → Option Int}
theorem wpList_lookF {W : World} (hg : o.guard = none) (mo x : Operand) (t : TypeId) (hop : o.op = Op.lookup t mo x true) (h : MapF W P K e b n m) (KK : Keyed P K) (ht : P.underlying t = some (.map K e)) (he : P.underlying e = some (.int .i64)) (hz : (zeroValue e).run P W = .ok (.int .i64 0) W)
    (hm : a.eval mo = .map (some b)) (key : Value) (kl : Lit) (hx : a.eval x = key) (hkey : keyOf P K key = some kl) (c : Int) (ok : Bool) (hc : (m kl).getD 0 = c) (hok : (m kl).isSome = ok)
    (hK : wpList P ops Q rest (a.put o.dst (.tuple #[.int .i64 c, .bool ok])) W) : wpList P ops Q (o :: rest) a W := by
  refine wpList_plain hg fun K' hK' => ?_
  have hrun := h.look KK ht he hz hkey
  rw [hc, hok] at hrun
  unfold Oper.wp
  simp [execOp, hop, hm, hx, hrun, Result.andThen]
  exact hK' _ _ hK
theorem wpList_storeF {W : World} (hg : o.guard = none) (mo x v : Operand) (t : TypeId) (hop : o.op = Op.mapUpdate t mo x v) (h : MapF W P K e b n m) (KK : Keyed P K) (ht : P.underlying t = some (.map K e)) (he : P.underlying e = some (.int .i64)) (hn : n < maxLen)
    (hm : a.eval mo = .map (some b)) (key : Value) (kl : Lit) (hx : a.eval x = key) (hkey : keyOf P K key = some kl) (y : Int) (hv : a.eval v = .int .i64 y) (hy : (Lit.int .i64 y).wf = true)
    (hK : ∀ W', MapF W' P K e b (n + 1) (updF m kl y) → KeptOn (fun k => k ≠ b) W W' → wpList P ops Q rest (a.put o.dst undef) W') : wpList P ops Q (o :: rest) a W := by
  refine wpList_plain hg fun K' hK' => ?_
  obtain ⟨W', hrun, h1, h2⟩ := h.store KK ht he hn hkey y hy
  unfold Oper.wp
  simp [execOp, hop, hm, hx, hv, hrun, Result.andThen]
  exact hK' _ _ (hK W' h1 h2)
end
end Go.Proofs.Er
