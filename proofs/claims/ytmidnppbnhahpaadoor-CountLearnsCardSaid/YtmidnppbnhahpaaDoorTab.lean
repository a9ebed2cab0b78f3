import Derived.Test.YtmidnppbnhahpaaDoorOrd
namespace Go.Proofs.Er
open Go
def keysL (l : List Blk) : List (ByteArray × ByteArray) := l.map fun b => (b.f, b.t)
def keyIdx (l : List Blk) (f t : ByteArray) : Option Nat := (keysL l).findIdx? fun k => decide (k = (f, t))
def bump (b x : Blk) : Blk := if sameKey b x then { x with n := x.n + b.n } else x
theorem bump_key (b x : Blk) : (bump b x).f = x.f ∧ (bump b x).t = x.t := by unfold bump; split <;> exact ⟨rfl, rfl⟩
theorem addB_eq (out : List Blk) (b : Blk) : addB out b = if (keyIdx out b.f b.t).isSome then out.map (bump b) else out ++ [b] := by
  unfold addB keyIdx keysL
  have : out.any (sameKey b) = ((out.map fun b => (b.f, b.t)).findIdx? fun k => decide (k = (b.f, b.t))).isSome := by
    rw [List.findIdx?_isSome, List.any_map]
    congr 1
    funext x
    simp only [sameKey, Function.comp, Prod.mk.injEq, Bool.decide_and]
    rw [decide_eq_decide.2 (eq_comm (a := b.f) (b := x.f)), decide_eq_decide.2 (eq_comm (a := b.t) (b := x.t))]
  rw [this]
  rfl
theorem keysL_hit (out : List Blk) (b : Blk) : keysL (out.map (bump b)) = keysL out := by
  unfold keysL
  rw [List.map_map]
  apply List.map_congr_left
  intro x _
  simp [bump_key]
theorem keyIdx_lt {l : List Blk} {f t : ByteArray} {k : Nat} (h : keyIdx l f t = some k) : k < l.length := by
  have := (List.findIdx?_eq_some_iff_findIdx_eq.1 h).1
  simpa [keysL] using this
theorem keyIdx_at {l : List Blk} {f t : ByteArray} {k : Nat} (h : keyIdx l f t = some k) (x : Blk) (hx : l[k]? = some x) : x.f = f ∧ x.t = t := by
  unfold keyIdx at h
  rw [List.findIdx?_eq_some_iff_getElem] at h
  obtain ⟨hk, h1, _⟩ := h
  have h2 : (keysL l)[k] = (x.f, x.t) := by
    have : (keysL l)[k]? = some (x.f, x.t) := by simp [keysL, hx]
    rw [List.getElem?_eq_getElem hk] at this
    exact Option.some.inj this
  rw [h2] at h1
  simpa using h1
theorem keyIdx_miss {l : List Blk} {b : Blk} (h : keyIdx l b.f b.t = none) (f t : ByteArray) : keyIdx (l ++ [b]) f t = if (b.f, b.t) = (f, t) then some l.length else keyIdx l f t := by
  unfold keyIdx keysL at *
  rw [List.map_append, List.findIdx?_append]
  by_cases e : (b.f, b.t) = (f, t)
  · rw [if_pos e]
    obtain ⟨rfl, rfl⟩ := Prod.mk.inj e
    rw [h]
    simp
  · rw [if_neg e]
    have : decide ((b.f, b.t) = (f, t)) = false := decide_eq_false e
    simp only [List.map_cons, List.map_nil, List.findIdx?_cons, this, List.findIdx?_nil]
    cases (l.map fun b => (b.f, b.t)).findIdx? fun k => decide (k = (f, t)) <;> rfl
theorem nodup_add {out : List Blk} (h : (keysL out).Nodup) (b : Blk) : (keysL (addB out b)).Nodup := by
  rw [addB_eq]
  cases hk : keyIdx out b.f b.t with
  | some k => simp only [Option.isSome_some, if_true]; rw [keysL_hit]; exact h
  | none =>
    simp only [Option.isSome_none, Bool.false_eq_true, if_false]
    unfold keysL at *
    rw [List.map_append, List.nodup_append]
    refine ⟨h, by simp, ?_⟩
    intro a ha c hc e
    simp at hc
    subst hc
    subst e
    have := List.findIdx?_eq_none_iff.1 hk _ ha
    simp at this
/-- Where a block is there already, its place alone turns. -/
theorem hit_set {out : List Blk} (h : (keysL out).Nodup) {b x : Blk} {k : Nat} (hk : keyIdx out b.f b.t = some k) (hx : out[k]? = some x) : out.map (bump b) = out.set k ⟨x.f, x.t, x.n + b.n⟩ := by
  apply List.ext_getElem?
  intro j
  rw [List.getElem?_map]
  have hlt := keyIdx_lt hk
  have hkx := keyIdx_at hk x hx
  by_cases hj : j = k
  · subst hj
    rw [hx, List.getElem?_set_self hlt]
    simp [bump, sameKey, hkx.1, hkx.2]
  · rw [List.getElem?_set_ne (fun e => hj e.symm)]
    cases hy : out[j]? with
    | none => rfl
    | some y =>
      have hne : ¬ ((y.f, y.t) = (b.f, b.t)) := fun e => by
        have h1 : (keysL out)[j]? = some (b.f, b.t) := by simp only [keysL, List.getElem?_map, hy, Option.map_some]; rw [e]
        have h2 : (keysL out)[k]? = some (b.f, b.t) := by simp only [keysL, List.getElem?_map, hx, Option.map_some]; rw [hkx.1, hkx.2]
        exact hj ((List.getElem?_inj (by have := (List.getElem?_eq_some_iff.1 h1).1; exact this) h).1 (h1.trans h2.symm))
      have : sameKey b y = false := by
        unfold sameKey
        cases h1 : decide (b.f = y.f) <;> cases h2 : decide (b.t = y.t) <;> simp
        exact hne (by rw [(of_decide_eq_true h1), (of_decide_eq_true h2)])
      simp [bump, this]
theorem dedup_snoc (l : List Blk) (b : Blk) : dedupF (l ++ [b]) = addB (dedupF l) b := by simp [dedupF, List.foldl_append]
theorem add_len (out : List Blk) (b : Blk) : (addB out b).length ≤ out.length + 1 := by
  unfold addB; split <;> simp
theorem dedup_len (l : List Blk) : (dedupF l).length ≤ l.length := by
  have : ∀ (l acc : List Blk), (l.foldl addB acc).length ≤ acc.length + l.length := by
    intro l
    induction l with
    | nil => intro acc; simp
    | cons b l ih => intro acc; have h1 := ih (addB acc b); have h2 := add_len acc b; simp only [List.foldl_cons, List.length_cons]; omega
  simpa [dedupF] using this l []
theorem dedup_nodup (l : List Blk) : (keysL (dedupF l)).Nodup := by
  have : ∀ (l acc : List Blk), (keysL acc).Nodup → (keysL (l.foldl addB acc)).Nodup := by
    intro l
    induction l with
    | nil => intro acc h; exact h
    | cons b l ih => intro acc h; exact ih _ (nodup_add h b)
  exact this l [] (by simp [keysL])
end Go.Proofs.Er
