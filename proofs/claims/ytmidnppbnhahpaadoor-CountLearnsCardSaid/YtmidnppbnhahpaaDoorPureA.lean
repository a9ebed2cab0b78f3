import GoSem.Core.Utf8
import GoSem.Op.String
import Derived.Lib.RuneCount
import Derived.Lib.RuneBytes
import Derived.Lib.ValidU
import Derived.Lib.Small
namespace Go.Proofs.Er
open Go

/-- A step of an alignment; a block; a rule; a pair. -/
structure Stp where
  k : Int
  a : Int
  b : Int
  deriving DecidableEq, Inhabited
structure Blk where
  f : ByteArray
  t : ByteArray
  n : Int
  deriving DecidableEq, Inhabited
structure Rul where
  f : ByteArray
  t : ByteArray
  c : Int
  deriving DecidableEq, Inhabited
structure Pr where
  n : ByteArray
  t : ByteArray
  deriving DecidableEq, Inhabited

/-! ### runes -/
def dec1 (s : ByteArray) : Nat × Nat := if s.size = 0 then (65533, 0) else Utf8.decode s 0
def runesFrom : Nat → ByteArray → List (Int × Bool)
  | 0, _ => []
  | k + 1, s => if s.size = 0 then [] else
      (((dec1 s).1 : Int), decide (((dec1 s).1 : Int) ≠ 65533) || decide (1 < ((dec1 s).2 : Int))) :: runesFrom k (s.extract (dec1 s).2 s.size)
def allF (s : ByteArray) : List (Int × Bool) := runesFrom s.size s
def decodeF (s : ByteArray) : List Int × Int := if (allF s).all (·.2) then ((allF s).map (·.1), 0) else ([], 3)
def tokenF (s : ByteArray) : List Int × Int :=
  if (decodeF s).2 ≠ 0 then ([], (decodeF s).2) else if (decodeF s).1.length = 0 then ([], 4) else if 64 < (decodeF s).1.length then ([], 5) else ((decodeF s).1, 0)

/-! ### align -/
def row0 : Nat → Nat × Nat
  | 0 => (0, 0)
  | j + 1 => (3, (row0 j).2 + 1)
def cellOf (same : Bool) (d u l : Nat) : Nat × Nat :=
  let p := if same then (0, d) else (1, d + 1)
  let q := if u + 1 < p.2 then (2, u + 1) else p
  if l + 1 < q.2 then (3, l + 1) else q
def rowS (b : List Int) (x : Int) (prev : Nat → Nat × Nat) : Nat → Nat × Nat
  | 0 => (2, (prev 0).2 + 1)
  | j + 1 => cellOf (x == b.getD j 0) (prev j).2 (prev (j + 1)).2 (rowS b x prev j).2
def gridF (a b : List Int) : Nat → Nat → Nat × Nat
  | 0 => row0
  | i + 1 => rowS b (a.getD i 0) (gridF a b i)

theorem row0_le (j : Nat) : (row0 j).2 ≤ j := by
  induction j with
  | zero => simp [row0]
  | succ j ih => simp [row0]; omega
theorem cellOf_le (same : Bool) (d u l : Nat) : (cellOf same d u l).2 ≤ l + 1 := by
  unfold cellOf
  cases same <;> simp only [if_true, if_false, Bool.false_eq_true] <;> repeat' split
  all_goals simp_all
  all_goals omega
theorem gridF_le (a b : List Int) (i j : Nat) : (gridF a b i j).2 ≤ i + j := by
  induction i generalizing j with
  | zero => have := row0_le j; simp [gridF]; omega
  | succ i ih =>
    show (rowS b (a.getD i 0) (gridF a b i) j).2 ≤ _
    induction j with
    | zero => simp only [rowS]; have := ih 0; omega
    | succ j jh => simp only [rowS]; have := cellOf_le (a.getD i 0 == b.getD j 0) (gridF a b i j).2 (gridF a b i (j + 1)).2 (rowS b (a.getD i 0) (gridF a b i) j).2; omega
theorem cellOf_kind (same : Bool) (d u l : Nat) : (cellOf same d u l).1 ≤ 3 := by
  unfold cellOf
  cases same <;> simp only [if_true, if_false, Bool.false_eq_true] <;> repeat' split
  all_goals simp_all
theorem gridF_kind (a b : List Int) (i j : Nat) : (gridF a b i j).1 ≤ 3 := by
  cases i with
  | zero => cases j <;> simp [gridF, row0]
  | succ i =>
    show (rowS b (a.getD i 0) (gridF a b i) j).1 ≤ _
    cases j with
    | zero => simp [rowS]
    | succ j => exact cellOf_kind ..
theorem gridF_left (a b : List Int) (i : Nat) : (gridF a b (i + 1) 0).1 = 2 := rfl
theorem gridF_top (a b : List Int) (j : Nat) : (gridF a b 0 (j + 1)).1 = 3 := rfl
theorem gridF_diag (a : List Int) (i : Nat) : gridF a a i i = (0, 0) := by
  induction i with
  | zero => rfl
  | succ i ih =>
    show rowS a (a.getD i 0) (gridF a a i) (i + 1) = _
    simp only [rowS, ih, beq_self_eq_true, cellOf, if_true]
    simp

/-- The steps, from the last one. -/
def backF (a b : List Int) : Nat → Nat → Nat → List Stp
  | 0, _, _ => []
  | f + 1, i, j => if i + j = 0 then [] else
      let k := (gridF a b i j).1
      let i' := if k = 3 then i else i - 1
      let j' := if k = 2 then j else j - 1
      ⟨k, if k = 3 then 0 else a.getD i' 0, if k = 2 then 0 else b.getD j' 0⟩ :: backF a b f i' j'
def stepsF (a b : List Int) : List Stp := (backF a b (a.length + b.length) a.length b.length).reverse

theorem backF_diag (a : List Int) (f i : Nat) : ∀ s ∈ backF a a f i i, s.k = 0 := by
  induction f generalizing i with
  | zero => intro s h; simp [backF] at h
  | succ f ih =>
    intro s h
    unfold backF at h
    rw [gridF_diag] at h
    by_cases h0 : i + i = 0
    · rw [if_pos h0] at h; simp at h
    · rw [if_neg h0] at h
      simp at h
      rcases h with rfl | h
      · rfl
      · exact ih _ s h

/-! ### blocks -/
def mayF (s : Stp) : Bool := Lib.validRune s.a && Lib.validRune s.b &&
  (if s.k = 0 then s.a == s.b else if s.k = 1 then s.a != s.b else if s.k = 2 then s.b == 0 else if s.k = 3 then s.a == 0 else false)
def checkS (l : List Stp) : Bool := l.all mayF
def bytesR (r : Int) : List UInt8 := Lib.encodeRune r
def noisyF (l : List Stp) : ByteArray := ⟨((l.filter (·.k ≠ 3)).flatMap fun s => bytesR s.a).toArray⟩
def truthF (l : List Stp) : ByteArray := ⟨((l.filter (·.k ≠ 2)).flatMap fun s => bytesR s.b).toArray⟩
def madeF (l : List Stp) : Blk × Bool :=
  let a := if checkS l then noisyF l else ⟨#[]⟩
  let b := if checkS l then truthF l else ⟨#[]⟩
  (⟨a, b, 1⟩, decide (3 < max (Lib.runeCount a) (Lib.runeCount b)))
def rowsF : Nat → List Stp → List (List Stp)
  | 0, _ => []
  | _ + 1, [] => []
  | f + 1, s :: t => if s.k = 0 then rowsF f t else (s :: t.takeWhile (·.k ≠ 0)) :: rowsF f (t.dropWhile (·.k ≠ 0)).tail
def keepF (r : List Stp) : Bool := !(madeF r).2 && decide ((madeF r).1.f.toList ≠ (madeF r).1.t.toList)
def ofF (l : List Stp) : List Blk × Int :=
  if checkS l then (((rowsF l.length l).filter keepF).map fun r => (madeF r).1, 0) else ([], 7)
def pairF (n t : ByteArray) : List Blk × Int :=
  if (tokenF n).2 ≠ 0 then ([], (tokenF n).2) else if (tokenF t).2 ≠ 0 then ([], (tokenF t).2) else ofF (stepsF (tokenF n).1 (tokenF t).1)

theorem rowsF_match (f : Nat) (l : List Stp) (h : ∀ s ∈ l, s.k = 0) : rowsF f l = [] := by
  induction f generalizing l with
  | zero => rfl
  | succ f ih =>
    cases l with
    | nil => rfl
    | cons s t =>
      simp only [rowsF]
      rw [if_pos (h s (by simp)), ih t (fun x hx => h x (by simp [hx]))]

/-! ### counting -/
def blkCheck (b : Blk) : Int :=
  if !Lib.validD b.f.data.toList || !Lib.validD b.t.data.toList then 3
  else if 3 < max (Lib.runeCount b.f) (Lib.runeCount b.t) then 5
  else if b.f.toList == b.t.toList then 7
  else if b.n < 1 ∨ 1073741824 < b.n then 2 else 0
def eachF : List Blk → Int
  | [] => 0
  | b :: t => if blkCheck b ≠ 0 then blkCheck b else eachF t
def strCmp (a b : ByteArray) : Int := if Op.bytesLess a.toList b.toList then -1 else if Op.bytesLess b.toList a.toList then 1 else 0
def blkOr (a b : Blk) : Int := if strCmp a.f b.f ≠ 0 then strCmp a.f b.f else strCmp a.t b.t
def blkLess (a b : Blk) : Bool := decide (blkOr a b < 0)
def blkCmp (a b : Blk) : Int := if blkLess a b then -1 else if blkLess b a then 1 else 0
def sumN (l : List Blk) : Int := (l.map (·.n)).sum
def sumOk : Int → List Blk → Bool
  | _, [] => true
  | acc, b :: t => if 1073741824 < acc + b.n then false else sumOk (acc + b.n) t
def sameKey (a b : Blk) : Bool := decide (a.f = b.f) && decide (a.t = b.t)
/-- One more block laid into those that were met. -/
def addB (out : List Blk) (b : Blk) : List Blk :=
  if out.any (sameKey b) then out.map fun x => if sameKey b x then { x with n := x.n + b.n } else x else out ++ [b]
def dedupF (l : List Blk) : List Blk := l.foldl addB []
def insB (b : Blk) : List Blk → List Blk
  | [] => [b]
  | x :: t => if blkLess b x then b :: x :: t else x :: insB b t
def isortB (l : List Blk) : List Blk := l.foldr insB []
def tableF (l : List Blk) : List Blk × Int :=
  if eachF l ≠ 0 then ([], eachF l) else if !sumOk 0 l then ([], 6) else if 4096 < (dedupF l).length then ([], 6) else (isortB (dedupF l), 0)
def pairsGo : List Pr → List Blk → List Blk × Int
  | [], acc => (acc, 0)
  | p :: t, acc => if (pairF p.n p.t).2 ≠ 0 then ([], (pairF p.n p.t).2) else pairsGo t (acc ++ (pairF p.n p.t).1)
def pairsF (l : List Pr) : List Blk × Int :=
  if 65536 < l.length then ([], 6) else if (pairsGo l []).2 ≠ 0 then ([], (pairsGo l []).2) else tableF (pairsGo l []).1

theorem checkS_all (l : List Stp) (h : checkS l = true) : (ofF l).2 = 0 := by simp [ofF, h]
example : tableF [⟨"rn".toUTF8, "m".toUTF8, 1⟩, ⟨"l".toUTF8, "i".toUTF8, 1⟩, ⟨"rn".toUTF8, "m".toUTF8, 1⟩] = ([⟨"l".toUTF8, "i".toUTF8, 1⟩, ⟨"rn".toUTF8, "m".toUTF8, 2⟩], 0) := by decide +kernel
end Go.Proofs.Er
