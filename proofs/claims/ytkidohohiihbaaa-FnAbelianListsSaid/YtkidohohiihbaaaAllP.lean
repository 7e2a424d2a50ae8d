/- All abelian groups of an order up to 1000: what the program makes and what the reference makes, asked of the kernel. No program in sight. -/
import Derived.Test.YtkidohohiihbaaaFpR
import Derived.KernelRfl
set_option linter.unusedVariables false
set_option linter.unusedSimpArgs false
namespace Go.Proofs.Ytkidohohiihbaaa
open Go.RowKit

/-! ### partitions -/
/-- the partitions of n into parts of at most m, the greatest part first; f is fuel -/
def partF : Nat → Nat → Nat → List (List Int)
  | 0, _, _ => [[]]
  | f + 1, n, m => if n = 0 then [[]] else (List.range (min n m)).flatMap fun i => (partF f (n - (min n m - i)) (min n m - i)).map fun r => ((min n m - i : Nat) : Int) :: r
/-- the lists with one more prime -/
def stepL (L : List (List Int)) (p e : Int) : List (List Int) := (partF e.toNat e.toNat e.toNat).flatMap fun q => L.map fun l => l ++ q.map fun k => p ^ k.toNat
def listsN (n : Int) : List (List Int) := (facL n).foldl (fun L x => stepL L x.1 x.2) [[]]

/-! ### the factors, by a sort that the kernel runs -/
def insA (x : Int) : List Int → List Int
  | [] => [x]
  | y :: ys => if x ≤ y then x :: y :: ys else y :: insA x ys
def isortA : List Int → List Int
  | [] => []
  | x :: xs => insA x (isortA xs)
theorem insA_perm (x : Int) : ∀ ys : List Int, (insA x ys).Perm (x :: ys)
  | [] => .refl _
  | y :: ys => by
    unfold insA
    split
    · exact .refl _
    · exact ((insA_perm x ys).cons y).trans (.swap x y ys)
theorem isortA_perm : ∀ xs : List Int, (isortA xs).Perm xs
  | [] => .refl _
  | x :: xs => (insA_perm x _).trans ((isortA_perm xs).cons x)
theorem insA_sorted (x : Int) : ∀ {ys : List Int}, ys.Pairwise (fun x y => x ≤ y) → (insA x ys).Pairwise (fun x y => x ≤ y)
  | [], _ => by simp [insA]
  | y :: ys, h => by
    obtain ⟨h1, h2⟩ := List.pairwise_cons.1 h
    unfold insA
    split
    · rename_i hxy
      refine List.pairwise_cons.2 ⟨fun z hz => ?_, h⟩
      rcases List.mem_cons.1 hz with rfl | hz
      · exact hxy
      · have := h1 z hz; omega
    · rename_i hxy
      refine List.pairwise_cons.2 ⟨fun z hz => ?_, insA_sorted x h2⟩
      rcases List.mem_cons.1 ((insA_perm x ys).subset hz) with rfl | hz
      · omega
      · exact h1 z hz
theorem isortA_sorted : ∀ xs : List Int, (isortA xs).Pairwise (fun x y => x ≤ y)
  | [] => .nil
  | x :: xs => insA_sorted x (isortA_sorted xs)
theorem sortA_ins (xs : List Int) : sortA xs = isortA xs := sortA_eq (isortA_perm xs) (isortA_sorted xs)
def dscK (qs : List Int) (p : Int) : List Int := (isortA (grp qs p)).reverse
theorem dsc_K (qs : List Int) (p : Int) : dsc qs p = dscK qs p := by unfold dsc dscK; rw [sortA_ins]
def fcolK (D : List (List Int)) (i : Nat) : Int := mulL (D.map fun l => gd l i)
def facK (qs : List Int) : List Int :=
  let D := (prs qs).map (dscK qs)
  (tab ((D.map List.length).foldr max 0) (fcolK D)).reverse
theorem facG_K (qs : List Int) : facG qs = facK qs := by
  unfold facG facD facK
  have e1 : nmax (prs qs) qs = (((prs qs).map (dscK qs)).map List.length).foldr max 0 := by
    unfold nmax
    rw [List.map_map]
    congr 1
    exact List.map_congr_left fun p _ => by rw [dsc_K]; rfl
  have e2 : fcol (prs qs) qs = fcolK ((prs qs).map (dscK qs)) := by
    funext i
    unfold fcol fcolK
    rw [List.map_map]
    congr 1
    exact List.map_congr_left fun p _ => by rw [dsc_K]; rfl
  rw [e1, e2]
theorem okB_K (qs : List Int) : okB qs = !((facK qs).any fun x => decide (1000000 < x)) := by
  have e : (facK qs).any (fun x => decide (1000000 < x)) = (facD qs).any fun x => decide (1000000 < x) := by
    rw [← facG_K]; unfold facG; rw [List.any_reverse]
  rw [e]; rfl

/-! ### the reference's search -/
def nel (xs : List Nat) (i : Nat) : Nat := xs[i]?.getD 0
/-- may d come behind these factors? -/
def okN (pre : List Nat) (rest d : Nat) : Bool := rest % d == 0 && (pre.length == 0 || d % nel pre (pre.length - 1) == 0)
/-- the loop over d, downwards; the stack's top is its head -/
def kidsN (pre : List Nat) (rest : Nat) : Nat → List (List Nat) → List (List Nat)
  | 0, st => st
  | d + 1, st => kidsN pre rest d (if 1 < d + 1 ∧ okN pre rest (d + 1) = true then (pre ++ [d + 1, rest / (d + 1)]) :: st else st)
def preN (l : List Nat) : List Nat := l.take (l.length - 1)
def restN (l : List Nat) : Nat := nel l (l.length - 1)
def nextN (l : List Nat) (st : List (List Nat)) : List (List Nat) := kidsN (preN l) (restN l) (restN l) st
def outN (l : List Nat) (out : List (List Nat)) : List (List Nat) := if restN l = 1 then out ++ [preN l] else out
/-- what is asked of an entry of the stack -/
def okE (l : List Nat) : Bool := decide (1 ≤ l.length) && decide (l.length ≤ 12) && l.all fun x => decide (1 ≤ x) && decide (x ≤ 1000)
/-- the search ends within f rounds, and the stack stays small -/
def chkS : Nat → List (List Nat) → Bool
  | _, [] => true
  | 0, _ :: _ => false
  | f + 1, l :: st => okE l && decide (st.length ≤ 500) && chkS f (nextN l st)
def resS : Nat → List (List Nat) → List (List Nat) → List (List Nat)
  | 0, _, out => out
  | _ + 1, [], out => out
  | f + 1, l :: st, out => resS f (nextN l st) (outN l out)
def FUEL : Nat := 400
def refN (n : Nat) : List (List Nat) := resS FUEL [[n]] []
def toI (l : List Nat) : List Int := l.map fun x : Nat => (x : Int)
/-- lexicographic order -/
def ltN : List Nat → List Nat → Bool
  | [], [] => false
  | [], _ :: _ => true
  | _ :: _, [] => false
  | x :: xs, y :: ys => if x = y then ltN xs ys else decide (x < y)
def ascN : List (List Nat) → Bool
  | [] => true
  | x :: xs => xs.all (fun y => ltN x y) && ascN xs

/-! ### the numbers of groups -/
def waysT : List Nat := [1, 1, 2, 3, 5, 7, 11, 15, 22, 30]
def stripN (p : Nat) : Nat → Nat → Nat × Nat
  | 0, r => (r, 0)
  | f + 1, r => if r % p = 0 then ((stripN p f (r / p)).1, (stripN p f (r / p)).2 + 1) else (r, 0)
/-- f: fuel -/
def waysF : Nat → Nat → Nat → Nat → Nat
  | 0, _, _, w => w
  | f + 1, p, r, w => if 1 < r then waysF f (p + 1) (stripN p 10 r).1 (w * nel waysT (stripN p 10 r).2) else w
def mulN (l : List Nat) : Nat := l.foldr (· * ·) 1

def ppK (q : Int) : Bool := decide (2 ≤ q) && decide (q ≤ 1000000) && (primesOf q).length == 1
def chkA (n : Nat) : Bool :=
  let L := listsN n
  let R := refN n
  chkS FUEL [[n]] && L.all (fun l => l.all ppK && decide (l.length ≤ 30) && !((facK l).any fun x => decide (1000000 < x)) && isAb (facK l) 0) && decide (L.length ≤ 100)
    && (L.map facK).isPerm (R.map toI) && ascN R && R.all (fun r => mulN r == n) && decide (R.length ≤ 100) && R.length == waysF 1000 2 n 1
end Go.Proofs.Ytkidohohiihbaaa
