/- All abelian groups of an order up to 1000: what the kernel's runs say. No program in sight. -/
import Derived.Test.YtkidohohiihbaaaAllK
import Derived.Test.YtkidohohiihbaaaAllQ
import Derived.Test.YtkidohohiihbaaaFpI
set_option linter.unusedVariables false
set_option linter.unusedSimpArgs false
namespace Go.Proofs.Ytkidohohiihbaaa
open Go.RowKit

structure AllOk (n : Nat) : Prop where
  s : chkS FUEL [[n]] = true
  pp : ∀ l ∈ listsN n, (∀ q ∈ l, isPP q) ∧ l.length ≤ 30 ∧ okB l = true ∧ isAb (facG l) 0 = true
  len : (listsN n).length ≤ 100
  perm : ((listsN n).map facG).Perm ((refN n).map toI)
  asc : ascN (refN n) = true
  mul : ∀ r ∈ refN n, mulN r = n
  rl : (refN n).length ≤ 100
  ways : (refN n).length = waysF 1000 2 n 1
theorem allOk {n : Nat} (h1 : 1 ≤ n) (h2 : n ≤ 1000) : AllOk n := by
  have h := chkA_all h1 h2
  unfold chkA at h
  simp only [Bool.and_eq_true, decide_eq_true_eq, List.all_eq_true, beq_iff_eq] at h
  obtain ⟨⟨⟨⟨⟨⟨⟨c1, c2⟩, c3⟩, c4⟩, c5⟩, c6⟩, c7⟩, c8⟩ := h
  refine ⟨c1, fun l hl => ?_, c3, ?_, c5, c6, c7, c8⟩
  · obtain ⟨⟨⟨d1, d2⟩, d3⟩, d4⟩ := c2 l hl
    refine ⟨fun q hq => ?_, d2, ?_, ?_⟩
    · have := d1 q hq
      unfold ppK at this
      simp only [Bool.and_eq_true, decide_eq_true_eq, beq_iff_eq] at this
      exact ⟨this.1.1, this.1.2, this.2⟩
    · rw [okB_K]; exact d3
    · rw [facG_K]; exact d4
  · have e : (listsN n).map facG = (listsN n).map facK := List.map_congr_left fun l _ => facG_K l
    rw [e]
    exact List.isPerm_iff.1 c4
/-- the lists behind k primes -/
def listsAt (n : Int) (k : Nat) : List (List Int) := ((facL n).take k).foldl (fun L x => stepL L x.1 x.2) [[]]
theorem listsAt_zero (n : Int) : listsAt n 0 = [[]] := by unfold listsAt; simp
theorem listsAt_succ {n : Int} {k : Nat} (h : k < (facL n).length) : listsAt n (k + 1) = stepL (listsAt n k) (el (primesOf n) k) (el (expsOf n) k) := by
  unfold listsAt
  rw [List.take_add_one, List.getElem?_eq_getElem h, Option.toList_some, List.foldl_append, List.foldl_cons, List.foldl_nil]
  have e1 : el (primesOf n) k = ((facL n)[k]).1 := by
    have hp : primesOf n = (facL n).map Prod.fst := rfl
    rw [hp, el_eq (by rw [List.length_map]; exact h), List.getElem_map]
  have e2 : el (expsOf n) k = ((facL n)[k]).2 := by
    have hp : expsOf n = (facL n).map Prod.snd := rfl
    rw [hp, el_eq (by rw [List.length_map]; exact h), List.getElem_map]
  rw [e1, e2]
theorem listsAt_full (n : Int) {k : Nat} (h : (facL n).length = k) : listsAt n k = listsN n := by
  unfold listsAt listsN; rw [List.take_of_length_le (by omega)]
set_option maxRecDepth 100000
def chkL (n : Nat) : Bool := (List.range ((facL n).length + 1)).all (fun k => decide ((listsAt n k).length ≤ 100) && decide (1 ≤ (listsAt n k).length) && (listsAt n k).all fun l => decide (l.length ≤ 30)) && ((facL n).all fun x => decide (2 ≤ x.1) && decide (x.1 ≤ 1000) && decide (1 ≤ x.2) && decide (x.2 ≤ 9) && decide (x.1 ^ 10 ≤ 1000000000000000000000000000000) && decide (x.1 ^ x.2.toNat ≤ 1000)) && decide ((facL n).length ≤ 10)
def chkM (k : Nat) : Bool := (List.range 250).all fun i => chkL (250 * k + i + 1)
theorem chkM_0 : chkM 0 = true := by kernel_rfl
theorem chkM_1 : chkM 1 = true := by kernel_rfl
theorem chkM_2 : chkM 2 = true := by kernel_rfl
theorem chkM_3 : chkM 3 = true := by kernel_rfl
theorem chkL_all {n : Nat} (h1 : 1 ≤ n) (h2 : n ≤ 1000) : chkL n = true := by
  have h : chkM ((n - 1) / 250) = true := by
    rcases (show (n - 1) / 250 = 0 ∨ (n - 1) / 250 = 1 ∨ (n - 1) / 250 = 2 ∨ (n - 1) / 250 = 3 by omega) with e | e | e | e <;> rw [e]
    · exact chkM_0
    · exact chkM_1
    · exact chkM_2
    · exact chkM_3
  unfold chkM at h
  have h3 := List.all_eq_true.1 h ((n - 1) % 250) (List.mem_range.2 (by omega))
  rwa [show 250 * ((n - 1) / 250) + (n - 1) % 250 + 1 = n by omega] at h3
theorem lists_ok {n : Nat} (h1 : 1 ≤ n) (h2 : n ≤ 1000) : (∀ k, k ≤ (facL n).length → ((listsAt n k).length ≤ 100 ∧ 1 ≤ (listsAt n k).length) ∧ ∀ l ∈ listsAt n k, l.length ≤ 30) ∧
    (∀ k, k < (facL n).length → 2 ≤ el (primesOf n) k ∧ 1 ≤ el (expsOf n) k ∧ el (expsOf n) k ≤ 9 ∧ el (primesOf n) k ^ (el (expsOf n) k).toNat ≤ 1000) ∧ (facL n).length ≤ 10 := by
  have h := chkL_all h1 h2
  unfold chkL at h
  simp only [Bool.and_eq_true, decide_eq_true_eq, List.all_eq_true] at h
  obtain ⟨⟨c1, c2⟩, c3⟩ := h
  refine ⟨fun k hk => c1 k (List.mem_range.2 (by omega)), fun k hk => ?_, c3⟩
  have e1 : el (primesOf n) k = ((facL n)[k]).1 := by
    have hp : primesOf n = (facL n).map Prod.fst := rfl
    rw [hp, el_eq (by rw [List.length_map]; exact hk), List.getElem_map]
  have e2 : el (expsOf n) k = ((facL n)[k]).2 := by
    have hp : expsOf n = (facL n).map Prod.snd := rfl
    rw [hp, el_eq (by rw [List.length_map]; exact hk), List.getElem_map]
  rw [e1, e2]
  have := c2 _ (List.getElem_mem hk)
  exact ⟨this.1.1.1.1.1, this.1.1.1.2, this.1.1.2, this.2⟩
theorem take_rowA {A : List (List Int)} {j : Nat} (h : j < A.length) : A.take (j + 1) = A.take j ++ [rw_ A j] := by
  rw [List.take_add_one, rw_get h]; rfl
/-- a row that is being made: t parts of the partition are in -/
def rowT (p : Int) (l q : List Int) (t : Nat) : List Int := l ++ (q.take t).map fun k => p ^ k.toNat
theorem rowT_zero (p : Int) (l q : List Int) : rowT p l q 0 = l := by unfold rowT; simp
theorem rowT_succ {p : Int} {l q : List Int} {t : Nat} (h : t < q.length) : rowT p l q (t + 1) = rowT p l q t ++ [p ^ (el q t).toNat] := by
  unfold rowT; rw [take_el h, List.map_append, List.append_assoc]; rfl
/-- the next lists: j partitions are through, of the next one k lists -/
def nextT (p : Int) (P L : List (List Int)) (j k : Nat) : List (List Int) := ((P.take j).flatMap fun q => L.map fun l => rowT p l q q.length) ++ (L.take k).map fun l => rowT p l (rw_ P j) (rw_ P j).length
theorem nextT_zero (p : Int) (P L : List (List Int)) : nextT p P L 0 0 = [] := by unfold nextT; simp
theorem nextT_in {p : Int} {P L : List (List Int)} {j k : Nat} (h : k < L.length) : nextT p P L j (k + 1) = nextT p P L j k ++ [rowT p (rw_ L k) (rw_ P j) (rw_ P j).length] := by
  unfold nextT
  rw [take_rowA h, List.map_append, List.append_assoc]; rfl
theorem nextT_out {p : Int} {P L : List (List Int)} {j k : Nat} (h : j < P.length) (hk : L.length = k) : nextT p P L j k = nextT p P L (j + 1) 0 := by
  unfold nextT
  rw [take_rowA h, List.flatMap_append, List.take_of_length_le (show L.length ≤ k by omega)]
  simp
theorem nextT_full {p e : Int} {L : List (List Int)} {j : Nat} (h : (partF e.toNat e.toNat e.toNat).length = j) : nextT p (partF e.toNat e.toNat e.toNat) L j 0 = stepL L p e := by
  unfold nextT stepL
  rw [List.take_of_length_le (by omega)]
  simp only [List.take_zero, List.map_nil, List.append_nil]
  congr 1
  funext q
  refine List.map_congr_left fun l _ => ?_
  unfold rowT
  rw [List.take_of_length_le (Nat.le_refl _)]
theorem flatP_len {L : List (List Int)} {f : List Int → List Int → List Int} : ∀ P : List (List Int), (P.flatMap fun q => L.map fun l => f l q).length = P.length * L.length
  | [] => by simp
  | q :: P => by rw [List.flatMap_cons, List.length_append, flatP_len P, List.length_map, List.length_cons, Nat.add_mul]; omega
theorem nextT_len (p : Int) {P L : List (List Int)} {j k : Nat} (hj : j ≤ P.length) (hk : k ≤ L.length) : (nextT p P L j k).length = j * L.length + k := by
  unfold nextT
  rw [List.length_append, flatP_len (f := fun l q => rowT p l q q.length), List.length_map, List.length_take, List.length_take]
  rw [Nat.min_eq_left hj, Nat.min_eq_left hk]
end Go.Proofs.Ytkidohohiihbaaa
