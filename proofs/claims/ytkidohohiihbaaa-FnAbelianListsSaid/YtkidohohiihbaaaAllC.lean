/- All abelian groups of an order: both functions return the same list. -/
import Derived.Test.YtkidohohiihbaaaAllI
import Derived.Test.YtkidohohiihbaaaAllS
set_option linter.unusedVariables false
set_option linter.unusedSimpArgs false
namespace Go.Proofs.Ytkidohohiihbaaa
open Go.RowKit

theorem ltN_cmp : ∀ x y : List Nat, ltN x y = true → cmpL (toI x) (toI y) < 0
  | [], [], h => by simp [ltN] at h
  | [], _ :: _, _ => by simp [toI, cmpL]
  | _ :: _, [], h => by simp [ltN] at h
  | x :: xs, y :: ys, h => by
    show cmpL ((x : Int) :: toI xs) ((y : Int) :: toI ys) < 0
    unfold ltN at h
    by_cases e : x = y
    · subst e
      rw [if_pos rfl] at h
      rw [cmpL_eq]; exact ltN_cmp xs ys h
    · rw [if_neg e, decide_eq_true_eq] at h
      rw [cmpL_lt _ _ (by omega)]; decide
theorem asc_pair : ∀ {R : List (List Nat)}, ascN R = true → (R.map toI).Pairwise (fun x y => cmpL x y < 0)
  | [], _ => .nil
  | x :: xs, h => by
    unfold ascN at h
    rw [Bool.and_eq_true, List.all_eq_true] at h
    refine List.pairwise_cons.2 ⟨fun y hy => ?_, asc_pair h.2⟩
    obtain ⟨z, hz, rfl⟩ := List.mem_map.1 hy
    exact ltN_cmp _ _ (h.1 z hz)
theorem lex_uniq : ∀ {xs ys : List (List Int)}, xs.Perm ys → xs.Pairwise (fun x y => 0 ≤ cmpL y x) → ys.Pairwise (fun x y => cmpL x y < 0) → xs = ys
  | [], ys, h, _, _ => by rw [h.nil_eq]
  | x :: xs, [], h, _, _ => by have := h.length_eq; simp at this
  | x :: xs, y :: ys, h, h1, h2 => by
    have e : x = y := by
      have hx : x ∈ y :: ys := h.subset (by simp)
      have hy : y ∈ x :: xs := h.symm.subset (by simp)
      rcases List.mem_cons.1 hx with e | hx
      · exact e
      · rcases List.mem_cons.1 hy with e | hy
        · exact e.symm
        · have a1 := (List.pairwise_cons.1 h1).1 y hy
          have a2 := (List.pairwise_cons.1 h2).1 x hx
          omega
    subst e
    rw [lex_uniq (List.Perm.cons_inv h) (List.pairwise_cons.1 h1).2 (List.pairwise_cons.1 h2).2]
def allIn (x : Int) : Prop := 1 ≤ x ∧ x ≤ 1000
instance (x : Int) : Decidable (allIn x) := by unfold allIn; exact inferInstance
/-- the groups of an order -/
def allL (x : Int) : List (List Int) := if allIn x then (refN x.toNat).map toI else []
def allD (x : Int) : Int := if allIn x then 0 else 2
theorem ref_row {n : Nat} (h : AllOk n) : ∀ l ∈ (refN n).map toI, l.length ≤ 10 ∧ isAb l 0 = true := fun l hl => by
  have h1 := h.perm.symm.subset hl
  obtain ⟨q, hq, rfl⟩ := List.mem_map.1 h1
  have h2 := (h.pp q hq).2.2.2
  have h3 := (isAb_ok h2).2.2.1
  exact ⟨by omega, h2⟩
theorem allL_small (x : Int) : (allL x).length ≤ 100 ∧ ∀ i, (rw_ (allL x) i).length ≤ 10 := by
  unfold allL
  by_cases h : allIn x
  · rw [if_pos h]
    have hk := allOk (n := x.toNat) (by have := h.1; omega) (by have := h.2; omega)
    refine ⟨by rw [List.length_map]; exact hk.rl, fun i => ?_⟩
    by_cases hi : i < ((refN x.toNat).map toI).length
    · exact (ref_row hk _ (rw_mem hi)).1
    · unfold rw_; rw [List.getElem?_eq_none (by omega)]; simp
  · rw [if_neg h]
    exact ⟨by simp, fun i => by simp [rw_]⟩
theorem impl_AllAbelian_all (x : Int) (w : World) :
    Calls Try.prog 74 #[.int .i64 x] w fun e w' => ∃ (a : Option Addr) (c : Nat) (A : Nat → Option Addr) (C : Nat → Nat), e = .returned (.tuple #[.slice a (allL x).length c, .int .i64 (allD x)]) ∧
      OwnA 37 2 w' w.heap.size a (allL x).length c (allL x) A C (fun _ => 0) ∧ Below w.heap.size w w' := by
  by_cases h : allIn x
  · obtain ⟨n, rfl⟩ : ∃ n : Nat, x = n := ⟨x.toNat, by have := h.1; omega⟩
    have h1 : 1 ≤ n := by have := h.1; omega
    have h2 : n ≤ 1000 := by have := h.2; omega
    have e1 : allL (n : Int) = (refN n).map toI := by unfold allL; rw [if_pos h]; rfl
    have e2 : allD (n : Int) = 0 := by unfold allD; rw [if_pos h]
    rw [e1, e2]
    refine (impl_AllAbelian_any n w h1 h2).mono ?_
    rintro e w' ⟨L, a, c, A, C, rfl, hp, hs, ho, hb⟩
    have hL : L = (refN n).map toI := lex_uniq (hp.trans (allOk h1 h2).perm) hs (asc_pair (allOk h1 h2).asc)
    subst hL
    exact ⟨a, c, A, C, rfl, ho, hb⟩
  · have e1 : allL x = [] := by unfold allL; rw [if_neg h]
    have e2 : allD x = 2 := by unfold allD; rw [if_neg h]
    rw [e1, e2]
    refine (impl_AllAbelian_bad x w (by unfold allIn at h; omega)).mono ?_
    rintro e w' ⟨rfl, rfl⟩
    exact ⟨none, 0, fun _ => none, fun _ => 0, rfl, OwnA.none _ _ _, Below.refl _ _⟩
theorem spec_AllAbelian_all (x : Int) (w : World) :
    Calls Try.prog 75 #[.int .i64 x] w fun e w' => ∃ (a : Option Addr) (c : Nat) (A : Nat → Option Addr) (C : Nat → Nat), e = .returned (.tuple #[.slice a (allL x).length c, .int .i64 (allD x)]) ∧
      OwnA 37 2 w' w.heap.size a (allL x).length c (allL x) A C (fun _ => 0) ∧ Below w.heap.size w w' := by
  by_cases h : allIn x
  · obtain ⟨n, rfl⟩ : ∃ n : Nat, x = n := ⟨x.toNat, by have := h.1; omega⟩
    have h1 : 1 ≤ n := by have := h.1; omega
    have h2 : n ≤ 1000 := by have := h.2; omega
    have e1 : allL (n : Int) = (refN n).map toI := by unfold allL; rw [if_pos h]; rfl
    have e2 : allD (n : Int) = 0 := by unfold allD; rw [if_pos h]
    rw [e1, e2, List.length_map]
    exact spec_AllAbelian_any n w h1 h2
  · have e1 : allL x = [] := by unfold allL; rw [if_neg h]
    have e2 : allD x = 2 := by unfold allD; rw [if_neg h]
    rw [e1, e2]
    refine (spec_AllAbelian_bad x w (by unfold allIn at h; omega)).mono ?_
    rintro e w' ⟨rfl, rfl⟩
    exact ⟨none, 0, fun _ => none, fun _ => 0, rfl, OwnA.none _ _ _, Below.refl _ _⟩
end Go.Proofs.Ytkidohohiihbaaa
