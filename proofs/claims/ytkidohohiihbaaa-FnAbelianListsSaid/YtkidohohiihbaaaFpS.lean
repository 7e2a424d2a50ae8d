/- The library's Sort and Reverse on a slice that is owned. -/
import Derived.Test.YtkidohohiihbaaaSortRow
import Derived.Test.YtkidohohiihbaaaShelfR
set_option linter.unusedVariables false
set_option linter.unusedSimpArgs false
namespace Go.Proofs.Ytkidohohiihbaaa
open Go.RowKit Go.Sort Go.Shelf

/-- ascending -/
def sortA (xs : List Int) : List Int := xs.mergeSort fun x y => decide (x ≤ y)
theorem sortA_perm (xs : List Int) : (sortA xs).Perm xs := List.mergeSort_perm _ _
theorem sortA_len (xs : List Int) : (sortA xs).length = xs.length := (sortA_perm xs).length_eq
theorem sortA_sorted (xs : List Int) : (sortA xs).Pairwise (fun x y => x ≤ y) := by
  have h := List.pairwise_mergeSort (le := fun (x y : Int) => decide (x ≤ y)) (fun a b c h1 h2 => by simp at *; omega) (fun a b => by simp; omega) xs
  exact h.imp (fun h => by simpa using h)
theorem sortA_nil : sortA [] = [] := by simp [sortA]
theorem sortO_any (B g n cap : Nat) (xs : List Int) (w : World) (ho : OwnI 2 w B (some ⟨g, 0, none⟩) n cap xs) (hn : n ≤ 1000000) :
    Calls Try.prog 181 #[.slice (some ⟨g, 0, none⟩) n cap] w fun e w' => e = .returned (.tuple #[]) ∧ OwnI 2 w' B (some ⟨g, 0, none⟩) n cap (sortA xs) ∧ Chg (fun k => k = g) w w' := by
  have hl := ho.len
  have hH : Holds (Value.int .i64) w g 0 xs.toArray := row_holds (Value.int .i64) ho _ rfl
  have hcon := AnyM.slices_Sort_int Ytkidohohiihbaaa.sortO g 0 cap xs w hH (ho.block _ rfl).2 (by omega)
  rw [hl] at hcon
  refine hcon.mono ?_
  rintro e w' ⟨rfl, m, os, rfl⟩
  have hs := sortA_len xs
  exact ⟨rfl, row_sorted (Value.int .i64) ho m (sortA xs).toArray os (by simp; omega) rfl, sortWorld_chg (Value.int .i64) w g 0 m (sortA xs).toArray os⟩
theorem sortO_none (p : Option Addr) (cap : Nat) (w : World) :
    Calls Try.prog 181 #[.slice p 0 cap] w fun e w' => e = .returned (.tuple #[]) ∧ w' = w :=
  AnyM.slices_Sort_int_none Ytkidohohiihbaaa.sortO p cap w
theorem rev_any (B g n cap : Nat) (xs : List Int) (w : World) (ho : OwnI 2 w B (some ⟨g, 0, none⟩) n cap xs) (hn : n ≤ 1000000) :
    Calls Try.prog 182 #[.slice (some ⟨g, 0, none⟩) n cap] w fun e w' => e = .returned (.tuple #[]) ∧ OwnI 2 w' B (some ⟨g, 0, none⟩) n cap xs.reverse ∧ Chg (fun k => k = g) w w' := by
  have hl := ho.len
  have hH : Holds (Value.int .i64) w g 0 xs.toArray := row_holds (Value.int .i64) ho _ rfl
  have hcon := AnyE.slices_Reverse Ytkidohohiihbaaa.revI (Value.int .i64) (fun _ => rfl) g 0 cap xs w hH (by omega)
  rw [hl] at hcon
  refine hcon.mono ?_
  rintro e w' ⟨rfl, m, rfl⟩
  have e0 : putRow (Value.int .i64) (Sort.ahead w m) g 0 xs.reverse.toArray = sortWorld (Value.int .i64) w g 0 m xs.reverse.toArray #[] := by unfold sortWorld; rw [grow_empty]
  rw [e0]
  exact ⟨rfl, row_sorted (Value.int .i64) ho m xs.reverse.toArray #[] (by simp; omega) (by simp), sortWorld_chg (Value.int .i64) w g 0 m xs.reverse.toArray #[]⟩
theorem rev_none (p : Option Addr) (cap : Nat) (w : World) :
    Calls Try.prog 182 #[.slice p 0 cap] w fun e w' => e = .returned (.tuple #[]) ∧ w' = w :=
  AnyE.slices_Reverse_empty Ytkidohohiihbaaa.revI p cap w
end Go.Proofs.Ytkidohohiihbaaa
