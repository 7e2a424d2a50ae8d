/- All abelian groups of an order up to 1000: the kernel's runs. No program in sight. -/
import Derived.Test.YtkidohohiihbaaaAllP
set_option linter.unusedVariables false
namespace Go.Proofs.Ytkidohohiihbaaa
open Go.RowKit
set_option maxRecDepth 100000
def chkH (k : Nat) : Bool := (List.range 100).all fun i => chkA (100 * k + i + 1)
theorem chkH_0 : chkH 0 = true := by kernel_rfl
theorem chkH_1 : chkH 1 = true := by kernel_rfl
theorem chkH_2 : chkH 2 = true := by kernel_rfl
theorem chkH_3 : chkH 3 = true := by kernel_rfl
theorem chkH_4 : chkH 4 = true := by kernel_rfl
theorem chkH_5 : chkH 5 = true := by kernel_rfl
theorem chkH_6 : chkH 6 = true := by kernel_rfl
theorem chkH_7 : chkH 7 = true := by kernel_rfl
theorem chkH_8 : chkH 8 = true := by kernel_rfl
theorem chkH_9 : chkH 9 = true := by kernel_rfl
theorem chkH_all : ∀ k, k < 10 → chkH k = true
  | 0, _ => chkH_0 | 1, _ => chkH_1 | 2, _ => chkH_2 | 3, _ => chkH_3 | 4, _ => chkH_4
  | 5, _ => chkH_5 | 6, _ => chkH_6 | 7, _ => chkH_7 | 8, _ => chkH_8 | 9, _ => chkH_9
  | k + 10, h => absurd h (by omega)
theorem chkA_all {n : Nat} (h1 : 1 ≤ n) (h2 : n ≤ 1000) : chkA n = true := by
  have h := chkH_all ((n - 1) / 100) (by omega)
  unfold chkH at h
  have h3 := List.all_eq_true.1 h ((n - 1) % 100) (List.mem_range.2 (by omega))
  rwa [show 100 * ((n - 1) / 100) + (n - 1) % 100 + 1 = n by omega] at h3
end Go.Proofs.Ytkidohohiihbaaa
