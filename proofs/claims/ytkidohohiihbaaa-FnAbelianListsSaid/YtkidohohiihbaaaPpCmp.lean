/- The order by primes, and then by size, as the program's function value reckons it. -/
import Derived.Test.YtkidohohiihbaaaFacD
import Derived.Test.YtkidohohiihbaaaFacP
import Derived.Test.YtkidohohiihbaaaBox
import Derived.StillTailTactics
set_option linter.unusedVariables false
set_option linter.unusedSimpArgs false
namespace Go.Proofs.Ytkidohohiihbaaa
open Go.RowKit

def cmpI (x y : Int) : Int := if x < y then -1 else if y < x then 1 else 0
/-- the least prime that divides a number -/
def lpf (x : Int) : Int := el (primesOf x) 0
/-- the order of the program's function value -/
def ordP (x y : Int) : Int := if cmpI (lpf x) (lpf y) = 0 then cmpI x y else cmpI (lpf x) (lpf y)
theorem primes_pos {x : Int} (h1 : 2 ≤ x) (h2 : x ≤ 1000000) : 0 < (primesOf x).length := by
  obtain ⟨s1, s2⟩ := facL_spec (show 1 ≤ x by omega) h2
  have e : primesOf x = (facL x).map Prod.fst := rfl
  rw [e, List.length_map]
  rcases hL : facL x with _ | ⟨a, L⟩
  · rw [hL] at s1; simp [prodL] at s1; omega
  · simp
theorem compare_any (x y : Int) (w : World) :
    Calls Try.prog 147 #[.int .i64 x, .int .i64 y] w fun e w' => e = .returned (.int .i64 (cmpI x y)) ∧ w = w' := by
  have h1 : (x != x) = false := by simp
  have h2 : (y != y) = false := by simp
  by_cases hlt : x < y
  · have d1 : decide (x < y) = true := decide_eq_true hlt
    go_enter Try.func147, Try.ntmps147
    go_wp2
    go_ret
    exact ⟨by simp [cmpI, hlt], rfl⟩
  · have d1 : decide (x < y) = false := decide_eq_false hlt
    by_cases hgt : y < x
    · have d2 : decide (y < x) = true := decide_eq_true hgt
      go_enter Try.func147, Try.ntmps147
      go_wp2
      go_ret
      exact ⟨by simp [cmpI, hlt, hgt], rfl⟩
    · have d2 : decide (y < x) = false := decide_eq_false hgt
      rw [show cmpI x y = 0 by unfold cmpI; rw [if_neg hlt, if_neg hgt]]
      go_enter Try.func147, Try.ntmps147
      go_wp2
      go_ret
      exact ⟨rfl, rfl⟩
end Go.Proofs.Ytkidohohiihbaaa
