/- The order by primes, and then by size, as the program's function value reckons it. -/
import Derived.Test.YtgdialknnjnehaaFacD
import Derived.Test.YtgdialknnjnehaaFacP
import Derived.Test.YtgdialknnjnehaaBox
import Derived.StillTailTactics
set_option linter.unusedVariables false
set_option linter.unusedSimpArgs false
namespace Go.Proofs.Ytgdialknnjnehaa
open Go.RowKit

def cmpI (x y : Int) : Int := if x < y then -1 else if y < x then 1 else 0
/-- the least prime that divides a number -/
def lpf (x : Int) : Int := el (primesOf x) 0
/-- the order of the program's function value -/
def ordP (x y : Int) : Int := if cmpI (lpf x) (lpf y) = 0 then cmpI x y else cmpI (lpf x) (lpf y)
theorem primes_pos {x : Int} (h1 : 2 ≤ x) (h2 : x ≤ 1000000) : 0 < (primesOf x).length := by
  obtain ⟨s1, s2⟩ := facL_spec (show 1 ≤ x by omega) h2
  have e : primesOf x = (facL x).map Prod.fst := rfl
  rw [e, List.length_map]
  rcases hL : facL x with _ | ⟨a, L⟩
  · rw [hL] at s1; simp [prodL] at s1; omega
  · simp
theorem compare_any (x y : Int) (w : World) :
    Calls Try.prog 77 #[.int .i64 x, .int .i64 y] w fun e w' => e = .returned (.int .i64 (cmpI x y)) ∧ w = w' := by
  have h1 : (x != x) = false := by simp
  have h2 : (y != y) = false := by simp
  by_cases hlt : x < y
  · have d1 : decide (x < y) = true := decide_eq_true hlt
    go_enter Try.func77, Try.ntmps77
    go_wp2
    go_ret
    exact ⟨by simp [cmpI, hlt], rfl⟩
  · have d1 : decide (x < y) = false := decide_eq_false hlt
    by_cases hgt : y < x
    · have d2 : decide (y < x) = true := decide_eq_true hgt
      go_enter Try.func77, Try.ntmps77
      go_wp2
      go_ret
      exact ⟨by simp [cmpI, hlt, hgt], rfl⟩
    · have d2 : decide (y < x) = false := decide_eq_false hgt
      rw [show cmpI x y = 0 by unfold cmpI; rw [if_neg hlt, if_neg hgt]]
      go_enter Try.func77, Try.ntmps77
      go_wp2
      go_ret
      exact ⟨rfl, rfl⟩
theorem or_any (b : Nat) (x y : Int) (w : World) (h0 : w.cell? ⟨b, 0, none⟩ = some (.int .i64 x)) (h1 : w.cell? ⟨b, 1, none⟩ = some (.int .i64 y)) :
    Calls Try.prog 76 #[.slice (some ⟨b, 0, none⟩) 2 2] w fun e w' => e = .returned (.int .i64 (if x = 0 then y else x)) ∧ w = w' := by
  by_cases hx : x = 0
  · have d1 : (x != 0) = false := by simp [hx]
    rw [if_pos hx]
    by_cases hy : y = 0
    · have d2 : (y != 0) = false := by simp [hy]
      have HY := Lib.hid hy
      clear hx hy
      go_enter Try.func76, Try.ntmps76
      go_wp2
      refine wp_loop_rounds 3 ?_
      rw [rounds_succ]
      go_wp2
      rw [rounds_succ]
      go_wp2
      rw [rounds_succ]
      go_wp2
      go_ret
      exact ⟨by rw [HY.out]; rfl, rfl⟩
    · have d2 : (y != 0) = true := by simp [hy]
      clear hx hy
      go_enter Try.func76, Try.ntmps76
      go_wp2
      refine wp_loop_rounds 3 ?_
      rw [rounds_succ]
      go_wp2
      rw [rounds_succ]
      go_wp2
      go_ret
      exact ⟨rfl, rfl⟩
  · have d1 : (x != 0) = true := by simp [hx]
    rw [if_neg hx]
    clear hx
    go_enter Try.func76, Try.ntmps76
    go_wp2
    refine wp_loop_rounds 3 ?_
    rw [rounds_succ]
    go_wp2
    go_ret
    exact ⟨rfl, rfl⟩
set_option maxRecDepth 20000 in
set_option maxHeartbeats 1000000 in
theorem cmpP_any (x y : Int) (w : World) (hx1 : 2 ≤ x) (hx2 : x ≤ 1000000) (hy1 : 2 ≤ y) (hy2 : y ≤ 1000000) :
    Calls Try.prog 75 #[.int .i64 x, .int .i64 y] w fun e w' => e = .returned (.int .i64 (ordP x y)) ∧ ∃ q os', w' = Go.Sort.grow (w.drewN q) os' := by
  have px := primes_pos hx1 hx2
  have py := primes_pos hy1 hy2
  go_enter Try.func75, Try.ntmps75
  go_wp2_with fail
  refine (factors_anyD x w (by omega) hx2).mono ?_
  rintro e w1 ⟨a1, n1, c1, a2, n2, c2, rfl, ho, _, _, hb, hd⟩
  have HO1 := Lib.hid ho
  have HB1 := Lib.hid hb
  have HD1 := Lib.hid hd
  clear ho hb hd
  go_wp2_with fail
  refine (factors_anyD y w1 (by omega) hy2).mono ?_
  rintro e w2 ⟨b1, m1, k1, b2, m2, k2, rfl, ho, _, _, hb, hd⟩
  have hn1 := HO1.out.len
  have hm1 := ho.len
  have hn0 : 0 < n1 := by omega
  have hm0 : 0 < m1 := by omega
  obtain ⟨g1, o1, rfl, q1⟩ := HO1.out.rd.keep hb (Nat.le_refl _) px
  obtain ⟨g2, o2, rfl, q2⟩ := ho.rd py
  have y1 := q1 0 px
  have y2 := q2 0 py
  have HG : Hid (∀ o, ∃ q os', w2.drew.alloc o = Go.Sort.grow (w.drewN q) os') := Lib.hid (fun o => by
    refine grow_of ?_ ?_
    · exact ((HB1.out.trans (hb.mono HB1.out.size)).drew).alloc (by have := HB1.out.size; have := hb.size; simp; omega) o
    · have h1 := HD1.out
      show w.drawn ≤ w2.drawn + 1
      omega)
  change w2.cell? ⟨g1, o1, none⟩ = some (.int .i64 (lpf x)) at y1
  change w2.cell? ⟨g2, o2, none⟩ = some (.int .i64 (lpf y)) at y2
  clear ho hb hd q1 q2 HO1 HB1 HD1
  go_wp2_with fail
  go_still_tail 10, (by kernel_rfl)
  repeat still_step
  still_call ((compare_any (lpf x) (lpf y) _).mono fun _ _ h => ⟨h.1, h.2.symm⟩)
  repeat still_step
  still_call ((compare_any x y _).mono fun _ _ h => ⟨h.1, h.2.symm⟩)
  repeat still_step
  refine wpStill_nil ?_
  change wpList _ _ _ _ _ w2.drew
  obtain ⟨A, hA⟩ : ∃ A, A = cmpI (lpf x) (lpf y) := ⟨_, rfl⟩
  obtain ⟨B, hB⟩ : ∃ B, B = cmpI x y := ⟨_, rfl⟩
  have HO : Hid (ordP x y = if A = 0 then B else A) := Lib.hid (by unfold ordP; rw [hA, hB])
  rw [← hA, ← hB]
  clear hA hB
  go_wp2_with fail
  refine (or_any w2.heap.size A B _ (by simp) (by simp)).mono ?_
  rintro e w' ⟨rfl, rfl⟩
  rw [← HO.out]
  clear HO
  go_wp2_with fail
  go_ret
  exact ⟨rfl, HG.out _⟩
end Go.Proofs.Ytgdialknnjnehaa
