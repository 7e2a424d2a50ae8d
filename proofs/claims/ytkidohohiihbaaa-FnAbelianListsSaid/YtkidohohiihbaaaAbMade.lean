/- The abelian group that a table presents. -/
import Derived.Test.YtkidohohiihbaaaBox
import Derived.Test.YtkidohohiihbaaaAb
set_option linter.unusedVariables false
set_option linter.unusedSimpArgs false
namespace Go.Proofs.Ytkidohohiihbaaa
open Go.RowKit

set_option maxHeartbeats 1000000 in
theorem abelianResult_t (a : Option Addr) (n c : Nat) (xs : List Int) (r : Int) (w : World) (ha : RdI w a xs) (hl : xs.length = n) (hn : n ≤ 1048576) (h : isAb xs r = true) :
    Calls Try.prog 135 #[.agg #[.slice a n c, .int .i64 r]] w fun e w' => e = .returned (.tuple #[.agg #[.slice a n c, .int .i64 r], .int .i64 0]) ∧ Below w.heap.size w w' := by
  have HA := Lib.hid ha
  have HL := Lib.hid hl
  have HH := Lib.hid h
  clear ha hl h
  go_enter Try.func135, Try.ntmps135
  go_wp2_with fail
  refine (impl_IsAbelian_any _ _ _ xs _ _ (by exact (HA.out.alloc _).alloc _) HL.out (by omega)).mono ?_
  rw [HH.out]
  rintro e w1 ⟨rfl, hb⟩
  obtain ⟨hc, hf⟩ := bcell hb
  have hz : w.heap.size + 1 < w1.heap.size := by have := hb.size; simp at this; omega
  have hz0 : w.heap.size < w1.heap.size := by omega
  have HB : Hid (Below w.heap.size w w1) := Lib.hid (below_al2 hb)
  clear hb
  go_wp2_with fail
  refine bodyPost_ret (v := .tuple #[.agg #[.slice a n c, .int .i64 r], .int .i64 0]) (by simp [results, Try.results135, go_sem, hc, hz, hz0]) rfl ⟨rfl, ?_⟩
  exact ((HB.out.setCell (by first | (simp; done) | (simp; omega)) _).setCell (by first | (simp; done) | (simp; omega)) _)
set_option maxHeartbeats 1000000 in
theorem abelianResult_f (a : Option Addr) (n c : Nat) (xs : List Int) (r : Int) (w : World) (ha : RdI w a xs) (hl : xs.length = n) (hn : n ≤ 1048576) (h : isAb xs r = false) :
    Calls Try.prog 135 #[.agg #[.slice a n c, .int .i64 r]] w fun e w' => e = .returned (.tuple #[.agg #[.slice none 0 0, .int .i64 0], .int .i64 3]) ∧ Below w.heap.size w w' := by
  have HA := Lib.hid ha
  have HL := Lib.hid hl
  have HH := Lib.hid h
  clear ha hl h
  go_enter Try.func135, Try.ntmps135
  go_wp2_with fail
  refine (impl_IsAbelian_any _ _ _ xs _ _ (by exact (HA.out.alloc _).alloc _) HL.out (by omega)).mono ?_
  rw [HH.out]
  rintro e w1 ⟨rfl, hb⟩
  obtain ⟨hc, hf⟩ := bcell hb
  have hz : w.heap.size + 1 < w1.heap.size := by have := hb.size; simp at this; omega
  have hz0 : w.heap.size < w1.heap.size := by omega
  have HB : Hid (Below w.heap.size w w1) := Lib.hid (below_al2 hb)
  clear hb
  go_wp2_with fail
  refine bodyPost_ret (v := .tuple #[.agg #[.slice none 0 0, .int .i64 0], .int .i64 3]) (by simp [results, Try.results135, go_sem, hc, hz, hz0]) rfl ⟨rfl, ?_⟩
  exact ((HB.out.setCell (by first | (simp; done) | (simp; omega)) _).setCell (by first | (simp; done) | (simp; omega)) _)
set_option maxHeartbeats 1000000 in
theorem l05Made_t (a : Option Addr) (n c : Nat) (xs : List Int) (r : Int) (w : World) (ha : RdI w a xs) (hl : xs.length = n) (hn : n ≤ 1048576) (h : isAb xs r = true) :
    Calls Try.prog 180 #[.slice a n c, .int .i64 r] w fun e w' => e = .returned (.tuple #[.agg #[.slice a n c, .int .i64 r], .int .i64 0]) ∧ Below w.heap.size w w' := by
  have HA := Lib.hid ha
  have HL := Lib.hid hl
  have HH := Lib.hid h
  clear ha hl h
  go_enter Try.func180, Try.ntmps180
  go_wp2_with fail
  refine (spec_IsAbelian_any _ _ _ xs _ _ (by exact (HA.out.alloc _).alloc _) HL.out (by omega)).mono ?_
  rw [HH.out]
  rintro e w1 ⟨rfl, hb⟩
  obtain ⟨hc, hf⟩ := bcell hb
  have hz : w.heap.size + 1 < w1.heap.size := by have := hb.size; simp at this; omega
  have hz0 : w.heap.size < w1.heap.size := by omega
  have HB : Hid (Below w.heap.size w w1) := Lib.hid (below_al2 hb)
  have X := (((BX.new w 37 #[.slice none 0 0, .int .i64 0]).alloc _).keep hb).set 0 (.slice a n c) |>.set 1 (.int .i64 r)
  have x0 := X.cell 0
  have x1 := X.cell 1
  clear hb X
  go_wp2_with fail
  refine bodyPost_ret (v := .tuple #[.agg #[.slice a n c, .int .i64 r], .int .i64 0]) (by simp [results, Try.results180, go_sem, x0, x1]) rfl ⟨rfl, ?_⟩
  exact ((HB.out.setCell (by first | (simp; done) | (simp; omega)) _).setCell (by first | (simp; done) | (simp; omega)) _)
set_option maxHeartbeats 1000000 in
theorem l05Made_f (a : Option Addr) (n c : Nat) (xs : List Int) (r : Int) (w : World) (ha : RdI w a xs) (hl : xs.length = n) (hn : n ≤ 1048576) (h : isAb xs r = false) :
    Calls Try.prog 180 #[.slice a n c, .int .i64 r] w fun e w' => e = .returned (.tuple #[.agg #[.slice none 0 0, .int .i64 0], .int .i64 3]) ∧ Below w.heap.size w w' := by
  have HA := Lib.hid ha
  have HL := Lib.hid hl
  have HH := Lib.hid h
  clear ha hl h
  go_enter Try.func180, Try.ntmps180
  go_wp2_with fail
  refine (spec_IsAbelian_any _ _ _ xs _ _ (by exact (HA.out.alloc _).alloc _) HL.out (by omega)).mono ?_
  rw [HH.out]
  rintro e w1 ⟨rfl, hb⟩
  obtain ⟨hc, hf⟩ := bcell hb
  have hz : w.heap.size + 1 < w1.heap.size := by have := hb.size; simp at this; omega
  have hz0 : w.heap.size < w1.heap.size := by omega
  have HB : Hid (Below w.heap.size w w1) := Lib.hid (below_al2 hb)
  have X := (((BX.new w 37 #[.slice none 0 0, .int .i64 0]).alloc _).keep hb).set 0 (.slice none 0 0) |>.set 1 (.int .i64 0)
  have x0 := X.cell 0
  have x1 := X.cell 1
  clear hb X
  go_wp2_with fail
  refine bodyPost_ret (v := .tuple #[.agg #[.slice none 0 0, .int .i64 0], .int .i64 3]) (by simp [results, Try.results180, go_sem, x0, x1]) rfl ⟨rfl, ?_⟩
  exact ((HB.out.setCell (by first | (simp; done) | (simp; omega)) _).setCell (by first | (simp; done) | (simp; omega)) _)
end Go.Proofs.Ytkidohohiihbaaa
