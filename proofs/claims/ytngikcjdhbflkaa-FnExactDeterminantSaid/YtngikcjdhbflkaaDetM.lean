/- The determinant of a matrix: the outer functions. -/
import Derived.Test.YtngikcjdhbflkaaDetI
import Derived.Test.YtngikcjdhbflkaaDetR
import Derived.Test.YtngikcjdhbflkaaInv
set_option linter.unusedVariables false
set_option linter.unusedSimpArgs false
namespace Go.Proofs.Ytngikcjdhbflkaa
open Go.RowKit

def DetOk (xss : List (List Int)) (p q : Int) : Prop := isMx xss p q = true ∧ (xss.length : Int) = q
noncomputable def detV (xss : List (List Int)) (p q : Int) : Int := Classical.epsilon fun r => DetOk xss p q ∧ DetR p xss.length xss 1 0 r
theorem detV_is {xss : List (List Int)} {p q r : Int} (h : DetOk xss p q) (hr : DetR p xss.length xss 1 0 r) : detV xss p q = r := by
  have := Classical.epsilon_spec (p := fun r => DetOk xss p q ∧ DetR p xss.length xss 1 0 r) ⟨r, h, hr⟩
  exact this.2.unique hr
noncomputable def detA (xss : List (List Int)) (p q : Int) : Int := @ite _ (DetOk xss p q) (Classical.propDecidable _) (detV xss p q) 0
def detC (xss : List (List Int)) (p q : Int) : Int := if isMx xss p q = true then (if (xss.length : Int) = q then 0 else 2) else 1
theorem detA_no {xss : List (List Int)} {p q : Int} (h : ¬ DetOk xss p q) : detA xss p q = 0 := if_neg h
theorem detA_is {xss : List (List Int)} {p q r : Int} (h : DetOk xss p q) (hr : DetR p xss.length xss 1 0 r) : detA xss p q = r := by unfold detA; rw [if_pos h]; exact detV_is h hr
set_option maxRecDepth 20000 in
set_option maxHeartbeats 4000000 in
theorem impl_Determinant_any (p q : Int) (a : Option Addr) (n c : Nat) (xss : List (List Int)) (w : World) (hp : I64 p) (hq : I64 q) (ha : RdR w a xss) (hl : xss.length = n) (hx : ∀ i, i < n → (rw_ xss i).length ≤ 1048576) (hn : n ≤ 1048576) (hcp : n ≤ c) :
    Calls Try.prog 27 #[.agg #[.int .i64 p, .int .i64 q, .slice a n c]] w fun e w' => e = .returned (.tuple #[.int .i64 (detA xss p q), .int .i64 (detC xss p q)]) ∧ Below w.heap.size w w' := by
  have HP := Lib.hid hp
  have HQ := Lib.hid hq
  have HA := Lib.hid ha
  have HL := Lib.hid hl
  have HX := Lib.hid hx
  clear hp hq ha hl hx
  by_cases hs : isMx xss p q = true
  rotate_left
  · have HS : Hid (isMx xss p q = false) := Lib.hid (by simpa using hs)
    have HR : Hid (detA xss p q = 0 ∧ detC xss p q = 1) := Lib.hid ⟨detA_no fun h => hs h.1, if_neg hs⟩
    clear hs
    go_enter Try.func27, Try.ntmps27
    go_wp2_with fail
    refine (impl_IsMatrix_any _ _ _ _ _ xss _ HP.out HQ.out (by exact HA.out.alloc _) HL.out HX.out hn hcp).mono ?_
    rintro e w1 ⟨he, hb⟩
    rw [HS.out] at he
    obtain rfl := he
    have X0 : Hid (BX 24 w1 w.heap.size #[.int .i64 p, .int .i64 q, .slice a n c]) := Lib.hid ((BX.new w _ _).keep hb)
    have HB1 : Hid (Below w.heap.size w w1) := Lib.hid (below_al1 hb)
    clear hb
    have p0 : w1.cell? ⟨w.heap.size, 0, none⟩ = some (.int .i64 p) := X0.out.cell 0
    have p1 : w1.cell? ⟨w.heap.size, 1, none⟩ = some (.int .i64 q) := X0.out.cell 1
    have p2 : w1.cell? ⟨w.heap.size, 2, none⟩ = some (.slice a n c) := X0.out.cell 2
    go_wp2_with fail
    go_ret2
    exact ⟨ret_ii (by rw [HR.out.1]) (by rw [HR.out.2]), HB1.out⟩
  · have HS := Lib.hid hs
    have HM := Lib.hid (isMx_ok hs)
    have hl8 := HM.out.len
    rw [HL.out] at hl8
    by_cases hnq : (n : Int) = q
    rotate_left
    · have HR : Hid (detA xss p q = 0 ∧ detC xss p q = 2) := Lib.hid ⟨detA_no fun h => hnq (by rw [← h.2, HL.out]), by unfold detC; rw [if_pos hs, HL.out, if_neg hnq]⟩
      have bq : ((n : Int) != q) = true := bne_iff_ne.2 hnq
      have be : ((n : Int) == q) = false := beq_eq_false_iff_ne.2 hnq
      clear hs hnq
      go_enter Try.func27, Try.ntmps27
      go_wp2_with fail
      refine (impl_IsMatrix_any _ _ _ _ _ xss _ HP.out HQ.out (by exact HA.out.alloc _) HL.out HX.out hn hcp).mono ?_
      rintro e w1 ⟨he, hb⟩
      rw [HS.out] at he
      obtain rfl := he
      have X0 : Hid (BX 24 w1 w.heap.size #[.int .i64 p, .int .i64 q, .slice a n c]) := Lib.hid ((BX.new w _ _).keep hb)
      have HB1 : Hid (Below w.heap.size w w1) := Lib.hid (below_al1 hb)
      clear hb
      have p0 : w1.cell? ⟨w.heap.size, 0, none⟩ = some (.int .i64 p) := X0.out.cell 0
      have p1 : w1.cell? ⟨w.heap.size, 1, none⟩ = some (.int .i64 q) := X0.out.cell 1
      have p2 : w1.cell? ⟨w.heap.size, 2, none⟩ = some (.slice a n c) := X0.out.cell 2
      go_wp2_with fail
      go_ret2
      exact ⟨ret_ii (by rw [HR.out.1]) (by rw [HR.out.2]), HB1.out⟩
    · subst hnq
      have HOk : Hid (DetOk xss p n) := Lib.hid ⟨hs, by rw [HL.out]⟩
      have HC0 : Hid (detC xss p n = 0) := Lib.hid (by unfold detC; rw [if_pos hs, HL.out, if_pos rfl])
      have HRW : Hid (Rws p n xss) := Lib.hid HM.out.rws
      have bq : ((n : Int) != (n : Int)) = false := by simp
      have be : ((n : Int) == (n : Int)) = true := by simp
      clear hs
      go_enter Try.func27, Try.ntmps27
      go_wp2_with fail
      refine (impl_IsMatrix_any _ _ _ _ _ xss _ HP.out HQ.out (by exact HA.out.alloc _) HL.out HX.out hn hcp).mono ?_
      rintro e w1 ⟨he, hb⟩
      rw [HS.out] at he
      obtain rfl := he
      have X0 : Hid (BX 24 w1 w.heap.size #[.int .i64 p, .int .i64 n, .slice a n c]) := Lib.hid ((BX.new w _ _).keep hb)
      have HB1 : Hid (Below w.heap.size w w1) := Lib.hid (below_al1 hb)
      clear hb
      have p0 : w1.cell? ⟨w.heap.size, 0, none⟩ = some (.int .i64 p) := X0.out.cell 0
      have p1 : w1.cell? ⟨w.heap.size, 1, none⟩ = some (.int .i64 n) := X0.out.cell 1
      have p2 : w1.cell? ⟨w.heap.size, 2, none⟩ = some (.slice a n c) := X0.out.cell 2
      go_wp2_with fail
      refine (determinantMod_any p HM.out.gp _ n _ xss _ (by exact HA.out.keep HB1.out (Nat.le_refl _)) HL.out HRW.out (by omega)).mono ?_
      rintro e w3 ⟨r, rfl, hr, hb⟩
      have HR : Hid (detA xss p n = r) := Lib.hid (detA_is HOk.out (by rw [HL.out]; exact hr))
      have HB3 : Hid (Below w.heap.size w w3) := Lib.hid (HB1.out.trans (hb.mono HB1.out.size))
      clear hr hb
      go_wp2_with fail
      go_ret2
      exact ⟨ret_ii (by rw [HR.out]) (by rw [HC0.out]), HB3.out⟩
set_option maxRecDepth 20000 in
set_option maxHeartbeats 4000000 in
theorem spec_Determinant_any (p q : Int) (a : Option Addr) (n c : Nat) (xss : List (List Int)) (w : World) (hp : I64 p) (hq : I64 q) (ha : RdR w a xss) (hl : xss.length = n) (hx : ∀ i, i < n → (rw_ xss i).length ≤ 1048576) (hn : n ≤ 1048576) (hcp : n ≤ c) :
    Calls Try.prog 26 #[.agg #[.int .i64 p, .int .i64 q, .slice a n c]] w fun e w' => e = .returned (.tuple #[.int .i64 (detA xss p q), .int .i64 (detC xss p q)]) ∧ Below w.heap.size w w' := by
  have HP := Lib.hid hp
  have HQ := Lib.hid hq
  have HA := Lib.hid ha
  have HL := Lib.hid hl
  have HX := Lib.hid hx
  clear hp hq ha hl hx
  by_cases hs : isMx xss p q = true
  rotate_left
  · have HS : Hid (isMx xss p q = false) := Lib.hid (by simpa using hs)
    have HR : Hid (detA xss p q = 0 ∧ detC xss p q = 1) := Lib.hid ⟨detA_no fun h => hs h.1, if_neg hs⟩
    clear hs
    go_enter Try.func26, Try.ntmps26
    go_wp2_with fail
    refine (spec_IsMatrix_any _ _ _ _ _ xss _ HP.out HQ.out (by exact HA.out.alloc _) HL.out HX.out hn hcp).mono ?_
    rintro e w1 ⟨he, hb⟩
    rw [HS.out] at he
    obtain rfl := he
    have X0 : Hid (BX 24 w1 w.heap.size #[.int .i64 p, .int .i64 q, .slice a n c]) := Lib.hid ((BX.new w _ _).keep hb)
    have HB1 : Hid (Below w.heap.size w w1) := Lib.hid (below_al1 hb)
    clear hb
    have p0 : w1.cell? ⟨w.heap.size, 0, none⟩ = some (.int .i64 p) := X0.out.cell 0
    have p1 : w1.cell? ⟨w.heap.size, 1, none⟩ = some (.int .i64 q) := X0.out.cell 1
    have p2 : w1.cell? ⟨w.heap.size, 2, none⟩ = some (.slice a n c) := X0.out.cell 2
    go_wp2_with fail
    go_ret2
    exact ⟨ret_ii (by rw [HR.out.1]) (by rw [HR.out.2]), HB1.out⟩
  · have HS := Lib.hid hs
    have HM := Lib.hid (isMx_ok hs)
    have hl8 := HM.out.len
    rw [HL.out] at hl8
    by_cases hnq : (n : Int) = q
    rotate_left
    · have HR : Hid (detA xss p q = 0 ∧ detC xss p q = 2) := Lib.hid ⟨detA_no fun h => hnq (by rw [← h.2, HL.out]), by unfold detC; rw [if_pos hs, HL.out, if_neg hnq]⟩
      have bq : ((n : Int) != q) = true := bne_iff_ne.2 hnq
      have be : ((n : Int) == q) = false := beq_eq_false_iff_ne.2 hnq
      clear hs hnq
      go_enter Try.func26, Try.ntmps26
      go_wp2_with fail
      refine (spec_IsMatrix_any _ _ _ _ _ xss _ HP.out HQ.out (by exact HA.out.alloc _) HL.out HX.out hn hcp).mono ?_
      rintro e w1 ⟨he, hb⟩
      rw [HS.out] at he
      obtain rfl := he
      have X0 : Hid (BX 24 w1 w.heap.size #[.int .i64 p, .int .i64 q, .slice a n c]) := Lib.hid ((BX.new w _ _).keep hb)
      have HB1 : Hid (Below w.heap.size w w1) := Lib.hid (below_al1 hb)
      clear hb
      have p0 : w1.cell? ⟨w.heap.size, 0, none⟩ = some (.int .i64 p) := X0.out.cell 0
      have p1 : w1.cell? ⟨w.heap.size, 1, none⟩ = some (.int .i64 q) := X0.out.cell 1
      have p2 : w1.cell? ⟨w.heap.size, 2, none⟩ = some (.slice a n c) := X0.out.cell 2
      go_wp2_with fail
      refine (l02Square_any _ _ _ _ _ _ hn).mono ?_
      rintro e w2 ⟨he, hb⟩
      rw [be] at he
      obtain rfl := he
      clear p0 p1 p2
      replace HB1 : Hid (Below w.heap.size w w2) := Lib.hid (HB1.out.trans (hb.mono HB1.out.size))
      replace X0 : Hid (BX 24 w2 w.heap.size #[.int .i64 p, .int .i64 q, .slice a n c]) := Lib.hid (X0.out.keep hb)
      clear hb
      have p0 : w2.cell? ⟨w.heap.size, 0, none⟩ = some (.int .i64 p) := X0.out.cell 0
      have p1 : w2.cell? ⟨w.heap.size, 1, none⟩ = some (.int .i64 q) := X0.out.cell 1
      have p2 : w2.cell? ⟨w.heap.size, 2, none⟩ = some (.slice a n c) := X0.out.cell 2
      go_wp2_with fail
      go_ret2
      exact ⟨ret_ii (by rw [HR.out.1]) (by rw [HR.out.2]), HB1.out⟩
    · subst hnq
      have HOk : Hid (DetOk xss p n) := Lib.hid ⟨hs, by rw [HL.out]⟩
      have HC0 : Hid (detC xss p n = 0) := Lib.hid (by unfold detC; rw [if_pos hs, HL.out, if_pos rfl])
      have HRW : Hid (Rws p n xss) := Lib.hid HM.out.rws
      have bq : ((n : Int) != (n : Int)) = false := by simp
      have be : ((n : Int) == (n : Int)) = true := by simp
      clear hs
      go_enter Try.func26, Try.ntmps26
      go_wp2_with fail
      refine (spec_IsMatrix_any _ _ _ _ _ xss _ HP.out HQ.out (by exact HA.out.alloc _) HL.out HX.out hn hcp).mono ?_
      rintro e w1 ⟨he, hb⟩
      rw [HS.out] at he
      obtain rfl := he
      have X0 : Hid (BX 24 w1 w.heap.size #[.int .i64 p, .int .i64 n, .slice a n c]) := Lib.hid ((BX.new w _ _).keep hb)
      have HB1 : Hid (Below w.heap.size w w1) := Lib.hid (below_al1 hb)
      clear hb
      have p0 : w1.cell? ⟨w.heap.size, 0, none⟩ = some (.int .i64 p) := X0.out.cell 0
      have p1 : w1.cell? ⟨w.heap.size, 1, none⟩ = some (.int .i64 n) := X0.out.cell 1
      have p2 : w1.cell? ⟨w.heap.size, 2, none⟩ = some (.slice a n c) := X0.out.cell 2
      go_wp2_with fail
      refine (l02Square_any _ _ _ _ _ _ hn).mono ?_
      rintro e w2 ⟨he, hb⟩
      rw [be] at he
      obtain rfl := he
      clear p0 p1 p2
      replace HB1 : Hid (Below w.heap.size w w2) := Lib.hid (HB1.out.trans (hb.mono HB1.out.size))
      replace X0 : Hid (BX 24 w2 w.heap.size #[.int .i64 p, .int .i64 n, .slice a n c]) := Lib.hid (X0.out.keep hb)
      clear hb
      have p0 : w2.cell? ⟨w.heap.size, 0, none⟩ = some (.int .i64 p) := X0.out.cell 0
      have p1 : w2.cell? ⟨w.heap.size, 1, none⟩ = some (.int .i64 n) := X0.out.cell 1
      have p2 : w2.cell? ⟨w.heap.size, 2, none⟩ = some (.slice a n c) := X0.out.cell 2
      go_wp2_with fail
      refine (l02Det_any p HM.out.gp _ n _ xss _ (by exact HA.out.keep HB1.out (Nat.le_refl _)) HL.out HRW.out (by omega)).mono ?_
      rintro e w3 ⟨r, rfl, hr, hb⟩
      have HR : Hid (detA xss p n = r) := Lib.hid (detA_is HOk.out (by rw [HL.out]; exact hr))
      have HB3 : Hid (Below w.heap.size w w3) := Lib.hid (HB1.out.trans (hb.mono HB1.out.size))
      clear hr hb
      go_wp2_with fail
      go_ret2
      exact ⟨ret_ii (by rw [HR.out]) (by rw [HC0.out]), HB3.out⟩
end Go.Proofs.Ytngikcjdhbflkaa
