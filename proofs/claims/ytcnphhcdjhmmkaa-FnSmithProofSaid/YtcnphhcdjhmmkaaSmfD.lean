/- The invariant factors of a table, with its error. -/
import Derived.Test.YtcnphhcdjhmmkaaSmf
set_option linter.unusedVariables false
set_option linter.unusedSimpArgs false
namespace Go.Proofs.Ytcnphhcdjhmmkaa
open Go.RowKit

def sfV (xss : List (List Int)) (q : Int) : List Int × Int := if isTb xss q = true then (smithL xss xss.length q.toNat, 0) else ([], 1)
def res_SmithFactors (xss : List (List Int)) (q : Int) (R : List Int) (d : Int) : Prop := (R, d) = sfV xss q
theorem res_SmithFactors_uniq {xss : List (List Int)} {q d1 d2 : Int} {R1 R2 : List Int} (h : res_SmithFactors xss q R1 d1) (k : res_SmithFactors xss q R2 d2) : R1 = R2 ∧ d1 = d2 := by
  unfold res_SmithFactors at h k
  have := h.trans k.symm
  simpa using this
theorem smithL_len (xss : List (List Int)) (n Q : Nat) : (smithL xss n Q).length ≤ Q := smL_len _ _ _ _
theorem res_SmithFactors_small {xss : List (List Int)} {q d : Int} {R : List Int} (h : res_SmithFactors xss q R d) : R.length ≤ 1048576 := by
  unfold res_SmithFactors sfV at h
  by_cases hv : isTb xss q = true
  · rw [if_pos hv] at h
    have h4 := (isTb_ok hv).q4
    have := smithL_len xss xss.length q.toNat
    simp at h
    rw [h.1]
    omega
  · rw [if_neg hv] at h
    simp at h
    rw [h.1]; simp
set_option maxHeartbeats 1000000 in
theorem impl_SmithFactors_any (q : Int) (a : Option Addr) (n c : Nat) (xss : List (List Int)) (w : World) (hq : I64 q) (ha : RdR w a xss) (hl : xss.length = n) (hx : ∀ i, i < n → (rw_ xss i).length ≤ 1048576) (hn : n ≤ 1048576) (hcp : n ≤ c) :
    Calls Try.prog 15 #[.agg #[.int .i64 q, .slice a n c]] w fun e w' => ∃ (R : List Int) (d : Int) (a' : Option Addr) (c' : Nat), e = .returned (.tuple #[.slice a' R.length c', .int .i64 d]) ∧ res_SmithFactors xss q R d ∧ OwnI 2 w' w.heap.size a' R.length c' R ∧ Below w.heap.size w w' := by
  have HQ := Lib.hid hq
  have HA := Lib.hid ha
  have HL := Lib.hid hl
  have HX := Lib.hid hx
  clear hq ha hl hx
  cases hv : isTb xss q
  · have HR : Hid (res_SmithFactors xss q [] 1) := Lib.hid (by unfold res_SmithFactors sfV; rw [hv]; rfl)
    clear hv
    go_enter Try.func15, Try.ntmps15
    go_wp2_with fail
    refine (impl_IsTable_any _ _ _ _ xss _ HQ.out (by exact HA.out.alloc _) HL.out HX.out hn hcp).mono ?_
    rw [show isTb xss q = false from by have := HR.out; unfold res_SmithFactors sfV at this; cases h : isTb xss q; rfl; rw [h] at this; simp at this]
    rintro e w1 ⟨rfl, hb⟩
    have HB : Hid (Below w.heap.size w w1) := Lib.hid (below_al1 hb)
    clear hb
    go_wp2_with fail
    go_ret2
    exact ⟨[], 1, none, 0, rfl, HR.out, OwnI.none, HB.out⟩
  · have HT := Lib.hid (isTb_ok hv)
    obtain ⟨Q, rfl⟩ : ∃ Q : Nat, q = Q := ⟨q.toNat, by have := HT.out.q1; omega⟩
    have HR : Hid (res_SmithFactors xss Q (smithL xss n Q) 0) := Lib.hid (by unfold res_SmithFactors sfV; rw [hv, HL.out]; rfl)
    clear hv
    go_enter Try.func15, Try.ntmps15
    go_wp2_with fail
    refine (impl_IsTable_any _ _ _ _ xss _ HQ.out (by exact HA.out.alloc _) HL.out HX.out hn hcp).mono ?_
    rw [isTb_t HT.out]
    rintro e w1 ⟨rfl, hb⟩
    have p0 := cell_below (p := ⟨w.heap.size, 0, none⟩) (v := .int .i64 Q) (by simp) hb
    have p1 := cell_below (p := ⟨w.heap.size, 1, none⟩) (v := .slice a n c) (by simp) hb
    have HB : Hid (Below w.heap.size w w1) := Lib.hid (below_al1 hb)
    clear hb
    go_wp2_with fail
    refine (smithFactors_any Q _ _ _ xss _ (by exact HA.out.keep HB.out (Nat.le_refl _)) HL.out HT.out hcp).mono ?_
    rintro e w2 ⟨a', c', rfl, ho, hb⟩
    have HO := Lib.hid (ho.mono HB.out.size)
    have HB2 : Hid (Below w.heap.size w w2) := Lib.hid (HB.out.trans (hb.mono HB.out.size))
    clear hb ho
    go_wp2_with fail
    go_ret2
    exact ⟨_, 0, a', c', rfl, HR.out, HO.out, HB2.out⟩
end Go.Proofs.Ytcnphhcdjhmmkaa
