/- The primary parts of an abelian group, with errors. -/
import Derived.Test.YtgdialknnjnehaaPpW
import Derived.Test.YtgdialknnjnehaaAbOrd
set_option linter.unusedVariables false
set_option linter.unusedSimpArgs false
namespace Go.Proofs.Ytgdialknnjnehaa
open Go.RowKit

def ppV (xs : List Int) (r : Int) : List Int × Int := if isAb xs r = true then (sortP (partsL xs), 0) else ([], 1)
def res_PrimaryParts (xs : List Int) (r : Int) (R : List Int) (d : Int) : Prop := (R, d) = ppV xs r
theorem res_PrimaryParts_uniq {xs : List Int} {r d1 d2 : Int} {R1 R2 : List Int} (h : res_PrimaryParts xs r R1 d1) (k : res_PrimaryParts xs r R2 d2) : R1 = R2 ∧ d1 = d2 := by
  unfold res_PrimaryParts at h k
  have := h.trans k.symm
  injection this with h1 h2
  exact ⟨h1, h2⟩
theorem isAb_rng1 {xs : List Int} {r : Int} (h : isAb xs r = true) : ∀ x ∈ xs, 1 ≤ x ∧ x ≤ 1000000 := by
  intro x hx
  obtain ⟨i, hi, rfl⟩ := List.getElem_of_mem hx
  have e : el xs i = xs[i] := by simp [el, hi]
  have := (isAb_ok h).2.2.2 i hi
  unfold okF at this
  omega
theorem res_PrimaryParts_small {xs : List Int} {r d : Int} {R : List Int} (h : res_PrimaryParts xs r R d) : R.length ≤ 1048576 := by
  unfold res_PrimaryParts ppV at h
  by_cases hv : isAb xs r = true
  · rw [if_pos hv] at h
    injection h with h1 h2
    rw [h1, sortP_len]
    have h3 := partsL_len xs
    have h4 := (isAb_ok hv).2.2.1
    have h5 := (isAb_ok hv).1
    omega
  · rw [if_neg hv] at h
    injection h with h1 h2
    rw [h1]; simp
set_option maxHeartbeats 1000000 in
theorem impl_PrimaryParts_any (a : Option Addr) (n c : Nat) (xs : List Int) (r : Int) (w : World) (ha : RdI w a xs) (hl : xs.length = n) (hn : n ≤ 1048576) (hr : I64 r) :
    Calls Try.prog 30 #[.agg #[.slice a n c, .int .i64 r]] w fun e w' => ∃ (R : List Int) (d : Int) (a' : Option Addr) (c' : Nat), e = .returned (.tuple #[.slice a' R.length c', .int .i64 d]) ∧ res_PrimaryParts xs r R d ∧ OwnI 2 w' w.heap.size a' R.length c' R ∧ Below w.heap.size w w' := by
  have HA := Lib.hid ha
  have HL := Lib.hid hl
  clear ha hl hr
  cases hv : isAb xs r
  · have HR : Hid (res_PrimaryParts xs r [] 1) := Lib.hid (by unfold res_PrimaryParts ppV; rw [hv]; rfl)
    go_enter Try.func30, Try.ntmps30
    go_wp2_with fail
    refine (impl_IsAbelian_any _ _ _ xs _ _ (by exact HA.out.alloc _) HL.out (by omega)).mono ?_
    rintro e w1 ⟨rfl, hb⟩
    have HB : Hid (Below w.heap.size w w1) := Lib.hid (((Below.refl _ _).alloc (Nat.le_refl _) _).trans (hb.mono (by simp)))
    clear hb
    rw [hv]
    clear hv
    go_wp2_with fail
    go_ret2
    exact ⟨[], 1, none, 0, rfl, HR.out, OwnI.none, HB.out⟩
  · have HR : Hid (res_PrimaryParts xs r (sortP (partsL xs)) 0) := Lib.hid (by unfold res_PrimaryParts ppV; rw [hv]; rfl)
    have HX : Hid (∀ x ∈ xs, 1 ≤ x ∧ x ≤ 1000000) := Lib.hid (isAb_rng1 hv)
    have h10 : n ≤ 10 := by have := (isAb_ok hv); have h1 := this.1; have h2 := this.2.2.1; have := HL.out; omega
    go_enter Try.func30, Try.ntmps30
    go_wp2_with fail
    refine (impl_IsAbelian_any _ _ _ xs _ _ (by exact HA.out.alloc _) HL.out (by omega)).mono ?_
    rintro e w1 ⟨rfl, hb⟩
    have HB : Hid (Below w.heap.size w w1) := Lib.hid (((Below.refl _ _).alloc (Nat.le_refl _) _).trans (hb.mono (by simp)))
    have p0 := cell_keep (p := ⟨w.heap.size, 0, none⟩) (v := .slice a n c) (by simp) hb
    have p1 := cell_keep (p := ⟨w.heap.size, 1, none⟩) (v := .int .i64 r) (by simp) hb
    have hr1 : Hid (RdI w1 a xs) := Lib.hid (HA.out.keep HB.out (Nat.le_refl _))
    clear hb
    rw [hv]
    clear hv
    go_wp2_with fail
    refine (primaryParts_any a n c xs r w1 hr1.out HL.out h10 HX.out).mono ?_
    rintro e w2 ⟨a', m, c', rfl, ho, hb⟩
    have hm := ho.len
    have HO := Lib.hid (ho.mono HB.out.size)
    have HB2 : Hid (Below w.heap.size w w2) := Lib.hid (HB.out.trans (hb.mono HB.out.size))
    clear hb ho
    subst hm
    go_wp2_with fail
    go_ret2
    exact ⟨_, 0, a', c', rfl, HR.out, HO.out, HB2.out⟩
set_option maxHeartbeats 1000000 in
theorem spec_PrimaryParts_any (a : Option Addr) (n c : Nat) (xs : List Int) (r : Int) (w : World) (ha : RdI w a xs) (hl : xs.length = n) (hn : n ≤ 1048576) (hr : I64 r) :
    Calls Try.prog 29 #[.agg #[.slice a n c, .int .i64 r]] w fun e w' => ∃ (R : List Int) (d : Int) (a' : Option Addr) (c' : Nat), e = .returned (.tuple #[.slice a' R.length c', .int .i64 d]) ∧ res_PrimaryParts xs r R d ∧ OwnI 2 w' w.heap.size a' R.length c' R ∧ Below w.heap.size w w' := by
  have HA := Lib.hid ha
  have HL := Lib.hid hl
  clear ha hl hr
  cases hv : isAb xs r
  · have HR : Hid (res_PrimaryParts xs r [] 1) := Lib.hid (by unfold res_PrimaryParts ppV; rw [hv]; rfl)
    go_enter Try.func29, Try.ntmps29
    go_wp2_with fail
    refine (spec_IsAbelian_any _ _ _ xs _ _ (by exact HA.out.alloc _) HL.out (by omega)).mono ?_
    rintro e w1 ⟨rfl, hb⟩
    have HB : Hid (Below w.heap.size w w1) := Lib.hid (((Below.refl _ _).alloc (Nat.le_refl _) _).trans (hb.mono (by simp)))
    clear hb
    rw [hv]
    clear hv
    go_wp2_with fail
    go_ret2
    exact ⟨[], 1, none, 0, rfl, HR.out, OwnI.none, HB.out⟩
  · have HR : Hid (res_PrimaryParts xs r (sortP (partsL xs)) 0) := Lib.hid (by unfold res_PrimaryParts ppV; rw [hv]; rfl)
    have HX : Hid (∀ x ∈ xs, 1 ≤ x ∧ x ≤ 1000000) := Lib.hid (isAb_rng1 hv)
    have h10 : n ≤ 10 := by have := (isAb_ok hv); have h1 := this.1; have h2 := this.2.2.1; have := HL.out; omega
    go_enter Try.func29, Try.ntmps29
    go_wp2_with fail
    refine (spec_IsAbelian_any _ _ _ xs _ _ (by exact HA.out.alloc _) HL.out (by omega)).mono ?_
    rintro e w1 ⟨rfl, hb⟩
    have HB : Hid (Below w.heap.size w w1) := Lib.hid (((Below.refl _ _).alloc (Nat.le_refl _) _).trans (hb.mono (by simp)))
    have p0 := cell_keep (p := ⟨w.heap.size, 0, none⟩) (v := .slice a n c) (by simp) hb
    have p1 := cell_keep (p := ⟨w.heap.size, 1, none⟩) (v := .int .i64 r) (by simp) hb
    have hr1 : Hid (RdI w1 a xs) := Lib.hid (HA.out.keep HB.out (Nat.le_refl _))
    clear hb
    rw [hv]
    clear hv
    go_wp2_with fail
    refine (l05Parts_any a n c xs w1 hr1.out HL.out h10 HX.out).mono ?_
    rintro e w2 ⟨a', m, c', rfl, ho, hb⟩
    have hm := ho.len
    have HO := Lib.hid (ho.mono HB.out.size)
    have HB2 : Hid (Below w.heap.size w w2) := Lib.hid (HB.out.trans (hb.mono HB.out.size))
    clear hb ho
    subst hm
    go_wp2_with fail
    go_ret2
    exact ⟨_, 0, a', c', rfl, HR.out, HO.out, HB2.out⟩
end Go.Proofs.Ytgdialknnjnehaa
