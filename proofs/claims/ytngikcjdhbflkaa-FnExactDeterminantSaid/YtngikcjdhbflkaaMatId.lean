/- The identity matrix: the program and the reference. -/
import Derived.Test.YtngikcjdhbflkaaMat
set_option linter.unusedVariables false
set_option linter.unusedSimpArgs false
namespace Go.Proofs.Ytngikcjdhbflkaa
open Go.RowKit

/-- what a call hands back: a prime, a number of columns, rows, a code -/
abbrev MV := Int × Int × List (List Int) × Int
def mvBad (d : Int) : MV := (0, 0, [], d)
theorem mv_uniq {V : MV} {P1 Q1 P2 Q2 d1 d2 : Int} {R1 R2 : List (List Int)} (h : (P1, Q1, R1, d1) = V) (k : (P2, Q2, R2, d2) = V) : P1 = P2 ∧ Q1 = Q2 ∧ R1 = R2 ∧ d1 = d2 := by
  have := h.trans k.symm
  simp only [Prod.mk.injEq] at this
  exact this
def idV (k0 k1 : Int) : MV := if GP k0 ∧ 0 ≤ k1 ∧ k1 ≤ 8 then (k0, k1, unitRs k1.toNat, 0) else mvBad 2
def res_IdentityMatrix (k0 k1 P Q : Int) (R : List (List Int)) (d : Int) : Prop := (P, Q, R, d) = idV k0 k1
theorem res_IdentityMatrix_uniq {k0 k1 P1 Q1 P2 Q2 d1 d2 : Int} {R1 R2 : List (List Int)} (h : res_IdentityMatrix k0 k1 P1 Q1 R1 d1) (k : res_IdentityMatrix k0 k1 P2 Q2 R2 d2) : P1 = P2 ∧ Q1 = Q2 ∧ R1 = R2 ∧ d1 = d2 := mv_uniq h k
theorem res_IdentityMatrix_small {k0 k1 P Q d : Int} {R : List (List Int)} (h : res_IdentityMatrix k0 k1 P Q R d) : R.length ≤ 1048576 ∧ ∀ i, i < R.length → (rw_ R i).length ≤ 1048576 := by
  unfold res_IdentityMatrix idV mvBad at h
  split at h
  · rename_i hc
    simp only [Prod.mk.injEq] at h
    rw [h.2.2.1]
    refine ⟨by rw [unitRs_len]; omega, fun i hi => ?_⟩
    rw [unitRs_len] at hi
    rw [unitRs_row hi, unitR_len]; omega
  · simp only [Prod.mk.injEq] at h
    rw [h.2.2.1]
    exact ⟨by simp, fun i hi => absurd hi (by simp)⟩
set_option maxHeartbeats 1000000 in
theorem impl_IdentityMatrix_any (k0 k1 : Int) (w : World) (hk0 : I64 k0) (hk1 : I64 k1) :
    Calls Try.prog 16 #[.int .i64 k0, .int .i64 k1] w fun e w' => ∃ (P Q : Int) (R : List (List Int)) (d : Int) (a' : Option Addr) (c' : Nat), e = .returned (.tuple #[.agg #[.int .i64 P, .int .i64 Q, .slice a' R.length c'], .int .i64 d]) ∧ res_IdentityMatrix k0 k1 P Q R d ∧ MadeR 38 2 w' w.heap.size a' R.length c' R ∧ Below w.heap.size w w' := by
  by_cases hok : GP k0 ∧ 0 ≤ k1 ∧ k1 ≤ 8
  · obtain ⟨hg, h0, h8⟩ := hok
    obtain ⟨n, rfl⟩ : ∃ n : Nat, k1 = n := ⟨k1.toNat, by omega⟩
    have HG := Lib.hid hg
    have HR : Hid (res_IdentityMatrix k0 n k0 n (unitRs n) 0) := Lib.hid (by unfold res_IdentityMatrix idV; rw [if_pos ⟨hg, h0, h8⟩]; simp)
    clear hg hk0 hk1
    have hn : n ≤ 1000 := by omega
    go_enter Try.func16, Try.ntmps16
    go_wp2_with (first
      | (go_at_call 52; refine (IsGroupPrime_t _ _ HG.out).mono ?_; rintro e w' ⟨rfl, rfl⟩)
      | (go_at_call 53; refine (inside_t _ _ _ _ h0 h8).mono ?_; rintro e w' ⟨rfl, rfl⟩))
    refine (identityOf_any _ n _ hn).mono ?_
    rintro e w1 ⟨a', c', rfl, ho, hb⟩
    have HO := Lib.hid ho
    have HB := Lib.hid (below_al1 hb)
    obtain ⟨hc, hf⟩ := bcell hb
    have hz : w.heap.size < w1.heap.size := by have := hb.size; simp at this; omega
    clear ho hb
    go_wp2_with fail
    refine bodyPost_ret (v := .tuple #[.agg #[.int .i64 k0, .int .i64 n, .slice a' n c'], .int .i64 0]) (by simp [results, Try.results16, go_sem, hc, hz]) rfl ⟨k0, n, unitRs n, 0, a', c', by rw [unitRs_len], HR.out, ?_, ?_⟩
    · rw [unitRs_len]
      refine MadeR.mono (B := w.heap.size + 1) ?_ (by omega)
      exact (((HO.out.mono (by simp)).setLow _ (by first | (simp; done) | (simp; omega)) _).setLow _ (by first | (simp; done) | (simp; omega)) _).setLow _ (by first | (simp; done) | (simp; omega)) _
    · exact (((HB.out.setCell (by first | (simp; done) | (simp; omega)) _).setCell (by first | (simp; done) | (simp; omega)) _).setCell (by first | (simp; done) | (simp; omega)) _)
  · have HR : Hid (res_IdentityMatrix k0 k1 0 0 [] 2) := Lib.hid (by unfold res_IdentityMatrix idV; rw [if_neg hok]; rfl)
    obtain ⟨i1, i2⟩ := hk1
    clear hk0
    by_cases hg : GP k0
    · have hk : k1 < 0 ∨ 8 < k1 := by
        rcases Int.lt_or_le k1 0 with h | h
        · exact .inl h
        · rcases Int.lt_or_le 8 k1 with h' | h'
          · exact .inr h'
          · exact absurd ⟨hg, h, h'⟩ hok
      have HG := Lib.hid hg
      clear hg hok
      go_enter Try.func16, Try.ntmps16
      go_wp2_with (first
        | (go_at_call 52; refine (IsGroupPrime_t _ _ HG.out).mono ?_; rintro e w' ⟨rfl, rfl⟩)
        | (go_at_call 53; refine (inside_f _ _ _ _ hk).mono ?_; rintro e w' ⟨rfl, rfl⟩))
      refine bodyPost_ret (v := .tuple #[.agg #[.int .i64 0, .int .i64 0, .slice none 0 0], .int .i64 2]) (by simp [results, Try.results16, go_sem]) rfl ⟨0, 0, [], 2, none, 0, rfl, HR.out, MadeR.none, ?_⟩
      exact (Below.refl _ _).alloc (Nat.le_refl _) _
    · have HG := Lib.hid hg
      clear hg hok
      go_enter Try.func16, Try.ntmps16
      go_wp2_with (go_at_call 52; refine (IsGroupPrime_f _ _ HG.out).mono ?_; rintro e w' ⟨rfl, rfl⟩)
      refine bodyPost_ret (v := .tuple #[.agg #[.int .i64 0, .int .i64 0, .slice none 0 0], .int .i64 2]) (by simp [results, Try.results16, go_sem]) rfl ⟨0, 0, [], 2, none, 0, rfl, HR.out, MadeR.none, ?_⟩
      exact (Below.refl _ _).alloc (Nat.le_refl _) _
set_option maxHeartbeats 1000000 in
theorem spec_IdentityMatrix_any (k0 k1 : Int) (w : World) (hk0 : I64 k0) (hk1 : I64 k1) :
    Calls Try.prog 15 #[.int .i64 k0, .int .i64 k1] w fun e w' => ∃ (P Q : Int) (R : List (List Int)) (d : Int) (a' : Option Addr) (c' : Nat), e = .returned (.tuple #[.agg #[.int .i64 P, .int .i64 Q, .slice a' R.length c'], .int .i64 d]) ∧ res_IdentityMatrix k0 k1 P Q R d ∧ MadeR 38 2 w' w.heap.size a' R.length c' R ∧ Below w.heap.size w w' := by
  by_cases hok : GP k0 ∧ 0 ≤ k1 ∧ k1 ≤ 8
  · obtain ⟨hg, h0, h8⟩ := hok
    obtain ⟨n, rfl⟩ : ∃ n : Nat, k1 = n := ⟨k1.toNat, by omega⟩
    have HG := Lib.hid hg
    have HR : Hid (res_IdentityMatrix k0 n k0 n (unitRs n) 0) := Lib.hid (by unfold res_IdentityMatrix idV; rw [if_pos ⟨hg, h0, h8⟩]; simp)
    clear hg hk0 hk1
    have hn : n ≤ 1000 := by omega
    go_enter Try.func15, Try.ntmps15
    go_wp2_with (first
      | (go_at_call 48; refine (l01Prime_t _ _ HG.out).mono ?_; rintro e w' ⟨rfl, rfl⟩)
      | (go_at_call 49; refine (l01In_t _ _ _ _ h0 h8).mono ?_; rintro e w' ⟨rfl, rfl⟩))
    refine (l02Unit_any n _ hn).mono ?_
    rintro e w0 ⟨a0, c0, rfl, ho0, hb0⟩
    have HO0 := Lib.hid ho0.rd
    have HB0 := Lib.hid (below_al1 hb0)
    have s0 : w.heap.size < w0.heap.size := by have := hb0.size; simp at this; omega
    have q0 := cell_below (p := ⟨w.heap.size, 0, none⟩) (v := .int .i64 0) (by simp) hb0
    have q1 := cell_below (p := ⟨w.heap.size, 1, none⟩) (v := .int .i64 0) (by simp) hb0
    have q2 := cell_below (p := ⟨w.heap.size, 2, none⟩) (v := .slice none 0 0) (by simp) hb0
    have f0 := (bcell hb0).2 w.heap.size 0 (by simp)
    have f1 := (bcell hb0).2 w.heap.size 1 (by simp)
    have f2 := (bcell hb0).2 w.heap.size 2 (by simp)
    simp at f0 f1 f2
    clear ho0 hb0
    go_wp2_with fail
    refine (l02Make_any _ _ _ _ _ (unitRs n) _ (by exact HO0.out) (unitRs_len n) (fun i hi => by rw [unitRs_row hi, unitR_len]; omega) (by omega)).mono ?_
    rintro e w1 ⟨a', c', rfl, ho, hb⟩
    have HO := Lib.hid ho
    have HB := Lib.hid (HB0.out.trans (hb.mono HB0.out.size))
    have r0 := cell_below q0 hb
    have r1 := cell_below q1 hb
    have r2 := cell_below q2 hb
    have hf := (bcell hb).2
    have g0 := hf w.heap.size 0 s0
    have g1 := hf w.heap.size 1 s0
    have g2 := hf w.heap.size 2 s0
    rw [f0] at g0
    rw [f1] at g1
    rw [f2] at g2
    have hz : w.heap.size < w1.heap.size := by have := hb.size; omega
    clear ho hb hf f0 f1 f2
    go_wp2_with fail
    refine bodyPost_ret (v := .tuple #[.agg #[.int .i64 k0, .int .i64 n, .slice a' n c'], .int .i64 0]) (by simp [results, Try.results15, go_sem, r0, r1, r2, hz]) rfl ⟨k0, n, unitRs n, 0, a', c', by rw [unitRs_len], HR.out, ?_, ?_⟩
    · rw [unitRs_len]
      refine MadeR.mono (B := w.heap.size + 1) ?_ (by omega)
      exact (((HO.out.mono (by omega)).setLow _ (by first | (simp; done) | (simp; omega)) _).setLow _ (by first | (simp; done) | (simp; omega)) _).setLow _ (by first | (simp; done) | (simp; omega)) _
    · exact (((HB.out.setCell (by first | (simp; done) | (simp; omega)) _).setCell (by first | (simp; done) | (simp; omega)) _).setCell (by first | (simp; done) | (simp; omega)) _)
  · have HR : Hid (res_IdentityMatrix k0 k1 0 0 [] 2) := Lib.hid (by unfold res_IdentityMatrix idV; rw [if_neg hok]; rfl)
    obtain ⟨i1, i2⟩ := hk1
    clear hk0
    by_cases hg : GP k0
    · have hk : k1 < 0 ∨ 8 < k1 := by
        rcases Int.lt_or_le k1 0 with h | h
        · exact .inl h
        · rcases Int.lt_or_le 8 k1 with h' | h'
          · exact .inr h'
          · exact absurd ⟨hg, h, h'⟩ hok
      have HG := Lib.hid hg
      clear hg hok
      go_enter Try.func15, Try.ntmps15
      go_wp2_with (first
        | (go_at_call 48; refine (l01Prime_t _ _ HG.out).mono ?_; rintro e w' ⟨rfl, rfl⟩)
        | (go_at_call 49; refine (l01In_f _ _ _ _ hk).mono ?_; rintro e w' ⟨rfl, rfl⟩))
      refine bodyPost_ret (v := .tuple #[.agg #[.int .i64 0, .int .i64 0, .slice none 0 0], .int .i64 2]) (by simp [results, Try.results15, go_sem]) rfl ⟨0, 0, [], 2, none, 0, rfl, HR.out, MadeR.none, ?_⟩
      exact (Below.refl _ _).alloc (Nat.le_refl _) _
    · have HG := Lib.hid hg
      clear hg hok
      go_enter Try.func15, Try.ntmps15
      go_wp2_with (go_at_call 48; refine (l01Prime_f _ _ HG.out).mono ?_; rintro e w' ⟨rfl, rfl⟩)
      refine bodyPost_ret (v := .tuple #[.agg #[.int .i64 0, .int .i64 0, .slice none 0 0], .int .i64 2]) (by simp [results, Try.results15, go_sem]) rfl ⟨0, 0, [], 2, none, 0, rfl, HR.out, MadeR.none, ?_⟩
      exact (Below.refl _ _).alloc (Nat.le_refl _) _
end Go.Proofs.Ytngikcjdhbflkaa
