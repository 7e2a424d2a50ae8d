/- The index of the lattice of a square table: what the program's LatticeIndex returns. -/
import Derived.Test.YtcnphhcdjhmmkaaUnD
import Derived.Test.YtcnphhcdjhmmkaaHerW
set_option linter.unusedVariables false
set_option linter.unusedSimpArgs false
namespace Go.Proofs.Ytcnphhcdjhmmkaa
open Go.RowKit
theorem outT_len {bs : List (List Int)} : ∀ j, j ≤ bs.length → (outT bs j).length = filN bs j
  | 0, _ => rfl
  | j + 1, h => by
    have ih := outT_len (bs := bs) j (by omega)
    unfold filN
    by_cases e : rw_ bs j = []
    · rw [outT_no (by omega) e, if_pos e, ih]; rfl
    · rw [outT_yes (by omega) e, if_neg e, List.length_append, ih]; rfl
theorem outR_len {bs : List (List Int)} {n : Nat} (h : bs.length = n) : (outR bs).length = filN bs n := by
  rw [← outT_all h, outT_len n (by omega)]
theorem outR_full {bs : List (List Int)} {n : Nat} (h : bs.length = n) (hf : ∀ j, j < n → rw_ bs j ≠ []) : outR bs = bs := by
  unfold outR
  refine List.filter_eq_self.2 fun r hr => ?_
  obtain ⟨i, hi, e⟩ := List.getElem_of_mem hr
  have := hf i (by omega)
  unfold rw_ at this
  rw [List.getElem?_eq_getElem hi] at this
  simp at this
  rw [e] at this
  simpa using this
theorem SqB.abs {n : Nat} {xs : List (List Int)} (h : SqB n xs) (i : Nat) (hi : i < n) (j : Nat) : (Rw xs i j).natAbs ≤ 64 := by
  by_cases hj : j < n
  · have := h.ent i j hi hj
    unfold Rw; omega
  · have e : Rw xs i j = 0 := el_ge (by rw [h.row i hi]; omega)
    rw [e]; decide
set_option maxRecDepth 20000 in
set_option maxHeartbeats 4000000 in
theorem LatticeIndex_sq (n c : Nat) (a : Option Addr) (xss : List (List Int)) (w : World) (ha : RdR w a xss) (hl : xss.length = n) (hv : isTb xss n = true) (hcp : n ≤ c) :
    Calls Try.prog 11 #[.agg #[.int .i64 (n : Int), .slice a n c]] w fun e w' => e = .returned (.tuple #[.int .i64 ((detN n xss).natAbs : Int), .int .i64 0]) ∧ Below w.heap.size w w' := by
  have HT := Lib.hid (isTb_ok hv)
  obtain ⟨hs, h4⟩ := HT.out.sq (by rw [hl])
  rw [hl] at hs h4
  have h1 : 1 ≤ n := by have := HT.out.q1; omega
  have HS := Lib.hid hs
  have HA := Lib.hid ha
  have HL := Lib.hid hl
  have HV := Lib.hid hv
  clear ha hl hv hs
  go_enter Try.func11, Try.ntmps11
  go_wp2_with fail
  refine (impl_IsTable_any _ _ _ _ xss _ (by unfold I64; omega) (by exact HA.out.alloc _) HL.out (fun i hi => by rw [HS.out.row i hi]; omega) (by omega) hcp).mono ?_
  rintro e w1 ⟨rfl, hb⟩
  rw [HV.out]
  have p0 := cell_below (p := ⟨w.heap.size, 0, none⟩) (v := .int .i64 n) (by simp) hb
  have p1 := cell_below (p := ⟨w.heap.size, 1, none⟩) (v := .slice a n c) (by simp) hb
  have HB : Hid (Below w.heap.size w w1) := Lib.hid (below_al1 hb)
  have HX := Lib.hid ((BX.new w 26 #[.int .i64 (n : Int), .slice a n c]).keep hb)
  clear hb
  go_wp2_with fail
  refine (hermite_any n a n c xss w1 (by exact HA.out.keep HB.out (Nat.le_refl _)) HL.out (fun i hi => ⟨HS.out.row i hi, fun j hj => by omega, fun j hj => by have := HS.out.ent i j hi hj; unfold I64; omega⟩) (by omega) h1 h4).mono ?_
  rintro e w2 ⟨bs, a2, c2, rfl, hrn, hrd, hb⟩
  have hix := uni_index h1 h4 HL.out HS.out.row HS.out.abs hrn
  have hlb := (UnI.all h1 h4 HL.out HS.out.row HS.out.abs hrn (Nat.le_refl _)).1.len
  have hol := outR_len hlb
  have HRD := Lib.hid hrd
  have HB2 := Lib.hid (HB.out.trans (hb.mono HB.out.size))
  have q0 := cell_below p0 hb
  have HIX := Lib.hid hix
  have HLB := Lib.hid hlb
  have HOL := Lib.hid hol
  have ES := Lib.hid (Ech.len (UnI.all h1 h4 HL.out HS.out.row HS.out.abs hrn (Nat.le_refl _)).1)
  have HEC := Lib.hid (UnI.all h1 h4 HL.out HS.out.row HS.out.abs hrn (Nat.le_refl _)).1
  clear hrn hrd hb p0 p1 hix hlb hol
  rcases HIX.out with ⟨k1, k2⟩ | ⟨k1, k2⟩
  · have d1 : ((outR bs).length : Int) < (n : Int) := by rw [HOL.out]; omega
    have HD := Lib.hid k2
    clear k1 k2
    go_wp2_with fail
    go_ret2
    exact ⟨by rw [HD.out]; rfl, HB2.out⟩
  · have eo := outR_full HLB.out k1
    have HRR : Hid (RdR w2 a2 bs) := Lib.hid (by rw [← eo]; exact HRD.out)
    have e3 : (outR bs).length = n := by rw [eo]; exact HLB.out
    rw [e3]
    have d1 : ¬ (n : Int) < (n : Int) := by omega
    have HD := Lib.hid k2
    have HK1 := Lib.hid k1
    clear k1 k2 eo e3 HRD HIX
    go_wp2_with fail
    go_loopw [20, 5] (fun i x wr => ∃ k : Nat, k ≤ n ∧ i = .int .i64 k ∧ x = .int .i64 (pdW bs k) ∧ wr = w2) (fun i _ _ => n - (intOf i).toNat)
    case atStart => exact ⟨0, Nat.zero_le _, rfl, rfl, rfl⟩
    case round =>
      obtain ⟨k, hk, rfl, rfl, hw⟩ := hrel
      subst hw
      by_cases hkt : k < n
      · have b1 : decide ((k : Int) < (n : Int)) = true := decide_eq_true (by omega)
        have J1 : (k : Int) < (n : Int) := by omega
        obtain ⟨bA, oA, aI, cI, rfl, dI, rI, kI⟩ := rdR_at HRR.out (show k < bs.length by rw [HLB.out]; exact hkt)
        have lI : (rw_ bs k).length = n := (HEC.out.full hkt (HK1.out k hkt)).1
        rw [lI] at dI kI
        obtain ⟨bj, oj, rfl, hcj⟩ := rI (by rw [lI]; omega)
        have ej := hcj k (by rw [lI]; exact hkt)
        have e5 : IntKind.i64.wrap (pdW bs k * el (rw_ bs k) k) = pdW bs (k + 1) := rfl
        clear rI hcj lI
        go_wp2_with fail
        go_roundw
        case rel => exact ⟨k + 1, by omega, by go_num, (by first | rfl | trivial | simp), (by first | rfl | trivial)⟩
        case measure => simp [intOf]; omega
      · obtain rfl : n = k := by omega
        have b1 : decide ((n : Int) < (n : Int)) = false := by simp
        go_wp2_with fail
        go_ret2
        exact ⟨by rw [← HD.out]; rfl, HB2.out⟩
end Go.Proofs.Ytcnphhcdjhmmkaa
