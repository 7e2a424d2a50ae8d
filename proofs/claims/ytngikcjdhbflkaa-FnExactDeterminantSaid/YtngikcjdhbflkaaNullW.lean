/- The reduced basis of the vectors that rows take to zero: the program and the reference. -/
import Derived.Test.YtngikcjdhbflkaaNull
import Derived.Test.YtngikcjdhbflkaaWideS
set_option linter.unusedVariables false
set_option linter.unusedSimpArgs false
namespace Go.Proofs.Ytngikcjdhbflkaa
open Go.RowKit

/-- an outer slice of the call's own whose rows are read where they stood in an elder world -/
structure Vw (T1 : TypeId) (wb w : World) (a : Option Addr) (n cap : Nat) (xss : List (List Int)) (A : Nat → Option Addr) (C : Nat → Nat) : Prop where
  len : xss.length = n
  own : w.ownsRow wb.heap.size T1 1 (.slice a n cap) n (rowVals xss A C n)
  row : ∀ i, i < n → RdI wb (A i) (rw_ xss i) ∧ (rw_ xss i).length ≤ C i
  below : Below wb.heap.size wb w
theorem Vw.none (T1 : TypeId) (wb : World) (A : Nat → Option Addr) (C : Nat → Nat) : Vw T1 wb wb Option.none 0 0 [] A C :=
  ⟨rfl, World.ownsRow_nil _ _ T1 1, fun i h => absurd h (by omega), Below.refl _ _⟩
theorem Vw.rd {T1 : TypeId} {wb w : World} {a : Option Addr} {n cap : Nat} {xss : List (List Int)} {A : Nat → Option Addr} {C : Nat → Nat} (h : Vw T1 wb w a n cap xss A C) : RdR w a xss := fun h0 => by
  obtain ⟨g, ha, hc⟩ := ownsRow_cell h.own (by rw [← h.len]; exact h0)
  refine ⟨g, 0, ha, fun i hi => ?_⟩
  rw [h.len] at hi
  refine ⟨A i, C i, ?_, (h.row i hi).1.keep h.below (Nat.le_refl _), (h.row i hi).2⟩
  rw [Nat.zero_add, hc i hi, rowVals_get hi]
theorem rowVals_push {xss : List (List Int)} {xs : List Int} {A : Nat → Option Addr} {C : Nat → Nat} {n cr : Nat} {ar : Option Addr} (hlen : xss.length = n) :
    rowVals (xss ++ [xs]) (upd A n ar) (upd C n cr) (n + 1) = rowVals xss A C n ++ [.slice ar xs.length cr] := by
  unfold rowVals
  rw [List.range_succ, List.map_append]
  congr 1
  · refine List.map_congr_left fun i hi => ?_
    have hi' : i < n := by simpa using hi
    rw [rw_append_lt (by omega), upd_lt hi', upd_lt hi']
  · simp only [List.map_cons, List.map_nil]
    rw [← hlen, rw_append_eq, upd_eq, upd_eq]
theorem Vw.push {T1 : TypeId} {wb w w' : World} {a a' ar : Option Addr} {n cap cap' cr m : Nat} {xss : List (List Int)} {xs : List Int} {A : Nat → Option Addr} {C : Nat → Nat} (h : Vw T1 wb w a n cap xss A C)
    (hr : RdI wb ar xs) (hm : xs.length = m) (hc : m ≤ cr) (r : w'.ownsRow wb.heap.size T1 1 (.slice a' (n + 1) cap') (n + 1) (rowVals xss A C n ++ [.slice ar m cr]))
    (g : Chg (fun k => ∃ p, a = some p ∧ p.block = k) w w') : Vw T1 wb w' a' (n + 1) cap' (xss ++ [xs]) (upd A n ar) (upd C n cr) := by
  subst hm
  refine ⟨by simp [h.len], by rw [rowVals_push h.len]; exact r, fun i hi => ?_, h.below.trans (g.below h.below.size fun k hk hx => ?_)⟩
  · by_cases he : i = n
    · subst he
      rw [upd_eq, upd_eq]
      have e : rw_ (xss ++ [xs]) i = xs := by rw [← h.len]; exact rw_append_eq
      rw [e]; exact ⟨hr, hc⟩
    · rw [upd_lt (by omega), upd_lt (by omega), rw_append_lt (by rw [h.len]; omega)]
      exact h.row i (by omega)
  · obtain ⟨x, hx, e⟩ := hx
    have := (ownsRow_block h.own x hx).1
    omega
set_option maxRecDepth 20000 in
set_option maxHeartbeats 2000000 in
theorem leftKernelRows_any (p : Int) (hp : GP p) (a : Option Addr) (n c m : Nat) (xss : List (List Int)) (w : World) (ha : RdR w a xss) (hl : xss.length = n) (hr : Rws p m xss) (hn : n ≤ 50) (hm : m ≤ 50) :
    Calls Try.prog 101 #[.int .i64 p, .slice a n c, .int .i64 m] w fun e w' => ∃ (N : List (List Int)) (a' : Option Addr) (c' : Nat), e = .returned (.slice a' N.length c') ∧ NullR p m xss N ∧ MadeH 2 w' w.heap.size a' N.length c' N ∧ Below w.heap.size w w' := by
  have HA := Lib.hid ha
  have HL := Lib.hid hl
  have HR := Lib.hid hr
  have HP := Lib.hid hp
  have hp2 : 2 ≤ p := hp.bd.1
  clear ha hl hr hp
  go_enter Try.func101, Try.ntmps101
  go_wp2_with fail
  refine (withIdentity_any _ n _ m xss _ (by exact HA.out) HL.out (fun i hi => HR.out.row i (by rw [HL.out]; exact hi)) (by omega) (by omega)).mono ?_
  rintro e w1 ⟨aw, cw, rfl, ho, hb⟩
  have HW1 := Lib.hid ho.rd
  have HB1 := Lib.hid hb
  clear ho hb
  go_wp2_with fail
  refine (reduceRows_any p HP.out _ n _ (m + n) (wideR xss) _ (by exact HW1.out) (by rw [wideR_len]; exact HL.out) (wideR_rws HR.out HL.out hp2) (by omega) (by omega)).mono ?_
  rintro e w2 ⟨W, a2, c2, rfl, hres, ho, hb⟩
  have HRes := Lib.hid hres
  have HW := Lib.hid ho.rd
  have HB2 : Hid (Below w.heap.size w w2) := Lib.hid (HB1.out.trans (hb.mono HB1.out.size))
  have hWl := hres.len
  have HNR : Hid (NullR p m xss (cutL m W)) := Lib.hid ⟨W, by rw [HL.out]; exact hres, rfl⟩
  obtain ⟨piv, hRR, _⟩ := hres
  have HRR := Lib.hid hRR
  clear ho hb hRR HW1
  go_wp2_with fail
  go_loopw [15, 7] (fun i v wr => ∃ (j k : Nat) (a1 : Option Addr) (c1 : Nat) (A : Nat → Option Addr) (C : Nat → Nat), j ≤ W.length ∧ k ≤ j ∧ i = .int .i64 j ∧ v = .slice a1 k c1 ∧ Hid (Vw 38 w2 wr a1 k c1 (cutL m (W.take j)) A C)) (fun i _ _ => W.length - (intOf i).toNat)
  case atStart => exact ⟨0, 0, none, 0, fun _ => none, fun _ => 0, Nat.zero_le _, Nat.le_refl _, rfl, rfl, Lib.hid (Vw.none _ _ _ _)⟩
  case round =>
    obtain ⟨j, k, a1, c1, A, C, hj, hkj, rfl, rfl, HV⟩ := hrel
    obtain ⟨wi, rfl⟩ : ∃ x, x = wr := ⟨wr, rfl⟩
    by_cases hjt : j < W.length
    · have hpn := HRR.out.pn j hjt
      have hlen := HRR.out.len j hjt
      have hnp : 0 < n := by
        refine Nat.pos_of_ne_zero fun h0 => ?_
        have e : wideR xss = [] := List.eq_nil_of_length_eq_zero (by rw [wideR_len, HL.out, h0])
        have h1 := HRes.out
        rw [e] at h1
        have h2 : W = [] := h1.unique ⟨fun _ => 0, Rref.nil _ _ _, SpEq.refl _ _⟩ hp2
        rw [h2] at hjt
        exact absurd hjt (by simp)
      obtain ⟨b, o, rfl, hc⟩ := (HW.out) (by omega)
      obtain ⟨aj, cj, dj0, rj, kj⟩ := hc j hjt
      rw [hlen] at dj0 kj
      have dj := cell_below (p := ⟨b, o + j, none⟩) dj0 HV.out.below
      obtain ⟨bj, oj, rfl, hcj⟩ := id rj (by omega)
      have RJ := Lib.hid rj
      have RJi : Hid (RdI wi (some ⟨bj, oj, none⟩) (rw_ W j)) := Lib.hid (rj.keep HV.out.below (Nat.le_refl _))
      have HLN := Lib.hid hlen
      clear hc hcj rj hlen dj0
      have V1 : m ≤ cj := by omega
      have V2 : ¬ cj = m := by omega
      have V3 : (m : Int) ≤ (m : Int) + n := by omega
      by_cases hz : zeroB ((rw_ W j).take m) = true
      · have HC := Lib.hid (cutL_yes hjt hz)
        have HZ := Lib.hid hz
        clear hz
        go_wp2_with (first
          | (go_at_call 72; refine (isZero_any _ _ _ ((rw_ W j).take m) _ (by exact RJi.out.take m (by rw [HLN.out]; omega)) (by rw [List.length_take, HLN.out]; omega) (by omega)).mono ?_; rintro e w' ⟨rfl, rfl⟩; rw [HZ.out])
          | (at_builtin; refine wpList_push rfl (.tmp 23) (.tmp 27) 22 rfl w2.heap.size 38 (.slice none 0 0) 24 Try.underlying22 Try.infoR rfl (by decide) (.slice (some ⟨bj, oj + m, none⟩) n (cj - m)) rfl _ _ _ _ rfl rfl (by exact HV.out.own) (by omega) (by exact HV.out.below.size) ?_; rintro a4 c4 w4 r4 q4 g4; have HN := Lib.hid (HV.out.push (RJ.out.drop m) (by rw [List.length_drop, HLN.out]; omega) (by omega) r4 g4); clear r4 q4 g4))
        have HN2 : Hid (Vw 38 w2 w4 a4 (k + 1) c4 (cutL m (W.take (j + 1))) (upd A k (some ⟨bj, oj + m, none⟩)) (upd C k (cj - m))) := Lib.hid (by rw [HC.out]; exact HN.out)
        go_roundw
        case rel => exact ⟨j + 1, k + 1, a4, c4, _, _, by omega, by omega, by go_num, rfl, HN2⟩
        case measure => simp [intOf]; omega
      · have hz2 : zeroB ((rw_ W j).take m) = false := by simpa using hz
        have HC := Lib.hid (cutL_no hjt hz2)
        have HZ := Lib.hid hz2
        clear hz hz2
        go_wp2_with (go_at_call 72; refine (isZero_any _ _ _ ((rw_ W j).take m) _ (by exact RJi.out.take m (by rw [HLN.out]; omega)) (by rw [List.length_take, HLN.out]; omega) (by omega)).mono ?_; rintro e w' ⟨rfl, rfl⟩; rw [HZ.out])
        have HN2 : Hid (Vw 38 w2 wi a1 k c1 (cutL m (W.take (j + 1))) A C) := Lib.hid (by rw [HC.out]; exact HV.out)
        go_roundw
        case rel => exact ⟨j + 1, k, a1, c1, _, _, by omega, by omega, by go_num, rfl, HN2⟩
        case measure => simp [intOf]; omega
    · obtain rfl : j = W.length := by omega
      have HV2 := Lib.hid HV.out.rd
      have HVl := HV.out.len
      have HVb := Lib.hid HV.out.below
      rw [List.take_length] at HV2 HVl
      subst HVl
      have hRf : IsRref p n (cutL m W) (cutL m W) := by have := HNR.out.rref; rwa [HL.out] at this
      have HRF := Lib.hid hRf
      clear hRf
      go_wp2_with fail
      refine (reduceRows_any p HP.out _ _ _ n (cutL m W) _ (by exact HV2.out) rfl ⟨HRF.out.row, HRF.out.rng⟩ (by omega) (by omega)).mono ?_
      rintro e w3 ⟨R, a3, c3, rfl, hres, ho, hb⟩
      obtain rfl : R = cutL m W := hres.unique HRF.out hp2
      have HO := Lib.hid ho
      have HB3 : Hid (Below w.heap.size w w3) := Lib.hid (HB2.out.trans ((HVb.out.trans (hb.mono HVb.out.size)).mono HB2.out.size))
      have sz : w.heap.size ≤ wi.heap.size := Nat.le_trans HB2.out.size HVb.out.size
      clear hres ho hb
      go_wp2_with fail
      go_ret
      exact ⟨cutL m W, a3, c3, rfl, HNR.out, HO.out.mono sz, HB3.out⟩
set_option maxRecDepth 20000 in
set_option maxHeartbeats 2000000 in
theorem l02Null_any (p : Int) (hp : GP p) (a : Option Addr) (n c m : Nat) (xss : List (List Int)) (w : World) (ha : RdR w a xss) (hl : xss.length = n) (hr : Rws p m xss) (hn : n ≤ 50) (hm : m ≤ 50) :
    Calls Try.prog 74 #[.int .i64 p, .slice a n c, .int .i64 m] w fun e w' => ∃ (N : List (List Int)) (a' : Option Addr) (c' : Nat), e = .returned (.slice a' N.length c') ∧ NullR p m xss N ∧ MadeR 38 2 w' w.heap.size a' N.length c' N ∧ Below w.heap.size w w' := by
  have HA := Lib.hid ha
  have HL := Lib.hid hl
  have HR := Lib.hid hr
  have HP := Lib.hid hp
  have hp2 : 2 ≤ p := hp.bd.1
  clear ha hl hr hp
  go_enter Try.func74, Try.ntmps74
  go_wp2_with fail
  refine (l02Wide_any p HP.out _ n _ m xss _ (by exact HA.out) HL.out HR.out (by omega) (by omega)).mono ?_
  rintro e w2 ⟨W, a2, c2, rfl, hres, ho, hb⟩
  have HRes := Lib.hid hres
  have HW := Lib.hid ho
  have HB2 : Hid (Below w.heap.size w w2) := Lib.hid hb
  have hWl := hres.len
  have HNR : Hid (NullR p m xss (cutL m W)) := Lib.hid ⟨W, by rw [HL.out]; exact hres, rfl⟩
  obtain ⟨piv, hRR, _⟩ := hres
  have HRR := Lib.hid hRR
  clear ho hb hRR
  go_wp2_with fail
  go_loopw [9, 8] (fun i v wr => ∃ (j k : Nat) (a1 : Option Addr) (c1 : Nat) (A : Nat → Option Addr) (C : Nat → Nat), j ≤ W.length ∧ k ≤ j ∧ i = .int .i64 j ∧ v = .slice a1 k c1 ∧ Hid (OwnR 38 2 wr w2.heap.size a1 k c1 (cutL m (W.take j)) A C ∧ Below w2.heap.size w2 wr)) (fun i _ _ => W.length - (intOf i).toNat)
  case atStart => exact ⟨0, 0, _, 0, fun _ => none, fun _ => 0, Nat.zero_le _, Nat.le_refl _, rfl, rfl, Lib.hid ⟨OwnR.empty w2 _ _ _ _, (Below.refl _ _).alloc (Nat.le_refl _) _⟩⟩
  case round =>
    obtain ⟨j, k, a1, c1, A, C, hj, hkj, rfl, rfl, HV⟩ := hrel
    obtain ⟨wi, rfl⟩ : ∃ x, x = wr := ⟨wr, rfl⟩
    by_cases hjt : j < W.length
    · have hpn := HRR.out.pn j hjt
      have hlen := HRR.out.len j hjt
      have hnp : 0 < n := by
        refine Nat.pos_of_ne_zero fun h0 => ?_
        have e : wideR xss = [] := List.eq_nil_of_length_eq_zero (by rw [wideR_len, HL.out, h0])
        have h1 := HRes.out
        rw [e] at h1
        have h2 : W = [] := h1.unique ⟨fun _ => 0, Rref.nil _ _ _, SpEq.refl _ _⟩ hp2
        rw [h2] at hjt
        exact absurd hjt (by simp)
      obtain ⟨b, o, rfl, hc⟩ := (HW.out.keep HV.out.2 (Nat.le_refl _)) (by omega)
      obtain ⟨aj, cj, dj, rj, kj⟩ := hc j hjt
      rw [hlen] at dj kj
      obtain ⟨bj, oj, rfl, hcj⟩ := id rj (by omega)
      have RJi := Lib.hid rj
      have HLN := Lib.hid hlen
      have HLD := Lib.hid (HRR.out.isLead hjt)
      have HZ0 := Lib.hid (zero_of HRR.out hjt (Nat.le_add_right m n))
      have hsz := HV.out.2.size
      clear hc hcj rj hlen
      have V1 : m ≤ cj := by omega
      have V2 : ¬ cj = m := by omega
      have V3 : (m : Int) ≤ (m : Int) + n := by omega
      by_cases hz : m ≤ piv j
      · have HC := Lib.hid (cutL_yes hjt (by rw [HZ0.out]; exact decide_eq_true hz))
        have b3 : decide ((m : Int) ≤ (piv j : Int)) = true := decide_eq_true (by omega)
        have b4 : (m : Int) ≤ (piv j : Int) := by omega
        go_wp2_with (first
          | (go_at_call 83; refine (l02Lead_any _ _ _ (rw_ W j) _ (by exact RJi.out) HLN.out (by omega)).mono ?_; rintro e w' ⟨k1, rfl, hk, rfl⟩; obtain rfl : k1 = piv j := hk.unique HLD.out; clear hk)
          | (go_at_call 98; refine (l01Own_any _ _ _ ((rw_ W j).drop m) _ (by exact RJi.out.drop m) (by rw [List.length_drop, HLN.out]; omega) (by omega)).mono ?_; rintro e w' ⟨ar, cr, rfl, ho, hb⟩; have HO := Lib.hid ho; have HBo := Lib.hid hb; have sb := hb.size; clear ho hb)
          | (at_builtin; refine wpList_push rfl (.tmp 27) (.tmp 35) 22 rfl w2.heap.size 38 (.slice none 0 0) 24 Try.underlying22 Try.infoR rfl (by decide) (.slice ar n cr) rfl _ _ _ _ rfl rfl (by exact (HV.out.1.keep HBo.out (Nat.le_refl _)).own) (by omega) (by exact Nat.le_trans hsz sb) ?_; rintro a4 c4 w4 r4 q4 g4; have HN := Lib.hid (HV.out.1.pushNew2 hsz HBo.out HO.out (Nat.le_refl _) r4 q4 g4); clear r4 q4 g4))
        have HN2 : Hid (OwnR 38 2 w4 w2.heap.size a4 (k + 1) c4 (cutL m (W.take (j + 1))) (upd A k ar) (upd C k cr) ∧ Below w2.heap.size w2 w4) := Lib.hid ⟨by rw [HC.out]; exact HN.out.1, HV.out.2.trans HN.out.2⟩
        go_roundw
        case rel => exact ⟨j + 1, k + 1, a4, c4, _, _, by omega, by omega, by go_num, rfl, HN2⟩
        case measure => simp [intOf]; omega
      · have HC := Lib.hid (cutL_no hjt (by rw [HZ0.out]; exact decide_eq_false hz))
        have b3 : decide ((m : Int) ≤ (piv j : Int)) = false := decide_eq_false (by omega)
        have b4 : ¬ (m : Int) ≤ (piv j : Int) := by omega
        go_wp2_with (go_at_call 83; refine (l02Lead_any _ _ _ (rw_ W j) _ (by exact RJi.out) HLN.out (by omega)).mono ?_; rintro e w' ⟨k1, rfl, hk, rfl⟩; obtain rfl : k1 = piv j := hk.unique HLD.out; clear hk)
        have HN2 : Hid (OwnR 38 2 wi w2.heap.size a1 k c1 (cutL m (W.take (j + 1))) A C ∧ Below w2.heap.size w2 wi) := Lib.hid ⟨by rw [HC.out]; exact HV.out.1, HV.out.2⟩
        go_roundw
        case rel => exact ⟨j + 1, k, a1, c1, _, _, by omega, by omega, by go_num, rfl, HN2⟩
        case measure => simp [intOf]; omega
    · obtain rfl : j = W.length := by omega
      have HV1 := HV.out.1
      rw [List.take_length] at HV1
      have hkl := HV1.len
      subst hkl
      have HM := Lib.hid HV1
      have sz := HB2.out.size
      have HB3 : Hid (Below w.heap.size w wi) := Lib.hid (HB2.out.trans (HV.out.2.mono HB2.out.size))
      clear HV1
      go_wp2_with fail
      go_ret
      exact ⟨cutL m W, a1, c1, rfl, HNR.out, ⟨A, C, HM.out.mono sz⟩, HB3.out⟩
end Go.Proofs.Ytngikcjdhbflkaa
