/- Intersections of subspaces: the program and the reference. -/
import Derived.Test.YtpkdgemnddcefaaMeetP
import Derived.Test.YtpkdgemnddcefaaSum
import Derived.Test.YtpkdgemnddcefaaAnn
set_option linter.unusedVariables false
set_option linter.unusedSimpArgs false
namespace Go.Proofs.Ytpkdgemnddcefaa
open Go.RowKit

/-- the first i terms of the entries -/
def tpart (p : Int) (q : Nat) (us : List (List Int)) (v : List Int) (i : Nat) : List Int := tab q fun j => sm (fun k => el v k * el (rw_ us k) j) i % p
def tmix (p : Int) (q : Nat) (us : List (List Int)) (v : List Int) (i j : Nat) : List Int := tab q fun t => if t < j then sm (fun k => el v k * el (rw_ us k) t) (i + 1) % p else sm (fun k => el v k * el (rw_ us k) t) i % p
theorem tmix_zero (p : Int) (q : Nat) (us : List (List Int)) (v : List Int) (i : Nat) : tmix p q us v i 0 = tpart p q us v i := tab_congr fun t _ => if_neg (by omega)
theorem tmix_full (p : Int) (q : Nat) (us : List (List Int)) (v : List Int) (i : Nat) : tmix p q us v i q = tpart p q us v (i + 1) := tab_congr fun t ht => if_pos ht
theorem tmix_len (p : Int) (q : Nat) (us : List (List Int)) (v : List Int) (i j : Nat) : (tmix p q us v i j).length = q := tab_len _ _
theorem tmix_el {p : Int} {q : Nat} {us : List (List Int)} {v : List Int} {i j : Nat} (h : j < q) : el (tmix p q us v i j) j = sm (fun k => el v k * el (rw_ us k) j) i % p := by unfold tmix; rw [el_tab h, if_neg (by omega)]
theorem tmix_set {p : Int} {q : Nat} {us : List (List Int)} {v : List Int} {i j : Nat} (h : j < q) : (tmix p q us v i j).set j ((sm (fun k => el v k * el (rw_ us k) j) i % p + el v i * el (rw_ us i) j) % p) = tmix p q us v i (j + 1) := by
  refine list_ext (by simp [tmix_len]) fun t ht => ?_
  have ht' : t < q := by simpa [tmix_len] using ht
  rw [el_set (by rw [tmix_len]; exact h)]
  unfold tmix
  rw [el_tab ht', el_tab ht']
  by_cases h1 : t = j
  · subst h1; rw [if_pos rfl, if_pos (by omega), Int.emod_add_emod]; rfl
  · rw [if_neg h1]
    by_cases h2 : t < j
    · rw [if_pos h2, if_pos (by omega)]
    · rw [if_neg h2, if_neg (by omega)]
set_option maxRecDepth 20000 in
set_option maxHeartbeats 2000000 in
theorem l02Times_any (p : Int) (hp2 : 2 ≤ p) (hp7 : p ≤ 7) (a b : Option Addr) (n q ca cb : Nat) (v : List Int) (us : List (List Int)) (w : World) (ha : RdI w a v) (hb : RdR w b us) (hl : v.length = n) (hl2 : us.length = n) (hr : ∀ i, i < n → (rw_ us i).length = q) (hn : n ≤ 100) (hq : q ≤ 100)
    (hv : ∀ j, j < n → 0 ≤ el v j ∧ el v j < p) (hu : ∀ i j, i < n → j < q → 0 ≤ el (rw_ us i) j ∧ el (rw_ us i) j < p) :
    Calls Try.prog 56 #[.int .i64 p, .slice a n ca, .slice b n cb, .int .i64 q] w fun e w' => ∃ a' c', e = .returned (.slice a' q c') ∧ OwnI 2 w' w.heap.size a' q c' (tpart p q us v n) ∧ Below w.heap.size w w' := by
  have HA := Lib.hid ha
  have HB := Lib.hid hb
  have HL := Lib.hid hl
  have HL2 := Lib.hid hl2
  have HR := Lib.hid hr
  have HV := Lib.hid hv
  have HU := Lib.hid hu
  clear ha hb hl hl2 hr hv hu
  have hmk := run_make_row' (P := Try.prog) 52 2 (.int .i64 0) 8 Try.underlying52 Try.info2 rfl .i64 .i64 q (by omega) (by omega)
  have H0 : Hid (OwnI 2 (w.alloc (.cells (madeCells #[.int .i64 0] q) 2)) w.heap.size (some ⟨w.heap.size, 0, none⟩) q q (tpart p q us v 0) ∧ Below w.heap.size w (w.alloc (.cells (madeCells #[.int .i64 0] q) 2))) := Lib.hid ⟨by have h := OwnI.made w 2 q (by unfold maxLen; omega); have e : tpart p q us v 0 = tab q fun _ => 0 := tab_congr (fun t _ => by simp [sm]); rw [e]; exact h, (Below.refl _ _).alloc (Nat.le_refl _) _⟩
  go_enter Try.func56, Try.ntmps56
  go_wp2
  clear hmk
  go_loopw [10] (fun i wr => ∃ k : Nat, k ≤ n ∧ i = .int .i64 k ∧ Hid (OwnI 2 wr w.heap.size (some ⟨w.heap.size, 0, none⟩) q q (tpart p q us v k) ∧ Below w.heap.size w wr)) (fun i _ => n - (intOf i).toNat)
  case atStart => exact ⟨0, Nat.zero_le _, rfl, H0⟩
  case round =>
    obtain ⟨i, hi, rfl, HI⟩ := hrel
    obtain ⟨wo, rfl⟩ : ∃ x, x = wr := ⟨wr, rfl⟩
    clear H0
    by_cases hit : i < n
    · have J0 : (i : Int) < (n : Int) := by omega
      have b0 : decide ((i : Int) < (n : Int)) = true := decide_eq_true J0
      have H1 : Hid (OwnI 2 wo w.heap.size (some ⟨w.heap.size, 0, none⟩) q q (tmix p q us v i 0) ∧ Below w.heap.size w wo) := Lib.hid (by rw [tmix_zero]; exact HI.out)
      go_wp2_with fail
      go_loopw [11] (fun t wr => ∃ j : Nat, j ≤ q ∧ t = .int .i64 j ∧ Hid (OwnI 2 wr w.heap.size (some ⟨w.heap.size, 0, none⟩) q q (tmix p q us v i j) ∧ Below w.heap.size w wr)) (fun t _ => q - (intOf t).toNat)
      case atStart => exact ⟨0, Nat.zero_le _, rfl, H1⟩
      case round =>
        obtain ⟨j, hj, rfl, HJ⟩ := hrel
        obtain ⟨wi, rfl⟩ : ∃ x, x = wr := ⟨wr, rfl⟩
        clear H1
        obtain ⟨bv, ov, rfl, hcv⟩ := (HA.out.keep HJ.out.2 (Nat.le_refl _)) (by rw [HL.out]; omega)
        have ev := hcv i (by rw [HL.out]; exact hit)
        obtain ⟨bu, ou, rfl, hcu⟩ := (HB.out.keep HJ.out.2 (Nat.le_refl _)) (by rw [HL2.out]; omega)
        obtain ⟨ai, ci, di, ri, _⟩ := hcu i (by rw [HL2.out]; exact hit)
        rw [HR.out i hit] at di
        have RI := Lib.hid ri
        clear hcv hcu ri
        by_cases hjt : j < q
        · obtain ⟨b3, o3, rfl, hc3⟩ := RI.out (by rw [HR.out i hit]; omega)
          have e3 := hc3 j (by rw [HR.out i hit]; exact hjt)
          clear hc3
          have e1 := HJ.out.1.cellAt hjt
          rw [tmix_el hjt] at e1
          have f1 := HJ.out.1.frozen j
          obtain ⟨x1, x2⟩ := HV.out i hit
          obtain ⟨y1, y2⟩ := HU.out i j hit hjt
          obtain ⟨z1, z2⟩ := prod_bd (k := el v i) (x := el (rw_ us i) j) (by omega) (by omega) (by omega) (by omega)
          have z0 : 0 ≤ el v i * el (rw_ us i) j := Int.mul_nonneg x1 y1
          have hS := emod_bd (sm (fun k => el v k * el (rw_ us k) j) i) p (by omega)
          obtain ⟨s1, s2⟩ := hS
          have HN : Hid (OwnI 2 (wi.setCell ⟨w.heap.size, j, none⟩ (.int .i64 ((sm (fun k => el v k * el (rw_ us k) j) i % p + el v i * el (rw_ us i) j) % p))).drew w.heap.size (some ⟨w.heap.size, 0, none⟩) q q (tmix p q us v i (j + 1)) ∧ Below w.heap.size w (wi.setCell ⟨w.heap.size, j, none⟩ (.int .i64 ((sm (fun k => el v k * el (rw_ us k) j) i % p + el v i * el (rw_ us i) j) % p))).drew) := Lib.hid ⟨by have := HJ.out.1.set hjt ((sm (fun k => el v k * el (rw_ us k) j) i % p + el v i * el (rw_ us i) j) % p); rw [tmix_set hjt] at this; exact this, (HJ.out.2.setCell (p := ⟨w.heap.size, j, none⟩) (Nat.le_refl _) _).drew⟩
          generalize sm (fun k => el v k * el (rw_ us k) j) i % p = S at *
          have W1 : IntKind.i64.wrap (el v i * el (rw_ us i) j) = el v i * el (rw_ us i) j := IntWalk.i64_in _ (by omega)
          have W2 : IntKind.i64.wrap (S + el v i * el (rw_ us i) j) = S + el v i * el (rw_ us i) j := IntWalk.i64_in _ (by omega)
          have W3 : (S + el v i * el (rw_ us i) j).tmod p = (S + el v i * el (rw_ us i) j) % p := Int.tmod_eq_emod_of_nonneg (by omega)
          have J1 : (j : Int) < (q : Int) := by omega
          have J3 : ¬ p = 0 := by omega
          have b1 : decide ((j : Int) < (q : Int)) = true := decide_eq_true J1
          go_wp2_with fail
          go_still_tail 22, (by kernel_rfl)
          change wpList _ _ _ _ _ wi.drew
          go_wp2_with fail
          go_roundw
          case rel => exact ⟨j + 1, by omega, by go_num, HN⟩
          case measure => simp [intOf]; omega
        · obtain rfl : q = j := by omega
          have HN : Hid (OwnI 2 wi w.heap.size (some ⟨w.heap.size, 0, none⟩) q q (tpart p q us v (i + 1)) ∧ Below w.heap.size w wi) := Lib.hid (by have h := HJ.out; rw [tmix_full] at h; exact h)
          have b1 : decide ((q : Int) < (q : Int)) = false := by simp
          go_wp2_with fail
          go_roundw
          case rel => exact ⟨i + 1, by omega, by go_num, HN⟩
          case measure => simp [intOf]; omega
    · obtain rfl : n = i := by omega
      have b0 : decide ((n : Int) < (n : Int)) = false := by simp
      go_wp2_with fail
      go_ret
      exact ⟨_, q, rfl, HI.out.1, HI.out.2⟩
theorem times_row {p : Int} {q i : Nat} {us N : List (List Int)} (h : i < N.length) {n : Nat} (hl : us.length = n) : rw_ (timesR p q us N) i = tpart p q us ((rw_ N i).take n) n := by
  subst hl
  rw [timesR_row h]
  unfold tpart
  refine tab_congr fun j _ => ?_
  rw [sm_congr (g := fun k => el ((rw_ N i).take us.length) k * el (rw_ us k) j) (fun k hk => by rw [el_take hk])]
theorem timesR_rws {p : Int} {q : Nat} {us N : List (List Int)} (hp : 2 ≤ p) : Rws p q (timesR p q us N) := by
  refine ⟨fun i hi => ?_, fun i j hi hj => ?_⟩
  · rw [timesR_len] at hi
    rw [timesR_row hi, tab_len]
  · rw [timesR_len] at hi
    rw [timesR_row hi, el_tab hj]
    exact emod_bd _ _ (by omega)
set_option maxRecDepth 20000 in
set_option maxHeartbeats 4000000 in
theorem l03Meet_any (p : Int) (hp : GP p) (m : Nat) (a0 a1 : Option Addr) (n0 c0 n1 c1 : Nat) (xs0 xs1 : List (List Int)) (w : World) (ha0 : RdR w a0 xs0) (ha1 : RdR w a1 xs1) (hl0 : xs0.length = n0) (hl1 : xs1.length = n1) (hw0 : Rws p m xs0) (hw1 : Rws p m xs1) (hn0 : n0 ≤ 25) (hn1 : n1 ≤ 25) (hm : m ≤ 50) :
    Calls Try.prog 27 #[.int .i64 p, .slice a0 n0 c0, .slice a1 n1 c1, .int .i64 m] w fun e w' => ∃ (N R : List (List Int)) (a' : Option Addr) (c' : Nat), e = .returned (.slice a' R.length c') ∧ NullR p m (xs0 ++ xs1) N ∧ IsRref p m (timesR p m xs0 N) R ∧ RdR w' a' R ∧ Below w.heap.size w w' := by
  have HP := Lib.hid hp
  have HA0 := Lib.hid ha0
  have HA1 := Lib.hid ha1
  have HL0 := Lib.hid hl0
  have HL1 := Lib.hid hl1
  have HW0 := Lib.hid hw0
  have HW1 := Lib.hid hw1
  obtain ⟨hp2, hp7⟩ := hp.bd
  obtain ⟨A1, C1, hrv, hv1⟩ := ha1.fun hl1
  have HRV0 := Lib.hid hrv
  have HV1 := Lib.hid hv1
  clear hp ha0 ha1 hl0 hl1 hw0 hw1 hrv hv1
  go_enter Try.func27, Try.ntmps27
  go_wp2_with (first
    | (go_at_call 54; refine (l01Own2_any _ _ _ xs0 _ (by exact HA0.out) HL0.out (HW0.out.short (by omega) HL0.out) (by omega)).mono ?_; rintro e u1 ⟨ac, cc, rfl, ho, hb⟩; obtain ⟨Ac, Cc, ho⟩ := ho; have HO1 := Lib.hid ho; have HU1 := Lib.hid hb; have HRV := Lib.hid (RdV.keep HRV0.out hb); have su1 := hb.size; clear ho hb)
    | (at_builtin; refine wpList_appS rfl (.tmp 14) (.tmp 15) 24 rfl w.heap.size 52 (.slice none 0 0) 24 Try.underlying24 Try.infoR rfl (by decide) _ _ _ _ rfl _ _ _ rfl (by exact HO1.out.own) (rowVals xs1 A1 C1 n1) (rowVals_len _ _ _ _) (by exact HRV.out) (rowVals_one _ _ _ _) (by omega) (by exact su1) ?_; rintro ad cd u2 r4 q4 g4; have HA2 := Lib.hid (app_rd HO1.out HU1.out HL1.out HV1.out r4 g4); have su2 := HA2.out.2.size; clear r4 q4 g4)
    | (go_at_call 55; refine (l02Null_any p HP.out _ (n0 + n1) _ m (xs0 ++ xs1) _ (by exact HA2.out.1) (by rw [List.length_append, HL0.out, HL1.out]) (HW0.out.app HW1.out) (by omega) (by omega)).mono ?_; rintro e w4 ⟨N, a4, c4, rfl, hnr, ho, hb⟩; have HNR := Lib.hid hnr; have HN4 := Lib.hid ho.rd; have HB4 : Hid (Below w.heap.size w w4) := Lib.hid (HA2.out.2.trans (hb.mono su2)); have s4 := HB4.out.size; clear ho hb hnr))
  have hnl := HNR.out.rref.len
  have hll : (xs0 ++ xs1).length = n0 + n1 := by rw [List.length_append, HL0.out, HL1.out]
  have HNW : Hid (Rws p (n0 + n1) N) := Lib.hid (by have h := HNR.out.rref; rw [hll] at h; exact ⟨h.row, h.rng⟩)
  rw [hll] at hnl
  clear hll
  go_loopw [11, 10] (fun i v wr => ∃ (j : Nat) (al : Option Addr) (cl : Nat) (A : Nat → Option Addr) (C : Nat → Nat), j ≤ N.length ∧ i = .int .i64 j ∧ v = .slice al j cl ∧ Hid (OwnR 52 2 wr w4.heap.size al j cl ((timesR p m xs0 N).take j) A C ∧ Below w4.heap.size w4 wr)) (fun i _ _ => N.length - (intOf i).toNat)
  case atStart => exact ⟨0, _, 0, fun _ => none, fun _ => 0, Nat.zero_le _, rfl, rfl, Lib.hid ⟨by rw [List.take_zero]; exact OwnR.empty w4 _ _ _ _, (Below.refl _ _).alloc (Nat.le_refl _) _⟩⟩
  case round =>
    obtain ⟨j, al, cl, A, C, hj, rfl, rfl, HJ⟩ := hrel
    obtain ⟨wi, rfl⟩ : ∃ x, x = wr := ⟨wr, rfl⟩
    have hsz := HJ.out.2.size
    have HBi : Hid (Below w.heap.size w wi) := Lib.hid (HB4.out.trans (HJ.out.2.mono HB4.out.size))
    by_cases hjt : j < N.length
    · obtain ⟨b0, o0, rfl, hc⟩ := (HN4.out.keep HJ.out.2 (Nat.le_refl _)) (by omega)
      obtain ⟨aj, cj, dj, rj, kj⟩ := hc j hjt
      have hlen := HNW.out.row j hjt
      rw [hlen] at dj kj
      have RT : Hid (RdI wi aj ((rw_ N j).take n0)) := Lib.hid (rj.take n0 (by rw [hlen]; omega))
      have HLT : Hid (((rw_ N j).take n0).length = n0) := Lib.hid (by rw [List.length_take, hlen]; omega)
      have hpos : 0 < n0 + n1 := by obtain ⟨pv, hpv, _⟩ := HNR.out.rref; have := hpv.pn j hjt; have h2 := hpv.len j hjt; omega
      obtain ⟨bj, oj, rfl, _⟩ := id rj (by omega)
      have V1 : n0 ≤ cj := by omega
      have V3 : (n0 : Int) ≤ (n0 : Int) + n1 := by omega
      clear hc rj hlen
      go_wp2_with (first
        | (go_at_call 56; refine (l02Times_any p hp2 hp7 _ _ n0 m _ _ ((rw_ N j).take n0) xs0 _ (by exact RT.out) (by exact HA0.out.keep HBi.out (Nat.le_refl _)) HLT.out HL0.out (fun i hi => HW0.out.row i (by rw [HL0.out]; exact hi)) (by omega) (by omega) (fun t ht => by rw [el_take ht]; exact HNW.out.rng j t hjt (by omega)) (fun i t hi ht => HW0.out.rng i t (by rw [HL0.out]; exact hi) ht)).mono ?_; rintro e w' ⟨ar, cr, rfl, ho, hb⟩; have HO := Lib.hid ho; have HBo := Lib.hid hb; have sb := hb.size; clear ho hb)
        | (at_builtin; refine wpList_push rfl (.tmp 26) (.tmp 38) 24 rfl w4.heap.size 52 (.slice none 0 0) 24 Try.underlying24 Try.infoR rfl (by decide) (.slice ar m cr) rfl _ _ _ _ rfl rfl (by exact (HJ.out.1.keep HBo.out (Nat.le_refl _)).own) (by omega) (by exact Nat.le_trans hsz sb) ?_; rintro a5 c5 w5 r4 q4 g4; have HN := Lib.hid (HJ.out.1.pushNew2 hsz HBo.out HO.out (Nat.le_refl _) r4 q4 g4); clear r4 q4 g4))
      have HN2 : Hid (OwnR 52 2 w5 w4.heap.size a5 (j + 1) c5 ((timesR p m xs0 N).take (j + 1)) (upd A j ar) (upd C j cr) ∧ Below w4.heap.size w4 w5) := Lib.hid ⟨by rw [take_row2 (by rw [timesR_len]; exact hjt), times_row hjt HL0.out]; exact HN.out.1, HJ.out.2.trans HN.out.2⟩
      go_roundw
      case rel => exact ⟨j + 1, a5, c5, _, _, by omega, by go_num, rfl, HN2⟩
      case measure => simp [intOf]; omega
    · obtain rfl : j = N.length := by omega
      have HV2 : Hid (RdR wi al (timesR p m xs0 N)) := Lib.hid (by have h := HJ.out.1.rd; rwa [List.take_of_length_le (by rw [timesR_len]; omega)] at h)
      go_wp2_with fail
      refine (l02Reduce_any p HP.out _ N.length _ m (timesR p m xs0 N) _ (by exact HV2.out) (timesR_len _ _ _ _) (timesR_rws hp2) (by omega) (by omega)).mono ?_
      rintro e w9 ⟨R, a', c', rfl, hres, ho, hb⟩
      have HO := Lib.hid ho
      have HRes := Lib.hid hres
      have HB9 : Hid (Below w.heap.size w w9) := Lib.hid (HBi.out.trans (hb.mono HBi.out.size))
      clear ho hres hb
      go_wp2_with fail
      go_ret
      exact ⟨N, R, a', c', rfl, HNR.out, HRes.out, HO.out, HB9.out⟩
def res_SubspaceIntersection (xs0 : List (List Int)) (p0 q0 : Int) (xs1 : List (List Int)) (p1 q1 P Q : Int) (R : List (List Int)) (d : Int) : Prop :=
  (¬ (subB xs0 p0 q0 = true ∧ subB xs1 p1 q1 = true) ∧ (P, Q, R, d) = mvBad 1) ∨
  ((subB xs0 p0 q0 = true ∧ subB xs1 p1 q1 = true) ∧ ((¬ (p0 = p1 ∧ q0 = q1) ∧ (P, Q, R, d) = mvBad 2) ∨ ((p0 = p1 ∧ q0 = q1) ∧ P = p0 ∧ Q = q0 ∧ d = 0 ∧ Meet p0 q0.toNat xs0 xs1 R)))
theorem res_SubspaceIntersection_uniq {xs0 xs1 : List (List Int)} {p0 q0 p1 q1 P1 Q1 P2 Q2 d1 d2 : Int} {R1 R2 : List (List Int)} (h : res_SubspaceIntersection xs0 p0 q0 xs1 p1 q1 P1 Q1 R1 d1) (k : res_SubspaceIntersection xs0 p0 q0 xs1 p1 q1 P2 Q2 R2 d2) : P1 = P2 ∧ Q1 = Q2 ∧ R1 = R2 ∧ d1 = d2 := by
  rcases h with ⟨h0, h⟩ | ⟨h0, ⟨h1, h⟩ | ⟨h1, h2, h3, h4, h5⟩⟩ <;> rcases k with ⟨k0, k⟩ | ⟨k0, ⟨k1, k⟩ | ⟨k1, k2, k3, k4, k5⟩⟩
  · exact mv_uniq h k
  · exact absurd k0 h0
  · exact absurd k0 h0
  · exact absurd h0 k0
  · exact mv_uniq h k
  · exact absurd k1 h1
  · exact absurd h0 k0
  · exact absurd h1 k1
  · exact ⟨by rw [h2, k2], by rw [h3, k3], h5.unique k5 (isMx_ok (subB_yes h0.1).1).gp.bd.1, by rw [h4, k4]⟩
theorem res_SubspaceIntersection_small {xs0 xs1 : List (List Int)} {p0 q0 p1 q1 P Q d : Int} {R : List (List Int)} (h : res_SubspaceIntersection xs0 p0 q0 xs1 p1 q1 P Q R d) : R.length ≤ 1048576 ∧ ∀ i, i < R.length → (rw_ R i).length ≤ 1048576 := by
  rcases h with ⟨h0, h⟩ | ⟨h0, ⟨h1, h⟩ | ⟨h1, h2, h3, h4, h5⟩⟩
  · exact mvBad_small h
  · exact mvBad_small h
  · have := (isMx_ok (subB_yes h0.1).1).q8
    obtain ⟨π, hR, _⟩ := h5
    exact (show IsRref p0 q0.toNat R R from ⟨π, hR, SpEq.refl _ _⟩).sm (by omega)
set_option maxRecDepth 20000 in
set_option maxHeartbeats 4000000 in
theorem impl_SubspaceIntersection_any (p0 q0 : Int) (a0 : Option Addr) (n0 c0 : Nat) (xs0 : List (List Int)) (p1 q1 : Int) (a1 : Option Addr) (n1 c1 : Nat) (xs1 : List (List Int)) (w : World) (hp0 : I64 p0) (hq0 : I64 q0) (ha0 : RdR w a0 xs0) (hl0 : xs0.length = n0) (hx0 : ∀ i, i < n0 → (rw_ xs0 i).length ≤ 1048576) (hn0 : n0 ≤ 1048576) (hcp0 : n0 ≤ c0) (hp1 : I64 p1) (hq1 : I64 q1) (ha1 : RdR w a1 xs1) (hl1 : xs1.length = n1) (hx1 : ∀ i, i < n1 → (rw_ xs1 i).length ≤ 1048576) (hn1 : n1 ≤ 1048576) (hcp1 : n1 ≤ c1) :
    Calls Try.prog 8 #[.agg #[.int .i64 p0, .int .i64 q0, .slice a0 n0 c0], .agg #[.int .i64 p1, .int .i64 q1, .slice a1 n1 c1]] w fun e w' => ∃ (P Q : Int) (R : List (List Int)) (d : Int) (a' : Option Addr) (c' : Nat), e = .returned (.tuple #[.agg #[.int .i64 P, .int .i64 Q, .slice a' R.length c'], .int .i64 d]) ∧ res_SubspaceIntersection xs0 p0 q0 xs1 p1 q1 P Q R d ∧ MadeH 2 w' w.heap.size a' R.length c' R ∧ Below w.heap.size w w' := by
  have HP0 := Lib.hid hp0
  have HQ0 := Lib.hid hq0
  have HA0 := Lib.hid ha0
  have HL0 := Lib.hid hl0
  have HX0 := Lib.hid hx0
  clear hp0 hq0 ha0 hl0 hx0
  have HP1 := Lib.hid hp1
  have HQ1 := Lib.hid hq1
  have HA1 := Lib.hid ha1
  have HL1 := Lib.hid hl1
  have HX1 := Lib.hid hx1
  clear hp1 hq1 ha1 hl1 hx1
  by_cases hs0 : subB xs0 p0 q0 = true
  rotate_left
  · have HS0 : Hid (subB xs0 p0 q0 = false) := Lib.hid (by simpa using hs0)
    have HR : Hid (res_SubspaceIntersection xs0 p0 q0 xs1 p1 q1 0 0 [] 1) := Lib.hid (.inl ⟨fun h => hs0 h.1, rfl⟩)
    clear hs0
    go_enter Try.func8, Try.ntmps8
    go_wp2_with fail
    obtain ⟨W, hW⟩ : ∃ W, W = ((w.alloc (.cells #[.int .i64 p0, .int .i64 q0, .slice a0 n0 c0] 26)).alloc (.cells #[.int .i64 p1, .int .i64 q1, .slice a1 n1 c1] 26)).alloc (.cells #[.int .i64 0, .int .i64 0, .slice none 0 0] 26) := ⟨_, rfl⟩
    rw [← hW]
    have X0 : Hid (BX 26 W (w.heap.size) #[.int .i64 p0, .int .i64 q0, .slice a0 n0 c0]) := Lib.hid (by rw [hW]; exact ((BX.new w _ _).alloc _).alloc _)
    have X1 : Hid (BX 26 W (w.heap.size + 1) #[.int .i64 p1, .int .i64 q1, .slice a1 n1 c1]) := Lib.hid (by rw [hW]; exact (BX.newAt (by simp)).alloc _)
    have X2 : Hid (BX 26 W (w.heap.size + 1 + 1) #[.int .i64 0, .int .i64 0, .slice none 0 0]) := Lib.hid (by rw [hW]; exact BX.newAt (by simp))
    have HB0 : Hid (Below w.heap.size w W) := Lib.hid (by rw [hW]; exact (((Below.refl _ _).alloc (Nat.le_refl _) _).alloc (by simp) _).alloc (by simp; omega) _)
    have sW : W.heap.size = w.heap.size + 3 := by rw [hW]; simp
    have HA0w : Hid (RdR W a0 xs0) := Lib.hid (HA0.out.keep HB0.out (Nat.le_refl _))
    have HA1w : Hid (RdR W a1 xs1) := Lib.hid (HA1.out.keep HB0.out (Nat.le_refl _))
    clear hW
    have k0 : W.cell? ⟨w.heap.size, 0, none⟩ = some (.int .i64 p0) := X0.out.cell 0
    have k1 : W.cell? ⟨w.heap.size, 1, none⟩ = some (.int .i64 q0) := X0.out.cell 1
    have k2 : W.cell? ⟨w.heap.size, 2, none⟩ = some (.slice a0 n0 c0) := X0.out.cell 2
    have v0 : W.cell? ⟨w.heap.size + 1, 0, none⟩ = some (.int .i64 p1) := X1.out.cell 0
    have v1 : W.cell? ⟨w.heap.size + 1, 1, none⟩ = some (.int .i64 q1) := X1.out.cell 1
    have v2 : W.cell? ⟨w.heap.size + 1, 2, none⟩ = some (.slice a1 n1 c1) := X1.out.cell 2
    have y0 : W.cell? ⟨w.heap.size + 1 + 1, 0, none⟩ = some (.int .i64 0) := X2.out.cell 0
    have y1 : W.cell? ⟨w.heap.size + 1 + 1, 1, none⟩ = some (.int .i64 0) := X2.out.cell 1
    have y2 : W.cell? ⟨w.heap.size + 1 + 1, 2, none⟩ = some (.slice none 0 0) := X2.out.cell 2
    have f0 := X2.out.frz 0
    have f1 := X2.out.frz 1
    have f2 := X2.out.frz 2
    refine (impl_IsSubspace_any _ _ _ _ _ xs0 _ HP0.out HQ0.out (by exact HA0w.out) HL0.out HX0.out hn0 hcp0).mono ?_
    rintro e w1 ⟨he, hb⟩
    rw [HS0.out] at he
    obtain rfl := he
    clear k0 k1 k2 v0 v1 v2 y0 y1 y2 f0 f1 f2
    have HB1 : Hid (Below w.heap.size w w1) := Lib.hid (HB0.out.trans (hb.mono HB0.out.size))
    replace X0 : Hid (BX 26 w1 (w.heap.size) #[.int .i64 p0, .int .i64 q0, .slice a0 n0 c0]) := Lib.hid (X0.out.keep hb)
    replace X1 : Hid (BX 26 w1 (w.heap.size + 1) #[.int .i64 p1, .int .i64 q1, .slice a1 n1 c1]) := Lib.hid (X1.out.keep hb)
    replace X2 : Hid (BX 26 w1 (w.heap.size + 1 + 1) #[.int .i64 0, .int .i64 0, .slice none 0 0]) := Lib.hid (X2.out.keep hb)
    have s_w1 := hb.size
    replace HA0w : Hid (RdR w1 a0 xs0) := Lib.hid (HA0w.out.keep hb (Nat.le_refl _))
    replace HA1w : Hid (RdR w1 a1 xs1) := Lib.hid (HA1w.out.keep hb (Nat.le_refl _))
    clear hb
    have k0 : w1.cell? ⟨w.heap.size, 0, none⟩ = some (.int .i64 p0) := X0.out.cell 0
    have k1 : w1.cell? ⟨w.heap.size, 1, none⟩ = some (.int .i64 q0) := X0.out.cell 1
    have k2 : w1.cell? ⟨w.heap.size, 2, none⟩ = some (.slice a0 n0 c0) := X0.out.cell 2
    have v0 : w1.cell? ⟨w.heap.size + 1, 0, none⟩ = some (.int .i64 p1) := X1.out.cell 0
    have v1 : w1.cell? ⟨w.heap.size + 1, 1, none⟩ = some (.int .i64 q1) := X1.out.cell 1
    have v2 : w1.cell? ⟨w.heap.size + 1, 2, none⟩ = some (.slice a1 n1 c1) := X1.out.cell 2
    have y0 : w1.cell? ⟨w.heap.size + 1 + 1, 0, none⟩ = some (.int .i64 0) := X2.out.cell 0
    have y1 : w1.cell? ⟨w.heap.size + 1 + 1, 1, none⟩ = some (.int .i64 0) := X2.out.cell 1
    have y2 : w1.cell? ⟨w.heap.size + 1 + 1, 2, none⟩ = some (.slice none 0 0) := X2.out.cell 2
    have f0 := X2.out.frz 0
    have f1 := X2.out.frz 1
    have f2 := X2.out.frz 2
    go_wp2_with fail
    refine bodyPost_ret (v := .tuple #[.agg #[.int .i64 0, .int .i64 0, .slice none 0 0], .int .i64 1]) (by simp [results, Try.results8, go_sem, y0, y1, y2]) rfl ⟨0, 0, [], 1, none, 0, rfl, HR.out, MadeH.none, ?_⟩
    exact (((HB1.out.setCell (by first | (simp; done) | (simp; omega)) _).setCell (by first | (simp; done) | (simp; omega)) _).setCell (by first | (simp; done) | (simp; omega)) _)
  have HS0 := Lib.hid hs0
  by_cases hs1 : subB xs1 p1 q1 = true
  rotate_left
  · have HS1 : Hid (subB xs1 p1 q1 = false) := Lib.hid (by simpa using hs1)
    have HR : Hid (res_SubspaceIntersection xs0 p0 q0 xs1 p1 q1 0 0 [] 1) := Lib.hid (.inl ⟨fun h => hs1 h.2, rfl⟩)
    clear hs0 hs1
    go_enter Try.func8, Try.ntmps8
    go_wp2_with fail
    obtain ⟨W, hW⟩ : ∃ W, W = ((w.alloc (.cells #[.int .i64 p0, .int .i64 q0, .slice a0 n0 c0] 26)).alloc (.cells #[.int .i64 p1, .int .i64 q1, .slice a1 n1 c1] 26)).alloc (.cells #[.int .i64 0, .int .i64 0, .slice none 0 0] 26) := ⟨_, rfl⟩
    rw [← hW]
    have X0 : Hid (BX 26 W (w.heap.size) #[.int .i64 p0, .int .i64 q0, .slice a0 n0 c0]) := Lib.hid (by rw [hW]; exact ((BX.new w _ _).alloc _).alloc _)
    have X1 : Hid (BX 26 W (w.heap.size + 1) #[.int .i64 p1, .int .i64 q1, .slice a1 n1 c1]) := Lib.hid (by rw [hW]; exact (BX.newAt (by simp)).alloc _)
    have X2 : Hid (BX 26 W (w.heap.size + 1 + 1) #[.int .i64 0, .int .i64 0, .slice none 0 0]) := Lib.hid (by rw [hW]; exact BX.newAt (by simp))
    have HB0 : Hid (Below w.heap.size w W) := Lib.hid (by rw [hW]; exact (((Below.refl _ _).alloc (Nat.le_refl _) _).alloc (by simp) _).alloc (by simp; omega) _)
    have sW : W.heap.size = w.heap.size + 3 := by rw [hW]; simp
    have HA0w : Hid (RdR W a0 xs0) := Lib.hid (HA0.out.keep HB0.out (Nat.le_refl _))
    have HA1w : Hid (RdR W a1 xs1) := Lib.hid (HA1.out.keep HB0.out (Nat.le_refl _))
    clear hW
    have k0 : W.cell? ⟨w.heap.size, 0, none⟩ = some (.int .i64 p0) := X0.out.cell 0
    have k1 : W.cell? ⟨w.heap.size, 1, none⟩ = some (.int .i64 q0) := X0.out.cell 1
    have k2 : W.cell? ⟨w.heap.size, 2, none⟩ = some (.slice a0 n0 c0) := X0.out.cell 2
    have v0 : W.cell? ⟨w.heap.size + 1, 0, none⟩ = some (.int .i64 p1) := X1.out.cell 0
    have v1 : W.cell? ⟨w.heap.size + 1, 1, none⟩ = some (.int .i64 q1) := X1.out.cell 1
    have v2 : W.cell? ⟨w.heap.size + 1, 2, none⟩ = some (.slice a1 n1 c1) := X1.out.cell 2
    have y0 : W.cell? ⟨w.heap.size + 1 + 1, 0, none⟩ = some (.int .i64 0) := X2.out.cell 0
    have y1 : W.cell? ⟨w.heap.size + 1 + 1, 1, none⟩ = some (.int .i64 0) := X2.out.cell 1
    have y2 : W.cell? ⟨w.heap.size + 1 + 1, 2, none⟩ = some (.slice none 0 0) := X2.out.cell 2
    have f0 := X2.out.frz 0
    have f1 := X2.out.frz 1
    have f2 := X2.out.frz 2
    refine (impl_IsSubspace_any _ _ _ _ _ xs0 _ HP0.out HQ0.out (by exact HA0w.out) HL0.out HX0.out hn0 hcp0).mono ?_
    rintro e w1 ⟨he, hb⟩
    rw [HS0.out] at he
    obtain rfl := he
    clear k0 k1 k2 v0 v1 v2 y0 y1 y2 f0 f1 f2
    have HB1 : Hid (Below w.heap.size w w1) := Lib.hid (HB0.out.trans (hb.mono HB0.out.size))
    replace X0 : Hid (BX 26 w1 (w.heap.size) #[.int .i64 p0, .int .i64 q0, .slice a0 n0 c0]) := Lib.hid (X0.out.keep hb)
    replace X1 : Hid (BX 26 w1 (w.heap.size + 1) #[.int .i64 p1, .int .i64 q1, .slice a1 n1 c1]) := Lib.hid (X1.out.keep hb)
    replace X2 : Hid (BX 26 w1 (w.heap.size + 1 + 1) #[.int .i64 0, .int .i64 0, .slice none 0 0]) := Lib.hid (X2.out.keep hb)
    have s_w1 := hb.size
    replace HA0w : Hid (RdR w1 a0 xs0) := Lib.hid (HA0w.out.keep hb (Nat.le_refl _))
    replace HA1w : Hid (RdR w1 a1 xs1) := Lib.hid (HA1w.out.keep hb (Nat.le_refl _))
    clear hb
    have k0 : w1.cell? ⟨w.heap.size, 0, none⟩ = some (.int .i64 p0) := X0.out.cell 0
    have k1 : w1.cell? ⟨w.heap.size, 1, none⟩ = some (.int .i64 q0) := X0.out.cell 1
    have k2 : w1.cell? ⟨w.heap.size, 2, none⟩ = some (.slice a0 n0 c0) := X0.out.cell 2
    have v0 : w1.cell? ⟨w.heap.size + 1, 0, none⟩ = some (.int .i64 p1) := X1.out.cell 0
    have v1 : w1.cell? ⟨w.heap.size + 1, 1, none⟩ = some (.int .i64 q1) := X1.out.cell 1
    have v2 : w1.cell? ⟨w.heap.size + 1, 2, none⟩ = some (.slice a1 n1 c1) := X1.out.cell 2
    have y0 : w1.cell? ⟨w.heap.size + 1 + 1, 0, none⟩ = some (.int .i64 0) := X2.out.cell 0
    have y1 : w1.cell? ⟨w.heap.size + 1 + 1, 1, none⟩ = some (.int .i64 0) := X2.out.cell 1
    have y2 : w1.cell? ⟨w.heap.size + 1 + 1, 2, none⟩ = some (.slice none 0 0) := X2.out.cell 2
    have f0 := X2.out.frz 0
    have f1 := X2.out.frz 1
    have f2 := X2.out.frz 2
    go_wp2_with fail
    refine (impl_IsSubspace_any _ _ _ _ _ xs1 _ HP1.out HQ1.out (by exact HA1w.out) HL1.out HX1.out hn1 hcp1).mono ?_
    rintro e w2 ⟨he, hb⟩
    rw [HS1.out] at he
    obtain rfl := he
    clear k0 k1 k2 v0 v1 v2 y0 y1 y2 f0 f1 f2
    have HB2 : Hid (Below w.heap.size w w2) := Lib.hid (HB1.out.trans (hb.mono HB1.out.size))
    replace X0 : Hid (BX 26 w2 (w.heap.size) #[.int .i64 p0, .int .i64 q0, .slice a0 n0 c0]) := Lib.hid (X0.out.keep hb)
    replace X1 : Hid (BX 26 w2 (w.heap.size + 1) #[.int .i64 p1, .int .i64 q1, .slice a1 n1 c1]) := Lib.hid (X1.out.keep hb)
    replace X2 : Hid (BX 26 w2 (w.heap.size + 1 + 1) #[.int .i64 0, .int .i64 0, .slice none 0 0]) := Lib.hid (X2.out.keep hb)
    have s_w2 := hb.size
    replace HA0w : Hid (RdR w2 a0 xs0) := Lib.hid (HA0w.out.keep hb (Nat.le_refl _))
    replace HA1w : Hid (RdR w2 a1 xs1) := Lib.hid (HA1w.out.keep hb (Nat.le_refl _))
    clear hb
    have k0 : w2.cell? ⟨w.heap.size, 0, none⟩ = some (.int .i64 p0) := X0.out.cell 0
    have k1 : w2.cell? ⟨w.heap.size, 1, none⟩ = some (.int .i64 q0) := X0.out.cell 1
    have k2 : w2.cell? ⟨w.heap.size, 2, none⟩ = some (.slice a0 n0 c0) := X0.out.cell 2
    have v0 : w2.cell? ⟨w.heap.size + 1, 0, none⟩ = some (.int .i64 p1) := X1.out.cell 0
    have v1 : w2.cell? ⟨w.heap.size + 1, 1, none⟩ = some (.int .i64 q1) := X1.out.cell 1
    have v2 : w2.cell? ⟨w.heap.size + 1, 2, none⟩ = some (.slice a1 n1 c1) := X1.out.cell 2
    have y0 : w2.cell? ⟨w.heap.size + 1 + 1, 0, none⟩ = some (.int .i64 0) := X2.out.cell 0
    have y1 : w2.cell? ⟨w.heap.size + 1 + 1, 1, none⟩ = some (.int .i64 0) := X2.out.cell 1
    have y2 : w2.cell? ⟨w.heap.size + 1 + 1, 2, none⟩ = some (.slice none 0 0) := X2.out.cell 2
    have f0 := X2.out.frz 0
    have f1 := X2.out.frz 1
    have f2 := X2.out.frz 2
    go_wp2_with fail
    refine bodyPost_ret (v := .tuple #[.agg #[.int .i64 0, .int .i64 0, .slice none 0 0], .int .i64 1]) (by simp [results, Try.results8, go_sem, y0, y1, y2]) rfl ⟨0, 0, [], 1, none, 0, rfl, HR.out, MadeH.none, ?_⟩
    exact (((HB2.out.setCell (by first | (simp; done) | (simp; omega)) _).setCell (by first | (simp; done) | (simp; omega)) _).setCell (by first | (simp; done) | (simp; omega)) _)
  have HS1 := Lib.hid hs1
  have hgo := isMx_ok (subB_yes hs0).1
  have hgo1 := isMx_ok (subB_yes hs1).1
  clear hs0 hs1
  by_cases hpe : p0 = p1
  rotate_left
  · have HR : Hid (res_SubspaceIntersection xs0 p0 q0 xs1 p1 q1 0 0 [] 2) := Lib.hid (.inr ⟨⟨HS0.out, HS1.out⟩, .inl ⟨fun h => hpe h.1, rfl⟩⟩)
    have b1 : (p0 != p1) = true := bne_iff_ne.2 hpe
    have HNE := Lib.hid hpe
    clear hgo hgo1 hpe
    go_enter Try.func8, Try.ntmps8
    go_wp2_with fail
    obtain ⟨W, hW⟩ : ∃ W, W = ((w.alloc (.cells #[.int .i64 p0, .int .i64 q0, .slice a0 n0 c0] 26)).alloc (.cells #[.int .i64 p1, .int .i64 q1, .slice a1 n1 c1] 26)).alloc (.cells #[.int .i64 0, .int .i64 0, .slice none 0 0] 26) := ⟨_, rfl⟩
    rw [← hW]
    have X0 : Hid (BX 26 W (w.heap.size) #[.int .i64 p0, .int .i64 q0, .slice a0 n0 c0]) := Lib.hid (by rw [hW]; exact ((BX.new w _ _).alloc _).alloc _)
    have X1 : Hid (BX 26 W (w.heap.size + 1) #[.int .i64 p1, .int .i64 q1, .slice a1 n1 c1]) := Lib.hid (by rw [hW]; exact (BX.newAt (by simp)).alloc _)
    have X2 : Hid (BX 26 W (w.heap.size + 1 + 1) #[.int .i64 0, .int .i64 0, .slice none 0 0]) := Lib.hid (by rw [hW]; exact BX.newAt (by simp))
    have HB0 : Hid (Below w.heap.size w W) := Lib.hid (by rw [hW]; exact (((Below.refl _ _).alloc (Nat.le_refl _) _).alloc (by simp) _).alloc (by simp; omega) _)
    have sW : W.heap.size = w.heap.size + 3 := by rw [hW]; simp
    have HA0w : Hid (RdR W a0 xs0) := Lib.hid (HA0.out.keep HB0.out (Nat.le_refl _))
    have HA1w : Hid (RdR W a1 xs1) := Lib.hid (HA1.out.keep HB0.out (Nat.le_refl _))
    clear hW
    have k0 : W.cell? ⟨w.heap.size, 0, none⟩ = some (.int .i64 p0) := X0.out.cell 0
    have k1 : W.cell? ⟨w.heap.size, 1, none⟩ = some (.int .i64 q0) := X0.out.cell 1
    have k2 : W.cell? ⟨w.heap.size, 2, none⟩ = some (.slice a0 n0 c0) := X0.out.cell 2
    have v0 : W.cell? ⟨w.heap.size + 1, 0, none⟩ = some (.int .i64 p1) := X1.out.cell 0
    have v1 : W.cell? ⟨w.heap.size + 1, 1, none⟩ = some (.int .i64 q1) := X1.out.cell 1
    have v2 : W.cell? ⟨w.heap.size + 1, 2, none⟩ = some (.slice a1 n1 c1) := X1.out.cell 2
    have y0 : W.cell? ⟨w.heap.size + 1 + 1, 0, none⟩ = some (.int .i64 0) := X2.out.cell 0
    have y1 : W.cell? ⟨w.heap.size + 1 + 1, 1, none⟩ = some (.int .i64 0) := X2.out.cell 1
    have y2 : W.cell? ⟨w.heap.size + 1 + 1, 2, none⟩ = some (.slice none 0 0) := X2.out.cell 2
    have f0 := X2.out.frz 0
    have f1 := X2.out.frz 1
    have f2 := X2.out.frz 2
    refine (impl_IsSubspace_any _ _ _ _ _ xs0 _ HP0.out HQ0.out (by exact HA0w.out) HL0.out HX0.out hn0 hcp0).mono ?_
    rintro e w1 ⟨he, hb⟩
    rw [HS0.out] at he
    obtain rfl := he
    clear k0 k1 k2 v0 v1 v2 y0 y1 y2 f0 f1 f2
    have HB1 : Hid (Below w.heap.size w w1) := Lib.hid (HB0.out.trans (hb.mono HB0.out.size))
    replace X0 : Hid (BX 26 w1 (w.heap.size) #[.int .i64 p0, .int .i64 q0, .slice a0 n0 c0]) := Lib.hid (X0.out.keep hb)
    replace X1 : Hid (BX 26 w1 (w.heap.size + 1) #[.int .i64 p1, .int .i64 q1, .slice a1 n1 c1]) := Lib.hid (X1.out.keep hb)
    replace X2 : Hid (BX 26 w1 (w.heap.size + 1 + 1) #[.int .i64 0, .int .i64 0, .slice none 0 0]) := Lib.hid (X2.out.keep hb)
    have s_w1 := hb.size
    replace HA0w : Hid (RdR w1 a0 xs0) := Lib.hid (HA0w.out.keep hb (Nat.le_refl _))
    replace HA1w : Hid (RdR w1 a1 xs1) := Lib.hid (HA1w.out.keep hb (Nat.le_refl _))
    clear hb
    have k0 : w1.cell? ⟨w.heap.size, 0, none⟩ = some (.int .i64 p0) := X0.out.cell 0
    have k1 : w1.cell? ⟨w.heap.size, 1, none⟩ = some (.int .i64 q0) := X0.out.cell 1
    have k2 : w1.cell? ⟨w.heap.size, 2, none⟩ = some (.slice a0 n0 c0) := X0.out.cell 2
    have v0 : w1.cell? ⟨w.heap.size + 1, 0, none⟩ = some (.int .i64 p1) := X1.out.cell 0
    have v1 : w1.cell? ⟨w.heap.size + 1, 1, none⟩ = some (.int .i64 q1) := X1.out.cell 1
    have v2 : w1.cell? ⟨w.heap.size + 1, 2, none⟩ = some (.slice a1 n1 c1) := X1.out.cell 2
    have y0 : w1.cell? ⟨w.heap.size + 1 + 1, 0, none⟩ = some (.int .i64 0) := X2.out.cell 0
    have y1 : w1.cell? ⟨w.heap.size + 1 + 1, 1, none⟩ = some (.int .i64 0) := X2.out.cell 1
    have y2 : w1.cell? ⟨w.heap.size + 1 + 1, 2, none⟩ = some (.slice none 0 0) := X2.out.cell 2
    have f0 := X2.out.frz 0
    have f1 := X2.out.frz 1
    have f2 := X2.out.frz 2
    go_wp2_with fail
    refine (impl_IsSubspace_any _ _ _ _ _ xs1 _ HP1.out HQ1.out (by exact HA1w.out) HL1.out HX1.out hn1 hcp1).mono ?_
    rintro e w2 ⟨he, hb⟩
    rw [HS1.out] at he
    obtain rfl := he
    clear k0 k1 k2 v0 v1 v2 y0 y1 y2 f0 f1 f2
    have HB2 : Hid (Below w.heap.size w w2) := Lib.hid (HB1.out.trans (hb.mono HB1.out.size))
    replace X0 : Hid (BX 26 w2 (w.heap.size) #[.int .i64 p0, .int .i64 q0, .slice a0 n0 c0]) := Lib.hid (X0.out.keep hb)
    replace X1 : Hid (BX 26 w2 (w.heap.size + 1) #[.int .i64 p1, .int .i64 q1, .slice a1 n1 c1]) := Lib.hid (X1.out.keep hb)
    replace X2 : Hid (BX 26 w2 (w.heap.size + 1 + 1) #[.int .i64 0, .int .i64 0, .slice none 0 0]) := Lib.hid (X2.out.keep hb)
    have s_w2 := hb.size
    replace HA0w : Hid (RdR w2 a0 xs0) := Lib.hid (HA0w.out.keep hb (Nat.le_refl _))
    replace HA1w : Hid (RdR w2 a1 xs1) := Lib.hid (HA1w.out.keep hb (Nat.le_refl _))
    clear hb
    have k0 : w2.cell? ⟨w.heap.size, 0, none⟩ = some (.int .i64 p0) := X0.out.cell 0
    have k1 : w2.cell? ⟨w.heap.size, 1, none⟩ = some (.int .i64 q0) := X0.out.cell 1
    have k2 : w2.cell? ⟨w.heap.size, 2, none⟩ = some (.slice a0 n0 c0) := X0.out.cell 2
    have v0 : w2.cell? ⟨w.heap.size + 1, 0, none⟩ = some (.int .i64 p1) := X1.out.cell 0
    have v1 : w2.cell? ⟨w.heap.size + 1, 1, none⟩ = some (.int .i64 q1) := X1.out.cell 1
    have v2 : w2.cell? ⟨w.heap.size + 1, 2, none⟩ = some (.slice a1 n1 c1) := X1.out.cell 2
    have y0 : w2.cell? ⟨w.heap.size + 1 + 1, 0, none⟩ = some (.int .i64 0) := X2.out.cell 0
    have y1 : w2.cell? ⟨w.heap.size + 1 + 1, 1, none⟩ = some (.int .i64 0) := X2.out.cell 1
    have y2 : w2.cell? ⟨w.heap.size + 1 + 1, 2, none⟩ = some (.slice none 0 0) := X2.out.cell 2
    have f0 := X2.out.frz 0
    have f1 := X2.out.frz 1
    have f2 := X2.out.frz 2
    go_wp2_with fail
    refine bodyPost_ret (v := .tuple #[.agg #[.int .i64 0, .int .i64 0, .slice none 0 0], .int .i64 2]) (by simp [results, Try.results8, go_sem, y0, y1, y2]) rfl ⟨0, 0, [], 2, none, 0, rfl, HR.out, MadeH.none, ?_⟩
    exact (((HB2.out.setCell (by first | (simp; done) | (simp; omega)) _).setCell (by first | (simp; done) | (simp; omega)) _).setCell (by first | (simp; done) | (simp; omega)) _)
  subst hpe
  by_cases hqe : q0 = q1
  rotate_left
  · have HR : Hid (res_SubspaceIntersection xs0 p0 q0 xs1 p0 q1 0 0 [] 2) := Lib.hid (.inr ⟨⟨HS0.out, HS1.out⟩, .inl ⟨fun h => hqe h.2, rfl⟩⟩)
    have b1 : (p0 != p0) = false := by simp
    have b2 : (q0 != q1) = true := bne_iff_ne.2 hqe
    have HNE := Lib.hid hqe
    clear hgo hgo1 hqe
    go_enter Try.func8, Try.ntmps8
    go_wp2_with fail
    obtain ⟨W, hW⟩ : ∃ W, W = ((w.alloc (.cells #[.int .i64 p0, .int .i64 q0, .slice a0 n0 c0] 26)).alloc (.cells #[.int .i64 p0, .int .i64 q1, .slice a1 n1 c1] 26)).alloc (.cells #[.int .i64 0, .int .i64 0, .slice none 0 0] 26) := ⟨_, rfl⟩
    rw [← hW]
    have X0 : Hid (BX 26 W (w.heap.size) #[.int .i64 p0, .int .i64 q0, .slice a0 n0 c0]) := Lib.hid (by rw [hW]; exact ((BX.new w _ _).alloc _).alloc _)
    have X1 : Hid (BX 26 W (w.heap.size + 1) #[.int .i64 p0, .int .i64 q1, .slice a1 n1 c1]) := Lib.hid (by rw [hW]; exact (BX.newAt (by simp)).alloc _)
    have X2 : Hid (BX 26 W (w.heap.size + 1 + 1) #[.int .i64 0, .int .i64 0, .slice none 0 0]) := Lib.hid (by rw [hW]; exact BX.newAt (by simp))
    have HB0 : Hid (Below w.heap.size w W) := Lib.hid (by rw [hW]; exact (((Below.refl _ _).alloc (Nat.le_refl _) _).alloc (by simp) _).alloc (by simp; omega) _)
    have sW : W.heap.size = w.heap.size + 3 := by rw [hW]; simp
    have HA0w : Hid (RdR W a0 xs0) := Lib.hid (HA0.out.keep HB0.out (Nat.le_refl _))
    have HA1w : Hid (RdR W a1 xs1) := Lib.hid (HA1.out.keep HB0.out (Nat.le_refl _))
    clear hW
    have k0 : W.cell? ⟨w.heap.size, 0, none⟩ = some (.int .i64 p0) := X0.out.cell 0
    have k1 : W.cell? ⟨w.heap.size, 1, none⟩ = some (.int .i64 q0) := X0.out.cell 1
    have k2 : W.cell? ⟨w.heap.size, 2, none⟩ = some (.slice a0 n0 c0) := X0.out.cell 2
    have v0 : W.cell? ⟨w.heap.size + 1, 0, none⟩ = some (.int .i64 p0) := X1.out.cell 0
    have v1 : W.cell? ⟨w.heap.size + 1, 1, none⟩ = some (.int .i64 q1) := X1.out.cell 1
    have v2 : W.cell? ⟨w.heap.size + 1, 2, none⟩ = some (.slice a1 n1 c1) := X1.out.cell 2
    have y0 : W.cell? ⟨w.heap.size + 1 + 1, 0, none⟩ = some (.int .i64 0) := X2.out.cell 0
    have y1 : W.cell? ⟨w.heap.size + 1 + 1, 1, none⟩ = some (.int .i64 0) := X2.out.cell 1
    have y2 : W.cell? ⟨w.heap.size + 1 + 1, 2, none⟩ = some (.slice none 0 0) := X2.out.cell 2
    have f0 := X2.out.frz 0
    have f1 := X2.out.frz 1
    have f2 := X2.out.frz 2
    refine (impl_IsSubspace_any _ _ _ _ _ xs0 _ HP0.out HQ0.out (by exact HA0w.out) HL0.out HX0.out hn0 hcp0).mono ?_
    rintro e w1 ⟨he, hb⟩
    rw [HS0.out] at he
    obtain rfl := he
    clear k0 k1 k2 v0 v1 v2 y0 y1 y2 f0 f1 f2
    have HB1 : Hid (Below w.heap.size w w1) := Lib.hid (HB0.out.trans (hb.mono HB0.out.size))
    replace X0 : Hid (BX 26 w1 (w.heap.size) #[.int .i64 p0, .int .i64 q0, .slice a0 n0 c0]) := Lib.hid (X0.out.keep hb)
    replace X1 : Hid (BX 26 w1 (w.heap.size + 1) #[.int .i64 p0, .int .i64 q1, .slice a1 n1 c1]) := Lib.hid (X1.out.keep hb)
    replace X2 : Hid (BX 26 w1 (w.heap.size + 1 + 1) #[.int .i64 0, .int .i64 0, .slice none 0 0]) := Lib.hid (X2.out.keep hb)
    have s_w1 := hb.size
    replace HA0w : Hid (RdR w1 a0 xs0) := Lib.hid (HA0w.out.keep hb (Nat.le_refl _))
    replace HA1w : Hid (RdR w1 a1 xs1) := Lib.hid (HA1w.out.keep hb (Nat.le_refl _))
    clear hb
    have k0 : w1.cell? ⟨w.heap.size, 0, none⟩ = some (.int .i64 p0) := X0.out.cell 0
    have k1 : w1.cell? ⟨w.heap.size, 1, none⟩ = some (.int .i64 q0) := X0.out.cell 1
    have k2 : w1.cell? ⟨w.heap.size, 2, none⟩ = some (.slice a0 n0 c0) := X0.out.cell 2
    have v0 : w1.cell? ⟨w.heap.size + 1, 0, none⟩ = some (.int .i64 p0) := X1.out.cell 0
    have v1 : w1.cell? ⟨w.heap.size + 1, 1, none⟩ = some (.int .i64 q1) := X1.out.cell 1
    have v2 : w1.cell? ⟨w.heap.size + 1, 2, none⟩ = some (.slice a1 n1 c1) := X1.out.cell 2
    have y0 : w1.cell? ⟨w.heap.size + 1 + 1, 0, none⟩ = some (.int .i64 0) := X2.out.cell 0
    have y1 : w1.cell? ⟨w.heap.size + 1 + 1, 1, none⟩ = some (.int .i64 0) := X2.out.cell 1
    have y2 : w1.cell? ⟨w.heap.size + 1 + 1, 2, none⟩ = some (.slice none 0 0) := X2.out.cell 2
    have f0 := X2.out.frz 0
    have f1 := X2.out.frz 1
    have f2 := X2.out.frz 2
    go_wp2_with fail
    refine (impl_IsSubspace_any _ _ _ _ _ xs1 _ HP1.out HQ1.out (by exact HA1w.out) HL1.out HX1.out hn1 hcp1).mono ?_
    rintro e w2 ⟨he, hb⟩
    rw [HS1.out] at he
    obtain rfl := he
    clear k0 k1 k2 v0 v1 v2 y0 y1 y2 f0 f1 f2
    have HB2 : Hid (Below w.heap.size w w2) := Lib.hid (HB1.out.trans (hb.mono HB1.out.size))
    replace X0 : Hid (BX 26 w2 (w.heap.size) #[.int .i64 p0, .int .i64 q0, .slice a0 n0 c0]) := Lib.hid (X0.out.keep hb)
    replace X1 : Hid (BX 26 w2 (w.heap.size + 1) #[.int .i64 p0, .int .i64 q1, .slice a1 n1 c1]) := Lib.hid (X1.out.keep hb)
    replace X2 : Hid (BX 26 w2 (w.heap.size + 1 + 1) #[.int .i64 0, .int .i64 0, .slice none 0 0]) := Lib.hid (X2.out.keep hb)
    have s_w2 := hb.size
    replace HA0w : Hid (RdR w2 a0 xs0) := Lib.hid (HA0w.out.keep hb (Nat.le_refl _))
    replace HA1w : Hid (RdR w2 a1 xs1) := Lib.hid (HA1w.out.keep hb (Nat.le_refl _))
    clear hb
    have k0 : w2.cell? ⟨w.heap.size, 0, none⟩ = some (.int .i64 p0) := X0.out.cell 0
    have k1 : w2.cell? ⟨w.heap.size, 1, none⟩ = some (.int .i64 q0) := X0.out.cell 1
    have k2 : w2.cell? ⟨w.heap.size, 2, none⟩ = some (.slice a0 n0 c0) := X0.out.cell 2
    have v0 : w2.cell? ⟨w.heap.size + 1, 0, none⟩ = some (.int .i64 p0) := X1.out.cell 0
    have v1 : w2.cell? ⟨w.heap.size + 1, 1, none⟩ = some (.int .i64 q1) := X1.out.cell 1
    have v2 : w2.cell? ⟨w.heap.size + 1, 2, none⟩ = some (.slice a1 n1 c1) := X1.out.cell 2
    have y0 : w2.cell? ⟨w.heap.size + 1 + 1, 0, none⟩ = some (.int .i64 0) := X2.out.cell 0
    have y1 : w2.cell? ⟨w.heap.size + 1 + 1, 1, none⟩ = some (.int .i64 0) := X2.out.cell 1
    have y2 : w2.cell? ⟨w.heap.size + 1 + 1, 2, none⟩ = some (.slice none 0 0) := X2.out.cell 2
    have f0 := X2.out.frz 0
    have f1 := X2.out.frz 1
    have f2 := X2.out.frz 2
    go_wp2_with fail
    refine bodyPost_ret (v := .tuple #[.agg #[.int .i64 0, .int .i64 0, .slice none 0 0], .int .i64 2]) (by simp [results, Try.results8, go_sem, y0, y1, y2]) rfl ⟨0, 0, [], 2, none, 0, rfl, HR.out, MadeH.none, ?_⟩
    exact (((HB2.out.setCell (by first | (simp; done) | (simp; omega)) _).setCell (by first | (simp; done) | (simp; omega)) _).setCell (by first | (simp; done) | (simp; omega)) _)
  subst hqe
  have q8 := hgo.q8
  have qq0 := hgo.q0
  have hl8 := hgo.len
  have hl81 := hgo1.len
  rw [HL0.out] at hl8
  rw [HL1.out] at hl81
  obtain ⟨m, rfl⟩ : ∃ m : Nat, q0 = m := ⟨q0.toNat, by omega⟩
  have HP := Lib.hid hgo.gp
  have HW0 : Hid (Rws p0 m xs0) := Lib.hid hgo.rws
  have HW1 : Hid (Rws p0 m xs1) := Lib.hid hgo1.rws
  have b1 : (p0 != p0) = false := by simp
  have b2 : ((m : Int) != (m : Int)) = false := by simp
  clear hgo hgo1
  go_enter Try.func8, Try.ntmps8
  go_wp2_with fail
  obtain ⟨W, hW⟩ : ∃ W, W = ((w.alloc (.cells #[.int .i64 p0, .int .i64 m, .slice a0 n0 c0] 26)).alloc (.cells #[.int .i64 p0, .int .i64 m, .slice a1 n1 c1] 26)).alloc (.cells #[.int .i64 0, .int .i64 0, .slice none 0 0] 26) := ⟨_, rfl⟩
  rw [← hW]
  have X0 : Hid (BX 26 W (w.heap.size) #[.int .i64 p0, .int .i64 m, .slice a0 n0 c0]) := Lib.hid (by rw [hW]; exact ((BX.new w _ _).alloc _).alloc _)
  have X1 : Hid (BX 26 W (w.heap.size + 1) #[.int .i64 p0, .int .i64 m, .slice a1 n1 c1]) := Lib.hid (by rw [hW]; exact (BX.newAt (by simp)).alloc _)
  have X2 : Hid (BX 26 W (w.heap.size + 1 + 1) #[.int .i64 0, .int .i64 0, .slice none 0 0]) := Lib.hid (by rw [hW]; exact BX.newAt (by simp))
  have HB0 : Hid (Below w.heap.size w W) := Lib.hid (by rw [hW]; exact (((Below.refl _ _).alloc (Nat.le_refl _) _).alloc (by simp) _).alloc (by simp; omega) _)
  have sW : W.heap.size = w.heap.size + 3 := by rw [hW]; simp
  have HA0w : Hid (RdR W a0 xs0) := Lib.hid (HA0.out.keep HB0.out (Nat.le_refl _))
  have HA1w : Hid (RdR W a1 xs1) := Lib.hid (HA1.out.keep HB0.out (Nat.le_refl _))
  clear hW
  have k0 : W.cell? ⟨w.heap.size, 0, none⟩ = some (.int .i64 p0) := X0.out.cell 0
  have k1 : W.cell? ⟨w.heap.size, 1, none⟩ = some (.int .i64 m) := X0.out.cell 1
  have k2 : W.cell? ⟨w.heap.size, 2, none⟩ = some (.slice a0 n0 c0) := X0.out.cell 2
  have v0 : W.cell? ⟨w.heap.size + 1, 0, none⟩ = some (.int .i64 p0) := X1.out.cell 0
  have v1 : W.cell? ⟨w.heap.size + 1, 1, none⟩ = some (.int .i64 m) := X1.out.cell 1
  have v2 : W.cell? ⟨w.heap.size + 1, 2, none⟩ = some (.slice a1 n1 c1) := X1.out.cell 2
  have y0 : W.cell? ⟨w.heap.size + 1 + 1, 0, none⟩ = some (.int .i64 0) := X2.out.cell 0
  have y1 : W.cell? ⟨w.heap.size + 1 + 1, 1, none⟩ = some (.int .i64 0) := X2.out.cell 1
  have y2 : W.cell? ⟨w.heap.size + 1 + 1, 2, none⟩ = some (.slice none 0 0) := X2.out.cell 2
  have f0 := X2.out.frz 0
  have f1 := X2.out.frz 1
  have f2 := X2.out.frz 2
  refine (impl_IsSubspace_any _ _ _ _ _ xs0 _ HP0.out HQ0.out (by exact HA0w.out) HL0.out HX0.out hn0 hcp0).mono ?_
  rintro e w1 ⟨he, hb⟩
  rw [HS0.out] at he
  obtain rfl := he
  clear k0 k1 k2 v0 v1 v2 y0 y1 y2 f0 f1 f2
  have HB1 : Hid (Below w.heap.size w w1) := Lib.hid (HB0.out.trans (hb.mono HB0.out.size))
  replace X0 : Hid (BX 26 w1 (w.heap.size) #[.int .i64 p0, .int .i64 m, .slice a0 n0 c0]) := Lib.hid (X0.out.keep hb)
  replace X1 : Hid (BX 26 w1 (w.heap.size + 1) #[.int .i64 p0, .int .i64 m, .slice a1 n1 c1]) := Lib.hid (X1.out.keep hb)
  replace X2 : Hid (BX 26 w1 (w.heap.size + 1 + 1) #[.int .i64 0, .int .i64 0, .slice none 0 0]) := Lib.hid (X2.out.keep hb)
  have s_w1 := hb.size
  replace HA0w : Hid (RdR w1 a0 xs0) := Lib.hid (HA0w.out.keep hb (Nat.le_refl _))
  replace HA1w : Hid (RdR w1 a1 xs1) := Lib.hid (HA1w.out.keep hb (Nat.le_refl _))
  clear hb
  have k0 : w1.cell? ⟨w.heap.size, 0, none⟩ = some (.int .i64 p0) := X0.out.cell 0
  have k1 : w1.cell? ⟨w.heap.size, 1, none⟩ = some (.int .i64 m) := X0.out.cell 1
  have k2 : w1.cell? ⟨w.heap.size, 2, none⟩ = some (.slice a0 n0 c0) := X0.out.cell 2
  have v0 : w1.cell? ⟨w.heap.size + 1, 0, none⟩ = some (.int .i64 p0) := X1.out.cell 0
  have v1 : w1.cell? ⟨w.heap.size + 1, 1, none⟩ = some (.int .i64 m) := X1.out.cell 1
  have v2 : w1.cell? ⟨w.heap.size + 1, 2, none⟩ = some (.slice a1 n1 c1) := X1.out.cell 2
  have y0 : w1.cell? ⟨w.heap.size + 1 + 1, 0, none⟩ = some (.int .i64 0) := X2.out.cell 0
  have y1 : w1.cell? ⟨w.heap.size + 1 + 1, 1, none⟩ = some (.int .i64 0) := X2.out.cell 1
  have y2 : w1.cell? ⟨w.heap.size + 1 + 1, 2, none⟩ = some (.slice none 0 0) := X2.out.cell 2
  have f0 := X2.out.frz 0
  have f1 := X2.out.frz 1
  have f2 := X2.out.frz 2
  go_wp2_with fail
  refine (impl_IsSubspace_any _ _ _ _ _ xs1 _ HP1.out HQ1.out (by exact HA1w.out) HL1.out HX1.out hn1 hcp1).mono ?_
  rintro e w2 ⟨he, hb⟩
  rw [HS1.out] at he
  obtain rfl := he
  clear k0 k1 k2 v0 v1 v2 y0 y1 y2 f0 f1 f2
  have HB2 : Hid (Below w.heap.size w w2) := Lib.hid (HB1.out.trans (hb.mono HB1.out.size))
  replace X0 : Hid (BX 26 w2 (w.heap.size) #[.int .i64 p0, .int .i64 m, .slice a0 n0 c0]) := Lib.hid (X0.out.keep hb)
  replace X1 : Hid (BX 26 w2 (w.heap.size + 1) #[.int .i64 p0, .int .i64 m, .slice a1 n1 c1]) := Lib.hid (X1.out.keep hb)
  replace X2 : Hid (BX 26 w2 (w.heap.size + 1 + 1) #[.int .i64 0, .int .i64 0, .slice none 0 0]) := Lib.hid (X2.out.keep hb)
  have s_w2 := hb.size
  replace HA0w : Hid (RdR w2 a0 xs0) := Lib.hid (HA0w.out.keep hb (Nat.le_refl _))
  replace HA1w : Hid (RdR w2 a1 xs1) := Lib.hid (HA1w.out.keep hb (Nat.le_refl _))
  clear hb
  have k0 : w2.cell? ⟨w.heap.size, 0, none⟩ = some (.int .i64 p0) := X0.out.cell 0
  have k1 : w2.cell? ⟨w.heap.size, 1, none⟩ = some (.int .i64 m) := X0.out.cell 1
  have k2 : w2.cell? ⟨w.heap.size, 2, none⟩ = some (.slice a0 n0 c0) := X0.out.cell 2
  have v0 : w2.cell? ⟨w.heap.size + 1, 0, none⟩ = some (.int .i64 p0) := X1.out.cell 0
  have v1 : w2.cell? ⟨w.heap.size + 1, 1, none⟩ = some (.int .i64 m) := X1.out.cell 1
  have v2 : w2.cell? ⟨w.heap.size + 1, 2, none⟩ = some (.slice a1 n1 c1) := X1.out.cell 2
  have y0 : w2.cell? ⟨w.heap.size + 1 + 1, 0, none⟩ = some (.int .i64 0) := X2.out.cell 0
  have y1 : w2.cell? ⟨w.heap.size + 1 + 1, 1, none⟩ = some (.int .i64 0) := X2.out.cell 1
  have y2 : w2.cell? ⟨w.heap.size + 1 + 1, 2, none⟩ = some (.slice none 0 0) := X2.out.cell 2
  have f0 := X2.out.frz 0
  have f1 := X2.out.frz 1
  have f2 := X2.out.frz 2
  go_wp2_with fail
  obtain ⟨πu, hRu, _⟩ := (subB_yes HS0.out).2
  obtain ⟨πv, hRv, _⟩ := (subB_yes HS1.out).2
  rw [Int.toNat_natCast] at hRu hRv
  have HRu := Lib.hid hRu
  have HRv := Lib.hid hRv
  have hp2 : 2 ≤ p0 := HP.out.bd.1
  clear hRu hRv
  go_region_held3 (fun w' => w'.cell? ⟨w.heap.size, 0, none⟩ = some (.int .i64 p0) ∧ w'.cell? ⟨w.heap.size, 1, none⟩ = some (.int .i64 m) ∧ w'.cell? ⟨w.heap.size, 2, none⟩ = some (.slice a0 n0 c0) ∧ w'.cell? ⟨w.heap.size + 1, 0, none⟩ = some (.int .i64 p0) ∧ w'.cell? ⟨w.heap.size + 1, 1, none⟩ = some (.int .i64 m) ∧ w'.cell? ⟨w.heap.size + 1, 2, none⟩ = some (.slice a1 n1 c1)) (first | ((try dsimp only); (refine ⟨?_, ?_, ?_, ?_, ?_, ?_⟩) <;> first | with_reducible assumption | (rw [cell_ne (by first | (simp; done) | (simp; omega) | omega), cell_ne (by first | (simp; done) | (simp; omega) | omega), cell_ne (by first | (simp; done) | (simp; omega) | omega)]; with_reducible assumption) | (rw [cell_al (by first | (simp; done) | (simp; omega) | omega)]; with_reducible assumption)) | go_keep)
    (first
      | (go_at_call 23; (with_reducible refine (annihilator_any p0 HP.out m a0 n0 c0 xs0 _ ?_ HL0.out HW0.out (by omega) (by omega)).mono ?_); exact (show RdR w2 a0 xs0 from HA0w.out); rintro e u1 ⟨Nu, b1, d1, rfl, hnr, ho, hb0⟩; have hb : Below w2.heap.size w2 u1 := ⟨hb0.os, hb0.tape, hb0.output, hb0.size, hb0.block⟩; have X05 : Hid (BX 26 u1 (w.heap.size) #[.int .i64 p0, .int .i64 m, .slice a0 n0 c0]) := Lib.hid (X0.out.keep hb); have X15 : Hid (BX 26 u1 (w.heap.size + 1) #[.int .i64 p0, .int .i64 m, .slice a1 n1 c1]) := Lib.hid (X1.out.keep hb); have X25 : Hid (BX 26 u1 (w.heap.size + 1 + 1) #[.int .i64 0, .int .i64 0, .slice none 0 0]) := Lib.hid (X2.out.keep hb); have k05 : u1.cell? ⟨w.heap.size, 0, none⟩ = some (.int .i64 p0) := X05.out.cell 0; have k15 : u1.cell? ⟨w.heap.size, 1, none⟩ = some (.int .i64 m) := X05.out.cell 1; have k25 : u1.cell? ⟨w.heap.size, 2, none⟩ = some (.slice a0 n0 c0) := X05.out.cell 2; have v05 : u1.cell? ⟨w.heap.size + 1, 0, none⟩ = some (.int .i64 p0) := X15.out.cell 0; have v15 : u1.cell? ⟨w.heap.size + 1, 1, none⟩ = some (.int .i64 m) := X15.out.cell 1; have v25 : u1.cell? ⟨w.heap.size + 1, 2, none⟩ = some (.slice a1 n1 c1) := X15.out.cell 2; have y05 : u1.cell? ⟨w.heap.size + 1 + 1, 0, none⟩ = some (.int .i64 0) := X25.out.cell 0; have y15 : u1.cell? ⟨w.heap.size + 1 + 1, 1, none⟩ = some (.int .i64 0) := X25.out.cell 1; have y25 : u1.cell? ⟨w.heap.size + 1 + 1, 2, none⟩ = some (.slice none 0 0) := X25.out.cell 2; have f05 := X25.out.frz 0; have f15 := X25.out.frz 1; have f25 := X25.out.frz 2; have HNu := Lib.hid hnr; have HOu := Lib.hid ho.rd; have HA1u : Hid (RdR u1 a1 xs1) := Lib.hid (HA1w.out.keep hb (Nat.le_refl _)); have HB1u := Lib.hid hb; have su1 := hb.size; clear ho hb hb0 hnr)
      | (go_at_call 23; (with_reducible refine (annihilator_any p0 HP.out m a1 n1 c1 xs1 _ ?_ HL1.out HW1.out (by omega) (by omega)).mono ?_); exact (show RdR u1 a1 xs1 from HA1u.out); rintro e u2 ⟨Nv, b2, d2, rfl, hnr, ho, hb0⟩; have hb : Below u1.heap.size u1 u2 := ⟨hb0.os, hb0.tape, hb0.output, hb0.size, hb0.block⟩; have X06 : Hid (BX 26 u2 (w.heap.size) #[.int .i64 p0, .int .i64 m, .slice a0 n0 c0]) := Lib.hid (X05.out.keep hb); have X16 : Hid (BX 26 u2 (w.heap.size + 1) #[.int .i64 p0, .int .i64 m, .slice a1 n1 c1]) := Lib.hid (X15.out.keep hb); have X26 : Hid (BX 26 u2 (w.heap.size + 1 + 1) #[.int .i64 0, .int .i64 0, .slice none 0 0]) := Lib.hid (X25.out.keep hb); have k06 : u2.cell? ⟨w.heap.size, 0, none⟩ = some (.int .i64 p0) := X06.out.cell 0; have k16 : u2.cell? ⟨w.heap.size, 1, none⟩ = some (.int .i64 m) := X06.out.cell 1; have k26 : u2.cell? ⟨w.heap.size, 2, none⟩ = some (.slice a0 n0 c0) := X06.out.cell 2; have v06 : u2.cell? ⟨w.heap.size + 1, 0, none⟩ = some (.int .i64 p0) := X16.out.cell 0; have v16 : u2.cell? ⟨w.heap.size + 1, 1, none⟩ = some (.int .i64 m) := X16.out.cell 1; have v26 : u2.cell? ⟨w.heap.size + 1, 2, none⟩ = some (.slice a1 n1 c1) := X16.out.cell 2; have y06 : u2.cell? ⟨w.heap.size + 1 + 1, 0, none⟩ = some (.int .i64 0) := X26.out.cell 0; have y16 : u2.cell? ⟨w.heap.size + 1 + 1, 1, none⟩ = some (.int .i64 0) := X26.out.cell 1; have y26 : u2.cell? ⟨w.heap.size + 1 + 1, 2, none⟩ = some (.slice none 0 0) := X26.out.cell 2; have f06 := X26.out.frz 0; have f16 := X26.out.frz 1; have f26 := X26.out.frz 2; have HNv := Lib.hid hnr; have HOv := Lib.hid ho.rd; have HOu2 : Hid (RdR u2 b1 Nu) := Lib.hid (HOu.out.keep hb (Nat.le_refl _)); have HB2u : Hid (Below w2.heap.size w2 u2) := Lib.hid (HB1u.out.trans (hb.mono su1)); have su2 := HB2u.out.size; have hlu := HNu.out.rref.len; have hlv := hnr.rref.len; rw [colsR_len] at hlu hlv; have HWu : Hid (Rws p0 m Nu) := Lib.hid (by have h := HNu.out.rref; rw [colsR_len] at h; exact ⟨h.row, h.rng⟩); have HWv : Hid (Rws p0 m Nv) := Lib.hid (by have h := hnr.rref; rw [colsR_len] at h; exact ⟨h.row, h.rng⟩); clear ho hb hb0 hnr)
      | (go_at_call 22; (with_reducible refine (spaceSum_any p0 HP.out m b1 b2 Nu.length d1 Nv.length d2 Nu Nv _ ?_ ?_ rfl rfl HWu.out HWv.out (by omega) (by omega) (by omega)).mono ?_); exact HOu2.out; exact HOv.out; rintro e u3 ⟨S, b3, d3, rfl, hss, ho, hb0⟩; have hb : Below u2.heap.size u2 u3 := ⟨hb0.os, hb0.tape, hb0.output, hb0.size, hb0.block⟩; have HB3u : Hid (Below w2.heap.size w2 u3) := Lib.hid (HB2u.out.trans (hb.mono su2)); have X07 : Hid (BX 26 u3 (w.heap.size) #[.int .i64 p0, .int .i64 m, .slice a0 n0 c0]) := Lib.hid (X0.out.keep HB3u.out); have X17 : Hid (BX 26 u3 (w.heap.size + 1) #[.int .i64 p0, .int .i64 m, .slice a1 n1 c1]) := Lib.hid (X1.out.keep HB3u.out); have X27 : Hid (BX 26 u3 (w.heap.size + 1 + 1) #[.int .i64 0, .int .i64 0, .slice none 0 0]) := Lib.hid (X2.out.keep HB3u.out); have k07 : u3.cell? ⟨w.heap.size, 0, none⟩ = some (.int .i64 p0) := X07.out.cell 0; have k17 : u3.cell? ⟨w.heap.size, 1, none⟩ = some (.int .i64 m) := X07.out.cell 1; have k27 : u3.cell? ⟨w.heap.size, 2, none⟩ = some (.slice a0 n0 c0) := X07.out.cell 2; have v07 : u3.cell? ⟨w.heap.size + 1, 0, none⟩ = some (.int .i64 p0) := X17.out.cell 0; have v17 : u3.cell? ⟨w.heap.size + 1, 1, none⟩ = some (.int .i64 m) := X17.out.cell 1; have v27 : u3.cell? ⟨w.heap.size + 1, 2, none⟩ = some (.slice a1 n1 c1) := X17.out.cell 2; have y07 : u3.cell? ⟨w.heap.size + 1 + 1, 0, none⟩ = some (.int .i64 0) := X27.out.cell 0; have y17 : u3.cell? ⟨w.heap.size + 1 + 1, 1, none⟩ = some (.int .i64 0) := X27.out.cell 1; have y27 : u3.cell? ⟨w.heap.size + 1 + 1, 2, none⟩ = some (.slice none 0 0) := X27.out.cell 2; have f07 := X27.out.frz 0; have f17 := X27.out.frz 1; have f27 := X27.out.frz 2; have HSS := Lib.hid hss; have HOS := Lib.hid ho.rd; have su3 := HB3u.out.size; have hlS := hss.len; have HWS : Hid (Rws p0 m S) := Lib.hid ⟨hss.row, hss.rng⟩; clear ho hb hb0 hss)
      | (go_at_call 23; (with_reducible refine (annihilator_any p0 HP.out m b3 S.length d3 S _ ?_ rfl HWS.out (by omega) (by omega)).mono ?_); exact HOS.out; rintro e u4 ⟨R, a', c', rfl, hnr, ho, hb0⟩; have hb : Below u3.heap.size u3 u4 := ⟨hb0.os, hb0.tape, hb0.output, hb0.size, hb0.block⟩; have HB4u : Hid (Below w2.heap.size w2 u4) := Lib.hid (HB3u.out.trans (hb.mono su3)); have X08 : Hid (BX 26 u4 (w.heap.size) #[.int .i64 p0, .int .i64 m, .slice a0 n0 c0]) := Lib.hid (X0.out.keep HB4u.out); have X18 : Hid (BX 26 u4 (w.heap.size + 1) #[.int .i64 p0, .int .i64 m, .slice a1 n1 c1]) := Lib.hid (X1.out.keep HB4u.out); have X28 : Hid (BX 26 u4 (w.heap.size + 1 + 1) #[.int .i64 0, .int .i64 0, .slice none 0 0]) := Lib.hid (X2.out.keep HB4u.out); have k08 : u4.cell? ⟨w.heap.size, 0, none⟩ = some (.int .i64 p0) := X08.out.cell 0; have k18 : u4.cell? ⟨w.heap.size, 1, none⟩ = some (.int .i64 m) := X08.out.cell 1; have k28 : u4.cell? ⟨w.heap.size, 2, none⟩ = some (.slice a0 n0 c0) := X08.out.cell 2; have v08 : u4.cell? ⟨w.heap.size + 1, 0, none⟩ = some (.int .i64 p0) := X18.out.cell 0; have v18 : u4.cell? ⟨w.heap.size + 1, 1, none⟩ = some (.int .i64 m) := X18.out.cell 1; have v28 : u4.cell? ⟨w.heap.size + 1, 2, none⟩ = some (.slice a1 n1 c1) := X18.out.cell 2; have y08 : u4.cell? ⟨w.heap.size + 1 + 1, 0, none⟩ = some (.int .i64 0) := X28.out.cell 0; have y18 : u4.cell? ⟨w.heap.size + 1 + 1, 1, none⟩ = some (.int .i64 0) := X28.out.cell 1; have y28 : u4.cell? ⟨w.heap.size + 1 + 1, 2, none⟩ = some (.slice none 0 0) := X28.out.cell 2; have f08 := X28.out.frz 0; have f18 := X28.out.frz 1; have f28 := X28.out.frz 2; have HNR := Lib.hid hnr; have HO := Lib.hid ho; clear ho hb hb0 hnr))
  have HM : Hid (Meet p0 m xs0 xs1 R) := Lib.hid (meet_ann hp2 HRu.out HRv.out (by rw [HL0.out]; exact HNu.out) (by rw [HL1.out]; exact HNv.out) HSS.out HNR.out)
  have HB9 : Hid (Below w.heap.size w u4) := Lib.hid (HB2.out.trans (HB4u.out.mono HB2.out.size))
  have s9 := HB2.out.size
  have HR : Hid (res_SubspaceIntersection xs0 p0 m xs1 p0 m p0 m R 0) := Lib.hid (.inr ⟨⟨HS0.out, HS1.out⟩, .inr ⟨⟨rfl, rfl⟩, rfl, rfl, rfl, by rw [Int.toNat_natCast]; exact HM.out⟩⟩)
  go_wp2_with fail
  refine bodyPost_ret (v := .tuple #[.agg #[.int .i64 (p0), .int .i64 (m), .slice a' R.length c'], .int .i64 0]) (by simp [results, Try.results8, go_sem, y08, y18, y28]) rfl ⟨p0, m, R, 0, a', c', rfl, HR.out, ?_, ?_⟩
  · refine MadeH.mono (B := u3.heap.size) ?_ (by omega)
    exact (((HO.out).setLow _ (by first | (simp; done) | (simp; omega)) _).setLow _ (by first | (simp; done) | (simp; omega)) _).setLow _ (by first | (simp; done) | (simp; omega)) _
  · exact (((HB9.out.setCell (by first | (simp; done) | (simp; omega)) _).setCell (by first | (simp; done) | (simp; omega)) _).setCell (by first | (simp; done) | (simp; omega)) _)
set_option maxRecDepth 20000 in
set_option maxHeartbeats 4000000 in
theorem spec_SubspaceIntersection_any (p0 q0 : Int) (a0 : Option Addr) (n0 c0 : Nat) (xs0 : List (List Int)) (p1 q1 : Int) (a1 : Option Addr) (n1 c1 : Nat) (xs1 : List (List Int)) (w : World) (hp0 : I64 p0) (hq0 : I64 q0) (ha0 : RdR w a0 xs0) (hl0 : xs0.length = n0) (hx0 : ∀ i, i < n0 → (rw_ xs0 i).length ≤ 1048576) (hn0 : n0 ≤ 1048576) (hcp0 : n0 ≤ c0) (hp1 : I64 p1) (hq1 : I64 q1) (ha1 : RdR w a1 xs1) (hl1 : xs1.length = n1) (hx1 : ∀ i, i < n1 → (rw_ xs1 i).length ≤ 1048576) (hn1 : n1 ≤ 1048576) (hcp1 : n1 ≤ c1) :
    Calls Try.prog 9 #[.agg #[.int .i64 p0, .int .i64 q0, .slice a0 n0 c0], .agg #[.int .i64 p1, .int .i64 q1, .slice a1 n1 c1]] w fun e w' => ∃ (P Q : Int) (R : List (List Int)) (d : Int) (a' : Option Addr) (c' : Nat), e = .returned (.tuple #[.agg #[.int .i64 P, .int .i64 Q, .slice a' R.length c'], .int .i64 d]) ∧ res_SubspaceIntersection xs0 p0 q0 xs1 p1 q1 P Q R d ∧ MadeH 2 w' w.heap.size a' R.length c' R ∧ Below w.heap.size w w' := by
  have HP0 := Lib.hid hp0
  have HQ0 := Lib.hid hq0
  have HA0 := Lib.hid ha0
  have HL0 := Lib.hid hl0
  have HX0 := Lib.hid hx0
  clear hp0 hq0 ha0 hl0 hx0
  have HP1 := Lib.hid hp1
  have HQ1 := Lib.hid hq1
  have HA1 := Lib.hid ha1
  have HL1 := Lib.hid hl1
  have HX1 := Lib.hid hx1
  clear hp1 hq1 ha1 hl1 hx1
  by_cases hs0 : subB xs0 p0 q0 = true
  rotate_left
  · have HS0 : Hid (subB xs0 p0 q0 = false) := Lib.hid (by simpa using hs0)
    have HR : Hid (res_SubspaceIntersection xs0 p0 q0 xs1 p1 q1 0 0 [] 1) := Lib.hid (.inl ⟨fun h => hs0 h.1, rfl⟩)
    clear hs0
    go_enter Try.func9, Try.ntmps9
    go_wp2_with fail
    obtain ⟨W, hW⟩ : ∃ W, W = ((w.alloc (.cells #[.int .i64 p0, .int .i64 q0, .slice a0 n0 c0] 26)).alloc (.cells #[.int .i64 p1, .int .i64 q1, .slice a1 n1 c1] 26)).alloc (.cells #[.int .i64 0, .int .i64 0, .slice none 0 0] 26) := ⟨_, rfl⟩
    rw [← hW]
    have X0 : Hid (BX 26 W (w.heap.size) #[.int .i64 p0, .int .i64 q0, .slice a0 n0 c0]) := Lib.hid (by rw [hW]; exact ((BX.new w _ _).alloc _).alloc _)
    have X1 : Hid (BX 26 W (w.heap.size + 1) #[.int .i64 p1, .int .i64 q1, .slice a1 n1 c1]) := Lib.hid (by rw [hW]; exact (BX.newAt (by simp)).alloc _)
    have X2 : Hid (BX 26 W (w.heap.size + 1 + 1) #[.int .i64 0, .int .i64 0, .slice none 0 0]) := Lib.hid (by rw [hW]; exact BX.newAt (by simp))
    have HB0 : Hid (Below w.heap.size w W) := Lib.hid (by rw [hW]; exact (((Below.refl _ _).alloc (Nat.le_refl _) _).alloc (by simp) _).alloc (by simp; omega) _)
    have sW : W.heap.size = w.heap.size + 3 := by rw [hW]; simp
    have HA0w : Hid (RdR W a0 xs0) := Lib.hid (HA0.out.keep HB0.out (Nat.le_refl _))
    have HA1w : Hid (RdR W a1 xs1) := Lib.hid (HA1.out.keep HB0.out (Nat.le_refl _))
    clear hW
    have k0 : W.cell? ⟨w.heap.size, 0, none⟩ = some (.int .i64 p0) := X0.out.cell 0
    have k1 : W.cell? ⟨w.heap.size, 1, none⟩ = some (.int .i64 q0) := X0.out.cell 1
    have k2 : W.cell? ⟨w.heap.size, 2, none⟩ = some (.slice a0 n0 c0) := X0.out.cell 2
    have v0 : W.cell? ⟨w.heap.size + 1, 0, none⟩ = some (.int .i64 p1) := X1.out.cell 0
    have v1 : W.cell? ⟨w.heap.size + 1, 1, none⟩ = some (.int .i64 q1) := X1.out.cell 1
    have v2 : W.cell? ⟨w.heap.size + 1, 2, none⟩ = some (.slice a1 n1 c1) := X1.out.cell 2
    have y0 : W.cell? ⟨w.heap.size + 1 + 1, 0, none⟩ = some (.int .i64 0) := X2.out.cell 0
    have y1 : W.cell? ⟨w.heap.size + 1 + 1, 1, none⟩ = some (.int .i64 0) := X2.out.cell 1
    have y2 : W.cell? ⟨w.heap.size + 1 + 1, 2, none⟩ = some (.slice none 0 0) := X2.out.cell 2
    have f0 := X2.out.frz 0
    have f1 := X2.out.frz 1
    have f2 := X2.out.frz 2
    refine (spec_IsSubspace_any _ _ _ _ _ xs0 _ HP0.out HQ0.out (by exact HA0w.out) HL0.out HX0.out hn0 hcp0).mono ?_
    rintro e w1 ⟨he, hb⟩
    rw [HS0.out] at he
    obtain rfl := he
    clear k0 k1 k2 v0 v1 v2 y0 y1 y2 f0 f1 f2
    have HB1 : Hid (Below w.heap.size w w1) := Lib.hid (HB0.out.trans (hb.mono HB0.out.size))
    replace X0 : Hid (BX 26 w1 (w.heap.size) #[.int .i64 p0, .int .i64 q0, .slice a0 n0 c0]) := Lib.hid (X0.out.keep hb)
    replace X1 : Hid (BX 26 w1 (w.heap.size + 1) #[.int .i64 p1, .int .i64 q1, .slice a1 n1 c1]) := Lib.hid (X1.out.keep hb)
    replace X2 : Hid (BX 26 w1 (w.heap.size + 1 + 1) #[.int .i64 0, .int .i64 0, .slice none 0 0]) := Lib.hid (X2.out.keep hb)
    have s_w1 := hb.size
    replace HA0w : Hid (RdR w1 a0 xs0) := Lib.hid (HA0w.out.keep hb (Nat.le_refl _))
    replace HA1w : Hid (RdR w1 a1 xs1) := Lib.hid (HA1w.out.keep hb (Nat.le_refl _))
    clear hb
    have k0 : w1.cell? ⟨w.heap.size, 0, none⟩ = some (.int .i64 p0) := X0.out.cell 0
    have k1 : w1.cell? ⟨w.heap.size, 1, none⟩ = some (.int .i64 q0) := X0.out.cell 1
    have k2 : w1.cell? ⟨w.heap.size, 2, none⟩ = some (.slice a0 n0 c0) := X0.out.cell 2
    have v0 : w1.cell? ⟨w.heap.size + 1, 0, none⟩ = some (.int .i64 p1) := X1.out.cell 0
    have v1 : w1.cell? ⟨w.heap.size + 1, 1, none⟩ = some (.int .i64 q1) := X1.out.cell 1
    have v2 : w1.cell? ⟨w.heap.size + 1, 2, none⟩ = some (.slice a1 n1 c1) := X1.out.cell 2
    have y0 : w1.cell? ⟨w.heap.size + 1 + 1, 0, none⟩ = some (.int .i64 0) := X2.out.cell 0
    have y1 : w1.cell? ⟨w.heap.size + 1 + 1, 1, none⟩ = some (.int .i64 0) := X2.out.cell 1
    have y2 : w1.cell? ⟨w.heap.size + 1 + 1, 2, none⟩ = some (.slice none 0 0) := X2.out.cell 2
    have f0 := X2.out.frz 0
    have f1 := X2.out.frz 1
    have f2 := X2.out.frz 2
    go_wp2_with fail
    refine bodyPost_ret (v := .tuple #[.agg #[.int .i64 0, .int .i64 0, .slice none 0 0], .int .i64 1]) (by simp [results, Try.results9, go_sem, y0, y1, y2]) rfl ⟨0, 0, [], 1, none, 0, rfl, HR.out, MadeH.none, ?_⟩
    exact (((HB1.out.setCell (by first | (simp; done) | (simp; omega)) _).setCell (by first | (simp; done) | (simp; omega)) _).setCell (by first | (simp; done) | (simp; omega)) _)
  have HS0 := Lib.hid hs0
  by_cases hs1 : subB xs1 p1 q1 = true
  rotate_left
  · have HS1 : Hid (subB xs1 p1 q1 = false) := Lib.hid (by simpa using hs1)
    have HR : Hid (res_SubspaceIntersection xs0 p0 q0 xs1 p1 q1 0 0 [] 1) := Lib.hid (.inl ⟨fun h => hs1 h.2, rfl⟩)
    clear hs0 hs1
    go_enter Try.func9, Try.ntmps9
    go_wp2_with fail
    obtain ⟨W, hW⟩ : ∃ W, W = ((w.alloc (.cells #[.int .i64 p0, .int .i64 q0, .slice a0 n0 c0] 26)).alloc (.cells #[.int .i64 p1, .int .i64 q1, .slice a1 n1 c1] 26)).alloc (.cells #[.int .i64 0, .int .i64 0, .slice none 0 0] 26) := ⟨_, rfl⟩
    rw [← hW]
    have X0 : Hid (BX 26 W (w.heap.size) #[.int .i64 p0, .int .i64 q0, .slice a0 n0 c0]) := Lib.hid (by rw [hW]; exact ((BX.new w _ _).alloc _).alloc _)
    have X1 : Hid (BX 26 W (w.heap.size + 1) #[.int .i64 p1, .int .i64 q1, .slice a1 n1 c1]) := Lib.hid (by rw [hW]; exact (BX.newAt (by simp)).alloc _)
    have X2 : Hid (BX 26 W (w.heap.size + 1 + 1) #[.int .i64 0, .int .i64 0, .slice none 0 0]) := Lib.hid (by rw [hW]; exact BX.newAt (by simp))
    have HB0 : Hid (Below w.heap.size w W) := Lib.hid (by rw [hW]; exact (((Below.refl _ _).alloc (Nat.le_refl _) _).alloc (by simp) _).alloc (by simp; omega) _)
    have sW : W.heap.size = w.heap.size + 3 := by rw [hW]; simp
    have HA0w : Hid (RdR W a0 xs0) := Lib.hid (HA0.out.keep HB0.out (Nat.le_refl _))
    have HA1w : Hid (RdR W a1 xs1) := Lib.hid (HA1.out.keep HB0.out (Nat.le_refl _))
    clear hW
    have k0 : W.cell? ⟨w.heap.size, 0, none⟩ = some (.int .i64 p0) := X0.out.cell 0
    have k1 : W.cell? ⟨w.heap.size, 1, none⟩ = some (.int .i64 q0) := X0.out.cell 1
    have k2 : W.cell? ⟨w.heap.size, 2, none⟩ = some (.slice a0 n0 c0) := X0.out.cell 2
    have v0 : W.cell? ⟨w.heap.size + 1, 0, none⟩ = some (.int .i64 p1) := X1.out.cell 0
    have v1 : W.cell? ⟨w.heap.size + 1, 1, none⟩ = some (.int .i64 q1) := X1.out.cell 1
    have v2 : W.cell? ⟨w.heap.size + 1, 2, none⟩ = some (.slice a1 n1 c1) := X1.out.cell 2
    have y0 : W.cell? ⟨w.heap.size + 1 + 1, 0, none⟩ = some (.int .i64 0) := X2.out.cell 0
    have y1 : W.cell? ⟨w.heap.size + 1 + 1, 1, none⟩ = some (.int .i64 0) := X2.out.cell 1
    have y2 : W.cell? ⟨w.heap.size + 1 + 1, 2, none⟩ = some (.slice none 0 0) := X2.out.cell 2
    have f0 := X2.out.frz 0
    have f1 := X2.out.frz 1
    have f2 := X2.out.frz 2
    refine (spec_IsSubspace_any _ _ _ _ _ xs0 _ HP0.out HQ0.out (by exact HA0w.out) HL0.out HX0.out hn0 hcp0).mono ?_
    rintro e w1 ⟨he, hb⟩
    rw [HS0.out] at he
    obtain rfl := he
    clear k0 k1 k2 v0 v1 v2 y0 y1 y2 f0 f1 f2
    have HB1 : Hid (Below w.heap.size w w1) := Lib.hid (HB0.out.trans (hb.mono HB0.out.size))
    replace X0 : Hid (BX 26 w1 (w.heap.size) #[.int .i64 p0, .int .i64 q0, .slice a0 n0 c0]) := Lib.hid (X0.out.keep hb)
    replace X1 : Hid (BX 26 w1 (w.heap.size + 1) #[.int .i64 p1, .int .i64 q1, .slice a1 n1 c1]) := Lib.hid (X1.out.keep hb)
    replace X2 : Hid (BX 26 w1 (w.heap.size + 1 + 1) #[.int .i64 0, .int .i64 0, .slice none 0 0]) := Lib.hid (X2.out.keep hb)
    have s_w1 := hb.size
    replace HA0w : Hid (RdR w1 a0 xs0) := Lib.hid (HA0w.out.keep hb (Nat.le_refl _))
    replace HA1w : Hid (RdR w1 a1 xs1) := Lib.hid (HA1w.out.keep hb (Nat.le_refl _))
    clear hb
    have k0 : w1.cell? ⟨w.heap.size, 0, none⟩ = some (.int .i64 p0) := X0.out.cell 0
    have k1 : w1.cell? ⟨w.heap.size, 1, none⟩ = some (.int .i64 q0) := X0.out.cell 1
    have k2 : w1.cell? ⟨w.heap.size, 2, none⟩ = some (.slice a0 n0 c0) := X0.out.cell 2
    have v0 : w1.cell? ⟨w.heap.size + 1, 0, none⟩ = some (.int .i64 p1) := X1.out.cell 0
    have v1 : w1.cell? ⟨w.heap.size + 1, 1, none⟩ = some (.int .i64 q1) := X1.out.cell 1
    have v2 : w1.cell? ⟨w.heap.size + 1, 2, none⟩ = some (.slice a1 n1 c1) := X1.out.cell 2
    have y0 : w1.cell? ⟨w.heap.size + 1 + 1, 0, none⟩ = some (.int .i64 0) := X2.out.cell 0
    have y1 : w1.cell? ⟨w.heap.size + 1 + 1, 1, none⟩ = some (.int .i64 0) := X2.out.cell 1
    have y2 : w1.cell? ⟨w.heap.size + 1 + 1, 2, none⟩ = some (.slice none 0 0) := X2.out.cell 2
    have f0 := X2.out.frz 0
    have f1 := X2.out.frz 1
    have f2 := X2.out.frz 2
    go_wp2_with fail
    refine (spec_IsSubspace_any _ _ _ _ _ xs1 _ HP1.out HQ1.out (by exact HA1w.out) HL1.out HX1.out hn1 hcp1).mono ?_
    rintro e w2 ⟨he, hb⟩
    rw [HS1.out] at he
    obtain rfl := he
    clear k0 k1 k2 v0 v1 v2 y0 y1 y2 f0 f1 f2
    have HB2 : Hid (Below w.heap.size w w2) := Lib.hid (HB1.out.trans (hb.mono HB1.out.size))
    replace X0 : Hid (BX 26 w2 (w.heap.size) #[.int .i64 p0, .int .i64 q0, .slice a0 n0 c0]) := Lib.hid (X0.out.keep hb)
    replace X1 : Hid (BX 26 w2 (w.heap.size + 1) #[.int .i64 p1, .int .i64 q1, .slice a1 n1 c1]) := Lib.hid (X1.out.keep hb)
    replace X2 : Hid (BX 26 w2 (w.heap.size + 1 + 1) #[.int .i64 0, .int .i64 0, .slice none 0 0]) := Lib.hid (X2.out.keep hb)
    have s_w2 := hb.size
    replace HA0w : Hid (RdR w2 a0 xs0) := Lib.hid (HA0w.out.keep hb (Nat.le_refl _))
    replace HA1w : Hid (RdR w2 a1 xs1) := Lib.hid (HA1w.out.keep hb (Nat.le_refl _))
    clear hb
    have k0 : w2.cell? ⟨w.heap.size, 0, none⟩ = some (.int .i64 p0) := X0.out.cell 0
    have k1 : w2.cell? ⟨w.heap.size, 1, none⟩ = some (.int .i64 q0) := X0.out.cell 1
    have k2 : w2.cell? ⟨w.heap.size, 2, none⟩ = some (.slice a0 n0 c0) := X0.out.cell 2
    have v0 : w2.cell? ⟨w.heap.size + 1, 0, none⟩ = some (.int .i64 p1) := X1.out.cell 0
    have v1 : w2.cell? ⟨w.heap.size + 1, 1, none⟩ = some (.int .i64 q1) := X1.out.cell 1
    have v2 : w2.cell? ⟨w.heap.size + 1, 2, none⟩ = some (.slice a1 n1 c1) := X1.out.cell 2
    have y0 : w2.cell? ⟨w.heap.size + 1 + 1, 0, none⟩ = some (.int .i64 0) := X2.out.cell 0
    have y1 : w2.cell? ⟨w.heap.size + 1 + 1, 1, none⟩ = some (.int .i64 0) := X2.out.cell 1
    have y2 : w2.cell? ⟨w.heap.size + 1 + 1, 2, none⟩ = some (.slice none 0 0) := X2.out.cell 2
    have f0 := X2.out.frz 0
    have f1 := X2.out.frz 1
    have f2 := X2.out.frz 2
    go_wp2_with fail
    refine bodyPost_ret (v := .tuple #[.agg #[.int .i64 0, .int .i64 0, .slice none 0 0], .int .i64 1]) (by simp [results, Try.results9, go_sem, y0, y1, y2]) rfl ⟨0, 0, [], 1, none, 0, rfl, HR.out, MadeH.none, ?_⟩
    exact (((HB2.out.setCell (by first | (simp; done) | (simp; omega)) _).setCell (by first | (simp; done) | (simp; omega)) _).setCell (by first | (simp; done) | (simp; omega)) _)
  have HS1 := Lib.hid hs1
  have hgo := isMx_ok (subB_yes hs0).1
  have hgo1 := isMx_ok (subB_yes hs1).1
  clear hs0 hs1
  by_cases hpe : p0 = p1
  rotate_left
  · have HR : Hid (res_SubspaceIntersection xs0 p0 q0 xs1 p1 q1 0 0 [] 2) := Lib.hid (.inr ⟨⟨HS0.out, HS1.out⟩, .inl ⟨fun h => hpe h.1, rfl⟩⟩)
    have b1 : (p0 != p1) = true := bne_iff_ne.2 hpe
    have HNE := Lib.hid hpe
    clear hgo hgo1 hpe
    go_enter Try.func9, Try.ntmps9
    go_wp2_with fail
    obtain ⟨W, hW⟩ : ∃ W, W = ((w.alloc (.cells #[.int .i64 p0, .int .i64 q0, .slice a0 n0 c0] 26)).alloc (.cells #[.int .i64 p1, .int .i64 q1, .slice a1 n1 c1] 26)).alloc (.cells #[.int .i64 0, .int .i64 0, .slice none 0 0] 26) := ⟨_, rfl⟩
    rw [← hW]
    have X0 : Hid (BX 26 W (w.heap.size) #[.int .i64 p0, .int .i64 q0, .slice a0 n0 c0]) := Lib.hid (by rw [hW]; exact ((BX.new w _ _).alloc _).alloc _)
    have X1 : Hid (BX 26 W (w.heap.size + 1) #[.int .i64 p1, .int .i64 q1, .slice a1 n1 c1]) := Lib.hid (by rw [hW]; exact (BX.newAt (by simp)).alloc _)
    have X2 : Hid (BX 26 W (w.heap.size + 1 + 1) #[.int .i64 0, .int .i64 0, .slice none 0 0]) := Lib.hid (by rw [hW]; exact BX.newAt (by simp))
    have HB0 : Hid (Below w.heap.size w W) := Lib.hid (by rw [hW]; exact (((Below.refl _ _).alloc (Nat.le_refl _) _).alloc (by simp) _).alloc (by simp; omega) _)
    have sW : W.heap.size = w.heap.size + 3 := by rw [hW]; simp
    have HA0w : Hid (RdR W a0 xs0) := Lib.hid (HA0.out.keep HB0.out (Nat.le_refl _))
    have HA1w : Hid (RdR W a1 xs1) := Lib.hid (HA1.out.keep HB0.out (Nat.le_refl _))
    clear hW
    have k0 : W.cell? ⟨w.heap.size, 0, none⟩ = some (.int .i64 p0) := X0.out.cell 0
    have k1 : W.cell? ⟨w.heap.size, 1, none⟩ = some (.int .i64 q0) := X0.out.cell 1
    have k2 : W.cell? ⟨w.heap.size, 2, none⟩ = some (.slice a0 n0 c0) := X0.out.cell 2
    have v0 : W.cell? ⟨w.heap.size + 1, 0, none⟩ = some (.int .i64 p1) := X1.out.cell 0
    have v1 : W.cell? ⟨w.heap.size + 1, 1, none⟩ = some (.int .i64 q1) := X1.out.cell 1
    have v2 : W.cell? ⟨w.heap.size + 1, 2, none⟩ = some (.slice a1 n1 c1) := X1.out.cell 2
    have y0 : W.cell? ⟨w.heap.size + 1 + 1, 0, none⟩ = some (.int .i64 0) := X2.out.cell 0
    have y1 : W.cell? ⟨w.heap.size + 1 + 1, 1, none⟩ = some (.int .i64 0) := X2.out.cell 1
    have y2 : W.cell? ⟨w.heap.size + 1 + 1, 2, none⟩ = some (.slice none 0 0) := X2.out.cell 2
    have f0 := X2.out.frz 0
    have f1 := X2.out.frz 1
    have f2 := X2.out.frz 2
    refine (spec_IsSubspace_any _ _ _ _ _ xs0 _ HP0.out HQ0.out (by exact HA0w.out) HL0.out HX0.out hn0 hcp0).mono ?_
    rintro e w1 ⟨he, hb⟩
    rw [HS0.out] at he
    obtain rfl := he
    clear k0 k1 k2 v0 v1 v2 y0 y1 y2 f0 f1 f2
    have HB1 : Hid (Below w.heap.size w w1) := Lib.hid (HB0.out.trans (hb.mono HB0.out.size))
    replace X0 : Hid (BX 26 w1 (w.heap.size) #[.int .i64 p0, .int .i64 q0, .slice a0 n0 c0]) := Lib.hid (X0.out.keep hb)
    replace X1 : Hid (BX 26 w1 (w.heap.size + 1) #[.int .i64 p1, .int .i64 q1, .slice a1 n1 c1]) := Lib.hid (X1.out.keep hb)
    replace X2 : Hid (BX 26 w1 (w.heap.size + 1 + 1) #[.int .i64 0, .int .i64 0, .slice none 0 0]) := Lib.hid (X2.out.keep hb)
    have s_w1 := hb.size
    replace HA0w : Hid (RdR w1 a0 xs0) := Lib.hid (HA0w.out.keep hb (Nat.le_refl _))
    replace HA1w : Hid (RdR w1 a1 xs1) := Lib.hid (HA1w.out.keep hb (Nat.le_refl _))
    clear hb
    have k0 : w1.cell? ⟨w.heap.size, 0, none⟩ = some (.int .i64 p0) := X0.out.cell 0
    have k1 : w1.cell? ⟨w.heap.size, 1, none⟩ = some (.int .i64 q0) := X0.out.cell 1
    have k2 : w1.cell? ⟨w.heap.size, 2, none⟩ = some (.slice a0 n0 c0) := X0.out.cell 2
    have v0 : w1.cell? ⟨w.heap.size + 1, 0, none⟩ = some (.int .i64 p1) := X1.out.cell 0
    have v1 : w1.cell? ⟨w.heap.size + 1, 1, none⟩ = some (.int .i64 q1) := X1.out.cell 1
    have v2 : w1.cell? ⟨w.heap.size + 1, 2, none⟩ = some (.slice a1 n1 c1) := X1.out.cell 2
    have y0 : w1.cell? ⟨w.heap.size + 1 + 1, 0, none⟩ = some (.int .i64 0) := X2.out.cell 0
    have y1 : w1.cell? ⟨w.heap.size + 1 + 1, 1, none⟩ = some (.int .i64 0) := X2.out.cell 1
    have y2 : w1.cell? ⟨w.heap.size + 1 + 1, 2, none⟩ = some (.slice none 0 0) := X2.out.cell 2
    have f0 := X2.out.frz 0
    have f1 := X2.out.frz 1
    have f2 := X2.out.frz 2
    go_wp2_with fail
    refine (spec_IsSubspace_any _ _ _ _ _ xs1 _ HP1.out HQ1.out (by exact HA1w.out) HL1.out HX1.out hn1 hcp1).mono ?_
    rintro e w2 ⟨he, hb⟩
    rw [HS1.out] at he
    obtain rfl := he
    clear k0 k1 k2 v0 v1 v2 y0 y1 y2 f0 f1 f2
    have HB2 : Hid (Below w.heap.size w w2) := Lib.hid (HB1.out.trans (hb.mono HB1.out.size))
    replace X0 : Hid (BX 26 w2 (w.heap.size) #[.int .i64 p0, .int .i64 q0, .slice a0 n0 c0]) := Lib.hid (X0.out.keep hb)
    replace X1 : Hid (BX 26 w2 (w.heap.size + 1) #[.int .i64 p1, .int .i64 q1, .slice a1 n1 c1]) := Lib.hid (X1.out.keep hb)
    replace X2 : Hid (BX 26 w2 (w.heap.size + 1 + 1) #[.int .i64 0, .int .i64 0, .slice none 0 0]) := Lib.hid (X2.out.keep hb)
    have s_w2 := hb.size
    replace HA0w : Hid (RdR w2 a0 xs0) := Lib.hid (HA0w.out.keep hb (Nat.le_refl _))
    replace HA1w : Hid (RdR w2 a1 xs1) := Lib.hid (HA1w.out.keep hb (Nat.le_refl _))
    clear hb
    have k0 : w2.cell? ⟨w.heap.size, 0, none⟩ = some (.int .i64 p0) := X0.out.cell 0
    have k1 : w2.cell? ⟨w.heap.size, 1, none⟩ = some (.int .i64 q0) := X0.out.cell 1
    have k2 : w2.cell? ⟨w.heap.size, 2, none⟩ = some (.slice a0 n0 c0) := X0.out.cell 2
    have v0 : w2.cell? ⟨w.heap.size + 1, 0, none⟩ = some (.int .i64 p1) := X1.out.cell 0
    have v1 : w2.cell? ⟨w.heap.size + 1, 1, none⟩ = some (.int .i64 q1) := X1.out.cell 1
    have v2 : w2.cell? ⟨w.heap.size + 1, 2, none⟩ = some (.slice a1 n1 c1) := X1.out.cell 2
    have y0 : w2.cell? ⟨w.heap.size + 1 + 1, 0, none⟩ = some (.int .i64 0) := X2.out.cell 0
    have y1 : w2.cell? ⟨w.heap.size + 1 + 1, 1, none⟩ = some (.int .i64 0) := X2.out.cell 1
    have y2 : w2.cell? ⟨w.heap.size + 1 + 1, 2, none⟩ = some (.slice none 0 0) := X2.out.cell 2
    have f0 := X2.out.frz 0
    have f1 := X2.out.frz 1
    have f2 := X2.out.frz 2
    go_wp2_with fail
    refine (l03Fit_any _ _ _ _ _ _ _ _ _ _ _).mono ?_
    rintro e w3 ⟨he, hb⟩
    rw [show (p0 == p1 && q0 == q1) = false from by simp [HNE.out]] at he
    obtain rfl := he
    clear k0 k1 k2 v0 v1 v2 y0 y1 y2 f0 f1 f2
    have HB3 : Hid (Below w.heap.size w w3) := Lib.hid (HB2.out.trans (hb.mono HB2.out.size))
    replace X0 : Hid (BX 26 w3 (w.heap.size) #[.int .i64 p0, .int .i64 q0, .slice a0 n0 c0]) := Lib.hid (X0.out.keep hb)
    replace X1 : Hid (BX 26 w3 (w.heap.size + 1) #[.int .i64 p1, .int .i64 q1, .slice a1 n1 c1]) := Lib.hid (X1.out.keep hb)
    replace X2 : Hid (BX 26 w3 (w.heap.size + 1 + 1) #[.int .i64 0, .int .i64 0, .slice none 0 0]) := Lib.hid (X2.out.keep hb)
    have s_w3 := hb.size
    replace HA0w : Hid (RdR w3 a0 xs0) := Lib.hid (HA0w.out.keep hb (Nat.le_refl _))
    replace HA1w : Hid (RdR w3 a1 xs1) := Lib.hid (HA1w.out.keep hb (Nat.le_refl _))
    clear hb
    have k0 : w3.cell? ⟨w.heap.size, 0, none⟩ = some (.int .i64 p0) := X0.out.cell 0
    have k1 : w3.cell? ⟨w.heap.size, 1, none⟩ = some (.int .i64 q0) := X0.out.cell 1
    have k2 : w3.cell? ⟨w.heap.size, 2, none⟩ = some (.slice a0 n0 c0) := X0.out.cell 2
    have v0 : w3.cell? ⟨w.heap.size + 1, 0, none⟩ = some (.int .i64 p1) := X1.out.cell 0
    have v1 : w3.cell? ⟨w.heap.size + 1, 1, none⟩ = some (.int .i64 q1) := X1.out.cell 1
    have v2 : w3.cell? ⟨w.heap.size + 1, 2, none⟩ = some (.slice a1 n1 c1) := X1.out.cell 2
    have y0 : w3.cell? ⟨w.heap.size + 1 + 1, 0, none⟩ = some (.int .i64 0) := X2.out.cell 0
    have y1 : w3.cell? ⟨w.heap.size + 1 + 1, 1, none⟩ = some (.int .i64 0) := X2.out.cell 1
    have y2 : w3.cell? ⟨w.heap.size + 1 + 1, 2, none⟩ = some (.slice none 0 0) := X2.out.cell 2
    have f0 := X2.out.frz 0
    have f1 := X2.out.frz 1
    have f2 := X2.out.frz 2
    go_wp2_with fail
    refine bodyPost_ret (v := .tuple #[.agg #[.int .i64 0, .int .i64 0, .slice none 0 0], .int .i64 2]) (by simp [results, Try.results9, go_sem, y0, y1, y2]) rfl ⟨0, 0, [], 2, none, 0, rfl, HR.out, MadeH.none, ?_⟩
    exact (((HB3.out.setCell (by first | (simp; done) | (simp; omega)) _).setCell (by first | (simp; done) | (simp; omega)) _).setCell (by first | (simp; done) | (simp; omega)) _)
  subst hpe
  by_cases hqe : q0 = q1
  rotate_left
  · have HR : Hid (res_SubspaceIntersection xs0 p0 q0 xs1 p0 q1 0 0 [] 2) := Lib.hid (.inr ⟨⟨HS0.out, HS1.out⟩, .inl ⟨fun h => hqe h.2, rfl⟩⟩)
    have b1 : (p0 != p0) = false := by simp
    have b2 : (q0 != q1) = true := bne_iff_ne.2 hqe
    have HNE := Lib.hid hqe
    clear hgo hgo1 hqe
    go_enter Try.func9, Try.ntmps9
    go_wp2_with fail
    obtain ⟨W, hW⟩ : ∃ W, W = ((w.alloc (.cells #[.int .i64 p0, .int .i64 q0, .slice a0 n0 c0] 26)).alloc (.cells #[.int .i64 p0, .int .i64 q1, .slice a1 n1 c1] 26)).alloc (.cells #[.int .i64 0, .int .i64 0, .slice none 0 0] 26) := ⟨_, rfl⟩
    rw [← hW]
    have X0 : Hid (BX 26 W (w.heap.size) #[.int .i64 p0, .int .i64 q0, .slice a0 n0 c0]) := Lib.hid (by rw [hW]; exact ((BX.new w _ _).alloc _).alloc _)
    have X1 : Hid (BX 26 W (w.heap.size + 1) #[.int .i64 p0, .int .i64 q1, .slice a1 n1 c1]) := Lib.hid (by rw [hW]; exact (BX.newAt (by simp)).alloc _)
    have X2 : Hid (BX 26 W (w.heap.size + 1 + 1) #[.int .i64 0, .int .i64 0, .slice none 0 0]) := Lib.hid (by rw [hW]; exact BX.newAt (by simp))
    have HB0 : Hid (Below w.heap.size w W) := Lib.hid (by rw [hW]; exact (((Below.refl _ _).alloc (Nat.le_refl _) _).alloc (by simp) _).alloc (by simp; omega) _)
    have sW : W.heap.size = w.heap.size + 3 := by rw [hW]; simp
    have HA0w : Hid (RdR W a0 xs0) := Lib.hid (HA0.out.keep HB0.out (Nat.le_refl _))
    have HA1w : Hid (RdR W a1 xs1) := Lib.hid (HA1.out.keep HB0.out (Nat.le_refl _))
    clear hW
    have k0 : W.cell? ⟨w.heap.size, 0, none⟩ = some (.int .i64 p0) := X0.out.cell 0
    have k1 : W.cell? ⟨w.heap.size, 1, none⟩ = some (.int .i64 q0) := X0.out.cell 1
    have k2 : W.cell? ⟨w.heap.size, 2, none⟩ = some (.slice a0 n0 c0) := X0.out.cell 2
    have v0 : W.cell? ⟨w.heap.size + 1, 0, none⟩ = some (.int .i64 p0) := X1.out.cell 0
    have v1 : W.cell? ⟨w.heap.size + 1, 1, none⟩ = some (.int .i64 q1) := X1.out.cell 1
    have v2 : W.cell? ⟨w.heap.size + 1, 2, none⟩ = some (.slice a1 n1 c1) := X1.out.cell 2
    have y0 : W.cell? ⟨w.heap.size + 1 + 1, 0, none⟩ = some (.int .i64 0) := X2.out.cell 0
    have y1 : W.cell? ⟨w.heap.size + 1 + 1, 1, none⟩ = some (.int .i64 0) := X2.out.cell 1
    have y2 : W.cell? ⟨w.heap.size + 1 + 1, 2, none⟩ = some (.slice none 0 0) := X2.out.cell 2
    have f0 := X2.out.frz 0
    have f1 := X2.out.frz 1
    have f2 := X2.out.frz 2
    refine (spec_IsSubspace_any _ _ _ _ _ xs0 _ HP0.out HQ0.out (by exact HA0w.out) HL0.out HX0.out hn0 hcp0).mono ?_
    rintro e w1 ⟨he, hb⟩
    rw [HS0.out] at he
    obtain rfl := he
    clear k0 k1 k2 v0 v1 v2 y0 y1 y2 f0 f1 f2
    have HB1 : Hid (Below w.heap.size w w1) := Lib.hid (HB0.out.trans (hb.mono HB0.out.size))
    replace X0 : Hid (BX 26 w1 (w.heap.size) #[.int .i64 p0, .int .i64 q0, .slice a0 n0 c0]) := Lib.hid (X0.out.keep hb)
    replace X1 : Hid (BX 26 w1 (w.heap.size + 1) #[.int .i64 p0, .int .i64 q1, .slice a1 n1 c1]) := Lib.hid (X1.out.keep hb)
    replace X2 : Hid (BX 26 w1 (w.heap.size + 1 + 1) #[.int .i64 0, .int .i64 0, .slice none 0 0]) := Lib.hid (X2.out.keep hb)
    have s_w1 := hb.size
    replace HA0w : Hid (RdR w1 a0 xs0) := Lib.hid (HA0w.out.keep hb (Nat.le_refl _))
    replace HA1w : Hid (RdR w1 a1 xs1) := Lib.hid (HA1w.out.keep hb (Nat.le_refl _))
    clear hb
    have k0 : w1.cell? ⟨w.heap.size, 0, none⟩ = some (.int .i64 p0) := X0.out.cell 0
    have k1 : w1.cell? ⟨w.heap.size, 1, none⟩ = some (.int .i64 q0) := X0.out.cell 1
    have k2 : w1.cell? ⟨w.heap.size, 2, none⟩ = some (.slice a0 n0 c0) := X0.out.cell 2
    have v0 : w1.cell? ⟨w.heap.size + 1, 0, none⟩ = some (.int .i64 p0) := X1.out.cell 0
    have v1 : w1.cell? ⟨w.heap.size + 1, 1, none⟩ = some (.int .i64 q1) := X1.out.cell 1
    have v2 : w1.cell? ⟨w.heap.size + 1, 2, none⟩ = some (.slice a1 n1 c1) := X1.out.cell 2
    have y0 : w1.cell? ⟨w.heap.size + 1 + 1, 0, none⟩ = some (.int .i64 0) := X2.out.cell 0
    have y1 : w1.cell? ⟨w.heap.size + 1 + 1, 1, none⟩ = some (.int .i64 0) := X2.out.cell 1
    have y2 : w1.cell? ⟨w.heap.size + 1 + 1, 2, none⟩ = some (.slice none 0 0) := X2.out.cell 2
    have f0 := X2.out.frz 0
    have f1 := X2.out.frz 1
    have f2 := X2.out.frz 2
    go_wp2_with fail
    refine (spec_IsSubspace_any _ _ _ _ _ xs1 _ HP1.out HQ1.out (by exact HA1w.out) HL1.out HX1.out hn1 hcp1).mono ?_
    rintro e w2 ⟨he, hb⟩
    rw [HS1.out] at he
    obtain rfl := he
    clear k0 k1 k2 v0 v1 v2 y0 y1 y2 f0 f1 f2
    have HB2 : Hid (Below w.heap.size w w2) := Lib.hid (HB1.out.trans (hb.mono HB1.out.size))
    replace X0 : Hid (BX 26 w2 (w.heap.size) #[.int .i64 p0, .int .i64 q0, .slice a0 n0 c0]) := Lib.hid (X0.out.keep hb)
    replace X1 : Hid (BX 26 w2 (w.heap.size + 1) #[.int .i64 p0, .int .i64 q1, .slice a1 n1 c1]) := Lib.hid (X1.out.keep hb)
    replace X2 : Hid (BX 26 w2 (w.heap.size + 1 + 1) #[.int .i64 0, .int .i64 0, .slice none 0 0]) := Lib.hid (X2.out.keep hb)
    have s_w2 := hb.size
    replace HA0w : Hid (RdR w2 a0 xs0) := Lib.hid (HA0w.out.keep hb (Nat.le_refl _))
    replace HA1w : Hid (RdR w2 a1 xs1) := Lib.hid (HA1w.out.keep hb (Nat.le_refl _))
    clear hb
    have k0 : w2.cell? ⟨w.heap.size, 0, none⟩ = some (.int .i64 p0) := X0.out.cell 0
    have k1 : w2.cell? ⟨w.heap.size, 1, none⟩ = some (.int .i64 q0) := X0.out.cell 1
    have k2 : w2.cell? ⟨w.heap.size, 2, none⟩ = some (.slice a0 n0 c0) := X0.out.cell 2
    have v0 : w2.cell? ⟨w.heap.size + 1, 0, none⟩ = some (.int .i64 p0) := X1.out.cell 0
    have v1 : w2.cell? ⟨w.heap.size + 1, 1, none⟩ = some (.int .i64 q1) := X1.out.cell 1
    have v2 : w2.cell? ⟨w.heap.size + 1, 2, none⟩ = some (.slice a1 n1 c1) := X1.out.cell 2
    have y0 : w2.cell? ⟨w.heap.size + 1 + 1, 0, none⟩ = some (.int .i64 0) := X2.out.cell 0
    have y1 : w2.cell? ⟨w.heap.size + 1 + 1, 1, none⟩ = some (.int .i64 0) := X2.out.cell 1
    have y2 : w2.cell? ⟨w.heap.size + 1 + 1, 2, none⟩ = some (.slice none 0 0) := X2.out.cell 2
    have f0 := X2.out.frz 0
    have f1 := X2.out.frz 1
    have f2 := X2.out.frz 2
    go_wp2_with fail
    refine (l03Fit_any _ _ _ _ _ _ _ _ _ _ _).mono ?_
    rintro e w3 ⟨he, hb⟩
    rw [show (p0 == p0 && q0 == q1) = false from by simp [HNE.out]] at he
    obtain rfl := he
    clear k0 k1 k2 v0 v1 v2 y0 y1 y2 f0 f1 f2
    have HB3 : Hid (Below w.heap.size w w3) := Lib.hid (HB2.out.trans (hb.mono HB2.out.size))
    replace X0 : Hid (BX 26 w3 (w.heap.size) #[.int .i64 p0, .int .i64 q0, .slice a0 n0 c0]) := Lib.hid (X0.out.keep hb)
    replace X1 : Hid (BX 26 w3 (w.heap.size + 1) #[.int .i64 p0, .int .i64 q1, .slice a1 n1 c1]) := Lib.hid (X1.out.keep hb)
    replace X2 : Hid (BX 26 w3 (w.heap.size + 1 + 1) #[.int .i64 0, .int .i64 0, .slice none 0 0]) := Lib.hid (X2.out.keep hb)
    have s_w3 := hb.size
    replace HA0w : Hid (RdR w3 a0 xs0) := Lib.hid (HA0w.out.keep hb (Nat.le_refl _))
    replace HA1w : Hid (RdR w3 a1 xs1) := Lib.hid (HA1w.out.keep hb (Nat.le_refl _))
    clear hb
    have k0 : w3.cell? ⟨w.heap.size, 0, none⟩ = some (.int .i64 p0) := X0.out.cell 0
    have k1 : w3.cell? ⟨w.heap.size, 1, none⟩ = some (.int .i64 q0) := X0.out.cell 1
    have k2 : w3.cell? ⟨w.heap.size, 2, none⟩ = some (.slice a0 n0 c0) := X0.out.cell 2
    have v0 : w3.cell? ⟨w.heap.size + 1, 0, none⟩ = some (.int .i64 p0) := X1.out.cell 0
    have v1 : w3.cell? ⟨w.heap.size + 1, 1, none⟩ = some (.int .i64 q1) := X1.out.cell 1
    have v2 : w3.cell? ⟨w.heap.size + 1, 2, none⟩ = some (.slice a1 n1 c1) := X1.out.cell 2
    have y0 : w3.cell? ⟨w.heap.size + 1 + 1, 0, none⟩ = some (.int .i64 0) := X2.out.cell 0
    have y1 : w3.cell? ⟨w.heap.size + 1 + 1, 1, none⟩ = some (.int .i64 0) := X2.out.cell 1
    have y2 : w3.cell? ⟨w.heap.size + 1 + 1, 2, none⟩ = some (.slice none 0 0) := X2.out.cell 2
    have f0 := X2.out.frz 0
    have f1 := X2.out.frz 1
    have f2 := X2.out.frz 2
    go_wp2_with fail
    refine bodyPost_ret (v := .tuple #[.agg #[.int .i64 0, .int .i64 0, .slice none 0 0], .int .i64 2]) (by simp [results, Try.results9, go_sem, y0, y1, y2]) rfl ⟨0, 0, [], 2, none, 0, rfl, HR.out, MadeH.none, ?_⟩
    exact (((HB3.out.setCell (by first | (simp; done) | (simp; omega)) _).setCell (by first | (simp; done) | (simp; omega)) _).setCell (by first | (simp; done) | (simp; omega)) _)
  subst hqe
  have q8 := hgo.q8
  have qq0 := hgo.q0
  have hl8 := hgo.len
  have hl81 := hgo1.len
  rw [HL0.out] at hl8
  rw [HL1.out] at hl81
  obtain ⟨m, rfl⟩ : ∃ m : Nat, q0 = m := ⟨q0.toNat, by omega⟩
  have HP := Lib.hid hgo.gp
  have HW0 : Hid (Rws p0 m xs0) := Lib.hid hgo.rws
  have HW1 : Hid (Rws p0 m xs1) := Lib.hid hgo1.rws
  have b1 : (p0 != p0) = false := by simp
  have b2 : ((m : Int) != (m : Int)) = false := by simp
  clear hgo hgo1
  go_enter Try.func9, Try.ntmps9
  go_wp2_with fail
  obtain ⟨W, hW⟩ : ∃ W, W = ((w.alloc (.cells #[.int .i64 p0, .int .i64 m, .slice a0 n0 c0] 26)).alloc (.cells #[.int .i64 p0, .int .i64 m, .slice a1 n1 c1] 26)).alloc (.cells #[.int .i64 0, .int .i64 0, .slice none 0 0] 26) := ⟨_, rfl⟩
  rw [← hW]
  have X0 : Hid (BX 26 W (w.heap.size) #[.int .i64 p0, .int .i64 m, .slice a0 n0 c0]) := Lib.hid (by rw [hW]; exact ((BX.new w _ _).alloc _).alloc _)
  have X1 : Hid (BX 26 W (w.heap.size + 1) #[.int .i64 p0, .int .i64 m, .slice a1 n1 c1]) := Lib.hid (by rw [hW]; exact (BX.newAt (by simp)).alloc _)
  have X2 : Hid (BX 26 W (w.heap.size + 1 + 1) #[.int .i64 0, .int .i64 0, .slice none 0 0]) := Lib.hid (by rw [hW]; exact BX.newAt (by simp))
  have HB0 : Hid (Below w.heap.size w W) := Lib.hid (by rw [hW]; exact (((Below.refl _ _).alloc (Nat.le_refl _) _).alloc (by simp) _).alloc (by simp; omega) _)
  have sW : W.heap.size = w.heap.size + 3 := by rw [hW]; simp
  have HA0w : Hid (RdR W a0 xs0) := Lib.hid (HA0.out.keep HB0.out (Nat.le_refl _))
  have HA1w : Hid (RdR W a1 xs1) := Lib.hid (HA1.out.keep HB0.out (Nat.le_refl _))
  clear hW
  have k0 : W.cell? ⟨w.heap.size, 0, none⟩ = some (.int .i64 p0) := X0.out.cell 0
  have k1 : W.cell? ⟨w.heap.size, 1, none⟩ = some (.int .i64 m) := X0.out.cell 1
  have k2 : W.cell? ⟨w.heap.size, 2, none⟩ = some (.slice a0 n0 c0) := X0.out.cell 2
  have v0 : W.cell? ⟨w.heap.size + 1, 0, none⟩ = some (.int .i64 p0) := X1.out.cell 0
  have v1 : W.cell? ⟨w.heap.size + 1, 1, none⟩ = some (.int .i64 m) := X1.out.cell 1
  have v2 : W.cell? ⟨w.heap.size + 1, 2, none⟩ = some (.slice a1 n1 c1) := X1.out.cell 2
  have y0 : W.cell? ⟨w.heap.size + 1 + 1, 0, none⟩ = some (.int .i64 0) := X2.out.cell 0
  have y1 : W.cell? ⟨w.heap.size + 1 + 1, 1, none⟩ = some (.int .i64 0) := X2.out.cell 1
  have y2 : W.cell? ⟨w.heap.size + 1 + 1, 2, none⟩ = some (.slice none 0 0) := X2.out.cell 2
  have f0 := X2.out.frz 0
  have f1 := X2.out.frz 1
  have f2 := X2.out.frz 2
  refine (spec_IsSubspace_any _ _ _ _ _ xs0 _ HP0.out HQ0.out (by exact HA0w.out) HL0.out HX0.out hn0 hcp0).mono ?_
  rintro e w1 ⟨he, hb⟩
  rw [HS0.out] at he
  obtain rfl := he
  clear k0 k1 k2 v0 v1 v2 y0 y1 y2 f0 f1 f2
  have HB1 : Hid (Below w.heap.size w w1) := Lib.hid (HB0.out.trans (hb.mono HB0.out.size))
  replace X0 : Hid (BX 26 w1 (w.heap.size) #[.int .i64 p0, .int .i64 m, .slice a0 n0 c0]) := Lib.hid (X0.out.keep hb)
  replace X1 : Hid (BX 26 w1 (w.heap.size + 1) #[.int .i64 p0, .int .i64 m, .slice a1 n1 c1]) := Lib.hid (X1.out.keep hb)
  replace X2 : Hid (BX 26 w1 (w.heap.size + 1 + 1) #[.int .i64 0, .int .i64 0, .slice none 0 0]) := Lib.hid (X2.out.keep hb)
  have s_w1 := hb.size
  replace HA0w : Hid (RdR w1 a0 xs0) := Lib.hid (HA0w.out.keep hb (Nat.le_refl _))
  replace HA1w : Hid (RdR w1 a1 xs1) := Lib.hid (HA1w.out.keep hb (Nat.le_refl _))
  clear hb
  have k0 : w1.cell? ⟨w.heap.size, 0, none⟩ = some (.int .i64 p0) := X0.out.cell 0
  have k1 : w1.cell? ⟨w.heap.size, 1, none⟩ = some (.int .i64 m) := X0.out.cell 1
  have k2 : w1.cell? ⟨w.heap.size, 2, none⟩ = some (.slice a0 n0 c0) := X0.out.cell 2
  have v0 : w1.cell? ⟨w.heap.size + 1, 0, none⟩ = some (.int .i64 p0) := X1.out.cell 0
  have v1 : w1.cell? ⟨w.heap.size + 1, 1, none⟩ = some (.int .i64 m) := X1.out.cell 1
  have v2 : w1.cell? ⟨w.heap.size + 1, 2, none⟩ = some (.slice a1 n1 c1) := X1.out.cell 2
  have y0 : w1.cell? ⟨w.heap.size + 1 + 1, 0, none⟩ = some (.int .i64 0) := X2.out.cell 0
  have y1 : w1.cell? ⟨w.heap.size + 1 + 1, 1, none⟩ = some (.int .i64 0) := X2.out.cell 1
  have y2 : w1.cell? ⟨w.heap.size + 1 + 1, 2, none⟩ = some (.slice none 0 0) := X2.out.cell 2
  have f0 := X2.out.frz 0
  have f1 := X2.out.frz 1
  have f2 := X2.out.frz 2
  go_wp2_with fail
  refine (spec_IsSubspace_any _ _ _ _ _ xs1 _ HP1.out HQ1.out (by exact HA1w.out) HL1.out HX1.out hn1 hcp1).mono ?_
  rintro e w2 ⟨he, hb⟩
  rw [HS1.out] at he
  obtain rfl := he
  clear k0 k1 k2 v0 v1 v2 y0 y1 y2 f0 f1 f2
  have HB2 : Hid (Below w.heap.size w w2) := Lib.hid (HB1.out.trans (hb.mono HB1.out.size))
  replace X0 : Hid (BX 26 w2 (w.heap.size) #[.int .i64 p0, .int .i64 m, .slice a0 n0 c0]) := Lib.hid (X0.out.keep hb)
  replace X1 : Hid (BX 26 w2 (w.heap.size + 1) #[.int .i64 p0, .int .i64 m, .slice a1 n1 c1]) := Lib.hid (X1.out.keep hb)
  replace X2 : Hid (BX 26 w2 (w.heap.size + 1 + 1) #[.int .i64 0, .int .i64 0, .slice none 0 0]) := Lib.hid (X2.out.keep hb)
  have s_w2 := hb.size
  replace HA0w : Hid (RdR w2 a0 xs0) := Lib.hid (HA0w.out.keep hb (Nat.le_refl _))
  replace HA1w : Hid (RdR w2 a1 xs1) := Lib.hid (HA1w.out.keep hb (Nat.le_refl _))
  clear hb
  have k0 : w2.cell? ⟨w.heap.size, 0, none⟩ = some (.int .i64 p0) := X0.out.cell 0
  have k1 : w2.cell? ⟨w.heap.size, 1, none⟩ = some (.int .i64 m) := X0.out.cell 1
  have k2 : w2.cell? ⟨w.heap.size, 2, none⟩ = some (.slice a0 n0 c0) := X0.out.cell 2
  have v0 : w2.cell? ⟨w.heap.size + 1, 0, none⟩ = some (.int .i64 p0) := X1.out.cell 0
  have v1 : w2.cell? ⟨w.heap.size + 1, 1, none⟩ = some (.int .i64 m) := X1.out.cell 1
  have v2 : w2.cell? ⟨w.heap.size + 1, 2, none⟩ = some (.slice a1 n1 c1) := X1.out.cell 2
  have y0 : w2.cell? ⟨w.heap.size + 1 + 1, 0, none⟩ = some (.int .i64 0) := X2.out.cell 0
  have y1 : w2.cell? ⟨w.heap.size + 1 + 1, 1, none⟩ = some (.int .i64 0) := X2.out.cell 1
  have y2 : w2.cell? ⟨w.heap.size + 1 + 1, 2, none⟩ = some (.slice none 0 0) := X2.out.cell 2
  have f0 := X2.out.frz 0
  have f1 := X2.out.frz 1
  have f2 := X2.out.frz 2
  go_wp2_with fail
  refine (l03Fit_any _ _ _ _ _ _ _ _ _ _ _).mono ?_
  rintro e w3 ⟨he, hb⟩
  rw [show (p0 == p0 && (m : Int) == (m : Int)) = true from by simp] at he
  obtain rfl := he
  clear k0 k1 k2 v0 v1 v2 y0 y1 y2 f0 f1 f2
  have HB3 : Hid (Below w.heap.size w w3) := Lib.hid (HB2.out.trans (hb.mono HB2.out.size))
  replace X0 : Hid (BX 26 w3 (w.heap.size) #[.int .i64 p0, .int .i64 m, .slice a0 n0 c0]) := Lib.hid (X0.out.keep hb)
  replace X1 : Hid (BX 26 w3 (w.heap.size + 1) #[.int .i64 p0, .int .i64 m, .slice a1 n1 c1]) := Lib.hid (X1.out.keep hb)
  replace X2 : Hid (BX 26 w3 (w.heap.size + 1 + 1) #[.int .i64 0, .int .i64 0, .slice none 0 0]) := Lib.hid (X2.out.keep hb)
  have s_w3 := hb.size
  replace HA0w : Hid (RdR w3 a0 xs0) := Lib.hid (HA0w.out.keep hb (Nat.le_refl _))
  replace HA1w : Hid (RdR w3 a1 xs1) := Lib.hid (HA1w.out.keep hb (Nat.le_refl _))
  clear hb
  have k0 : w3.cell? ⟨w.heap.size, 0, none⟩ = some (.int .i64 p0) := X0.out.cell 0
  have k1 : w3.cell? ⟨w.heap.size, 1, none⟩ = some (.int .i64 m) := X0.out.cell 1
  have k2 : w3.cell? ⟨w.heap.size, 2, none⟩ = some (.slice a0 n0 c0) := X0.out.cell 2
  have v0 : w3.cell? ⟨w.heap.size + 1, 0, none⟩ = some (.int .i64 p0) := X1.out.cell 0
  have v1 : w3.cell? ⟨w.heap.size + 1, 1, none⟩ = some (.int .i64 m) := X1.out.cell 1
  have v2 : w3.cell? ⟨w.heap.size + 1, 2, none⟩ = some (.slice a1 n1 c1) := X1.out.cell 2
  have y0 : w3.cell? ⟨w.heap.size + 1 + 1, 0, none⟩ = some (.int .i64 0) := X2.out.cell 0
  have y1 : w3.cell? ⟨w.heap.size + 1 + 1, 1, none⟩ = some (.int .i64 0) := X2.out.cell 1
  have y2 : w3.cell? ⟨w.heap.size + 1 + 1, 2, none⟩ = some (.slice none 0 0) := X2.out.cell 2
  have f0 := X2.out.frz 0
  have f1 := X2.out.frz 1
  have f2 := X2.out.frz 2
  go_wp2_with fail
  obtain ⟨πu, hRu, _⟩ := (subB_yes HS0.out).2
  obtain ⟨πv, hRv, _⟩ := (subB_yes HS1.out).2
  rw [Int.toNat_natCast] at hRu hRv
  have HRu := Lib.hid hRu
  have HRv := Lib.hid hRv
  have hp2 : 2 ≤ p0 := HP.out.bd.1
  clear hRu hRv
  go_region_held3 (fun w' => w'.cell? ⟨w.heap.size, 0, none⟩ = some (.int .i64 p0) ∧ w'.cell? ⟨w.heap.size, 1, none⟩ = some (.int .i64 m) ∧ w'.cell? ⟨w.heap.size, 2, none⟩ = some (.slice a0 n0 c0) ∧ w'.cell? ⟨w.heap.size + 1, 2, none⟩ = some (.slice a1 n1 c1)) (first | ((try dsimp only); (refine ⟨?_, ?_, ?_, ?_⟩) <;> first | with_reducible assumption | (rw [cell_ne (by first | (simp; done) | (simp; omega) | omega), cell_ne (by first | (simp; done) | (simp; omega) | omega), cell_ne (by first | (simp; done) | (simp; omega) | omega)]; with_reducible assumption) | (rw [cell_al (by first | (simp; done) | (simp; omega) | omega)]; with_reducible assumption)) | go_keep)
    (first
      | (go_at_call 27; (with_reducible refine (l03Meet_any p0 HP.out m _ _ n0 _ n1 _ xs0 xs1 _ ?_ ?_ HL0.out HL1.out HW0.out HW1.out (by omega) (by omega) (by omega)).mono ?_); exact (show RdR w3 a0 xs0 from HA0w.out); exact (show RdR w3 a1 xs1 from HA1w.out); rintro e u1 ⟨N, R, b1, d1, rfl, hnr, hres, ho, hb0⟩; have hb : Below w3.heap.size w3 u1 := ⟨hb0.os, hb0.tape, hb0.output, hb0.size, hb0.block⟩; have X05 : Hid (BX 26 u1 (w.heap.size) #[.int .i64 p0, .int .i64 m, .slice a0 n0 c0]) := Lib.hid (X0.out.keep hb); have X15 : Hid (BX 26 u1 (w.heap.size + 1) #[.int .i64 p0, .int .i64 m, .slice a1 n1 c1]) := Lib.hid (X1.out.keep hb); have X25 : Hid (BX 26 u1 (w.heap.size + 1 + 1) #[.int .i64 0, .int .i64 0, .slice none 0 0]) := Lib.hid (X2.out.keep hb); have k05 : u1.cell? ⟨w.heap.size, 0, none⟩ = some (.int .i64 p0) := X05.out.cell 0; have k15 : u1.cell? ⟨w.heap.size, 1, none⟩ = some (.int .i64 m) := X05.out.cell 1; have k25 : u1.cell? ⟨w.heap.size, 2, none⟩ = some (.slice a0 n0 c0) := X05.out.cell 2; have v05 : u1.cell? ⟨w.heap.size + 1, 0, none⟩ = some (.int .i64 p0) := X15.out.cell 0; have v15 : u1.cell? ⟨w.heap.size + 1, 1, none⟩ = some (.int .i64 m) := X15.out.cell 1; have v25 : u1.cell? ⟨w.heap.size + 1, 2, none⟩ = some (.slice a1 n1 c1) := X15.out.cell 2; have y05 : u1.cell? ⟨w.heap.size + 1 + 1, 0, none⟩ = some (.int .i64 0) := X25.out.cell 0; have y15 : u1.cell? ⟨w.heap.size + 1 + 1, 1, none⟩ = some (.int .i64 0) := X25.out.cell 1; have y25 : u1.cell? ⟨w.heap.size + 1 + 1, 2, none⟩ = some (.slice none 0 0) := X25.out.cell 2; have f05 := X25.out.frz 0; have f15 := X25.out.frz 1; have f25 := X25.out.frz 2; have HNR := Lib.hid hnr; have HRes := Lib.hid hres; have HOu := Lib.hid ho; have hsm := (IsRref.sm hres (by omega)).1; have HSM := Lib.hid (IsRref.sm hres (by omega)).2; have HB1u := Lib.hid hb; have su1 := hb.size; clear ho hb hb0 hnr hres)
      | (go_at_call 26; (with_reducible refine (l02Make_any _ _ _ _ _ R _ ?_ rfl HSM.out hsm).mono ?_); exact HOu.out; rintro e u2 ⟨a', c', rfl, ho, hb0⟩; have hb : Below u1.heap.size u1 u2 := ⟨hb0.os, hb0.tape, hb0.output, hb0.size, hb0.block⟩; have HB2u : Hid (Below w3.heap.size w3 u2) := Lib.hid (HB1u.out.trans (hb.mono su1)); have X06 : Hid (BX 26 u2 (w.heap.size) #[.int .i64 p0, .int .i64 m, .slice a0 n0 c0]) := Lib.hid (X0.out.keep HB2u.out); have X16 : Hid (BX 26 u2 (w.heap.size + 1) #[.int .i64 p0, .int .i64 m, .slice a1 n1 c1]) := Lib.hid (X1.out.keep HB2u.out); have X26 : Hid (BX 26 u2 (w.heap.size + 1 + 1) #[.int .i64 0, .int .i64 0, .slice none 0 0]) := Lib.hid (X2.out.keep HB2u.out); have k06 : u2.cell? ⟨w.heap.size, 0, none⟩ = some (.int .i64 p0) := X06.out.cell 0; have k16 : u2.cell? ⟨w.heap.size, 1, none⟩ = some (.int .i64 m) := X06.out.cell 1; have k26 : u2.cell? ⟨w.heap.size, 2, none⟩ = some (.slice a0 n0 c0) := X06.out.cell 2; have v06 : u2.cell? ⟨w.heap.size + 1, 0, none⟩ = some (.int .i64 p0) := X16.out.cell 0; have v16 : u2.cell? ⟨w.heap.size + 1, 1, none⟩ = some (.int .i64 m) := X16.out.cell 1; have v26 : u2.cell? ⟨w.heap.size + 1, 2, none⟩ = some (.slice a1 n1 c1) := X16.out.cell 2; have y06 : u2.cell? ⟨w.heap.size + 1 + 1, 0, none⟩ = some (.int .i64 0) := X26.out.cell 0; have y16 : u2.cell? ⟨w.heap.size + 1 + 1, 1, none⟩ = some (.int .i64 0) := X26.out.cell 1; have y26 : u2.cell? ⟨w.heap.size + 1 + 1, 2, none⟩ = some (.slice none 0 0) := X26.out.cell 2; have f06 := X26.out.frz 0; have f16 := X26.out.frz 1; have f26 := X26.out.frz 2; have HO := Lib.hid ho.has; clear ho hb hb0))
  have HM : Hid (Meet p0 m xs0 xs1 R) := Lib.hid (meet_null hp2 HRu.out HRv.out HNR.out HRes.out)
  have HB9 : Hid (Below w.heap.size w u2) := Lib.hid (HB3.out.trans (HB2u.out.mono HB3.out.size))
  have s9 := HB3.out.size
  have HR : Hid (res_SubspaceIntersection xs0 p0 m xs1 p0 m p0 m R 0) := Lib.hid (.inr ⟨⟨HS0.out, HS1.out⟩, .inr ⟨⟨rfl, rfl⟩, rfl, rfl, rfl, by rw [Int.toNat_natCast]; exact HM.out⟩⟩)
  go_wp2_with fail
  refine bodyPost_ret (v := .tuple #[.agg #[.int .i64 (p0), .int .i64 (m), .slice a' R.length c'], .int .i64 0]) (by simp [results, Try.results9, go_sem, y06, y16, y26]) rfl ⟨p0, m, R, 0, a', c', rfl, HR.out, ?_, ?_⟩
  · refine MadeH.mono (B := u1.heap.size) ?_ (by omega)
    exact (((HO.out).setLow _ (by first | (simp; done) | (simp; omega)) _).setLow _ (by first | (simp; done) | (simp; omega)) _).setLow _ (by first | (simp; done) | (simp; omega)) _
  · exact (((HB9.out.setCell (by first | (simp; done) | (simp; omega)) _).setCell (by first | (simp; done) | (simp; omega)) _).setCell (by first | (simp; done) | (simp; omega)) _)
end Go.Proofs.Ytpkdgemnddcefaa
