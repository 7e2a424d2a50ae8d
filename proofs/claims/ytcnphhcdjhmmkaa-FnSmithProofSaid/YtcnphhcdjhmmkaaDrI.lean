/- The reference's inverse of a unimodular table: how great its entries are. -/
import Derived.Test.YtcnphhcdjhmmkaaDrS
import Derived.Test.YtcnphhcdjhmmkaaDetS
set_option linter.unusedVariables false
set_option linter.unusedSimpArgs false
namespace Go.Proofs.Ytcnphhcdjhmmkaa
open Go.RowKit
theorem Sm.sq {n : Nat} {xs : List (List Int)} (h : Sm 64 n xs) (hl : xs.length = n) : SqB n xs := ⟨hl, fun i hi => h.row i (by omega), fun i j hi hj => h.ent i j (by omega) hj⟩
theorem below_al0 {w wr : World} {B : Nat} {o : Obj} (h : Below B w wr) (hB : B ≤ wr.heap.size) : Below B w (wr.alloc o) := h.alloc hB o
/-- a sign, times a determinant of one, times a minor -/
theorem sgn_small {s d x X : Int} (hs : s = 1 ∨ s = -1) (hd : d = 1 ∨ d = -1) (h1 : -X ≤ x) (h2 : x ≤ X) : (s * d = 1 ∨ s * d = -1) ∧ -X ≤ s * d * x ∧ s * d * x ≤ X := by
  rcases hs with rfl | rfl <;> rcases hd with rfl | rfl <;> simp <;> omega
theorem wrap64_small {z X : Int} (h1 : -X ≤ z) (h2 : z ≤ X) (hX : X ≤ 402653184) : wrap64 z = z := by unfold wrap64; omega
set_option maxRecDepth 20000 in
set_option maxHeartbeats 8000000 in
theorem l04Inverse_any (a : Option Addr) (n c : Nat) (xs : List (List Int)) (w : World) (ha : RdR w a xs) (hl : xs.length = n) (hs : SqB n xs) (hd : detN n xs = 1 ∨ detN n xs = -1) (hn1 : 1 ≤ n) (hn : n ≤ 4) (hnc : n ≤ c) :
    Calls Try.prog 28 #[.slice a n c] w fun e w' => ∃ (ys : List (List Int)) (a' : Option Addr) (c' : Nat), e = .returned (.slice a' n c') ∧ MadeR 31 2 w' w.heap.size a' n c' ys ∧ Sm (dB (n - 1)) n ys ∧ Below w.heap.size w w' := by
  have HA := Lib.hid ha
  have HL := Lib.hid hl
  have HS := Lib.hid hs
  have HX0 := Lib.hid (dB_nonneg (n - 1))
  have HX1 := Lib.hid (dB_le (show n - 1 ≤ 4 by omega))
  clear ha hl hs
  go_enter Try.func28, Try.ntmps28
  go_wp2_with fail
  refine (l04Det_any n hn a c xs w HA.out HS.out hnc).mono ?_
  rintro e w1 ⟨rfl, hb⟩
  have HB1 := Lib.hid hb
  have s1 := hb.size
  obtain ⟨D, hD⟩ : ∃ D, D = detN n xs := ⟨_, rfl⟩
  rw [← hD] at hd ⊢
  have HD := Lib.hid hd
  obtain ⟨X, hX⟩ : ∃ X, X = dB (n - 1) := ⟨_, rfl⟩
  rw [← hX] at HX0 HX1
  have HXE := Lib.hid hX
  clear hb hD hd hX
  go_wp2_with fail
  have S0 : Hid (OwnR 31 2 (w1.alloc (.cells #[] 31)) w.heap.size (some ⟨w1.heap.size, 0, none⟩) 0 0 [] (fun _ => none) (fun _ => 0) ∧ Sm X n [] ∧ Below w.heap.size w (w1.alloc (.cells #[] 31))) := Lib.hid ⟨(OwnR.empty w1 _ _ _ _).mono s1, ⟨fun i hi => by simp at hi, fun i j hi => by simp at hi⟩, HB1.out.alloc s1 _⟩
  go_loopw [6, 5] (fun i o wr => ∃ (i1 : Nat) (ad : Option Addr) (cap : Nat) (ys : List (List Int)) (A : Nat → Option Addr) (C : Nat → Nat), i1 ≤ n ∧ i = .int .i64 i1 ∧ o = .slice ad i1 cap ∧ Hid (OwnR 31 2 wr w.heap.size ad i1 cap ys A C ∧ Sm X n ys ∧ Below w.heap.size w wr)) (fun i _ _ => n - (intOf i).toNat)
  case atStart => exact ⟨0, _, 0, [], _, _, Nat.zero_le _, rfl, rfl, S0⟩
  case round =>
    obtain ⟨i1, ad, cap, ys, A, C, hi1, rfl, rfl, HI⟩ := hrel
    obtain ⟨wA, rfl⟩ : ∃ x, x = wr := ⟨wr, rfl⟩
    clear S0
    by_cases hin : i1 < n
    · have J1 : (i1 : Int) < (n : Int) := by omega
      have sA := HI.out.2.2.size
      go_wp2_with fail
      have S2 : Hid (OwnI 2 (wA.alloc (.cells #[] 2)) wA.heap.size (some ⟨wA.heap.size, 0, none⟩) 0 0 [] ∧ (∀ t, t < 0 → -X ≤ el ([] : List Int) t ∧ el ([] : List Int) t ≤ X) ∧ Below wA.heap.size wA (wA.alloc (.cells #[] 2))) := Lib.hid ⟨OwnI.empty wA _, fun t ht => by omega, (Below.refl _ _).alloc (Nat.le_refl _) _⟩
      go_loopw [8, 7] (fun j r wr => ∃ (j1 : Nat) (a7 : Option Addr) (c7 : Nat) (l7 : List Int), j1 ≤ n ∧ j = .int .i64 j1 ∧ r = .slice a7 j1 c7 ∧ Hid (OwnI 2 wr wA.heap.size a7 j1 c7 l7 ∧ (∀ t, t < j1 → -X ≤ el l7 t ∧ el l7 t ≤ X) ∧ Below wA.heap.size wA wr)) (fun j _ _ => n - (intOf j).toNat)
      case atStart => exact ⟨0, _, 0, [], Nat.zero_le _, rfl, rfl, S2⟩
      case round =>
        obtain ⟨j1, a7, c7, l7, hj1, rfl, rfl, HJ⟩ := hrel
        obtain ⟨wB, rfl⟩ : ∃ x, x = wr := ⟨wr, rfl⟩
        clear S2
        by_cases hjn : j1 < n
        · have J2 : (j1 : Int) < (n : Int) := by omega
          have sB := HJ.out.2.2.size
          have HBB : Hid (Below w.heap.size w wB) := Lib.hid (HI.out.2.2.trans (HJ.out.2.2.mono sA))
          go_wp2_with fail
          have S3 : Hid (OwnR 31 2 (wB.alloc (.cells #[] 31)) wB.heap.size (some ⟨wB.heap.size, 0, none⟩) 0 0 [] (fun _ => none) (fun _ => 0) ∧ Sm 64 (n - 1) [] ∧ Below wB.heap.size wB (wB.alloc (.cells #[] 31))) := Lib.hid ⟨OwnR.empty wB _ _ _ _, ⟨fun i hi => by simp at hi, fun i j hi => by simp at hi⟩, (Below.refl _ _).alloc (Nat.le_refl _) _⟩
          go_loopw [10, 9] (fun x p wr => ∃ (x1 cnt : Nat) (a9 : Option Addr) (c9 : Nat) (P : List (List Int)) (A9 : Nat → Option Addr) (C9 : Nat → Nat), x1 ≤ n ∧ x = .int .i64 x1 ∧ (j1 < x1 ∧ cnt + 1 = x1 ∨ x1 ≤ j1 ∧ cnt = x1) ∧ p = .slice a9 cnt c9 ∧ Hid (OwnR 31 2 wr wB.heap.size a9 cnt c9 P A9 C9 ∧ Sm 64 (n - 1) P ∧ Below wB.heap.size wB wr)) (fun x _ _ => n - (intOf x).toNat)
          case atStart => exact ⟨0, 0, _, 0, [], _, _, Nat.zero_le _, rfl, .inr ⟨Nat.zero_le _, rfl⟩, rfl, S3⟩
          case round =>
            obtain ⟨x1, cnt, a9, c9, P, A9, C9, hx1, rfl, hcnt, rfl, HK⟩ := hrel
            obtain ⟨wC, rfl⟩ : ∃ x, x = wr := ⟨wr, rfl⟩
            clear S3
            by_cases hxn : x1 < n
            · have J3 : (x1 : Int) < (n : Int) := by omega
              have sC := HK.out.2.2.size
              have HBC : Hid (Below w.heap.size w wC) := Lib.hid (HBB.out.trans (HK.out.2.2.mono (by omega)))
              go_wp2_with fail
              have S4 : Hid (OwnI 2 (wC.alloc (.cells #[] 2)) wC.heap.size (some ⟨wC.heap.size, 0, none⟩) 0 0 [] ∧ (∀ t, t < 0 → -64 ≤ el ([] : List Int) t ∧ el ([] : List Int) t ≤ 64) ∧ Below wC.heap.size wC (wC.alloc (.cells #[] 2))) := Lib.hid ⟨OwnI.empty wC _, fun t ht => by omega, (Below.refl _ _).alloc (Nat.le_refl _) _⟩
              go_loopw [12, 11] (fun y l wr => ∃ (y1 cn : Nat) (a11 : Option Addr) (c11 : Nat) (l11 : List Int), y1 ≤ n ∧ y = .int .i64 y1 ∧ (i1 < y1 ∧ cn + 1 = y1 ∨ y1 ≤ i1 ∧ cn = y1) ∧ l = .slice a11 cn c11 ∧ Hid (OwnI 2 wr wC.heap.size a11 cn c11 l11 ∧ (∀ t, t < cn → -64 ≤ el l11 t ∧ el l11 t ≤ 64) ∧ Below wC.heap.size wC wr)) (fun y _ _ => n - (intOf y).toNat)
              case atStart => exact ⟨0, 0, _, 0, [], Nat.zero_le _, rfl, .inr ⟨Nat.zero_le _, rfl⟩, rfl, S4⟩
              case round =>
                obtain ⟨y1, cn, a11, c11, l11, hy1, rfl, hcn, rfl, HM⟩ := hrel
                obtain ⟨wD, rfl⟩ : ∃ x, x = wr := ⟨wr, rfl⟩
                clear S4
                have sD := HM.out.2.2.size
                by_cases hyn : y1 < n
                · have J4 : (y1 : Int) < (n : Int) := by omega
                  by_cases hyi : y1 = i1
                  · have e1 : ((y1 : Int) != (i1 : Int)) = false := by simp [hyi]
                    have HC2 : Hid (i1 < y1 + 1 ∧ cn + 1 = y1 + 1 ∨ y1 + 1 ≤ i1 ∧ cn = y1 + 1) := Lib.hid (by omega)
                    clear hyi hcn
                    go_wp2_with fail
                    go_roundw
                    case rel => exact ⟨y1 + 1, cn, a11, c11, l11, by omega, by go_num, HC2.out, rfl, HM⟩
                    case measure => simp [intOf]; omega
                  · have e1 : ((y1 : Int) != (i1 : Int)) = true := bne_iff_ne.2 (by omega)
                    have HC2 : Hid (i1 < y1 + 1 ∧ cn + 1 + 1 = y1 + 1 ∨ y1 + 1 ≤ i1 ∧ cn + 1 = y1 + 1) := Lib.hid (by omega)
                    have hcn9 : cn ≤ 9 := by omega
                    have hrr := HA.out.keep (HBC.out.trans (HM.out.2.2.mono (by omega))) (Nat.le_refl _)
                    obtain ⟨bq, oq, rfl, hcq⟩ := hrr (by rw [HL.out]; omega)
                    obtain ⟨aq, cq, dq, rq, _⟩ := hcq x1 (by rw [HL.out]; exact hxn)
                    have hlq : (rw_ xs x1).length = n := HS.out.row x1 hxn
                    obtain ⟨bz, oz, rfl, hcz⟩ := rq (by rw [hlq]; omega)
                    have dz := hcz y1 (by rw [hlq]; exact hyn)
                    rw [hlq] at dq
                    have hen := HS.out.ent x1 y1 hxn hyn
                    have HEN := Lib.hid hen
                    clear hyi hcn hrr hcq hcz hlq hen
                    go_wp2_with (at_builtin; (refine wpList_push rfl (.tmp 45) (.tmp 53) 31 rfl wC.heap.size 2 (.int .i64 0) 8 Try.underlying31 Try.info2 rfl (by decide) (.int .i64 (el (rw_ xs x1) y1)) rfl _ _ _ _ rfl rfl (by exact HM.out.1) (by omega) (by exact sD) ?_; rintro a4 c4 w4 r4 q4 g4; have HN := Lib.hid (And.intro (OwnI.pushed r4) (HM.out.2.2.trans (g4.below sD (fun k hk hx => by obtain ⟨p, hp, e⟩ := hx; have := (HM.out.1.block p hp).1; omega)))); clear r4 q4 g4))
                    have HNB : Hid (∀ t, t < cn + 1 → -64 ≤ el (l11 ++ [el (rw_ xs x1) y1]) t ∧ el (l11 ++ [el (rw_ xs x1) y1]) t ≤ 64) := Lib.hid (fun t ht => by
                      have hl := HM.out.1.len
                      by_cases htc : t < cn
                      · rw [el_append_lt (by omega)]; exact HM.out.2.1 t htc
                      · obtain rfl : t = cn := by omega
                        rw [el_append_ge (by omega), hl, Nat.sub_self]
                        exact HEN.out)
                    go_roundw
                    case rel => exact ⟨y1 + 1, cn + 1, a4, c4, _, by omega, by go_num, HC2.out, rfl, Lib.hid ⟨HN.out.1, HNB.out, HN.out.2⟩⟩
                    case measure => simp [intOf]; omega
                · obtain rfl : y1 = n := by omega
                  have J4 : ¬ (y1 : Int) < (y1 : Int) := by omega
                  have hcnn : cn = y1 - 1 := by omega
                  have HLL : Hid (l11.length = y1 - 1) := Lib.hid (by rw [HM.out.1.len]; exact hcnn)
                  by_cases hxj : x1 = j1
                  · have e1 : ((x1 : Int) != (j1 : Int)) = false := by simp [hxj]
                    have HC2 : Hid (j1 < x1 + 1 ∧ cnt + 1 = x1 + 1 ∨ x1 + 1 ≤ j1 ∧ cnt = x1 + 1) := Lib.hid (by omega)
                    have HN := Lib.hid (And.intro (HK.out.1.keep HM.out.2.2 (Nat.le_refl _)) (HK.out.2.2.trans (HM.out.2.2.mono sC)))
                    clear hxj hcnt hcn hcnn
                    go_wp2_with fail
                    go_roundw
                    case rel => exact ⟨x1 + 1, cnt, a9, c9, P, A9, C9, by omega, by go_num, HC2.out, rfl, Lib.hid ⟨HN.out.1, HK.out.2.1, HN.out.2⟩⟩
                    case measure => simp [intOf]; omega
                  · have e1 : ((x1 : Int) != (j1 : Int)) = true := bne_iff_ne.2 (by omega)
                    have HC2 : Hid (j1 < x1 + 1 ∧ cnt + 1 + 1 = x1 + 1 ∨ x1 + 1 ≤ j1 ∧ cnt + 1 = x1 + 1) := Lib.hid (by omega)
                    have hcnt9 : cnt ≤ 9 := by omega
                    have HKD := Lib.hid (HK.out.1.keep HM.out.2.2 (Nat.le_refl _))
                    have sBD : wB.heap.size ≤ wD.heap.size := by omega
                    clear hxj hcnt hcn hcnn
                    go_wp2_with (at_builtin; (refine wpList_push rfl (.tmp 58) (.tmp 60) 24 rfl wB.heap.size 31 (.slice none 0 0) 24 Try.underlying24 Try.infoR rfl (by decide) (.slice a11 cn c11) rfl _ _ _ _ rfl rfl (by exact HKD.out.own) (by omega) (by exact sBD) ?_; rintro a4 c4 w4 r4 q4 g4; have HN := Lib.hid (HK.out.1.pushNew2 sC HM.out.2.2 HM.out.1 (Nat.le_refl _) r4 q4 g4); clear r4 q4 g4))
                    have HNS := Lib.hid (HK.out.2.1.snoc HLL.out (fun t ht => HM.out.2.1 t (by rw [← HM.out.1.len, HLL.out]; exact ht)))
                    go_wp2_with fail
                    go_roundw
                    case rel => exact ⟨x1 + 1, cnt + 1, a4, c4, _, _, _, by omega, by go_num, HC2.out, rfl, Lib.hid ⟨HN.out.1, HNS.out, HK.out.2.2.trans HN.out.2⟩⟩
                    case measure => simp [intOf]; omega
            · obtain rfl : x1 = n := by omega
              have J3 : ¬ (x1 : Int) < (x1 : Int) := by omega
              obtain rfl : cnt = x1 - 1 := by omega
              have sC := HK.out.2.2.size
              have HPL := Lib.hid HK.out.1.len
              have HSQ := Lib.hid (HK.out.2.1.sq HPL.out)
              obtain ⟨R, hR⟩ : ∃ R : Nat, R = (i1 + j1) % 2 := ⟨_, rfl⟩
              have hR2 : R < 2 := by rw [hR]; exact Nat.mod_lt _ (by omega)
              have W1 : IntKind.i64.wrap ((i1 : Int) + (j1 : Int)) = (i1 : Int) + (j1 : Int) := IntWalk.i64_in _ (by omega)
              have W2 : ((i1 : Int) + (j1 : Int)).tmod 2 = (R : Int) := by rw [Int.tmod_eq_emod_of_nonneg (by omega), hR]; omega
              have W3 : IntKind.i64.wrap (2 * (R : Int)) = 2 * (R : Int) := IntWalk.i64_in _ (by omega)
              have W4 : IntKind.i64.wrap (1 - 2 * (R : Int)) = 1 - 2 * (R : Int) := IntWalk.i64_in _ (by omega)
              have hs1 : 1 - 2 * (R : Int) = 1 ∨ 1 - 2 * (R : Int) = -1 := by omega
              have hdb := det_bd _ _ HSQ.out
              rw [← HXE.out] at hdb
              have hss := sgn_small hs1 HD.out hdb.1 hdb.2
              have hx0 := HX0.out
              have hx1 := HX1.out
              have hW5 : -1 ≤ (1 - 2 * (R : Int)) * D ∧ (1 - 2 * (R : Int)) * D ≤ 1 := by rcases hss.1 with h | h <;> rw [h] <;> omega
              have W5 : IntKind.i64.wrap ((1 - 2 * (R : Int)) * D) = (1 - 2 * (R : Int)) * D := IntWalk.i64_in _ (by omega)
              obtain ⟨Z, hZ⟩ : ∃ Z, (1 - 2 * (R : Int)) * D * detN (x1 - 1) P = Z := ⟨_, rfl⟩
              have W7 : wrap64 ((1 - 2 * (R : Int)) * D * detN (x1 - 1) P) = Z := by rw [wrap64_small hss.2.1 hss.2.2 hx1, hZ]
              have HSS : Hid (-X ≤ Z ∧ Z ≤ X) := Lib.hid (by rw [← hZ]; exact hss.2)
              clear hR hs1 hdb hss hW5 hx0 hx1 hcnt hZ
              go_wp2_with fail
              refine (l04Det_any (x1 - 1) (by omega) a9 c9 P wC (by exact HK.out.1.rd) HSQ.out HK.out.1.capl).mono ?_
              rintro e w5 ⟨rfl, hb⟩
              have HB5 : Hid (Below wB.heap.size wB w5) := Lib.hid (HK.out.2.2.trans (hb.mono sC))
              have HJ5 : Hid (OwnI 2 w5 wA.heap.size a7 j1 c7 l7) := Lib.hid (HJ.out.1.keep HB5.out (Nat.le_refl _))
              have sA5 : wA.heap.size ≤ w5.heap.size := Nat.le_trans sB HB5.out.size
              clear hb
              go_wp2_with (at_builtin; (refine wpList_push rfl (.tmp 68) (.tmp 75) 31 rfl wA.heap.size 2 (.int .i64 0) 8 Try.underlying31 Try.info2 rfl (by decide) (.int .i64 Z) rfl _ _ _ _ rfl rfl (by exact HJ5.out) (by omega) (by exact sA5) ?_; rintro a4 c4 w4 r4 q4 g4; have HN := Lib.hid (And.intro (OwnI.pushed r4) ((HJ.out.2.2.trans (HB5.out.mono sB)).trans (g4.below sA5 (fun k hk hx => by obtain ⟨p, hp, e⟩ := hx; have := (HJ5.out.block p hp).1; omega)))); clear r4 q4 g4))
              have HNB : Hid (∀ t, t < j1 + 1 → -X ≤ el (l7 ++ [Z]) t ∧ el (l7 ++ [Z]) t ≤ X) := Lib.hid (fun t ht => by
                have hl := HJ.out.1.len
                by_cases htc : t < j1
                · rw [el_append_lt (by omega)]; exact HJ.out.2.1 t htc
                · obtain rfl : t = j1 := by omega
                  rw [el_append_ge (by omega), hl, Nat.sub_self]
                  exact HSS.out)
              go_roundw
              case rel => exact ⟨j1 + 1, a4, c4, _, by omega, by go_num, rfl, Lib.hid ⟨HN.out.1, HNB.out, HN.out.2⟩⟩
              case measure => simp [intOf]; omega
        · obtain rfl : j1 = n := by omega
          have J2 : ¬ (j1 : Int) < (j1 : Int) := by omega
          have sB := HJ.out.2.2.size
          have HIB := Lib.hid (HI.out.1.keep HJ.out.2.2 (Nat.le_refl _))
          have swB : w.heap.size ≤ wB.heap.size := by omega
          have HLL := Lib.hid HJ.out.1.len
          go_wp2_with (at_builtin; (refine wpList_push rfl (.tmp 77) (.tmp 79) 24 rfl w.heap.size 31 (.slice none 0 0) 24 Try.underlying24 Try.infoR rfl (by decide) (.slice a7 j1 c7) rfl _ _ _ _ rfl rfl (by exact HIB.out.own) (by omega) (by exact swB) ?_; rintro a4 c4 w4 r4 q4 g4; have HN := Lib.hid (HI.out.1.pushNew2 sA HJ.out.2.2 HJ.out.1 (Nat.le_refl _) r4 q4 g4); clear r4 q4 g4))
          have HNS := Lib.hid (HI.out.2.1.snoc HLL.out (fun t ht => HJ.out.2.1 t ht))
          go_wp2_with fail
          go_roundw
          case rel => exact ⟨i1 + 1, a4, c4, _, _, _, by omega, by go_num, rfl, Lib.hid ⟨HN.out.1, HNS.out, HI.out.2.2.trans HN.out.2⟩⟩
          case measure => simp [intOf]; omega
    · obtain rfl : i1 = n := by omega
      have J1 : ¬ (i1 : Int) < (i1 : Int) := by omega
      go_wp2_with fail
      go_ret
      exact ⟨ys, ad, cap, rfl, ⟨A, C, HI.out.1⟩, by rw [← HXE.out]; exact HI.out.2.1, HI.out.2.2⟩
end Go.Proofs.Ytcnphhcdjhmmkaa
