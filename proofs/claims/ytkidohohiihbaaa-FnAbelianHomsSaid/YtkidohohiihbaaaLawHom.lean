/- The law on homomorphisms of abelian groups, from a code. -/
import Derived.Test.YtkidohohiihbaaaLawRes
import Derived.Test.YtkidohohiihbaaaHomP
import Derived.Test.YtkidohohiihbaaaAbSol
import Derived.Test.YtkidohohiihbaaaDice
import Derived.Test.YtkidohohiihbaaaDrawHom
set_option linter.unusedVariables false
set_option linter.unusedSimpArgs false
namespace Go.Proofs.Ytkidohohiihbaaa
open Go.RowKit

theorem homV_rank {xs ys : List Int} {r s : Int} (h : (homV xs r ys s).2 = 0) : isAb xs r = true ∧ isAb ys s = true ∧ s = 0 := by
  unfold homV at h
  by_cases h1 : isAb xs r = true
  · rw [if_pos h1] at h
    by_cases h2 : isAb ys s = true
    · rw [if_pos h2] at h
      by_cases h3 : s = 0
      · exact ⟨h1, h2, h3⟩
      · rw [if_neg h3] at h; simp at h
    · rw [if_neg h2] at h; simp at h
  · rw [if_neg h1] at h; simp at h
theorem Code0.keep0 {w w' : World} {a : Option Addr} {m : Nat} {bs : List Int} (h : Code0 w a m bs) (hb : Below w.heap.size w w') : Code0 w' a m bs := ⟨h.len, h.rd.keep hb (Nat.le_refl _), h.rng, h.sm⟩
theorem isAb_one {k : Int} (h1 : 2 ≤ k) (h2 : k ≤ 1000000) : isAb [k] 0 = true := by
  apply isAb_t
  refine ⟨by omega, by omega, by simp, fun i hi => ?_⟩
  simp at hi
  subst hi
  refine ⟨by simpa [el] using h1, by simpa [el] using h2, fun h => by omega⟩
set_option maxRecDepth 20000 in
set_option maxHeartbeats 4000000 in
theorem law_AbelianHoms (a0 : Option Addr) (n0 c0 : Nat) (bs : List Int) (w : World) (hl : bs.length = n0) (hx : RdB w a0 bs) (hw : ∀ x ∈ bs, 0 ≤ x ∧ x ≤ 255) (hc : n0 ≤ c0) (hm : n0 ≤ maxLen) :
    Calls Try.prog 5 #[.slice a0 n0 c0] w fun e w' => e = .returned (.bool true) ∧ Below w.heap.size w w' := by
  by_cases hbig : 4096 < n0
  · clear hx hw
    go_enter Try.func5, Try.ntmps5
    go_wp2_with (go_at_call 14; refine (big_t _ _ _ _ hbig hm).mono ?_; rintro e w' ⟨rfl, rfl⟩)
    go_ret
    exact ⟨rfl, Below.refl _ _⟩
  · have hs : n0 ≤ 4096 := by omega
    have HS := Lib.hid (Code0.of hl hx hw hs)
    clear hl hx hw hm hbig
    go_enter Try.func5, Try.ntmps5
    go_wp2_with (go_at_call 14; refine (big_f _ _ _ _ hs).mono ?_; rintro e w' ⟨rfl, rfl⟩)
    refine (DrawCountAbelianHoms_any a0 n0 c0 bs w HS.out hc).mono ?_
    rintro e w1 ⟨xs, r, af, nf, cf, ys, s, bf, mf, df, rfl, hx, hxl, hnf, hr, hy, hyl, hmf, hsi, hb⟩
    have HX1 := Lib.hid hx
    have HY1 := Lib.hid hy
    have HXL := Lib.hid hxl
    have HYL := Lib.hid hyl
    have HB1 := Lib.hid hb
    clear hx hy hxl hyl hr hsi hb
    go_wp2_with fail
    obtain ⟨w2, hw2⟩ : ∃ x, x = (w1.alloc (.cells #[.slice af nf cf, .int .i64 r] 37)).alloc (.cells #[.slice bf mf df, .int .i64 s] 37) := ⟨_, rfl⟩
    rw [← hw2]
    have hb2 : Below w1.heap.size w1 w2 := by rw [hw2]; exact ((Below.refl _ _).alloc (Nat.le_refl _) _).alloc (by simp) _
    have HA2 : BX 37 w2 w1.heap.size #[.slice af nf cf, .int .i64 r] := by rw [hw2]; exact (BX.new _ _ _).alloc _
    have HD2 : BX 37 w2 (w1.heap.size + 1) #[.slice bf mf df, .int .i64 s] := by rw [hw2]; have := BX.new (w1.alloc (.cells #[.slice af nf cf, .int .i64 r] 37)) 37 #[.slice bf mf df, .int .i64 s]; simpa using this
    have p0_2 := HA2.cell 0
    have p1_2 := HA2.cell 1
    have p2_2 := HD2.cell 0
    have p3_2 := HD2.cell 1
    simp at p0_2 p1_2 p2_2 p3_2
    have HX2 := Lib.hid (HX1.out.keep hb2 (Nat.le_refl _))
    have HY2 := Lib.hid (HY1.out.keep hb2 (Nat.le_refl _))
    have HB2 : Hid (Below w.heap.size w w2) := Lib.hid (HB1.out.trans (hb2.mono HB1.out.size))
    clear hw2 hb2 HA2 HD2 HX1 HY1 HB1
    obtain ⟨N, hN⟩ : ∃ x, x = (homV xs r ys s).1 := ⟨_, rfl⟩
    obtain ⟨K, hK⟩ : ∃ x, x = (homV xs r ys s).2 := ⟨_, rfl⟩
    have HNK : Hid (homV xs r ys s = (N, K)) := Lib.hid (by rw [hN, hK])
    refine (impl_CountAbelianHoms_any af nf cf xs r bf mf df ys s w2 HX2.out HXL.out HY2.out HYL.out (by omega) (by omega)).mono ?_
    rintro e w3 ⟨rfl, hb⟩
    rw [← hN, ← hK]
    have p0_3 := cell_below (p := ⟨w1.heap.size, 0, none⟩) p0_2 hb
    have p1_3 := cell_below (p := ⟨w1.heap.size, 1, none⟩) p1_2 hb
    have p2_3 := cell_below (p := ⟨w1.heap.size + 1, 0, none⟩) p2_2 hb
    have p3_3 := cell_below (p := ⟨w1.heap.size + 1, 1, none⟩) p3_2 hb
    have HX3 := Lib.hid (HX2.out.keep hb (Nat.le_refl _))
    have HY3 := Lib.hid (HY2.out.keep hb (Nat.le_refl _))
    have HB3 : Hid (Below w.heap.size w w3) := Lib.hid (HB2.out.trans (hb.mono HB2.out.size))
    clear hb p0_2 p1_2 p2_2 p3_2 HX2 HY2 HB2
    go_wp2_with fail
    refine (spec_CountAbelianHoms_any af nf cf xs r bf mf df ys s w3 HX3.out HXL.out HY3.out HYL.out (by omega) (by omega)).mono ?_
    rintro e w4 ⟨rfl, hb⟩
    rw [← hN, ← hK]
    have p0_4 := cell_below (p := ⟨w1.heap.size, 0, none⟩) p0_3 hb
    have p1_4 := cell_below (p := ⟨w1.heap.size, 1, none⟩) p1_3 hb
    have p2_4 := cell_below (p := ⟨w1.heap.size + 1, 0, none⟩) p2_3 hb
    have p3_4 := cell_below (p := ⟨w1.heap.size + 1, 1, none⟩) p3_3 hb
    have HX4 := Lib.hid (HX3.out.keep hb (Nat.le_refl _))
    have HY4 := Lib.hid (HY3.out.keep hb (Nat.le_refl _))
    have HB4 : Hid (Below w.heap.size w w4) := Lib.hid (HB3.out.trans (hb.mono HB3.out.size))
    clear hb p0_3 p1_3 p2_3 p3_3 HX3 HY3 HB3
    clear hN hK
    have e1 : (K != K) = false := by simp
    have e2 : (N != N) = false := by simp
    by_cases hK0 : K = 0
    · have e3 : (K != 0) = false := by simp [hK0]
      have hrk := homV_rank (xs := xs) (ys := ys) (r := r) (s := s) (by rw [HNK.out]; exact hK0)
      obtain ⟨hx1, hy1, hs0⟩ := hrk
      have HX9 := Lib.hid hx1
      have HY9 := Lib.hid hy1
      have HS9 := Lib.hid hs0
      clear hx1 hy1 hs0 hK0
      by_cases hr0 : r = 0
      · have e4 : (r == 0) = true := by simp [hr0]
        have HC : Hid (homV ys s xs r = (N, K)) := Lib.hid (by
          have h9 := HS9.out
          have h8 := HY9.out
          have h7 := HX9.out
          rw [h9] at h8
          rw [hr0] at h7
          rw [← HNK.out, h9, hr0]
          exact (homV_comm h7 h8).symm)
        clear hr0
        go_wp2_with fail
        refine (impl_CountAbelianHoms_any bf mf df ys s af nf cf xs r w4 HY4.out HYL.out HX4.out HXL.out (by omega) (by omega)).mono ?_
        rintro e w5 ⟨rfl, hb⟩
        rw [HC.out]
        have p0_5 := cell_below (p := ⟨w1.heap.size, 0, none⟩) p0_4 hb
        have p1_5 := cell_below (p := ⟨w1.heap.size, 1, none⟩) p1_4 hb
        have p2_5 := cell_below (p := ⟨w1.heap.size + 1, 0, none⟩) p2_4 hb
        have p3_5 := cell_below (p := ⟨w1.heap.size + 1, 1, none⟩) p3_4 hb
        have HX5 := Lib.hid (HX4.out.keep hb (Nat.le_refl _))
        have HY5 := Lib.hid (HY4.out.keep hb (Nat.le_refl _))
        have HB5 : Hid (Below w.heap.size w w5) := Lib.hid (HB4.out.trans (hb.mono HB4.out.size))
        clear hb p0_4 p1_4 p2_4 p3_4 HX4 HY4 HB4
        have HCD := Lib.hid (Code0.keep0 HS.out HB5.out)
        go_wp2_with fail
        refine (roll_any a0 n0 c0 bs w5 HCD.out hc).mono ?_
        rintro e w6 ⟨rfl, hd, hb⟩
        have HD6 := Lib.hid hd
        have HB6 := Lib.hid hb
        have sz6 := hb.size
        clear hd hb
        go_wp2_with fail
        refine (below_any w5.heap.size a0 n0 c0 bs 30 w6 HD6.out (by omega) (by omega) hc).mono ?_
        rintro e w7 ⟨v, rfl, hv0, hv1, hd, hch⟩
        have hb : Below w5.heap.size w5 w7 := HB6.out.trans (hch.up (Nat.le_refl _) sz6)
        clear hd hch HD6 HB6 sz6
        obtain ⟨V, rfl⟩ : ∃ V : Nat, v = V := ⟨v.toNat, by omega⟩
        have hV : V < 30 := by omega
        clear hv0 hv1
        have p0_7 := cell_below (p := ⟨w1.heap.size, 0, none⟩) p0_5 hb
        have p1_7 := cell_below (p := ⟨w1.heap.size, 1, none⟩) p1_5 hb
        have p2_7 := cell_below (p := ⟨w1.heap.size + 1, 0, none⟩) p2_5 hb
        have p3_7 := cell_below (p := ⟨w1.heap.size + 1, 1, none⟩) p3_5 hb
        have HX7 := Lib.hid (HX5.out.keep hb (Nat.le_refl _))
        have HY7 := Lib.hid (HY5.out.keep hb (Nat.le_refl _))
        have HB7 : Hid (Below w.heap.size w w7) := Lib.hid (HB5.out.trans (hb.mono HB5.out.size))
        clear hb p0_5 p1_5 p2_5 p3_5 HX5 HY5 HB5
        obtain ⟨X, hX⟩ : ∃ x, x = (solV ys s (2 + (V : Int))).1 := ⟨_, rfl⟩
        obtain ⟨Y, hY⟩ : ∃ x, x = (solV ys s (2 + (V : Int))).2 := ⟨_, rfl⟩
        have HHC : Hid (homV [2 + (V : Int)] 0 ys s = solV ys s (2 + (V : Int))) := Lib.hid (by
          have h9 := HS9.out
          have h8 := HY9.out
          rw [h9] at h8
          rw [h9]
          exact homV_cyclic (s := 0) (by omega) (by omega) h8 (isAb_one (by omega) (by omega)))
        have HXY := Lib.hid (And.intro hX hY)
        clear hX hY
        go_wp2_with fail
        refine (impl_CountSolutions_any bf mf df ys s (2 + (V : Int)) w7 HY7.out HYL.out (by omega) (by unfold I64; omega)).mono ?_
        rintro e w8 ⟨rfl, hb⟩
        rw [← HXY.out.1, ← HXY.out.2]
        have p0_8 := cell_below (p := ⟨w1.heap.size, 0, none⟩) p0_7 hb
        have p1_8 := cell_below (p := ⟨w1.heap.size, 1, none⟩) p1_7 hb
        have p2_8 := cell_below (p := ⟨w1.heap.size + 1, 0, none⟩) p2_7 hb
        have p3_8 := cell_below (p := ⟨w1.heap.size + 1, 1, none⟩) p3_7 hb
        have HX8 := Lib.hid (HX7.out.keep hb (Nat.le_refl _))
        have HY8 := Lib.hid (HY7.out.keep hb (Nat.le_refl _))
        have HB8 : Hid (Below w.heap.size w w8) := Lib.hid (HB7.out.trans (hb.mono HB7.out.size))
        clear hb p0_7 p1_7 p2_7 p3_7 HX7 HY7 HB7
        have q9 : w1.heap.size + 1 < w8.heap.size := by simpa using block_lt p2_8
        go_wp2_with fail
        clear q9
        have HLT : Hid (RdI (w8.alloc (.cells #[.int .i64 (2 + (V : Int))] 2)) (some ⟨w8.heap.size, 0, none⟩) [2 + (V : Int)]) := Lib.hid (lit_rd w8 2 [2 + (V : Int)] #[.int .i64 (2 + (V : Int))] rfl (by simp [maxLen]))
        have hb : Below w8.heap.size w8 (w8.alloc (.cells #[.int .i64 (2 + (V : Int))] 2)) := (Below.refl _ _).alloc (Nat.le_refl _) _
        obtain ⟨w9, hw9⟩ : ∃ x, x = w8.alloc (.cells #[.int .i64 (2 + (V : Int))] 2) := ⟨_, rfl⟩
        rw [← hw9] at HLT hb
        rw [← hw9]
        clear hw9
        have p0_9 := cell_below (p := ⟨w1.heap.size, 0, none⟩) p0_8 hb
        have p1_9 := cell_below (p := ⟨w1.heap.size, 1, none⟩) p1_8 hb
        have p2_9 := cell_below (p := ⟨w1.heap.size + 1, 0, none⟩) p2_8 hb
        have p3_9 := cell_below (p := ⟨w1.heap.size + 1, 1, none⟩) p3_8 hb
        have HXq := Lib.hid (HX8.out.keep hb (Nat.le_refl _))
        have HYq := Lib.hid (HY8.out.keep hb (Nat.le_refl _))
        have HBq : Hid (Below w.heap.size w w9) := Lib.hid (HB8.out.trans (hb.mono HB8.out.size))
        clear hb p0_8 p1_8 p2_8 p3_8 HX8 HY8 HB8
        refine (impl_CountAbelianHoms_any (some ⟨w8.heap.size, 0, none⟩) 1 1 [2 + (V : Int)] 0 bf mf df ys s w9 HLT.out rfl HYq.out HYL.out (by omega) (by omega)).mono ?_
        rintro e wa ⟨rfl, hb⟩
        rw [HHC.out, ← HXY.out.1, ← HXY.out.2]
        clear HLT
        have p0_a := cell_below (p := ⟨w1.heap.size, 0, none⟩) p0_9 hb
        have p1_a := cell_below (p := ⟨w1.heap.size, 1, none⟩) p1_9 hb
        have p2_a := cell_below (p := ⟨w1.heap.size + 1, 0, none⟩) p2_9 hb
        have p3_a := cell_below (p := ⟨w1.heap.size + 1, 1, none⟩) p3_9 hb
        have HXa := Lib.hid (HXq.out.keep hb (Nat.le_refl _))
        have HYa := Lib.hid (HYq.out.keep hb (Nat.le_refl _))
        have HBa : Hid (Below w.heap.size w wa) := Lib.hid (HBq.out.trans (hb.mono HBq.out.size))
        clear hb p0_9 p1_9 p2_9 p3_9 HXq HYq HBq
        go_wp2_with fail
        refine (spec_CountSolutions_any bf mf df ys s (2 + (V : Int)) wa HYa.out HYL.out (by omega) (by unfold I64; omega)).mono ?_
        rintro e wb ⟨rfl, hb⟩
        rw [← HXY.out.1, ← HXY.out.2]
        have p0_b := cell_below (p := ⟨w1.heap.size, 0, none⟩) p0_a hb
        have p1_b := cell_below (p := ⟨w1.heap.size, 1, none⟩) p1_a hb
        have p2_b := cell_below (p := ⟨w1.heap.size + 1, 0, none⟩) p2_a hb
        have p3_b := cell_below (p := ⟨w1.heap.size + 1, 1, none⟩) p3_a hb
        have HXb := Lib.hid (HXa.out.keep hb (Nat.le_refl _))
        have HYb := Lib.hid (HYa.out.keep hb (Nat.le_refl _))
        have HBb : Hid (Below w.heap.size w wb) := Lib.hid (HBa.out.trans (hb.mono HBa.out.size))
        clear hb p0_a p1_a p2_a p3_a HXa HYa HBa
        clear HXY HHC
        have b1 : (Y == Y) = true := by simp
        have b2 : (X == X) = true := by simp
        go_wp2_with fail
        go_ret
        exact ⟨rfl, HBb.out⟩
      · have e4 : (r == 0) = false := by simp [hr0]
        clear hr0
        have HCD := Lib.hid (Code0.keep0 HS.out HB4.out)
        go_wp2_with fail
        refine (roll_any a0 n0 c0 bs w4 HCD.out hc).mono ?_
        rintro e w6 ⟨rfl, hd, hb⟩
        have HD6 := Lib.hid hd
        have HB6 := Lib.hid hb
        have sz6 := hb.size
        clear hd hb
        go_wp2_with fail
        refine (below_any w4.heap.size a0 n0 c0 bs 30 w6 HD6.out (by omega) (by omega) hc).mono ?_
        rintro e w7 ⟨v, rfl, hv0, hv1, hd, hch⟩
        have hb : Below w4.heap.size w4 w7 := HB6.out.trans (hch.up (Nat.le_refl _) sz6)
        clear hd hch HD6 HB6 sz6
        obtain ⟨V, rfl⟩ : ∃ V : Nat, v = V := ⟨v.toNat, by omega⟩
        have hV : V < 30 := by omega
        clear hv0 hv1
        have p0_7 := cell_below (p := ⟨w1.heap.size, 0, none⟩) p0_4 hb
        have p1_7 := cell_below (p := ⟨w1.heap.size, 1, none⟩) p1_4 hb
        have p2_7 := cell_below (p := ⟨w1.heap.size + 1, 0, none⟩) p2_4 hb
        have p3_7 := cell_below (p := ⟨w1.heap.size + 1, 1, none⟩) p3_4 hb
        have HX7 := Lib.hid (HX4.out.keep hb (Nat.le_refl _))
        have HY7 := Lib.hid (HY4.out.keep hb (Nat.le_refl _))
        have HB7 : Hid (Below w.heap.size w w7) := Lib.hid (HB4.out.trans (hb.mono HB4.out.size))
        clear hb p0_4 p1_4 p2_4 p3_4 HX4 HY4 HB4
        obtain ⟨X, hX⟩ : ∃ x, x = (solV ys s (2 + (V : Int))).1 := ⟨_, rfl⟩
        obtain ⟨Y, hY⟩ : ∃ x, x = (solV ys s (2 + (V : Int))).2 := ⟨_, rfl⟩
        have HHC : Hid (homV [2 + (V : Int)] 0 ys s = solV ys s (2 + (V : Int))) := Lib.hid (by
          have h9 := HS9.out
          have h8 := HY9.out
          rw [h9] at h8
          rw [h9]
          exact homV_cyclic (s := 0) (by omega) (by omega) h8 (isAb_one (by omega) (by omega)))
        have HXY := Lib.hid (And.intro hX hY)
        clear hX hY
        go_wp2_with fail
        refine (impl_CountSolutions_any bf mf df ys s (2 + (V : Int)) w7 HY7.out HYL.out (by omega) (by unfold I64; omega)).mono ?_
        rintro e w8 ⟨rfl, hb⟩
        rw [← HXY.out.1, ← HXY.out.2]
        have p0_8 := cell_below (p := ⟨w1.heap.size, 0, none⟩) p0_7 hb
        have p1_8 := cell_below (p := ⟨w1.heap.size, 1, none⟩) p1_7 hb
        have p2_8 := cell_below (p := ⟨w1.heap.size + 1, 0, none⟩) p2_7 hb
        have p3_8 := cell_below (p := ⟨w1.heap.size + 1, 1, none⟩) p3_7 hb
        have HX8 := Lib.hid (HX7.out.keep hb (Nat.le_refl _))
        have HY8 := Lib.hid (HY7.out.keep hb (Nat.le_refl _))
        have HB8 : Hid (Below w.heap.size w w8) := Lib.hid (HB7.out.trans (hb.mono HB7.out.size))
        clear hb p0_7 p1_7 p2_7 p3_7 HX7 HY7 HB7
        have q9 : w1.heap.size + 1 < w8.heap.size := by simpa using block_lt p2_8
        go_wp2_with fail
        clear q9
        have HLT : Hid (RdI (w8.alloc (.cells #[.int .i64 (2 + (V : Int))] 2)) (some ⟨w8.heap.size, 0, none⟩) [2 + (V : Int)]) := Lib.hid (lit_rd w8 2 [2 + (V : Int)] #[.int .i64 (2 + (V : Int))] rfl (by simp [maxLen]))
        have hb : Below w8.heap.size w8 (w8.alloc (.cells #[.int .i64 (2 + (V : Int))] 2)) := (Below.refl _ _).alloc (Nat.le_refl _) _
        obtain ⟨w9, hw9⟩ : ∃ x, x = w8.alloc (.cells #[.int .i64 (2 + (V : Int))] 2) := ⟨_, rfl⟩
        rw [← hw9] at HLT hb
        rw [← hw9]
        clear hw9
        have p0_9 := cell_below (p := ⟨w1.heap.size, 0, none⟩) p0_8 hb
        have p1_9 := cell_below (p := ⟨w1.heap.size, 1, none⟩) p1_8 hb
        have p2_9 := cell_below (p := ⟨w1.heap.size + 1, 0, none⟩) p2_8 hb
        have p3_9 := cell_below (p := ⟨w1.heap.size + 1, 1, none⟩) p3_8 hb
        have HXq := Lib.hid (HX8.out.keep hb (Nat.le_refl _))
        have HYq := Lib.hid (HY8.out.keep hb (Nat.le_refl _))
        have HBq : Hid (Below w.heap.size w w9) := Lib.hid (HB8.out.trans (hb.mono HB8.out.size))
        clear hb p0_8 p1_8 p2_8 p3_8 HX8 HY8 HB8
        refine (impl_CountAbelianHoms_any (some ⟨w8.heap.size, 0, none⟩) 1 1 [2 + (V : Int)] 0 bf mf df ys s w9 HLT.out rfl HYq.out HYL.out (by omega) (by omega)).mono ?_
        rintro e wa ⟨rfl, hb⟩
        rw [HHC.out, ← HXY.out.1, ← HXY.out.2]
        clear HLT
        have p0_a := cell_below (p := ⟨w1.heap.size, 0, none⟩) p0_9 hb
        have p1_a := cell_below (p := ⟨w1.heap.size, 1, none⟩) p1_9 hb
        have p2_a := cell_below (p := ⟨w1.heap.size + 1, 0, none⟩) p2_9 hb
        have p3_a := cell_below (p := ⟨w1.heap.size + 1, 1, none⟩) p3_9 hb
        have HXa := Lib.hid (HXq.out.keep hb (Nat.le_refl _))
        have HYa := Lib.hid (HYq.out.keep hb (Nat.le_refl _))
        have HBa : Hid (Below w.heap.size w wa) := Lib.hid (HBq.out.trans (hb.mono HBq.out.size))
        clear hb p0_9 p1_9 p2_9 p3_9 HXq HYq HBq
        go_wp2_with fail
        refine (spec_CountSolutions_any bf mf df ys s (2 + (V : Int)) wa HYa.out HYL.out (by omega) (by unfold I64; omega)).mono ?_
        rintro e wb ⟨rfl, hb⟩
        rw [← HXY.out.1, ← HXY.out.2]
        have p0_b := cell_below (p := ⟨w1.heap.size, 0, none⟩) p0_a hb
        have p1_b := cell_below (p := ⟨w1.heap.size, 1, none⟩) p1_a hb
        have p2_b := cell_below (p := ⟨w1.heap.size + 1, 0, none⟩) p2_a hb
        have p3_b := cell_below (p := ⟨w1.heap.size + 1, 1, none⟩) p3_a hb
        have HXb := Lib.hid (HXa.out.keep hb (Nat.le_refl _))
        have HYb := Lib.hid (HYa.out.keep hb (Nat.le_refl _))
        have HBb : Hid (Below w.heap.size w wb) := Lib.hid (HBa.out.trans (hb.mono HBa.out.size))
        clear hb p0_a p1_a p2_a p3_a HXa HYa HBa
        clear HXY HHC
        have b1 : (Y == Y) = true := by simp
        have b2 : (X == X) = true := by simp
        go_wp2_with fail
        go_ret
        exact ⟨rfl, HBb.out⟩
    · have e3 : (K != 0) = true := by simp [hK0]
      clear hK0
      go_wp2_with fail
      go_ret
      exact ⟨rfl, HB4.out⟩
end Go.Proofs.Ytkidohohiihbaaa
