/- Draws of square tables and of unimodular ones. -/
import Derived.Test.YtcnphhcdjhmmkaaDrV
set_option linter.unusedVariables false
set_option linter.unusedSimpArgs false
namespace Go.Proofs.Ytcnphhcdjhmmkaa
open Go.RowKit
structure SmT (w : World) (q : Int) (a : Option Addr) (n c : Nat) (xs : List (List Int)) : Prop where
  iq : I64 q
  rd : RdR w a xs
  len : xs.length = n
  cap : n ≤ c
  nl : n ≤ 100
  xl : ∀ i, i < n → (rw_ xs i).length ≤ 100
theorem SmT.keep {B : Nat} {w w2 : World} {q : Int} {a : Option Addr} {n c : Nat} {xs : List (List Int)} (h : SmT w q a n c xs) (hb : Below B w w2) (hB : w.heap.size ≤ B) : SmT w2 q a n c xs := ⟨h.iq, h.rd.keep hb hB, h.len, h.cap, h.nl, h.xl⟩
/-- the end: the result's box is written -/
theorem draw_fin {w wr : World} {b : Nat} {a : Option Addr} {m c : Nat} {bs : List Int} {ad : Option Addr} {n cap : Nat} {xs : List (List Int)} (h : SQ w wr b a m c bs) (ho : MadeR 31 2 wr (w.heap.size + 1) ad n cap xs) (u v : Value) :
    MadeR 31 2 ((wr.setCell ⟨w.heap.size, 0, none⟩ u).setCell ⟨w.heap.size, 1, none⟩ v) w.heap.size ad n cap xs ∧ SQ w ((wr.setCell ⟨w.heap.size, 0, none⟩ u).setCell ⟨w.heap.size, 1, none⟩ v) b a m c bs := by
  obtain ⟨A, C, ho⟩ := ho
  exact ⟨⟨A, C, ((ho.setLow ⟨w.heap.size, 0, none⟩ (by simp) u).setLow ⟨w.heap.size, 1, none⟩ (by simp) v).mono (by omega)⟩, (h.set ⟨w.heap.size, 0, none⟩ (by simp) u).set ⟨w.heap.size, 1, none⟩ (by simp) v⟩
theorem DrawnT.fin {w : World} {b : Nat} {a : Option Addr} {m c : Nat} {bs : List Int} {q : Int} {ad : Option Addr} {n cap : Nat} {ys : List (List Int)} {wr : World} (h : SQ w wr b a m c bs) (ho : MadeR 31 2 wr w.heap.size ad n cap ys) (hq : I64 q) (hn : n ≤ 100) (hx : ∀ i, i < n → (rw_ ys i).length ≤ 100) : DrawnT w b a m c bs (.returned (.agg #[.int .i64 q, .slice ad n cap])) wr :=
  ⟨q, ad, n, cap, ys, rfl, hq, ho, hn, hx, h.src, h.chg⟩

set_option maxRecDepth 20000 in
set_option maxHeartbeats 4000000 in
theorem l04Square_any (b : Nat) (a : Option Addr) (m c : Nat) (bs : List Int) (w : World) (hs : Src w b a m c bs) (hmc : m ≤ c) :
    Calls Try.prog 19 #[.pointer (some ⟨b, 0, none⟩)] w (DrawnT w b a m c bs) := by
  have HC0 := Lib.hid ((SQ.start hs).al (.cells #[.int .i64 0, .slice none 0 0] 26))
  have HR0 := Lib.hid (BX.new w 26 #[.int .i64 0, .slice none 0 0])
  have lb : b < w.heap.size := hs.lt
  clear hs
  go_enter Try.func19, Try.ntmps19
  go_wp2_with fail
  refine (l01Next_any b a m c bs 4 _ (by exact HC0.out.src) (by omega) hmc).mono ?_
  rintro e w1 ⟨x, rfl, hx0, hx1, hs, hc⟩
  have HC1 := Lib.hid (HC0.out.next hs hc rfl rfl rfl rfl)
  have HR1 := Lib.hid (HR0.out.src hc (by omega))
  obtain ⟨K, hK⟩ : ∃ K : Nat, (K : Int) = 1 + x := ⟨(1 + x).toNat, by omega⟩
  have hxw : IntKind.i64.wrap (1 + x) = (K : Int) := by rw [hK]; exact IntWalk.i64_in _ (by omega)
  have hK1 : 1 ≤ K ∧ K ≤ 4 := by omega
  clear hs hc hx0 hx1 HC0 HR0 hK
  go_wp2_with fail
  refine (l01Next_any b a m c bs 20 _ (by exact HC1.out.src) (by omega) hmc).mono ?_
  rintro e w3 ⟨z, rfl, hx0, hx1, hs, hc⟩
  have HC3 := Lib.hid (HC1.out.next hs hc rfl rfl rfl rfl)
  have HR3 := Lib.hid (HR1.out.src hc (by omega))
  have s3 := HR3.out.lt
  clear hs hc hx0 hx1 HC1 HR1
  by_cases hz : z = 0
  · have e1 : (z == 0) = true := beq_iff_eq.2 hz
    clear hz
    go_wp2_with fail
    refine (l04Draw_any b a m c bs _ (by exact HC3.out.src) hmc).mono ?_
    rintro e w4 ⟨q, ad, n, cap, ys, rfl, hq, ho, hn, hx, hs, hc⟩
    have HC4 := Lib.hid (HC3.out.next hs hc rfl rfl rfl rfl)
    have HR4 := Lib.hid (HR3.out.src hc (by omega))
    have HO4 : Hid (MadeR 31 2 w4 (w.heap.size + 1) ad n cap ys) := Lib.hid (by obtain ⟨A, C, h⟩ := ho; exact ⟨A, C, h.mono (by omega)⟩)
    have HQ := Lib.hid hq
    have HX := Lib.hid hx
    clear hs hc ho hq hx
    have f0 := HR4.out.frz 0
    have f1 := HR4.out.frz 1
    have z0 := HR4.out.cell 0
    have z1 := HR4.out.cell 1
    have lr := HR4.out.lt
    simp at z0 z1
    have HF := Lib.hid (draw_fin HC4.out HO4.out (.int .i64 q) (.slice ad n cap))
    have X := (HR4.out.set 0 (.int .i64 q)).set 1 (.slice ad n cap)
    have q0 := X.cell 0
    have q1 := X.cell 1
    simp at q0 q1
    go_wp2_with fail
    refine bodyPost_ret (v := .agg #[.int .i64 q, .slice ad n cap]) (by simp [results, Try.results19, go_sem, q0, q1]) rfl ?_
    exact DrawnT.fin HF.out.2 HF.out.1 HQ.out hn HX.out
  · have e1 : (z == 0) = false := beq_eq_false_iff_ne.2 hz
    clear hz
    go_wp2_with fail
    refine (l04Rows_any b a m c bs K K _ (by exact HC3.out.src) hmc (by omega) (by omega)).mono ?_
    rintro e w4 ⟨ys, ad, cap, rfl, ho, hsm, hs, hc⟩
    have HC4 := Lib.hid (HC3.out.next hs hc rfl rfl rfl rfl)
    have HR4 := Lib.hid (HR3.out.src hc (by omega))
    have HO4 : Hid (MadeR 31 2 w4 (w.heap.size + 1) ad K cap ys) := Lib.hid (by obtain ⟨A, C, h⟩ := ho; exact ⟨A, C, h.mono (by omega)⟩)
    have HL4 : Hid (ys.length = K) := Lib.hid (by obtain ⟨A, C, h⟩ := ho; exact h.len)
    have HSM := Lib.hid hsm
    clear hs hc ho hsm
    have f0 := HR4.out.frz 0
    have f1 := HR4.out.frz 1
    have z0 := HR4.out.cell 0
    have z1 := HR4.out.cell 1
    have lr := HR4.out.lt
    simp at z0 z1
    have HF := Lib.hid (draw_fin HC4.out HO4.out (.int .i64 K) (.slice ad K cap))
    have X := (HR4.out.set 0 (.int .i64 K)).set 1 (.slice ad K cap)
    have q0 := X.cell 0
    have q1 := X.cell 1
    simp at q0 q1
    go_wp2_with fail
    refine bodyPost_ret (v := .agg #[.int .i64 K, .slice ad K cap]) (by simp [results, Try.results19, go_sem, q0, q1]) rfl ?_
    exact DrawnT.fin HF.out.2 HF.out.1 (by unfold I64; omega) (by omega) (fun i hi => by rw [HSM.out.row i (by rw [HL4.out]; exact hi)]; omega)

set_option maxRecDepth 20000 in
set_option maxHeartbeats 4000000 in
theorem DrawIsUnimodular_any (a : Option Addr) (m c : Nat) (bs : List Int) (w : World) (hs : Code0 w a m bs) (hmc : m ≤ c) :
    Calls Try.prog 6 #[.slice a m c] w fun e w' => ∃ (q : Int) (ad : Option Addr) (n cap : Nat) (ys : List (List Int)), e = .returned (.agg #[.int .i64 q, .slice ad n cap]) ∧ SmT w' q ad n cap ys ∧ Below w.heap.size w w' := by
  have HS := Lib.hid hs
  have HR0 := Lib.hid (BX.new w 26 #[.int .i64 0, .slice none 0 0])
  have HB0 : Hid (Below w.heap.size w (w.alloc (.cells #[.int .i64 0, .slice none 0 0] 26))) := Lib.hid ((Below.refl _ _).alloc (Nat.le_refl _) _)
  clear hs
  go_enter Try.func6, Try.ntmps6
  go_wp2_with fail
  refine (l01From_any a m c bs (w.alloc (.cells #[.int .i64 0, .slice none 0 0] 26)) (by exact ⟨HS.out.len, HS.out.rd.keep HB0.out (Nat.le_refl _), HS.out.rng, HS.out.sm⟩) hmc).mono ?_
  rintro e w1 ⟨rfl, hs, hb⟩
  obtain ⟨b, hbe⟩ : ∃ b, b = (w.alloc (.cells #[.int .i64 0, .slice none 0 0] 26)).heap.size := ⟨_, rfl⟩
  rw [← hbe] at hs
  have hbn : b = w.heap.size + 1 := by rw [hbe]; simp
  have HR1 := Lib.hid (HR0.out.keep hb)
  have HB1 : Hid (Below w.heap.size w w1) := Lib.hid (HB0.out.trans (hb.mono HB0.out.size))
  have s1 := hs.lt
  have HS1 := Lib.hid hs
  rw [← hbe]
  have HBE := Lib.hid hbn
  clear hbe hs hb HR0 HB0 hbn
  go_wp2_with fail
  refine (l01Next_any b a m c bs 2 w1 HS1.out (by omega) hmc).mono ?_
  rintro e w2 ⟨z, rfl, hx0, hx1, hs, hc⟩
  have hbw : w.heap.size ≤ b := by have := HBE.out; omega
  have HS2 := Lib.hid hs
  have HR2 := Lib.hid (HR1.out.src hc (by have := HBE.out; omega))
  have HB2 : Hid (Below w.heap.size w w2) := Lib.hid (HB1.out.trans (hc.up hbw HB1.out.size))
  have s2 : w.heap.size + 1 ≤ w2.heap.size := HR2.out.lt
  clear hs hc hx0 hx1 HS1 HR1 HB1
  by_cases hz : z = 0
  · have e1 : (z == 0) = true := beq_iff_eq.2 hz
    clear hz
    go_wp2_with fail
    refine (l04Square_any b a m c bs w2 HS2.out hmc).mono ?_
    rintro e w4 ⟨q, ad, n, cap, ys, rfl, hq, ⟨A, C, ho⟩, hn, hx, hs, hc⟩
    have HR4 := Lib.hid (HR2.out.src hc (by have := HBE.out; omega))
    have HB4 : Hid (Below w.heap.size w w4) := Lib.hid (HB2.out.trans (hc.up hbw HB2.out.size))
    have HO4 := Lib.hid ho
    have HQ := Lib.hid hq
    have HX := Lib.hid hx
    clear hs hc ho hq hx
    have f0 := HR4.out.frz 0
    have f1 := HR4.out.frz 1
    have z0 := HR4.out.cell 0
    have z1 := HR4.out.cell 1
    have lr := HR4.out.lt
    simp at z0 z1
    have HF : Hid (SmT ((w4.setCell ⟨w.heap.size, 0, none⟩ (.int .i64 q)).setCell ⟨w.heap.size, 1, none⟩ (.slice ad n cap)) q ad n cap ys ∧ Below w.heap.size w ((w4.setCell ⟨w.heap.size, 0, none⟩ (.int .i64 q)).setCell ⟨w.heap.size, 1, none⟩ (.slice ad n cap))) := Lib.hid ⟨⟨HQ.out, ((HO4.out.setLow ⟨w.heap.size, 0, none⟩ (by simp; omega) _).setLow ⟨w.heap.size, 1, none⟩ (by simp; omega) _).rd, HO4.out.len, HO4.out.capl, hn, HX.out⟩, (HB4.out.setCell (p := ⟨w.heap.size, 0, none⟩) (Nat.le_refl _) _).setCell (p := ⟨w.heap.size, 1, none⟩) (Nat.le_refl _) _⟩
    have X := (HR4.out.set 0 (.int .i64 q)).set 1 (.slice ad n cap)
    have q0 := X.cell 0
    have q1 := X.cell 1
    simp at q0 q1
    go_wp2_with fail
    refine bodyPost_ret (v := .agg #[.int .i64 q, .slice ad n cap]) (by simp [results, Try.results6, go_sem, q0, q1]) rfl ⟨q, ad, n, cap, ys, rfl, HF.out.1, HF.out.2⟩
  · have e1 : (z == 0) = false := beq_eq_false_iff_ne.2 hz
    clear hz
    go_wp2_with fail
    refine (l01Next_any b a m c bs 4 w2 HS2.out (by omega) hmc).mono ?_
    rintro e w3 ⟨x, rfl, hx0, hx1, hs, hc⟩
    have HS3 := Lib.hid hs
    have HR3 := Lib.hid (HR2.out.src hc (by have := HBE.out; omega))
    have HB3 : Hid (Below w.heap.size w w3) := Lib.hid (HB2.out.trans (hc.up hbw HB2.out.size))
    obtain ⟨K, hK⟩ : ∃ K : Nat, (K : Int) = 1 + x := ⟨(1 + x).toNat, by omega⟩
    have hxw : IntKind.i64.wrap (1 + x) = (K : Int) := by rw [hK]; exact IntWalk.i64_in _ (by omega)
    have hK1 : 1 ≤ K ∧ K ≤ 4 := by omega
    have s3 : w.heap.size + 1 ≤ w3.heap.size := HR3.out.lt
    clear hs hc hx0 hx1 hK
    go_wp2_with fail
    refine (l04Shears_any b a m c bs K w3 HS3.out hmc (by omega) (by omega)).mono ?_
    rintro e w4 ⟨ys, ad, cap, rfl, ⟨A, C, ho⟩, hsm, _, hs, hc⟩
    have HR4 := Lib.hid (HR3.out.src hc (by have := HBE.out; omega))
    have HB4 : Hid (Below w.heap.size w w4) := Lib.hid (HB3.out.trans (hc.up hbw HB3.out.size))
    have HL4 : Hid (ys.length = K) := Lib.hid ho.len
    have HO4 := Lib.hid ho
    have HSM := Lib.hid hsm
    clear hs hc ho hsm
    have f0 := HR4.out.frz 0
    have f1 := HR4.out.frz 1
    have z0 := HR4.out.cell 0
    have z1 := HR4.out.cell 1
    have lr := HR4.out.lt
    simp at z0 z1
    have HF : Hid (SmT ((w4.setCell ⟨w.heap.size, 0, none⟩ (.int .i64 K)).setCell ⟨w.heap.size, 1, none⟩ (.slice ad K cap)) K ad K cap ys ∧ Below w.heap.size w ((w4.setCell ⟨w.heap.size, 0, none⟩ (.int .i64 K)).setCell ⟨w.heap.size, 1, none⟩ (.slice ad K cap))) := Lib.hid ⟨⟨(by unfold I64; omega), ((HO4.out.setLow ⟨w.heap.size, 0, none⟩ (by simp; omega) _).setLow ⟨w.heap.size, 1, none⟩ (by simp; omega) _).rd, HO4.out.len, HO4.out.capl, (by omega), (fun i hi => by rw [HSM.out.row i (by rw [HL4.out]; exact hi)]; omega)⟩, (HB4.out.setCell (p := ⟨w.heap.size, 0, none⟩) (Nat.le_refl _) _).setCell (p := ⟨w.heap.size, 1, none⟩) (Nat.le_refl _) _⟩
    have X := (HR4.out.set 0 (.int .i64 K)).set 1 (.slice ad K cap)
    have q0 := X.cell 0
    have q1 := X.cell 1
    simp at q0 q1
    go_wp2_with fail
    refine bodyPost_ret (v := .agg #[.int .i64 K, .slice ad K cap]) (by simp [results, Try.results6, go_sem, q0, q1]) rfl ⟨K, ad, K, cap, ys, rfl, HF.out.1, HF.out.2⟩
end Go.Proofs.Ytcnphhcdjhmmkaa
