/- Draws of abelian groups, further. -/
import Derived.Test.YtkidohohiihbaaaDrawAb
set_option linter.unusedVariables false
set_option linter.unusedSimpArgs false
namespace Go.Proofs.Ytkidohohiihbaaa
open Go.RowKit

theorem fin0 {w wr : World} {b : Nat} {a : Option Addr} {m c : Nat} {bs : List Int} {af : Option Addr} {nf cf : Nat} {xs : List Int} (s0 : Src w b a m c bs) (hs : Src wr b a m c bs) (h : Chg (fun j => j = b) w wr) (ho : OwnI 2 wr (w.heap.size + 1) af nf cf xs) (u v : Value) : OwnI 2 ((wr.setCell ⟨w.heap.size, 0, none⟩ u).setCell ⟨w.heap.size, 1, none⟩ v) w.heap.size af nf cf xs ∧ Src ((wr.setCell ⟨w.heap.size, 0, none⟩ u).setCell ⟨w.heap.size, 1, none⟩ v) b a m c bs ∧ Chg (fun j => j = b) w ((wr.setCell ⟨w.heap.size, 0, none⟩ u).setCell ⟨w.heap.size, 1, none⟩ v) := by
  have hb : Below w.heap.size wr ((wr.setCell ⟨w.heap.size, 0, none⟩ u).setCell ⟨w.heap.size, 1, none⟩ v) := ((Below.refl _ _).setCell (p := ⟨w.heap.size, 0, none⟩) (Nat.le_refl _) _).setCell (p := ⟨w.heap.size, 1, none⟩) (Nat.le_refl _) _
  have hbw := s0.lt
  have hc : Chg (fun j => j = b) w ((wr.setCell ⟨w.heap.size, 0, none⟩ u).setCell ⟨w.heap.size, 1, none⟩ v) := ⟨hb.os.trans h.os, hb.tape.trans h.tape, hb.output.trans h.output, Nat.le_trans h.size hb.size, fun k hk hn => (hb.block k hk).trans (h.block k hk hn)⟩
  obtain ⟨k, t, h1, h2, h3⟩ := hs.box
  exact ⟨((ho.setCell (p := ⟨w.heap.size, 0, none⟩) (by simp) _).setCell (p := ⟨w.heap.size, 1, none⟩) (by simp) _).mono (by omega), s0.set k t ((hb.block b hbw).trans h1) h2 h3 hc, hc⟩
set_option maxRecDepth 20000 in
set_option maxHeartbeats 4000000 in
theorem l05Draw_any (b : Nat) (a : Option Addr) (m c : Nat) (bs : List Int) (w : World) (hs : Src w b a m c bs) (hmc : m ≤ c) :
    Calls Try.prog 148 #[.pointer (some ⟨b, 0, none⟩)] w fun e w' => ∃ (xs : List Int) (r : Int) (af : Option Addr) (nf cf : Nat), e = .returned (.agg #[.slice af nf cf, .int .i64 r]) ∧ OwnI 2 w' w.heap.size af nf cf xs ∧ nf ≤ 30 ∧ (∀ x ∈ xs, I64 x) ∧ I64 r ∧ Src w' b a m c bs ∧ Chg (fun j => j = b) w w' := by
  have HS := Lib.hid hs
  have lb := hs.lt
  clear hs
  go_enter Try.func148, Try.ntmps148
  go_wp2_with fail
  obtain ⟨W, hW⟩ : ∃ W, W = w.alloc (.cells #[.slice none 0 0, .int .i64 0] 37) := ⟨_, rfl⟩
  rw [← hW]
  have HR0 : Hid (BX 37 W w.heap.size #[.slice none 0 0, .int .i64 0]) := Lib.hid (by rw [hW]; exact BX.new _ _ _)
  have HC0 : Hid (Chg (fun j => j = b) w W) := Lib.hid (by rw [hW]; exact (Chg.refl _ w).alloc _)
  have HS0 : Hid (Src W b a m c bs) := Lib.hid (by rw [hW]; exact HS.out.keep ((Below.refl _ _).alloc (Nat.le_refl _) _))
  have sW : W.heap.size = w.heap.size + 1 := by rw [hW]; simp
  clear hW
  refine (l05Good_any b a m c bs W HS0.out hmc).mono ?_
  rintro e w1 ⟨xs, r, af, nf, cf, rfl, ho, hnf, hxi, hri, hs, hc⟩
  have hs1 := hc.size
  have HA1 : Hid (AbS w (w1.alloc (.cells #[.slice af nf cf, .int .i64 r] 37)) b a m c bs w1.heap.size af nf cf xs r) := by
    refine Lib.hid ⟨HS.out, ?_, (HC0.out.trans hc).alloc _, (HR0.out.chg hc (by omega)).alloc _, BX.new _ _ _, ?_, fun p hp => ?_, by omega, hxi⟩
    · obtain ⟨k, s, h1, h2, h3⟩ := hs.box
      exact ⟨k, s, h1.alloc _, h2, h3⟩
    · rw [sW] at ho; exact ho.alloc _
    · have := (ho.block p hp).2; omega
  have HRI := Lib.hid hri
  clear ho hxi hri hs hc
  go_wp2_with fail
  refine (l01Next_any b a m c bs 30 _ (by exact HA1.out.src) (by omega) hmc).mono ?_
  rintro e w2 ⟨v, rfl, hv0, hv1, hs, hc⟩
  have HL := Lib.hid (HA1.out.next hs hc)
  clear hs hc hv1
  have hsz : w.heap.size + 1 ≤ w2.heap.size := by have := HL.out.hB; omega
  have z0 := HL.out.ab.cell 0
  have z1 := HL.out.ab.cell 1
  simp at z0 z1
  have g0 := HL.out.ab.frz 0
  have g1 := HL.out.ab.frz 1
  have lg := HL.out.ab.lt
  have lg2 : w1.heap.size < w2.heap.size + 1 := by omega
  have lg3 : w1.heap.size < w2.heap.size + 1 + 1 := by omega
  generalize hBB : w1.heap.size = BB at *
  by_cases h0 : v = 0
  · have d0 : (v == 0) = true := beq_iff_eq.2 h0
    clear h0 hv0
    go_wp2_with (at_builtin; refine wpList_push rfl (.tmp 11) (.tmp 12) 25 rfl (w.heap.size + 1) 2 (.int .i64 0) 8 Try.underlying25 Try.info2 rfl (by decide) (.int .i64 1) rfl _ _ _ _ rfl rfl (by exact HL.out.own) (by omega) (by exact hsz) ?_; rintro a4 c4 w4 r4 q4 g4; have HN := Lib.hid (HL.out.push (x := 1) (by unfold I64; omega) r4 q4 g4); have X4 := Lib.hid (HL.out.ab.chg g4 (fun hx => by obtain ⟨p, hp, e⟩ := hx; exact HL.out.ap p hp e)); have R4 := Lib.hid (HL.out.rb.chg g4 (fun hx => by obtain ⟨p, hp, e⟩ := hx; have := (HL.out.own.block p hp).1; omega)); have f4 := X4.out.frz 0; have l4 := X4.out.lt; have y1 : w4.cell? ⟨BB, 1, none⟩ = some (.int .i64 r) := X4.out.cell 1; have y00 : w4.cell? ⟨BB, 0, none⟩ = some (.slice af nf cf) := X4.out.cell 0; have fr0 := R4.out.frz 0; have fr1 := R4.out.frz 1; have zz0 : w4.cell? ⟨w.heap.size, 0, none⟩ = some (.slice none 0 0) := R4.out.cell 0; have zz1 : w4.cell? ⟨w.heap.size, 1, none⟩ = some (.int .i64 0) := R4.out.cell 1; have hz9 := R4.out.lt; have hbb : BB ≠ w.heap.size := (by have := HL.out.lo; omega); have hbb2 : w.heap.size ≠ BB := (by omega); clear r4 q4 g4)
    have Z9 := ((R4.out.other (p := ⟨BB, 0, none⟩) hbb (.slice a4 (nf + 1) c4)).set 0 (.slice a4 (nf + 1) c4)).set 1 (.int .i64 r)
    have u0 := Z9.cell 0
    have u1 := Z9.cell 1
    simp at u0 u1
    clear Z9
    refine bodyPost_ret (v := .agg #[.slice a4 (nf + 1) c4, .int .i64 r]) (by simp [results, Try.results148, go_sem, u0, u1]) rfl ⟨_, r, a4, nf + 1, c4, rfl, HN.out.fin _ _ |>.1, by omega, HN.out.i64, HRI.out, HN.out.fin _ _ |>.2.1, HN.out.fin _ _ |>.2.2⟩
  · have d0 : (v == 0) = false := beq_eq_false_iff_ne.2 h0
    by_cases h1 : v = 1
    · have d1 : (v == 1) = true := beq_iff_eq.2 h1
      clear h0 h1 hv0
      go_wp2_with (at_builtin; refine wpList_push rfl (.tmp 18) (.tmp 19) 25 rfl (w.heap.size + 1) 2 (.int .i64 0) 8 Try.underlying25 Try.info2 rfl (by decide) (.int .i64 7) rfl _ _ _ _ rfl rfl (by exact HL.out.own) (by omega) (by exact hsz) ?_; rintro a4 c4 w4 r4 q4 g4; have HN := Lib.hid (HL.out.push (x := 7) (by unfold I64; omega) r4 q4 g4); have X4 := Lib.hid (HL.out.ab.chg g4 (fun hx => by obtain ⟨p, hp, e⟩ := hx; exact HL.out.ap p hp e)); have R4 := Lib.hid (HL.out.rb.chg g4 (fun hx => by obtain ⟨p, hp, e⟩ := hx; have := (HL.out.own.block p hp).1; omega)); have f4 := X4.out.frz 0; have l4 := X4.out.lt; have y1 : w4.cell? ⟨BB, 1, none⟩ = some (.int .i64 r) := X4.out.cell 1; have y00 : w4.cell? ⟨BB, 0, none⟩ = some (.slice af nf cf) := X4.out.cell 0; have fr0 := R4.out.frz 0; have fr1 := R4.out.frz 1; have zz0 : w4.cell? ⟨w.heap.size, 0, none⟩ = some (.slice none 0 0) := R4.out.cell 0; have zz1 : w4.cell? ⟨w.heap.size, 1, none⟩ = some (.int .i64 0) := R4.out.cell 1; have hz9 := R4.out.lt; have hbb : BB ≠ w.heap.size := (by have := HL.out.lo; omega); have hbb2 : w.heap.size ≠ BB := (by omega); clear r4 q4 g4)
      have Z9 := ((R4.out.other (p := ⟨BB, 0, none⟩) hbb (.slice a4 (nf + 1) c4)).set 0 (.slice a4 (nf + 1) c4)).set 1 (.int .i64 r)
      have u0 := Z9.cell 0
      have u1 := Z9.cell 1
      simp at u0 u1
      clear Z9
      refine bodyPost_ret (v := .agg #[.slice a4 (nf + 1) c4, .int .i64 r]) (by simp [results, Try.results148, go_sem, u0, u1]) rfl ⟨_, r, a4, nf + 1, c4, rfl, HN.out.fin _ _ |>.1, by omega, HN.out.i64, HRI.out, HN.out.fin _ _ |>.2.1, HN.out.fin _ _ |>.2.2⟩
    · have d1 : (v == 1) = false := beq_eq_false_iff_ne.2 h1
      by_cases h2 : v = 2
      · have d2 : (v == 2) = true := beq_iff_eq.2 h2
        clear h0 h1 h2 hv0
        have hI : I64 (10 - (nf : Int)) := by unfold I64; omega
        have hwz : IntKind.i64.wrap (10 - (nf : Int)) = 10 - (nf : Int) := by exact Go.IntWalk.i64_in _ hI
        obtain ⟨z, hz⟩ : ∃ z, z = IntKind.i64.wrap (10 - (nf : Int)) := ⟨_, rfl⟩
        have HZI : Hid (I64 z) := Lib.hid (by rw [hz, hwz]; exact hI)
        clear hwz hI
        have HSA : Hid (Src (w2.alloc (.cells #[.int .i64 (-1), .int .i64 10, .int .i64 11, .int .i64 z] 2)) b a m c bs) := Lib.hid (HL.out.alloc _).src
        have HSB : Hid (Src w2 b a m c bs) := Lib.hid HL.out.src
        go_wp2_with fail
        go_region_law (go_loud (go_simp; go_at_call 77; (try rw [← hz]); (with_reducible refine (l01Next_any b a m c bs 4 _ (by first | exact HSB.out.like rfl | exact HSA.out.like rfl) (by omega) hmc).mono ?_); rintro e w5 ⟨q, rfl, hq0, hq1, hs, hc⟩; obtain ⟨i, rfl⟩ : ∃ i : Nat, q = i := ⟨q.toNat, by omega⟩; have hi4 : i < 4 := (by omega); have ji : (i : Int) < 4 := (by omega); have HA5 : Hid (AbS w w5 b a m c bs BB af nf cf xs r) := Lib.hid (AbS.next (by first | exact HL.out.like rfl rfl rfl rfl | exact (HL.out.alloc (.cells #[.int .i64 (-1), .int .i64 10, .int .i64 11, .int .i64 z] 2)).like rfl rfl rfl rfl) hs hc); have q0 : w5.cell? ⟨BB, 0, none⟩ = some (.slice af nf cf) := HA5.out.ab.cell 0; have q1 : w5.cell? ⟨BB, 1, none⟩ = some (.int .i64 r) := HA5.out.ab.cell 1; have f50 := HA5.out.ab.frz 0; have f51 := HA5.out.ab.frz 1; have l5 := HA5.out.ab.lt; obtain ⟨vx, hvx⟩ : ∃ vx, vx = el [-1, 10, 11, z] i := ⟨_, rfl⟩; have hel : ([Value.int .i64 (-1), Value.int .i64 10, Value.int .i64 11, Value.int .i64 (IntKind.i64.wrap (10 - (nf : Int)))] : List Value)[i]'(by simpa using hi4) = Value.int .i64 vx := (by rw [hvx, ← hz]; clear hs hc HA5; (rcases i with _ | _ | _ | _ | i) <;> first | rfl | omega); (first | (have hLL : RdI w5 (some ⟨w2.heap.size, 0, none⟩) [-1, 10, 11, z] := (lit_rd w2 2 [-1, 10, 11, z] #[.int .i64 (-1), .int .i64 10, .int .i64 11, .int .i64 z] rfl (by simp [maxLen])).same (fun p hp => hc.block _ (by injection hp with hp; subst hp; simp) (by injection hp with hp; subst hp; simp; have := HL.out.hB; have := HL.out.bw; omega)); obtain ⟨b', o', e', d'⟩ := rdI_at hLL (show i < [-1, 10, 11, z].length by simpa using hi4); injection e' with e'; injection e' with e1 e2; subst e1; subst e2; rw [Nat.zero_add, ← hvx] at d') | (have hLL := lit_rd w5 2 [-1, 10, 11, z] #[.int .i64 (-1), .int .i64 10, .int .i64 11, .int .i64 z] rfl (by simp [maxLen]); obtain ⟨b', o', e', d'⟩ := rdI_at hLL (show i < [-1, 10, 11, z].length by simpa using hi4); injection e' with e'; injection e' with e1 e2; subst e1; subst e2; rw [Nat.zero_add, ← hvx] at d'))))
        all_goals
          rw [← hz, ← hvx]
          have HVX : Hid (I64 vx) := Lib.hid (by have hm := el_mem (show i < [-1, 10, 11, z].length by simpa using hi4); rw [← hvx] at hm; have hzi := HZI.out; clear hel d' hs hc; simp at hm; rcases hm with h | h | h | h <;> rw [h] <;> first | exact hzi | (unfold I64; omega))
          clear q0 q1 f50 f51 l5 d' hel hLL hs hc z0 z1 g0 g1 lg lg2 lg3 hq0 hq1
          have HM : Hid (AbS w (w5.setCell ⟨BB, 1, none⟩ (.int .i64 vx)) b a m c bs BB af nf cf xs vx) := by
            refine Lib.hid (HA5.out.put ((Below.refl _ _).setCell (p := ⟨BB, 1, none⟩) (show w.heap.size + 1 ≤ BB from HA5.out.lo) _) (HA5.out.ab.set 1 _) ?_ HA5.out.ap HA5.out.i64)
            exact HA5.out.own.same (fun p hp => Below.heap_setCell _ _ _ _ (HA5.out.ap p hp))
          have HN : ∃ W6, W6 = W6 ∧ Hid (AbS w W6 b a m c bs BB af nf cf xs vx) := ⟨_, rfl, HM⟩
          clear HN
          first
            | (obtain ⟨W6, hW6⟩ : ∃ x, x = (w5.setCell ⟨BB, 1, none⟩ (.int .i64 vx)).alloc (.cells #[.int .i64 (-1), .int .i64 10, .int .i64 11, .int .i64 z] 2) := ⟨_, rfl⟩; rw [← hW6]; have HN : Hid (AbS w W6 b a m c bs BB af nf cf xs vx) := Lib.hid (by rw [hW6]; exact HM.out.alloc _); clear hW6 HM)
            | (obtain ⟨W6, hW6⟩ : ∃ x, x = w5.setCell ⟨BB, 1, none⟩ (.int .i64 vx) := ⟨_, rfl⟩; rw [← hW6]; have HN : Hid (AbS w W6 b a m c bs BB af nf cf xs vx) := Lib.hid (by rw [hW6]; exact HM.out); clear hW6 HM)
          have z0 := HN.out.ab.cell 0
          have z1 := HN.out.ab.cell 1
          simp at z0 z1
          have g0 := HN.out.ab.frz 0
          have g1 := HN.out.ab.frz 1
          have lg := HN.out.ab.lt
          have R9 := HN.out.rb
          have fr0 := R9.frz 0
          have fr1 := R9.frz 1
          have zz0 := R9.cell 0
          have zz1 := R9.cell 1
          simp at zz0 zz1
          have hz9 := R9.lt
          have Z9 := (R9.set 0 (.slice af nf cf)).set 1 (.int .i64 vx)
          have u0 := Z9.cell 0
          have u1 := Z9.cell 1
          simp at u0 u1
          clear R9 Z9 hvx hz
          go_wp2_with fail
          refine bodyPost_ret (v := .agg #[.slice af nf cf, .int .i64 vx]) (by simp [results, Try.results148, go_sem, u0, u1]) rfl ⟨_, vx, af, nf, cf, rfl, HN.out.fin _ _ |>.1, by omega, HN.out.i64, HVX.out, HN.out.fin _ _ |>.2.1, HN.out.fin _ _ |>.2.2⟩
      · have d2 : (v == 2) = false := beq_eq_false_iff_ne.2 h2
        by_cases h3 : v = 3
        · have d3 : (v == 3) = true := beq_iff_eq.2 h3
          have hbb : BB ≠ w.heap.size := by have := HL.out.lo; omega
          have hbb2 : w.heap.size ≠ BB := by omega
          clear h0 h1 h2 h3 hv0
          have HW : Hid (AbS w ((w2.alloc (.cells #[] 2)).alloc (.cells #[.int .i64 1000000, .int .i64 2000000] 2)) b a m c bs BB af nf cf xs r) := Lib.hid ((HL.out.alloc _).alloc _)
          have HE : Hid (OwnI 2 ((w2.alloc (.cells #[] 2)).alloc (.cells #[.int .i64 1000000, .int .i64 2000000] 2)) w2.heap.size (some ⟨w2.heap.size, 0, none⟩) 0 0 []) := Lib.hid ((OwnI.empty w2 2).alloc _)
          have HV : Hid (RdI ((w2.alloc (.cells #[] 2)).alloc (.cells #[.int .i64 1000000, .int .i64 2000000] 2)) (some ⟨w2.heap.size + 1, 0, none⟩) [1000000, 2000000]) := Lib.hid (by rw [show w2.heap.size + 1 = (w2.alloc (.cells #[] 2)).heap.size by simp]; exact lit_rd _ _ _ _ rfl (by simp [maxLen]))
          go_wp2_with (at_builtin; refine wpList_appS rfl (.tmp 36) (.tmp 37) 25 rfl w2.heap.size 2 (.int .i64 0) 8 Try.underlying25 Try.info2 rfl (by decide) _ _ _ _ rfl _ _ _ rfl (by exact HE.out) ([1000000, 2000000].map (Value.int .i64)) rfl (by exact HV.out.vals) (map_one _) (by omega) (by simp; omega) ?_; rintro a4 c4 w4 r4 q4 g4; rw [Nat.zero_add] at r4; rw [Nat.zero_add]; have hO4 : OwnI 2 w4 w2.heap.size a4 2 c4 [1000000, 2000000] := (by have h := r4; simpa [OwnI] using h); have HO4 := Lib.hid hO4; have hgb : Below w2.heap.size ((w2.alloc (.cells #[] 2)).alloc (.cells #[.int .i64 1000000, .int .i64 2000000] 2)) w4 := g4.below (by simp; omega) (fun k hk hx => by obtain ⟨p, hp, e⟩ := hx; injection hp with hp; subst hp; simp at e; omega); have HG := Lib.hid hgb; have X4 := Lib.hid ((hgb.block BB lg).trans HW.out.ab); have R4 := Lib.hid ((hgb.block w.heap.size (by omega)).trans HW.out.rb); have XB : BX 37 w4 BB #[.slice af nf cf, .int .i64 r] := X4.out; have RB : BX 37 w4 w.heap.size #[.slice none 0 0, .int .i64 0] := R4.out; have f4 := XB.frz 0; have l4 := XB.lt; have y1 : w4.cell? ⟨BB, 1, none⟩ = some (.int .i64 r) := XB.cell 1; have y00 : w4.cell? ⟨BB, 0, none⟩ = some (.slice af nf cf) := XB.cell 0; have fr0 := RB.frz 0; have fr1 := RB.frz 1; have zz0 : w4.cell? ⟨w.heap.size, 0, none⟩ = some (.slice none 0 0) := RB.cell 0; have zz1 : w4.cell? ⟨w.heap.size, 1, none⟩ = some (.int .i64 0) := RB.cell 1; have hz9 := RB.lt; clear r4 q4 g4 hO4 hgb)
          have HN : Hid (AbS w (w4.setCell ⟨BB, 0, none⟩ (.slice a4 2 c4)) b a m c bs BB a4 2 c4 [1000000, 2000000] r) := by
            have hne : ∀ p, a4 = some p → p.block ≠ BB := fun p hp => by have := (HO4.out.block p hp).1; omega
            refine Lib.hid (HW.out.put ((HG.out.mono hsz).setCell (p := ⟨BB, 0, none⟩) (show w.heap.size + 1 ≤ BB from HL.out.lo) _) (XB.set 0 _) ((HO4.out.mono hsz).same (fun p hp => Below.heap_setCell _ _ _ _ (hne p hp))) hne (fun x hx => by simp at hx; unfold I64; omega))
          have Z9 := ((RB.other (p := ⟨BB, 0, none⟩) hbb (.slice a4 2 c4)).set 0 (.slice a4 2 c4)).set 1 (.int .i64 r)
          have u0 := Z9.cell 0
          have u1 := Z9.cell 1
          simp at u0 u1
          clear Z9
          refine bodyPost_ret (v := .agg #[.slice a4 2 c4, .int .i64 r]) (by simp [results, Try.results148, go_sem, u0, u1]) rfl ⟨_, r, a4, 2, c4, rfl, HN.out.fin _ _ |>.1, by omega, HN.out.i64, HRI.out, HN.out.fin _ _ |>.2.1, HN.out.fin _ _ |>.2.2⟩
        · have d3 : (v == 3) = false := beq_eq_false_iff_ne.2 h3
          by_cases h4 : v = 4
          · have d4 : (v == 4) = true := beq_iff_eq.2 h4
            clear h4
            have hbb : BB ≠ w.heap.size := by have := HL.out.lo; omega
            have hbb2 : w.heap.size ≠ BB := by omega
            have HN : Hid (AbS w ((w2.alloc (.cells #[.int .i64 0] 2)).setCell ⟨BB, 0, none⟩ (.slice (some ⟨w2.heap.size, 0, none⟩) 1 1)) b a m c bs BB (some ⟨w2.heap.size, 0, none⟩) 1 1 [0] r) := by
              have hA := HL.out.alloc (.cells #[.int .i64 0] 2)
              have hne : ∀ p, (some ⟨w2.heap.size, 0, none⟩ : Option Addr) = some p → p.block ≠ BB := fun p hp => by injection hp with hp; subst hp; simp; omega
              refine Lib.hid (hA.put ((Below.refl _ _).setCell (p := ⟨BB, 0, none⟩) (show w.heap.size + 1 ≤ BB from HL.out.lo) _) (hA.ab.set 0 _) ?_ hne (fun x hx => by simp at hx; subst hx; unfold I64; omega))
              exact ((OwnI.lit w2 2 [0] #[.int .i64 0] rfl (by simp [maxLen])).mono hsz).same (fun p hp => Below.heap_setCell _ _ _ _ (hne p hp))
            have R9 := HL.out.rb
            have fr0 := R9.frz 0
            have fr1 := R9.frz 1
            have zz0 := R9.cell 0
            have zz1 := R9.cell 1
            simp at zz0 zz1
            have hz9 := R9.lt
            have hz10 : w.heap.size < w2.heap.size + 1 := by omega
            have Z9 := (((R9.other (p := ⟨BB, 0, none⟩) hbb (.slice (some ⟨w2.heap.size, 0, none⟩) 1 1)).set 0 (.slice (some ⟨w2.heap.size, 0, none⟩) 1 1)).set 1 (.int .i64 r)).alloc (.cells #[.int .i64 0] 2)
            have u0 := Z9.cell 0
            have u1 := Z9.cell 1
            simp at u0 u1
            have hF := HN.out.fin (.slice (some ⟨w2.heap.size, 0, none⟩) 1 1) (.int .i64 r)
            rw [World.setCell_alloc_past _ _ _ _ lg, World.setCell_alloc_past _ _ _ _ (by simpa using hz9), World.setCell_alloc_past _ _ _ _ (by simpa using hz9)] at hF
            clear R9 Z9 h0 h1 h2 h3 hv0
            go_wp2_with fail
            refine bodyPost_ret (v := .agg #[.slice (some ⟨w2.heap.size, 0, none⟩) 1 1, .int .i64 r]) (by simp [results, Try.results148, go_sem, u0, u1]) rfl ⟨_, r, _, 1, 1, rfl, hF.1, by omega, HN.out.i64, HRI.out, hF.2.1, hF.2.2⟩
          · have d4 : (v == 4) = false := beq_eq_false_iff_ne.2 h4
            clear h0 h1 h2 h3 h4 hv0
            have R9 := HL.out.rb
            have fr0 := R9.frz 0
            have fr1 := R9.frz 1
            have zz0 := R9.cell 0
            have zz1 := R9.cell 1
            simp at zz0 zz1
            have hz9 := R9.lt
            have Z9 := (R9.set 0 (.slice af nf cf)).set 1 (.int .i64 r)
            have u0 := Z9.cell 0
            have u1 := Z9.cell 1
            simp at u0 u1
            clear R9 Z9
            go_wp2_with fail
            refine bodyPost_ret (v := .agg #[.slice af nf cf, .int .i64 r]) (by simp [results, Try.results148, go_sem, u0, u1]) rfl ⟨_, r, af, nf, cf, rfl, HL.out.fin _ _ |>.1, by omega, HL.out.i64, HRI.out, HL.out.fin _ _ |>.2.1, HL.out.fin _ _ |>.2.2⟩
set_option maxRecDepth 20000 in
set_option maxHeartbeats 2000000 in
theorem l05Great_any (b : Nat) (a : Option Addr) (m c : Nat) (bs : List Int) (w : World) (hs : Src w b a m c bs) (hmc : m ≤ c) :
    Calls Try.prog 93 #[.pointer (some ⟨b, 0, none⟩)] w fun e w' => ∃ (xs : List Int) (r : Int) (af : Option Addr) (nf cf : Nat), e = .returned (.agg #[.slice af nf cf, .int .i64 r]) ∧ OwnI 2 w' w.heap.size af nf cf xs ∧ nf ≤ 30 ∧ (∀ x ∈ xs, I64 x) ∧ I64 r ∧ Src w' b a m c bs ∧ Chg (fun j => j = b) w w' := by
  have HS := Lib.hid hs
  have lb := hs.lt
  clear hs
  go_enter Try.func93, Try.ntmps93
  go_wp2_with fail
  obtain ⟨W, hW⟩ : ∃ W, W = w.alloc (.cells #[.slice none 0 0, .int .i64 0] 37) := ⟨_, rfl⟩
  rw [← hW]
  have HR0 : Hid (BX 37 W w.heap.size #[.slice none 0 0, .int .i64 0]) := Lib.hid (by rw [hW]; exact BX.new _ _ _)
  have HC0 : Hid (Chg (fun j => j = b) w W) := Lib.hid (by rw [hW]; exact (Chg.refl _ w).alloc _)
  have HS0 : Hid (Src W b a m c bs) := Lib.hid (by rw [hW]; exact HS.out.keep ((Below.refl _ _).alloc (Nat.le_refl _) _))
  have sW : W.heap.size = w.heap.size + 1 := by rw [hW]; simp
  clear hW
  refine (l01Next_any b a m c bs 6 W HS0.out (by omega) hmc).mono ?_
  rintro e w1 ⟨v, rfl, hv0, hv1, hs, hc⟩
  have HS1 := Lib.hid hs
  have HC1 : Hid (Chg (fun j => j = b) w w1) := Lib.hid (HC0.out.trans hc)
  have HR1 := Lib.hid (HR0.out.chg hc (by omega))
  have s1 : w.heap.size + 1 ≤ w1.heap.size := by have := hc.size; omega
  clear hs hc hv1
  by_cases h0 : 0 < v
  · have d0 : decide (0 < v) = true := decide_eq_true h0
    clear h0 hv0
    go_wp2_with fail
    refine (l05Draw_any b a m c bs w1 HS1.out hmc).mono ?_
    rintro e w2 ⟨xs, r, af, nf, cf, rfl, ho, hnf, hxi, hri, hs, hc⟩
    have HF := Lib.hid (fin0 HS.out hs (HC1.out.trans hc) (ho.mono s1) (.slice af nf cf) (.int .i64 r))
    have R9 := HR1.out.chg hc (by omega)
    have HX := Lib.hid hxi
    have HRI := Lib.hid hri
    have fr0 := R9.frz 0
    have fr1 := R9.frz 1
    have zz0 := R9.cell 0
    have zz1 := R9.cell 1
    simp at zz0 zz1
    have hz9 := R9.lt
    have Z9 := (R9.set 0 (.slice af nf cf)).set 1 (.int .i64 r)
    have u0 := Z9.cell 0
    have u1 := Z9.cell 1
    simp at u0 u1
    clear R9 Z9 ho hxi hri hs hc
    go_wp2_with fail
    refine bodyPost_ret (v := .agg #[.slice af nf cf, .int .i64 r]) (by simp [results, Try.results93, go_sem, u0, u1]) rfl ⟨_, r, af, nf, cf, rfl, HF.out.1, by omega, HX.out, HRI.out, HF.out.2.1, HF.out.2.2⟩
  · have d0 : decide (0 < v) = false := decide_eq_false h0
    go_wp2_with fail
    have HA0 : Hid (AbS w ((w1.alloc (.cells #[] 2)).alloc (.cells #[.slice (some ⟨w1.heap.size, 0, none⟩) 0 0, .int .i64 0] 37)) b a m c bs (w1.heap.size + 1) (some ⟨w1.heap.size, 0, none⟩) 0 0 [] 0) := by
      refine Lib.hid ⟨HS.out, ?_, (HC1.out.alloc _).alloc _, (HR1.out.alloc _).alloc _, ?_, ?_, fun p hp => ?_, by omega, by simp⟩
      · obtain ⟨k, s, h1, h2, h3⟩ := HS1.out.box
        exact ⟨k, s, (h1.alloc _).alloc _, h2, h3⟩
      · rw [show w1.heap.size + 1 = (w1.alloc (.cells #[] 2)).heap.size by simp]; exact BX.new _ _ _
      · exact (OwnI.mono (OwnI.empty w1 2) s1).alloc _
      · injection hp with hp; subst hp; simp
    refine (l01Next_any b a m c bs 4 _ (by exact (HA0.out.alloc _).src) (by omega) hmc).mono ?_
    rintro e w2 ⟨x, rfl, hx0, hx1, hs, hc⟩
    have HA2 := Lib.hid ((HA0.out.alloc (.cells #[.int .i64 997, .int .i64 1000000, .int .i64 210, .int .i64 64] 2)).next hs hc)
    have HL : Hid (RdI w2 (some ⟨w1.heap.size + 1 + 1, 0, none⟩) [997, 1000000, 210, 64]) := by
      have h := lit_rd ((w1.alloc (.cells #[] 2)).alloc (.cells #[.slice (some ⟨w1.heap.size, 0, none⟩) 0 0, .int .i64 0] 37)) 2 [997, 1000000, 210, 64] #[.int .i64 997, .int .i64 1000000, .int .i64 210, .int .i64 64] rfl (by simp [maxLen])
      have e9 : ((w1.alloc (.cells #[] 2)).alloc (.cells #[.slice (some ⟨w1.heap.size, 0, none⟩) 0 0, .int .i64 0] 37)).heap.size = w1.heap.size + 1 + 1 := by simp
      rw [e9] at h
      exact Lib.hid (h.same (fun p hp => hc.block _ (by injection hp with hp; subst hp; simp) (by injection hp with hp; subst hp; simp; omega)))
    obtain ⟨i, rfl⟩ : ∃ i : Nat, x = i := ⟨x.toNat, by omega⟩
    have hi4 : i < 4 := by omega
    obtain ⟨b', o', e', d'⟩ := rdI_at HL.out (show i < [997, 1000000, 210, 64].length by simpa using hi4)
    injection e' with e'
    injection e' with e1 e2
    subst e1; subst e2
    rw [Nat.zero_add] at d'
    have hf : I64 (el [997, 1000000, 210, 64] i) := by
      have := el_mem (show i < [997, 1000000, 210, 64].length by simpa using hi4)
      simp at this
      unfold I64
      omega
    generalize el [997, 1000000, 210, 64] i = fx at *
    have Hf := Lib.hid hf
    clear hs hc hx0 hx1 HL hf
    have ji : (i : Int) < 4 := by omega
    go_wp2_with fail
    refine (l01Next_any b a m c bs 8 w2 HA2.out.src (by omega) hmc).mono ?_
    rintro e w3 ⟨k, rfl, hk0, hk1, hs, hc⟩
    have HA3 := Lib.hid (HA2.out.next hs hc)
    obtain ⟨K, rfl⟩ : ∃ K : Nat, k = K := ⟨k.toNat, by omega⟩
    have hK : K ≤ 7 := by omega
    clear hs hc hk0 hk1 d'
    go_wp2_with fail
    go_loopw [5] (fun i wr => ∃ (j : Nat) (xs : List Int) (af : Option Addr) (nf cf : Nat), j ≤ K + 2 ∧ i = .int .i64 j ∧ nf + j = K + 2 ∧ Hid (AbS w wr b a m c bs (w1.heap.size + 1) af nf cf xs 0)) (fun i _ => (intOf i).toNat)
    case atStart => exact ⟨K + 2, [], _, 0, 0, Nat.le_refl _, by go_num, by omega, HA3⟩
    case round =>
      obtain ⟨j, xs, af, nf, cf, hj, rfl, hnf, HJ⟩ := hrel
      obtain ⟨wi, rfl⟩ : ∃ x, x = wr := ⟨wr, rfl⟩
      have x0 := HJ.out.ab.cell 0
      have x1 := HJ.out.ab.cell 1
      simp at x0 x1
      have f0 := HJ.out.ab.frz 0
      have lx := HJ.out.ab.lt
      have Hnf := Lib.hid hnf
      have hnf9 : nf ≤ 9 := by omega
      have hsz : w.heap.size + 1 ≤ wi.heap.size := by have := HJ.out.hB; omega
      clear hnf
      by_cases hj0 : 0 < j
      · obtain ⟨j', rfl⟩ : ∃ j', j = j' + 1 := ⟨j - 1, by omega⟩
        have d2 : (0 : Int) < (j' : Int) + 1 := by omega
        have d1 : decide ((0 : Int) < (j' : Int) + 1) = true := decide_eq_true d2
        clear hj0
        go_wp2_with (at_builtin; refine wpList_push rfl (.tmp 26) (.tmp 28) 25 rfl (w.heap.size + 1) 2 (.int .i64 0) 8 Try.underlying25 Try.info2 rfl (by decide) (.int .i64 fx) rfl _ _ _ _ rfl rfl (by exact HJ.out.own) (by omega) (by exact hsz) ?_; rintro a4 c4 w4 r4 q4 g4; have HN := Lib.hid (HJ.out.push Hf.out r4 q4 g4); have X4 := Lib.hid (HJ.out.ab.chg g4 (fun hx => by obtain ⟨p, hp, e⟩ := hx; exact HJ.out.ap p hp e)); have f4 := X4.out.frz 0; have y0 := X4.out.cell 0; have l4 := X4.out.lt; clear r4 q4 g4)
        go_wp2_with fail
        go_roundw
        case rel => exact ⟨j', _, a4, nf + 1, c4, by omega, by go_num, by have := Hnf.out; omega, HN⟩
        case measure => simp [intOf]
      · obtain rfl : j = 0 := by omega
        have hz : w.heap.size < wi.heap.size := by omega
        have R := HJ.out.rb
        have fr0 := R.frz 0
        have fr1 := R.frz 1
        have z0 := R.cell 0
        have z1 := R.cell 1
        simp at z0 z1
        have Z := (R.set 0 (.slice af nf cf)).set 1 (.int .i64 0)
        have u0 := Z.cell 0
        have u1 := Z.cell 1
        simp at u0 u1
        have hlo := HJ.out.lo
        clear R Z
        go_wp2_with fail
        refine bodyPost_ret (v := .agg #[.slice af nf cf, .int .i64 0]) (by simp [results, Try.results93, go_sem, u0, u1]) rfl ⟨xs, 0, af, nf, cf, rfl, HJ.out.fin _ _ |>.1, by omega, HJ.out.i64, by unfold I64; omega, HJ.out.fin _ _ |>.2.1, HJ.out.fin _ _ |>.2.2⟩
end Go.Proofs.Ytkidohohiihbaaa
