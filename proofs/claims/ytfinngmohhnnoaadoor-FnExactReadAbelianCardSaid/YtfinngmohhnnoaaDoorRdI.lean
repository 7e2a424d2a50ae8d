/- ReadAbelian, the program's. -/
import Derived.Test.YtfinngmohhnnoaaDoorRdL
import Derived.Test.YtfinngmohhnnoaaDoorTxtI
import Derived.Test.YtfinngmohhnnoaaDoorBox
import Derived.OwnWalk
set_option linter.unusedVariables false
set_option linter.unusedSimpArgs false
namespace Go.Proofs.YtfinngmohhnnoaaDoor
open Go.RowKit
def wordVals (ws : List (List UInt8)) : Array Value := (ws.map fun l => Value.string (bs l)).toArray
theorem wordVals_get {ws : List (List UInt8)} {k : Nat} (h : k < ws.length) : (wordVals ws)[k]? = some (.string (bs ws[k])) := by simp [wordVals, h]
theorem parI_z {ws : List (List UInt8)} {k r : Nat} {xs : List Int} (h : k < ws.length) (hz : ws[k] = [90]) : parI (ws.drop k) xs r = parI (ws.drop (k + 1)) xs (r + 1) := by
  rw [List.drop_eq_getElem_cons h, parI, if_pos hz]
theorem parI_c {ws : List (List UInt8)} {k r : Nat} {xs : List Int} {v : Int} (h : k < ws.length) (hz : ws[k] ≠ [90]) (hp : Lib.hasPrefix ws[k] [67] = true) (hv : Lib.parseIntB 64 (Lib.trimPrefix ws[k] [67]) = .ok v) : parI (ws.drop k) xs r = parI (ws.drop (k + 1)) (xs ++ [v]) r := by
  rw [List.drop_eq_getElem_cons h, parI, if_neg hz, if_pos hp, hv]
theorem parI_p {ws : List (List UInt8)} {k r : Nat} {xs : List Int} (h : k < ws.length) (hz : ws[k] ≠ [90]) (hp : Lib.hasPrefix ws[k] [67] = false) : parI (ws.drop k) xs r = none := by
  rw [List.drop_eq_getElem_cons h, parI, if_neg hz, if_neg (by rw [hp]; decide)]
theorem parI_e {ws : List (List UInt8)} {k r : Nat} {xs : List Int} (h : k < ws.length) (hz : ws[k] ≠ [90]) (hv : ∀ v, Lib.parseIntB 64 (Lib.trimPrefix ws[k] [67]) ≠ .ok v) : parI (ws.drop k) xs r = none := by
  rw [List.drop_eq_getElem_cons h, parI, if_neg hz]
  split
  · split
    · rename_i v hq; exact absurd hq (hv v)
    · rfl
  · rfl
theorem splitK_len (sep : List UInt8) : ∀ (k : Nat) (s : List UInt8), (Lib.splitK sep 0 k s).length ≤ k + 1
  | 0, _ => Nat.le_refl _
  | k + 1, s => by
    unfold Lib.splitK
    split
    · simp
    · have := splitK_len sep k (s.drop ((Lib.index s sep).toNat + sep.length))
      simp only [List.length_cons]
      omega
theorem split_len (s : List UInt8) : (Lib.split s sepX).length ≤ s.length + 2 := by
  have h1 := splitK_len sepX (Lib.count s sepX) s
  have h2 := Lib.count_le s sepX
  unfold Lib.split
  omega
theorem splitK_word (sep : List UInt8) : ∀ (k : Nat) (s : List UInt8), ∀ x ∈ Lib.splitK sep 0 k s, x.length ≤ s.length
  | 0, s, x, h => by
    rw [Lib.splitK] at h
    simp only [List.mem_singleton] at h
    rw [h]; exact Nat.le_refl _
  | k + 1, s, x, h => by
    unfold Lib.splitK at h
    split at h
    · simp only [List.mem_singleton] at h
      rw [h]; exact Nat.le_refl _
    · rcases List.mem_cons.1 h with h | h
      · rw [h, List.length_take]; omega
      · have := splitK_word sep k _ x h
        rw [List.length_drop] at this
        omega
theorem split_word (s : List UInt8) : ∀ x ∈ Lib.split s sepX, x.length ≤ s.length := splitK_word _ _ _
/-- the state of the loop -/
structure RdS (w wr : World) (g : Nat) (ws : List (List UInt8)) (ad : Option Addr) (cap : Nat) (xs : List Int) (r : Nat) : Prop where
  bel : Below w.heap.size w wr
  bR : BX 28 wr w.heap.size #[.slice none 0 0, .int .i64 0]
  bA : BX 28 wr (w.heap.size + 1) #[.slice ad xs.length cap, .int .i64 r]
  bW : BX 9 wr g (wordVals ws)
  own : OwnI 2 wr (g + 1) ad xs.length cap xs
set_option maxRecDepth 20000 in
set_option maxHeartbeats 2000000 in
theorem impl_ReadAbelian_any (s : List UInt8) (w : World) (hs : s.length ≤ 1048576) (hw : LibW w) :
    Calls Tryd.prog 11 #[.string (bs s)] w fun e w' => ∃ (R : List Int) (K : Nat) (d : Int) (a' : Option Addr) (c' : Nat), e = .returned (.tuple #[.agg #[.slice a' R.length c', .int .i64 K], .int .i64 d]) ∧ ((R, K), d) = fin (readI s) s ∧ OwnI 2 w' w.heap.size a' R.length c' R ∧ Below w.heap.size w w' := by
  have HW := Lib.hid hw
  have HS := Lib.hid hs
  clear hw hs
  obtain ⟨S, hS⟩ : ∃ S, S = bs s := ⟨_, rfl⟩
  rw [← hS]
  have HSE := Lib.hid hS
  clear hS
  go_enter Tryd.func11, Tryd.ntmps11
  by_cases h1 : s = [49]
  · have e0 : (S.toList == [49]) = true := by rw [HSE.out, h1, Lib.toList_data]; rfl
    have HV : Hid ((([], 0), 0) = fin (readI s) s) := Lib.hid (by unfold readI; rw [if_pos h1, h1]; rfl)
    obtain ⟨T, hT⟩ : ∃ T, T = bs (txt [] 0) := ⟨_, rfl⟩
    have e1 : (T.toList == S.toList) = true := by rw [hT, HSE.out, h1]; exact beq_self_eq_true _
    have HTE := Lib.hid hT
    clear h1 hT
    obtain ⟨W, hW⟩ : ∃ W, W = ((w.alloc (.cells #[.slice none 0 0, .int .i64 0] 28)).alloc (.cells #[.slice none 0 0, .int .i64 0] 28)) := ⟨_, rfl⟩
    have X1 : Hid (BX 28 W w.heap.size #[.slice none 0 0, .int .i64 0]) := Lib.hid (by rw [hW]; exact (BX.new w _ _).alloc _)
    have X2 : Hid (BX 28 W (w.heap.size + 1) #[.slice none 0 0, .int .i64 0]) := Lib.hid (by rw [hW]; rw [show w.heap.size + 1 = (w.alloc (.cells #[.slice none 0 0, .int .i64 0] 28)).heap.size by simp]; exact BX.new _ _ _)
    have HBW : Hid (Below w.heap.size w W) := Lib.hid (by rw [hW]; exact ((Below.refl _ _).alloc (Nat.le_refl _) _).alloc (by simp) _)
    have sW : W.heap.size = w.heap.size + 1 + 1 := by rw [hW]; simp
    have hab : isAb [] 0 = true := by decide
    have HLW := Lib.hid (HW.out.keep HBW.out)
    go_wp2_with (first
      | (go_at_call 18; rw [← hW]; refine (impl_IsAbelian_any none 0 0 [] 0 W (RdI.nil _ _) rfl (by omega)).mono ?_; rw [hab]; rintro e w5 ⟨rfl, hb⟩; have HB5 := Lib.hid hb; clear hb; have Z2 := Lib.hid (X2.out.keep HB5.out); have z0 := Z2.out.cell 0; have z1 := Z2.out.cell 1; have l2 := Z2.out.lt; simp at z0 z1)
      | (go_at_call 19; refine (impl_text_any none 0 0 [] 0 _ (RdI.nil _ _) rfl ⟨by decide, fun i hi => absurd hi (by simp)⟩ (by exact (HLW.out.keep HB5.out).pow)).mono ?_; rw [← HTE.out]; rintro e w6 ⟨rfl, hb⟩; have HB6 := Lib.hid (HB5.out.trans (hb.mono HB5.out.size)); clear hb; have Y1 := Lib.hid (X1.out.keep HB6.out); have Y2 := Lib.hid (X2.out.keep HB6.out); have f0 := Y1.out.frz 0; have f1 := Y1.out.frz 1; have y0 := Y1.out.cell 0; have y1 := Y1.out.cell 1; have l1 := Y1.out.lt; have v0 := Y2.out.cell 0; have v1 := Y2.out.cell 1; have l3 := Y2.out.lt; simp at y0 y1 v0 v1))
    have X := (Y1.out.set 0 (.slice none 0 0)).set 1 (.int .i64 0)
    have q0 := X.cell 0
    have q1 := X.cell 1
    simp at q0 q1
    refine bodyPost_ret (v := .tuple #[.agg #[.slice none 0 0, .int .i64 0], .int .i64 0]) (by simp [results, Tryd.results11, go_sem, q0, q1]) rfl ⟨[], 0, 0, none, 0, rfl, HV.out, OwnI.none, ?_⟩
    exact (((HBW.out.trans (HB6.out.mono HBW.out.size)).setCell (by first | (simp; done) | (simp; omega)) _).setCell (by first | (simp; done) | (simp; omega)) _)
  · have e0 : (S.toList == [49]) = false := by rw [HSE.out, Lib.toList_data]; exact beq_eq_false_iff_ne.2 h1
    have HRI := Lib.hid (show readI s = parI (Lib.split s sepX) [] 0 by unfold readI; rw [if_neg h1])
    clear h1
    obtain ⟨ws, hws⟩ : ∃ ws, ws = Lib.split s sepX := ⟨_, rfl⟩
    have hn : ws.length ≤ 1048578 := by rw [hws]; exact Nat.le_trans (split_len s) (by have := HS.out; omega)
    obtain ⟨W, hW⟩ : ∃ W, W = ((w.alloc (.cells #[.slice none 0 0, .int .i64 0] 28)).alloc (.cells #[.slice none 0 0, .int .i64 0] 28)) := ⟨_, rfl⟩
    have X1 : Hid (BX 28 W w.heap.size #[.slice none 0 0, .int .i64 0]) := Lib.hid (by rw [hW]; exact (BX.new w _ _).alloc _)
    have X2 : Hid (BX 28 W (w.heap.size + 1) #[.slice none 0 0, .int .i64 0]) := Lib.hid (by rw [hW]; rw [show w.heap.size + 1 = (w.alloc (.cells #[.slice none 0 0, .int .i64 0] 28)).heap.size by simp]; exact BX.new _ _ _)
    have HBW : Hid (Below w.heap.size w W) := Lib.hid (by rw [hW]; exact ((Below.refl _ _).alloc (Nat.le_refl _) _).alloc (by simp) _)
    have sW : W.heap.size = w.heap.size + 1 + 1 := by rw [hW]; simp
    have HSP := Lib.hid (split_any s HS.out W (HW.out.keep HBW.out))
    rw [← HSE.out, ← hws] at HSP
    have HWS := Lib.hid hws
    clear hws
    go_wp2_with (go_at_call 22; rw [← hW]; refine HSP.out.mono ?_; rintro e w2 ⟨rfl, hw2⟩; have HW2 := Lib.hid hw2; clear hw2)
    obtain ⟨g, hg2⟩ : ∃ g, g = w.heap.size + 1 + 1 := ⟨_, rfl⟩
    have HG2 := Lib.hid hg2
    rw [← hg2]
    have hg : g = W.heap.size := by rw [hg2, sW]
    have HG := Lib.hid hg
    have S0 : Hid (RdS w w2 g ws none 0 [] 0) := Lib.hid (by
      rw [HW2.out]
      refine ⟨HBW.out.alloc HBW.out.size _, X1.out.alloc _, X2.out.alloc _, ?_, OwnI.none⟩
      rw [HG.out]; exact BX.new W _ _)
    clear hg hg2 sW hW
    go_loopw [17] (fun i wr => ∃ (k r cap : Nat) (ad : Option Addr) (xs : List Int), k ≤ ws.length ∧ xs.length + r ≤ k ∧ i = .int .i64 k ∧ Hid (parI (ws.drop k) xs r = readI s) ∧ Hid (RdS w wr g ws ad cap xs r)) (fun i _ => ws.length - (intOf i).toNat)
    case atStart => exact ⟨0, 0, 0, none, [], Nat.zero_le _, Nat.le_refl _, rfl, Lib.hid (by rw [HRI.out, HWS.out]; rfl), S0⟩
    case round =>
      obtain ⟨k, r, cap, ad, xs, hk, hkr, rfl, HPI, HI⟩ := hrel
      obtain ⟨wi, rfl⟩ : ∃ x, x = wr := ⟨wr, rfl⟩
      clear S0
      have x0 := HI.out.bA.cell 0
      have x1 := HI.out.bA.cell 1
      have lA := HI.out.bA.lt
      have f0 := HI.out.bA.frz 0
      have f1 := HI.out.bA.frz 1
      simp at x0 x1
      by_cases hkn : k < ws.length
      · have c0 : wi.cell? ⟨g, k, none⟩ = some (.string (bs ws[k])) := by rw [HI.out.bW.cell k]; exact wordVals_get hkn
        obtain ⟨l, hl⟩ : ∃ l, l = ws[k] := ⟨_, rfl⟩
        obtain ⟨t, ht⟩ : ∃ t, t = bs l := ⟨_, rfl⟩
        rw [← hl, ← ht] at c0
        have HL := Lib.hid hl
        have HT := Lib.hid ht
        have k1 : (k : Int) < (ws.length : Int) := by omega
        clear hl ht
        by_cases hz : l = [90]
        · have e1 : (t.toList == [90]) = true := by rw [HT.out, hz, Lib.toList_data]; rfl
          have HN : Hid (parI (ws.drop (k + 1)) xs (r + 1) = readI s) := Lib.hid (by rw [← HPI.out, parI_z hkn (by rw [← HL.out]; exact hz)])
          have w1 : IntKind.i64.wrap ((r : Int) + 1) = (r : Int) + 1 := IntWalk.i64_in _ (by omega)
          have HNS : Hid (RdS w (wi.setCell ⟨w.heap.size + 1, 1, none⟩ (.int .i64 ((r : Int) + 1))) g ws ad cap xs (r + 1)) := Lib.hid ⟨HI.out.bel.setCell (by simp) _, HI.out.bR.other (by simp) _, HI.out.bA.set 1 _, HI.out.bW.other (by simp; rw [HG2.out]; omega) _, HI.out.own.setCell (by simp; rw [HG2.out]; omega) _⟩
          clear hz
          go_wp2_with fail
          go_roundw
          case rel => exact ⟨k + 1, r + 1, cap, ad, xs, by omega, by omega, by go_num, HN, HNS⟩
          case measure => simp [intOf]; omega
        · have e1 : (t.toList == [90]) = false := by rw [HT.out, Lib.toList_data]; exact beq_eq_false_iff_ne.2 hz
          have hz' : ws[k] ≠ [90] := by rw [← HL.out]; exact hz
          have hll : l.length ≤ 1048576 := by rw [HL.out]; exact Nat.le_trans (split_word s _ (by rw [← HWS.out]; exact List.getElem_mem hkn)) HS.out
          have HLW : Hid (LibW wi) := Lib.hid (HW.out.keep HI.out.bel)
          obtain ⟨dg, hdg⟩ : ∃ dg, dg = Lib.trimPrefix l [67] := ⟨_, rfl⟩
          have hdl : dg.length ≤ 1048576 := by rw [hdg]; unfold Lib.trimPrefix; split <;> first | exact hll | (rw [List.length_drop]; omega)
          have HC := Lib.hid (cut_any l wi)
          have HP := Lib.hid (parse_any dg hdl wi HLW.out)
          obtain ⟨dt, hdt⟩ : ∃ dt, dt = bs dg := ⟨_, rfl⟩
          rw [← HT.out, ← hdg, ← hdt] at HC
          rw [← hdt] at HP
          have HDG := Lib.hid hdg
          clear hdg hdt hz hdl hll
          cases hpx : Lib.hasPrefix l [67]
          · have HNO : Hid (none = readI s) := Lib.hid (by rw [← HPI.out, parI_p hkn hz' (by rw [← HL.out]; exact hpx)])
            have HV : Hid ((([], 0), 6) = fin (readI s) s) := Lib.hid (by rw [← HNO.out]; rfl)
            rw [hpx] at HC
            clear hz' hpx
            go_wp2_with (first
              | (go_at_call 23; refine HC.out.mono ?_; rintro e w4 ⟨rfl, rfl⟩)
              | (go_at_call 24; refine HP.out.mono ?_; rintro e w5 ⟨v, er, rfl, hb, hor⟩; have HB5 := Lib.hid hb; have HOR := Lib.hid hor; clear hb hor; have Y1 := Lib.hid (HI.out.bR.keep HB5.out); have g0 := Y1.out.frz 0; have g1 := Y1.out.frz 1; have y0 := Y1.out.cell 0; have y1 := Y1.out.cell 1; have l1 := Y1.out.lt; simp at y0 y1))
            have X := (Y1.out.set 0 (.slice none 0 0)).set 1 (.int .i64 0)
            have q0 := X.cell 0
            have q1 := X.cell 1
            simp at q0 q1
            refine bodyPost_ret (v := .tuple #[.agg #[.slice none 0 0, .int .i64 0], .int .i64 6]) (by simp [results, Tryd.results11, go_sem, q0, q1]) rfl ⟨[], 0, 6, none, 0, rfl, HV.out, OwnI.none, ?_⟩
            exact (((HI.out.bel.trans (HB5.out.mono HI.out.bel.size)).setCell (by first | (simp; done) | (simp; omega)) _).setCell (by first | (simp; done) | (simp; omega)) _)
          · by_cases hok : ∃ u, Lib.parseIntB 64 (Lib.trimPrefix l [67]) = .ok u
            · obtain ⟨u, hu⟩ := hok
              have HN : Hid (parI (ws.drop (k + 1)) (xs ++ [u]) r = readI s) := Lib.hid (by rw [← HPI.out, parI_c hkn hz' (by rw [← HL.out]; exact hpx) (by rw [← HL.out]; exact hu)])
              have HP2 : Hid (Calls Tryd.prog 24 #[.string dt, .int .i64 10, .int .i64 64] wi fun e w' => e = .returned (.tuple #[.int .i64 u, .nilIface]) ∧ Below wi.heap.size wi w') := Lib.hid (HP.out.mono (by
                rintro e w' ⟨v, er, rfl, hb, ⟨u', h1, h2, h3⟩ | ⟨h1, _⟩⟩
                · rw [HDG.out] at h1
                  have h4 := h1.symm.trans hu
                  injection h4 with h4
                  subst h2 h3 h4
                  exact ⟨rfl, hb⟩
                · exact absurd (by rw [HDG.out]; exact hu) (h1 u)))
              rw [hpx] at HC
              have HSn := Lib.hid (show xs.length ≤ 1048578 by omega)
              clear hz' hpx HP hu
              go_wp2_with (first
                | (go_at_call 23; refine HC.out.mono ?_; rintro e w4 ⟨rfl, rfl⟩)
                | (go_at_call 24; refine HP2.out.mono ?_; rintro e w5 ⟨rfl, hb⟩; have HB5 := Lib.hid hb; clear hb; have Y2 := Lib.hid (HI.out.bA.keep HB5.out); have g0 := Y2.out.frz 0; have y0 := Y2.out.cell 0; have l1 := Y2.out.lt; simp at y0)
                | (at_builtin; go_loud (refine wpList_push rfl (.tmp 45) (.tmp 47) 22 rfl (g + 1) 2 (.int .i64 0) 8 Tryd.underlying22 Tryd.info2 rfl (by decide) (.int .i64 u) rfl _ _ _ _ rfl rfl (by exact HI.out.own.keep HB5.out (Nat.le_refl _)) (by have := HSn.out; omega) (by exact Nat.le_trans (Nat.succ_le_of_lt HI.out.bW.lt) HB5.out.size) ?_; rintro a4 c4 w6 r4 q4 g4; have HN6 := Lib.hid (OwnI.pushed r4); have G4 := Lib.hid g4; have X4 := Lib.hid (BX.chg (S := fun m => ∃ p, ad = some p ∧ p.block = m) (HI.out.bA.keep HB5.out) g4 (fun hx => by obtain ⟨x, hx, e⟩ := hx; have := (HI.out.own.block x hx).1; rw [HG2.out] at this; omega)); have f4 := X4.out.frz 0; have y4 := X4.out.cell 0; have l4 := X4.out.lt; simp at y4; clear r4 q4 g4)))
              have HNS : Hid (RdS w (w6.setCell ⟨w.heap.size + 1, 0, none⟩ (.slice a4 (xs.length + 1) c4)) g ws a4 c4 (xs ++ [u]) r) := by
                have hb1 := HI.out.bel.trans (HB5.out.mono HI.out.bel.size)
                refine Lib.hid ⟨?_, ?_, ?_, ?_, ?_⟩
                · exact (hb1.trans (G4.out.below hb1.size (fun m hm hx => by obtain ⟨x, hx, e⟩ := hx; have := (HI.out.own.block x hx).1; rw [HG2.out] at this; omega))).setCell (by simp) _
                · exact ((HI.out.bR.keep HB5.out).chg G4.out (fun hx => by obtain ⟨x, hx, e⟩ := hx; have := (HI.out.own.block x hx).1; rw [HG2.out] at this; omega)).other (by simp) _
                · rw [List.length_append]; exact X4.out.set 0 _
                · exact ((HI.out.bW.keep HB5.out).chg G4.out (fun hx => by obtain ⟨x, hx, e⟩ := hx; have := (HI.out.own.block x hx).1; omega)).other (by simp; rw [HG2.out]; omega) _
                · rw [List.length_append]; exact HN6.out.setCell (by simp; rw [HG2.out]; omega) _
              go_wp2_with fail
              go_roundw
              case rel => exact ⟨k + 1, r, c4, a4, xs ++ [u], by omega, by rw [List.length_append]; simp only [List.length_cons, List.length_nil]; omega, by go_num, HN, HNS⟩
              case measure => simp [intOf]; omega
            · have HNO : Hid (none = readI s) := Lib.hid (by rw [← HPI.out, parI_e hkn hz' (fun v hv => hok ⟨v, by rw [HL.out]; exact hv⟩)])
              have HV : Hid ((([], 0), 6) = fin (readI s) s) := Lib.hid (by rw [← HNO.out]; rfl)
              have HP2 : Hid (Calls Tryd.prog 24 #[.string dt, .int .i64 10, .int .i64 64] wi fun e w' => ∃ v t p, e = .returned (.tuple #[.int .i64 v, .iface t p]) ∧ Below wi.heap.size wi w') := Lib.hid (HP.out.mono (by
                rintro e w' ⟨v, er, rfl, hb, ⟨u', h1, h2, h3⟩ | ⟨h1, t, p, rfl⟩⟩
                · exact absurd ⟨u', by rw [← HDG.out]; exact h1⟩ hok
                · exact ⟨v, t, p, rfl, hb⟩))
              rw [hpx] at HC
              clear hz' hpx HP hok
              go_wp2_with (first
                | (go_at_call 23; refine HC.out.mono ?_; rintro e w4 ⟨rfl, rfl⟩)
                | (go_at_call 24; refine HP2.out.mono ?_; rintro e w5 ⟨v, ty, pv, rfl, hb⟩; have HB5 := Lib.hid hb; clear hb; have Y1 := Lib.hid (HI.out.bR.keep HB5.out); have g0 := Y1.out.frz 0; have g1 := Y1.out.frz 1; have y0 := Y1.out.cell 0; have y1 := Y1.out.cell 1; have l1 := Y1.out.lt; simp at y0 y1))
              have X := (Y1.out.set 0 (.slice none 0 0)).set 1 (.int .i64 0)
              have q0 := X.cell 0
              have q1 := X.cell 1
              simp at q0 q1
              refine bodyPost_ret (v := .tuple #[.agg #[.slice none 0 0, .int .i64 0], .int .i64 6]) (by simp [results, Tryd.results11, go_sem, q0, q1]) rfl ⟨[], 0, 6, none, 0, rfl, HV.out, OwnI.none, ?_⟩
              exact (((HI.out.bel.trans (HB5.out.mono HI.out.bel.size)).setCell (by first | (simp; done) | (simp; omega)) _).setCell (by first | (simp; done) | (simp; omega)) _)
      · have hke : k = ws.length := by omega
        have HF : Hid (fin (readI s) s = if isAb xs r = true ∧ txt xs r = s then ((xs, r), 0) else (([], 0), 6)) := Lib.hid (by rw [← HPI.out, hke, List.drop_length]; rfl)
        have k2 : ¬ (k : Int) < (ws.length : Int) := by omega
        have X1 := Lib.hid HI.out.bR
        have X2 := Lib.hid HI.out.bA
        have HO := Lib.hid HI.out.own
        have HB := Lib.hid HI.out.bel
        have HLW := Lib.hid (HW.out.keep HI.out.bel)
        clear hke f0 f1
        cases hab : isAb xs r
        · have HV : Hid ((([], 0), 6) = fin (readI s) s) := Lib.hid (by rw [HF.out, if_neg (fun h => by rw [hab] at h; cases h.1)])
          go_wp2_with (go_at_call 18; refine (impl_IsAbelian_any _ _ _ xs _ _ (by exact HO.out.rd) rfl (by omega)).mono ?_; rw [hab]; rintro e w5 ⟨rfl, hb⟩; have HB5 := Lib.hid hb; clear hb; have Y1 := Lib.hid (X1.out.keep HB5.out); have f0 := Y1.out.frz 0; have f1 := Y1.out.frz 1; have y0 := Y1.out.cell 0; have y1 := Y1.out.cell 1; have l1 := Y1.out.lt; simp at y0 y1)
          have X := (Y1.out.set 0 (.slice none 0 0)).set 1 (.int .i64 0)
          have x0 := X.cell 0
          have x1 := X.cell 1
          simp at x0 x1
          refine bodyPost_ret (v := .tuple #[.agg #[.slice none 0 0, .int .i64 0], .int .i64 6]) (by simp [results, Tryd.results11, go_sem, x0, x1]) rfl ⟨[], 0, 6, none, 0, rfl, HV.out, OwnI.none, ?_⟩
          exact (((HB.out.trans (HB5.out.mono HB.out.size)).setCell (by first | (simp; done) | (simp; omega)) _).setCell (by first | (simp; done) | (simp; omega)) _)
        · obtain ⟨r0, hr0, ht⟩ := Txt.of (isAb_ok hab)
          obtain rfl : r0 = r := by omega
          have HT := Lib.hid ht
          clear ht hr0
          obtain ⟨T, hT⟩ : ∃ T, T = bs (txt xs r0) := ⟨_, rfl⟩
          have HTE := Lib.hid hT
          clear hT
          by_cases heq : txt xs r0 = s
          · have e1 : (T.toList == S.toList) = true := by rw [HTE.out, HSE.out, heq]; exact beq_self_eq_true _
            have HV : Hid (((xs, r0), 0) = fin (readI s) s) := Lib.hid (by rw [HF.out, if_pos ⟨hab, heq⟩])
            clear heq
            go_wp2_with (first
              | (go_at_call 18; refine (impl_IsAbelian_any _ _ _ xs _ _ (by exact HO.out.rd) rfl (by omega)).mono ?_; rw [hab]; rintro e w5 ⟨rfl, hb⟩; have HB5 := Lib.hid hb; clear hb; have Z2 := Lib.hid (X2.out.keep HB5.out); have z0 := Z2.out.cell 0; have z1 := Z2.out.cell 1; have l2 := Z2.out.lt; simp at z0 z1)
              | (go_at_call 19; refine (impl_text_any _ _ _ xs r0 _ (by exact HO.out.rd.keep HB5.out (Nat.le_refl _)) rfl HT.out (by exact (HLW.out.keep HB5.out).pow)).mono ?_; rw [← HTE.out]; rintro e w6 ⟨rfl, hb⟩; have HB6 := Lib.hid (HB5.out.trans (hb.mono HB5.out.size)); clear hb; have Y1 := Lib.hid (X1.out.keep HB6.out); have Y2 := Lib.hid (X2.out.keep HB6.out); have f0 := Y1.out.frz 0; have f1 := Y1.out.frz 1; have y0 := Y1.out.cell 0; have y1 := Y1.out.cell 1; have l1 := Y1.out.lt; have v0 := Y2.out.cell 0; have v1 := Y2.out.cell 1; have l3 := Y2.out.lt; simp at y0 y1 v0 v1))
            have X := (Y1.out.set 0 (.slice ad xs.length cap)).set 1 (.int .i64 r0)
            have q0 := X.cell 0
            have q1 := X.cell 1
            simp at q0 q1
            refine bodyPost_ret (v := .tuple #[.agg #[.slice ad xs.length cap, .int .i64 r0], .int .i64 0]) (by simp [results, Tryd.results11, go_sem, q0, q1]) rfl ⟨xs, r0, 0, ad, cap, rfl, HV.out, ?_, ?_⟩
            · exact ((((HO.out.keep HB6.out (Nat.le_refl _)).setCell (by simp; rw [HG2.out]; omega) _).setCell (by simp; rw [HG2.out]; omega) _).mono (by rw [HG2.out]; omega))
            · exact (((HB.out.trans (HB6.out.mono HB.out.size)).setCell (by first | (simp; done) | (simp; omega)) _).setCell (by first | (simp; done) | (simp; omega)) _)
          · have e1 : (T.toList == S.toList) = false := by rw [HTE.out, HSE.out, Lib.toList_data, Lib.toList_data]; exact beq_eq_false_iff_ne.2 heq
            have HV : Hid ((([], 0), 6) = fin (readI s) s) := Lib.hid (by rw [HF.out, if_neg (fun h => heq h.2)])
            clear heq
            go_wp2_with (first
              | (go_at_call 18; refine (impl_IsAbelian_any _ _ _ xs _ _ (by exact HO.out.rd) rfl (by omega)).mono ?_; rw [hab]; rintro e w5 ⟨rfl, hb⟩; have HB5 := Lib.hid hb; clear hb; have Z2 := Lib.hid (X2.out.keep HB5.out); have z0 := Z2.out.cell 0; have z1 := Z2.out.cell 1; have l2 := Z2.out.lt; simp at z0 z1)
              | (go_at_call 19; refine (impl_text_any _ _ _ xs r0 _ (by exact HO.out.rd.keep HB5.out (Nat.le_refl _)) rfl HT.out (by exact (HLW.out.keep HB5.out).pow)).mono ?_; rw [← HTE.out]; rintro e w6 ⟨rfl, hb⟩; have HB6 := Lib.hid (HB5.out.trans (hb.mono HB5.out.size)); clear hb; have Y1 := Lib.hid (X1.out.keep HB6.out); have f0 := Y1.out.frz 0; have f1 := Y1.out.frz 1; have y0 := Y1.out.cell 0; have y1 := Y1.out.cell 1; have l1 := Y1.out.lt; simp at y0 y1))
            have X := (Y1.out.set 0 (.slice none 0 0)).set 1 (.int .i64 0)
            have q0 := X.cell 0
            have q1 := X.cell 1
            simp at q0 q1
            refine bodyPost_ret (v := .tuple #[.agg #[.slice none 0 0, .int .i64 0], .int .i64 6]) (by simp [results, Tryd.results11, go_sem, q0, q1]) rfl ⟨[], 0, 6, none, 0, rfl, HV.out, OwnI.none, ?_⟩
            exact (((HB.out.trans (HB6.out.mono HB.out.size)).setCell (by first | (simp; done) | (simp; omega)) _).setCell (by first | (simp; done) | (simp; omega)) _)
end Go.Proofs.YtfinngmohhnnoaaDoor
