/- The inverse of a square matrix: the program's inner function. -/
import Derived.Test.YtngikcjdhbflkaaInv
set_option linter.unusedVariables false
set_option linter.unusedSimpArgs false
namespace Go.Proofs.Ytngikcjdhbflkaa
open Go.RowKit

theorem MadeH.rdSame {T2 : TypeId} {w w' : World} {B n cap : Nat} {a : Option Addr} {xss : List (List Int)} (h : MadeH T2 w B a n cap xss) (hs : ∀ k, B ≤ k → k < w.heap.size → w'.heap[k]? = w.heap[k]?) : RdR w' a xss := by
  obtain ⟨A, C, h⟩ := h
  refine (h.same (fun h0 p hp => ?_) (fun i hi p hp => ?_)).rd
  · have := h.blk h0 p hp
    exact hs _ this.1 this.2
  · have := (h.row i hi).block p hp
    exact hs _ this.1 this.2
set_option maxRecDepth 20000 in
set_option maxHeartbeats 4000000 in
theorem inverseOf_any (p : Int) (hp : GP p) (a : Option Addr) (n c : Nat) (xss : List (List Int)) (w : World) (ha : RdR w a xss) (hl : xss.length = n) (hr : Rws p n xss) (hn : n ≤ 50) :
    Calls Try.prog 77 #[.agg #[.int .i64 p, .int .i64 n, .slice a n c]] w fun e w' => ∃ (ok : Bool) (P Q : Int) (R : List (List Int)) (a' : Option Addr) (c' : Nat), e = .returned (.tuple #[.agg #[.int .i64 P, .int .i64 Q, .slice a' R.length c'], .bool ok]) ∧ InvR p n xss ok R ∧ (ok = true → P = p ∧ Q = n) ∧ MadeR 38 2 w' w.heap.size a' R.length c' R ∧ Below w.heap.size w w' := by
  have HA := Lib.hid ha
  have HL := Lib.hid hl
  have HR := Lib.hid hr
  have HP := Lib.hid hp
  have hp2 : 2 ≤ p := hp.bd.1
  clear ha hl hr hp
  go_enter Try.func77, Try.ntmps77
  go_wp2_with fail
  obtain ⟨W0, hW⟩ : ∃ W, W = ((w.alloc (.cells #[.int .i64 p, .int .i64 n, .slice a n c] 24)).alloc (.cells #[.int .i64 0, .int .i64 0, .slice none 0 0] 24)).alloc (.cells #[.int .i64 p, .int .i64 n, .slice none 0 0] 24) := ⟨_, rfl⟩
  rw [← hW]
  have X0 : Hid (BX 24 W0 w.heap.size #[.int .i64 p, .int .i64 n, .slice a n c]) := Lib.hid (by rw [hW]; exact ((BX.new w _ _).alloc _).alloc _)
  have X1 : Hid (BX 24 W0 (w.heap.size + 1) #[.int .i64 0, .int .i64 0, .slice none 0 0]) := Lib.hid (by rw [hW]; exact (BX.newAt (by simp)).alloc _)
  have X2 : Hid (BX 24 W0 (w.heap.size + 2) #[.int .i64 p, .int .i64 n, .slice none 0 0]) := Lib.hid (by rw [hW]; exact BX.newAt (by simp))
  have HB0 : Hid (Below w.heap.size w W0) := Lib.hid (by rw [hW]; exact (((Below.refl _ _).alloc (Nat.le_refl _) _).alloc (by simp) _).alloc (by simp; omega) _)
  have s0 : W0.heap.size = w.heap.size + 3 := by rw [hW]; simp
  clear hW
  have p0 : W0.cell? ⟨w.heap.size, 0, none⟩ = some (.int .i64 p) := X0.out.cell 0
  have p2 : W0.cell? ⟨w.heap.size, 2, none⟩ = some (.slice a n c) := X0.out.cell 2
  have HAo : Hid (RdR W0 a xss) := Lib.hid (HA.out.keep HB0.out (Nat.le_refl _))
  go_region_held3 (fun w' => w'.cell? ⟨w.heap.size, 0, none⟩ = some (.int .i64 p) ∧ w'.cell? ⟨w.heap.size, 2, none⟩ = some (.slice a n c)) (go_keep)
    (first
      | (go_at_call 103; (with_reducible refine (withIdentity_any _ n _ n xss _ ?_ HL.out (fun i hi => HR.out.row i (by rw [HL.out]; exact hi)) (by omega) (by omega)).mono ?_); exact (show RdR W0 a xss from HAo.out); rintro e w1 ⟨aw, cw, rfl, ho, hb0⟩; have hb : Below W0.heap.size W0 w1 := ⟨hb0.os, hb0.tape, hb0.output, hb0.size, hb0.block⟩; have p0' := cell_below (p := ⟨w.heap.size, 0, none⟩) p0 hb; have p2' := cell_below (p := ⟨w.heap.size, 2, none⟩) p2 hb; have HB1 : Hid (Below W0.heap.size W0 w1) := Lib.hid hb; have s1 := hb.size; have HW1 := Lib.hid ho.rd; clear ho hb hb0)
      | (go_at_call 102; (with_reducible refine (reduceRows_any p HP.out _ n _ (n + n) (wideR xss) _ ?_ (by rw [wideR_len]; exact HL.out) (wideR_rws HR.out HL.out hp2) (by omega) (by omega)).mono ?_); exact HW1.out; rintro e w2 ⟨W, a2, c2, rfl, hres, ho, hb0⟩; have hb : Below w1.heap.size w1 w2 := ⟨hb0.os, hb0.tape, hb0.output, hb0.size, hb0.block⟩; have p0'' := cell_below (p := ⟨w.heap.size, 0, none⟩) p0' hb; have p2'' := cell_below (p := ⟨w.heap.size, 2, none⟩) p2' hb; have HB2 : Hid (Below W0.heap.size W0 w2) := Lib.hid (HB1.out.trans (hb.mono s1)); have HRes := Lib.hid hres; have HW : Hid (MadeH 2 w2 w1.heap.size a2 W.length c2 W) := Lib.hid ho; have hWl := hres.len; have s2 := hb.size; clear ho hb hb0 hres))
  have HY : Hid (InvOk W → InvR p n xss true (rightR n W)) := Lib.hid fun h => ⟨W, by rw [HL.out]; exact HRes.out, .inl ⟨h, rfl, by rw [HL.out]⟩⟩
  have HN0 : Hid (¬ InvOk W → InvR p n xss false []) := Lib.hid fun h => ⟨W, by rw [HL.out]; exact HRes.out, .inr ⟨h, rfl, rfl⟩⟩
  obtain ⟨piv, hRR, _⟩ := HRes.out
  have HRR := Lib.hid hRR
  clear hRR p0 p2 p0' p2' p0'' p2''
  have HXS : Hid ((BX 24 w2 (w.heap.size + 1) #[.int .i64 0, .int .i64 0, .slice none 0 0]) ∧ BX 24 w2 (w.heap.size + 2) #[.int .i64 p, .int .i64 n, .slice none 0 0]) := Lib.hid ⟨X1.out.keep HB2.out, X2.out.keep HB2.out⟩
  have HJS : Hid (Below w.heap.size w w2) := Lib.hid (HB0.out.trans (HB2.out.mono (by omega)))
  clear X0 X1 X2
  go_wp2_with fail
  go_loopw [23] (fun i wr => ∃ (j : Nat) (a1 : Option Addr) (c1 : Nat) (A : Nat → Option Addr) (C : Nat → Nat), j ≤ W.length ∧ i = .int .i64 j ∧ Hid (BX 24 wr (w.heap.size + 1) #[.int .i64 0, .int .i64 0, .slice none 0 0] ∧ BX 24 wr (w.heap.size + 2) #[.int .i64 p, .int .i64 n, .slice a1 j c1]) ∧ Hid ((∀ i, i < j → el (rw_ W i) i = 1) ∧ OwnR 38 2 wr w2.heap.size a1 j c1 ((rightR n W).take j) A C ∧ (∀ k, k < w2.heap.size → k ≠ w.heap.size + 2 → wr.heap[k]? = w2.heap[k]?) ∧ Below w.heap.size w wr ∧ w2.heap.size ≤ wr.heap.size)) (fun i _ => W.length - (intOf i).toNat)
  case atStart => exact ⟨0, none, 0, fun _ => none, fun _ => 0, Nat.zero_le _, rfl, HXS, Lib.hid ⟨fun i hi => absurd hi (by omega), OwnR.none _ _, fun _ _ _ => rfl, HJS.out, Nat.le_refl _⟩⟩
  case round =>
    obtain ⟨j, a1, c1, A, C, hj, rfl, HX, HV⟩ := hrel
    obtain ⟨wi, rfl⟩ : ∃ x, x = wr := ⟨wr, rfl⟩
    clear HXS HJS
    have HWi : Hid (RdR wi a2 W) := Lib.hid (HW.out.rdSame fun k h1 h2 => HV.out.2.2.1 k h2 (by omega))
    have hsz := HV.out.2.2.2.2
    have lt1 : w.heap.size + 1 < wi.heap.size := by omega
    have lt2 : w.heap.size + 1 + 1 < wi.heap.size := by omega
    have p0 : wi.cell? ⟨w.heap.size + 1 + 1, 0, none⟩ = some (.int .i64 p) := HX.out.2.cell 0
    have p1 : wi.cell? ⟨w.heap.size + 1 + 1, 1, none⟩ = some (.int .i64 n) := HX.out.2.cell 1
    have p2 : wi.cell? ⟨w.heap.size + 1 + 1, 2, none⟩ = some (.slice a1 j c1) := HX.out.2.cell 2
    have f0 := HX.out.1.frz 0
    have f1 := HX.out.1.frz 1
    have f2 := HX.out.1.frz 2
    have y0 : wi.cell? ⟨w.heap.size + 1, 0, none⟩ = some (.int .i64 0) := HX.out.1.cell 0
    have y1 : wi.cell? ⟨w.heap.size + 1, 1, none⟩ = some (.int .i64 0) := HX.out.1.cell 1
    have y2 : wi.cell? ⟨w.heap.size + 1, 2, none⟩ = some (.slice none 0 0) := HX.out.1.cell 2
    by_cases hjt : j < W.length
    · have hpn := HRR.out.pn j hjt
      have hlen := HRR.out.len j hjt
      have hnp : 0 < n := wide_pos HRes.out HL.out hp2 hjt
      obtain ⟨b, o, rfl, hc⟩ := HWi.out (by omega)
      obtain ⟨aj, cj, dj, rj, kj⟩ := hc j hjt
      rw [hlen] at dj kj
      obtain ⟨bj, oj, rfl, hcj⟩ := id rj (by omega)
      have RJi := Lib.hid rj
      have HLN := Lib.hid hlen
      have ej := hcj j (by rw [hlen]; have := HRR.out.piv_ge j hjt; omega)
      have hjl : j < n + n := by have := HRR.out.piv_ge j hjt; omega
      clear hc hcj rj hlen
      have V1 : n ≤ cj := by omega
      have V2 : ¬ cj = n := by omega
      have V3 : (n : Int) ≤ (n : Int) + n := by omega
      have J1 : (j : Int) < (n : Int) + n := by omega
      have J2 : (j : Int) < ((n + n : Nat) : Int) := by omega
      by_cases hz : el (rw_ W j) j = 1
      · have b3 : (el (rw_ W j) j != 1) = false := by rw [hz]; rfl
        have HE := Lib.hid hz
        clear hz
        go_wp2_with fail
        go_region_law (first
          | (go_simp; go_at_call 99; refine (clone_any _ _ _ ((rw_ W j).drop n) _ (by exact (RJi.out.drop n).same (fun _ _ => rfl)) (by rw [List.length_drop, HLN.out]; omega) (by omega)).mono ?_; rintro e wc ⟨ac, cc, rfl, ho, hb⟩; have HBc : Hid (Below wi.heap.size wi wc) := Lib.hid ⟨hb.os, hb.tape, hb.output, hb.size, hb.block⟩; have HOc : Hid (OwnI 2 wc wi.heap.size ac n cc ((rw_ W j).drop n)) := Lib.hid ho; have zc : wc.cell? ⟨w.heap.size + 1 + 1, 2, none⟩ = some (.slice a1 j c1) := (HX.out.2.keep HBc.out).cell 2; have ltc : w.heap.size + 1 + 1 < wc.heap.size := Nat.lt_of_lt_of_le lt2 HBc.out.size; clear ho hb)
          | (refine step_pushW rfl (.tmp 35) (.tmp 40) 22 rfl w2.heap.size 38 (.slice none 0 0) 24 Try.underlying22 Try.infoR rfl (by decide) (.slice ac n cc) rfl _ _ _ _ _ rfl rfl (by exact (World.cell?_alloc_at _ _ _ _ rfl).trans rfl) (by exact (ownsRow_same (HV.out.2.1.keep HBc.out (Nat.le_refl _)).own (fun p hp => Below.heap_alloc _ _ _ (ownsRow_block (HV.out.2.1.keep HBc.out (Nat.le_refl _)).own p hp).2))) (by omega) (by exact Nat.le_trans hsz (Nat.le_trans HBc.out.size (by simp))) ?_; rintro a4 c4 w4 r4 q4 g4; have HN := Lib.hid (HV.out.2.1.pushNew hsz HBc.out HOc.out (Nat.le_refl _) r4 q4 g4); have HY4 := Lib.hid (And.intro (((HX.out.1.keep HBc.out).alloc _).chg g4 (fun hx => by obtain ⟨x, hx, e⟩ := hx; have := (ownsRow_block HV.out.2.1.own x hx).1; omega)) (((HX.out.2.keep HBc.out).alloc _).chg g4 (fun hx => by obtain ⟨x, hx, e⟩ := hx; have := (ownsRow_block HV.out.2.1.own x hx).1; omega))); have z1 : w4.cell? ⟨w.heap.size + 1 + 1, 2, none⟩ = some (.slice a1 j c1) := HY4.out.2.cell 2; have z2 : w4.frozen? ⟨w.heap.size + 1 + 1, 2, none⟩ = false := HY4.out.2.frz 2; clear r4 q4 g4))
        all_goals
          have HX2 : Hid (BX 24 (w4.setCell ⟨w.heap.size + 1 + 1, 2, none⟩ (.slice a4 (j + 1) c4)) (w.heap.size + 1) #[.int .i64 0, .int .i64 0, .slice none 0 0] ∧ BX 24 (w4.setCell ⟨w.heap.size + 1 + 1, 2, none⟩ (.slice a4 (j + 1) c4)) (w.heap.size + 2) #[.int .i64 p, .int .i64 n, .slice a4 (j + 1) c4]) := Lib.hid ⟨HY4.out.1.other (by simp) _, HY4.out.2.set 2 _⟩
          have HN2 : Hid ((∀ i, i < j + 1 → el (rw_ W i) i = 1) ∧ OwnR 38 2 (w4.setCell ⟨w.heap.size + 1 + 1, 2, none⟩ (.slice a4 (j + 1) c4)) w2.heap.size a4 (j + 1) c4 ((rightR n W).take (j + 1)) (upd A j ac) (upd C j cc) ∧ (∀ k, k < w2.heap.size → k ≠ w.heap.size + 2 → (w4.setCell ⟨w.heap.size + 1 + 1, 2, none⟩ (.slice a4 (j + 1) c4)).heap[k]? = w2.heap[k]?) ∧ Below w.heap.size w (w4.setCell ⟨w.heap.size + 1 + 1, 2, none⟩ (.slice a4 (j + 1) c4)) ∧ w2.heap.size ≤ (w4.setCell ⟨w.heap.size + 1 + 1, 2, none⟩ (.slice a4 (j + 1) c4)).heap.size) := by
            refine Lib.hid ⟨fun i hi => ?_, ?_, fun k hk hne => ?_, ?_, ?_⟩
            · by_cases he : i = j
              · subst he; exact HE.out
              · exact HV.out.1 i (by omega)
            · rw [take_row2 (by rw [rightR_len]; exact hjt), rightR_row hjt]
              exact HN.out.1.setLow _ (by simp; omega) _
            · exact (Below.heap_setCell _ _ _ _ (by simp; omega)).trans ((HN.out.2.block k hk).trans (HV.out.2.2.1 k hk hne))
            · exact (HV.out.2.2.2.1.trans (HN.out.2.mono (by omega))).setCell (by simp; omega) _
            · have := HN.out.2.size; simp; omega
          go_wp2_with fail
          go_roundw
          case rel => exact ⟨j + 1, a4, c4, _, _, by omega, by go_num, HX2, HN2⟩
          case measure => simp [intOf]; omega
      · have b3 : (el (rw_ W j) j != 1) = true := bne_iff_ne.2 hz
        have HE : Hid (¬ InvOk W) := Lib.hid fun h => hz (h j hjt)
        have HBf := Lib.hid HV.out.2.2.2.1
        clear hz
        go_wp2_with fail
        refine bodyPost_ret (v := .tuple #[.agg #[.int .i64 0, .int .i64 0, .slice none 0 0], .bool false]) (by simp [results, Try.results77, go_sem, y0, y1, y2]) rfl ⟨false, 0, 0, [], none, 0, rfl, HN0.out HE.out, (fun h => by cases h), MadeR.none, ?_⟩
        exact (((HBf.out.setCell (by first | (simp; done) | (simp; omega)) _).setCell (by first | (simp; done) | (simp; omega)) _).setCell (by first | (simp; done) | (simp; omega)) _)
    · obtain rfl : j = W.length := by omega
      have HI := Lib.hid (HY.out HV.out.1)
      have HV1 := HV.out.2.1
      rw [List.take_of_length_le (by rw [rightR_len]; omega)] at HV1
      have HM : Hid (MadeR 38 2 wi w2.heap.size a1 W.length c1 (rightR n W)) := Lib.hid ⟨A, C, HV1⟩
      have HBf := Lib.hid HV.out.2.2.2.1
      clear HV1
      go_wp2_with fail
      refine bodyPost_ret (v := .tuple #[.agg #[.int .i64 p, .int .i64 n, .slice a1 W.length c1], .bool true]) (by simp [results, Try.results77, go_sem, y0, y1, y2]) rfl ⟨true, p, n, rightR n W, a1, c1, by rw [rightR_len], HI.out, fun _ => ⟨rfl, rfl⟩, ?_, ?_⟩
      · rw [rightR_len]
        refine MadeR.mono (B := w2.heap.size) ?_ (by omega)
        exact (((HM.out).setLow _ (by first | (simp; done) | (simp; omega)) _).setLow _ (by first | (simp; done) | (simp; omega)) _).setLow _ (by first | (simp; done) | (simp; omega)) _
      · exact (((HBf.out.setCell (by first | (simp; done) | (simp; omega)) _).setCell (by first | (simp; done) | (simp; omega)) _).setCell (by first | (simp; done) | (simp; omega)) _)
end Go.Proofs.Ytngikcjdhbflkaa
