/- The reduced basis of the vectors that rows take to zero: the program and the reference. -/
import Derived.Test.YtpkdgemnddcefaaWide
import Derived.Test.YtpkdgemnddcefaaNull
set_option linter.unusedVariables false
set_option linter.unusedSimpArgs false
namespace Go.Proofs.Ytpkdgemnddcefaa
open Go.RowKit

/-- an append of a slice that is read as one step of a region that draws its order, told of the world at the append -/
theorem step_appSW {P : Program} {W : World} {ops : Array Oper} {o : Oper} {a : Act} {K : Act → World → Prop} {Q : Exit → Act → World → Prop} {E : Prop} (hgd : o.guard = none) (s x : Operand) (t : TypeId)
    (ho : o.op = .call { callee := .builtin .append, args := #[s, x], argTypes := #[t, t] })
    (B : Nat) (e : TypeId) (z : Value) (bytes : Nat) (ht : P.underlying t = some (.slice e)) (hinfo : (P.info? e).map (fun i => (i.zero, i.size, i.bytes)) = some (some z, 1, bytes))
    (hz1 : z.cells.size = 1) (hby : bytes ≤ 24) (ad : Option Addr) (n cap : Nat) (xs : List Value) (hs : a.eval s = .slice ad n cap)
    (ao : Option Addr) (m c : Nat) (hx : a.eval x = .slice ao m c) (hown : W.ownsRow B e 1 (.slice ad n cap) n xs)
    (news : List Value) (hl : news.length = m) (hnews : RdV W ao news) (h1 : ∀ u ∈ news, u.oneCell' = true)
    (hn : n + m ≤ 1000000000000) (hB : B ≤ W.heap.size)
    (h : ∀ ad' cap' w', w'.ownsRow B e 1 (.slice ad' (n + m) cap') (n + m) (xs ++ news) → (ad' = ad ∨ ad' = some ⟨W.heap.size, 0, none⟩) → Chg (fun k => ∃ p, ad = some p ∧ p.block = k) W w' → K (a.put o.dst (.slice ad' (n + m) cap')) w') :
    if Region.wanted o (yielded ops a.tmps) = true then Oper.wp P o a W K Q else E := by
  have hw : Region.wanted o (yielded ops a.tmps) = true := by simp [Region.wanted, hgd]
  rw [if_pos hw]
  obtain ⟨ad', cap', w', hr, h2, h3, h4⟩ := run_appS (P := P) W B t o.type e z bytes ht hinfo hz1 hby ad n cap xs hown ao m c news hl hnews h1 hn hB
  unfold Oper.wp execOp
  simp only [ho, resolve, invoke, builtin, Sem.run_bind, Sem.run_pure, Result.andThen_ok, List.map_toArray, List.map_cons, List.map_nil, hs, hx, hr]
  exact h ad' cap' w' h2 h3 h4
set_option maxRecDepth 20000 in
set_option maxHeartbeats 4000000 in
theorem l02Wide_any (p : Int) (hp : GP p) (a : Option Addr) (n c m : Nat) (xss : List (List Int)) (w : World) (ha : RdR w a xss) (hl : xss.length = n) (hr : Rws p m xss) (hn : n ≤ 50) (hm : m ≤ 50) :
    Calls Try.prog 94 #[.int .i64 p, .slice a n c] w fun e w' => ∃ (R : List (List Int)) (a' : Option Addr) (c' : Nat), e = .returned (.slice a' R.length c') ∧ IsRref p (m + n) (wideR xss) R ∧ RdR w' a' R ∧ Below w.heap.size w w' := by
  have HA := Lib.hid ha
  have HL := Lib.hid hl
  have HR := Lib.hid hr
  clear ha hl hr
  go_enter Try.func94, Try.ntmps94
  go_wp2_with fail
  refine (l02Unit_any n _ (by omega)).mono ?_
  rintro e w1 ⟨au, cu, rfl, ho, hb⟩
  have HU := Lib.hid ho.rd
  have HB1 := Lib.hid hb
  clear ho hb
  go_wp2_with fail
  go_loopw [7, 6] (fun i v wr => ∃ (j : Nat) (a1 : Option Addr) (c1 : Nat) (A : Nat → Option Addr) (C : Nat → Nat), j ≤ n ∧ i = .int .i64 j ∧ v = .slice a1 j c1 ∧ Hid (OwnR 52 2 wr w1.heap.size a1 j c1 ((wideR xss).take j) A C ∧ Below w1.heap.size w1 wr)) (fun i _ _ => n - (intOf i).toNat)
  case atStart => exact ⟨0, _, 0, fun _ => none, fun _ => 0, Nat.zero_le _, rfl, rfl, Lib.hid ⟨by simpa using OwnR.empty w1 _ _ _ _, (Below.refl _ _).alloc (Nat.le_refl _) _⟩⟩
  case round =>
    obtain ⟨j, a1, c1, A, C, hj, rfl, rfl, HJ⟩ := hrel
    obtain ⟨wi, rfl⟩ : ∃ x, x = wr := ⟨wr, rfl⟩
    have HBi : Hid (Below w.heap.size w wi) := Lib.hid (HB1.out.trans (HJ.out.2.mono HB1.out.size))
    by_cases hjt : j < n
    · obtain ⟨b, o, rfl, hc⟩ := (HA.out.keep HBi.out (Nat.le_refl _)) (by rw [HL.out]; omega)
      obtain ⟨aj, cj, dj, rj, _⟩ := hc j (by rw [HL.out]; exact hjt)
      have hrow := HR.out.row j (by rw [HL.out]; exact hjt)
      rw [hrow] at dj
      have RJ := Lib.hid rj
      have HRJ := Lib.hid hrow
      obtain ⟨b2, o2, rfl, hc2⟩ := (HU.out.keep HJ.out.2 (Nat.le_refl _)) (by rw [unitRs_len]; omega)
      obtain ⟨aj2, cj2, dj2, rj2, _⟩ := hc2 j (by rw [unitRs_len]; exact hjt)
      rw [unitRs_row hjt, unitR_len] at dj2
      rw [unitRs_row hjt] at rj2
      have RU := Lib.hid rj2
      have hsz := HJ.out.2.size
      have J1 : (j : Int) < (n : Int) := by omega
      clear hc rj hrow hc2 rj2
      go_wp2_with fail
      go_region_law (first
        | (go_simp; go_at_call 82; refine (l01Own_any _ _ _ (rw_ xss j) _ (by exact RJ.out.same (fun _ _ => rfl)) HRJ.out (by omega)).mono ?_; rintro e wc ⟨ac, cc, rfl, ho, hb⟩; have HBc : Hid (Below wi.heap.size wi wc) := Lib.hid ⟨hb.os, hb.tape, hb.output, hb.size, hb.block⟩; have HOc : Hid (OwnI 2 wc wi.heap.size ac m cc (rw_ xss j)) := Lib.hid ho; have djc := cell_below (p := ⟨b2, o2 + j, none⟩) dj2 HBc.out; have RUc : Hid (RdI wc aj2 (unitR n j)) := Lib.hid (RU.out.keep HBc.out (Nat.le_refl _)); have sc := HBc.out.size; clear ho hb)
        | (refine step_appSW rfl (.tmp 23) (.tmp 27) 52 rfl wi.heap.size 2 (.int .i64 0) 8 Try.underlying52 Try.info2 rfl (by decide) _ _ _ _ rfl _ _ _ rfl (by exact HOc.out) ((unitR n j).map (Value.int .i64)) (by rw [List.length_map, unitR_len]) (by exact (RUc.out.same (fun _ _ => rfl)).vals) (map_one _) (by omega) (by exact sc) ?_; rintro ad cd wd r4 q4 g4; have HOd := Lib.hid (app_own HOc.out HBc.out sc r4 ⟨g4.os, g4.tape, g4.output, g4.size, g4.block⟩); clear r4 q4 g4)
        | (refine step_pushW rfl (.tmp 18) (.tmp 29) 24 rfl w1.heap.size 52 (.slice none 0 0) 24 Try.underlying24 Try.infoR rfl (by decide) (.slice ad (m + n) cd) rfl _ _ _ _ _ rfl rfl (by exact (World.cell?_alloc_at _ _ _ _ rfl).trans rfl) (by exact (ownsRow_same (HJ.out.1.keep HOd.out.2 (Nat.le_refl _)).own (fun p hp => Below.heap_alloc _ _ _ (ownsRow_block (HJ.out.1.keep HOd.out.2 (Nat.le_refl _)).own p hp).2))) (by omega) (by exact Nat.le_trans hsz (Nat.le_trans HOd.out.2.size (by simp))) ?_; rintro a4 c4 w4 r4 q4 g4; have HN := Lib.hid (HJ.out.1.pushNew hsz HOd.out.2 HOd.out.1 (Nat.le_refl _) r4 q4 g4); clear r4 q4 g4))
      all_goals
        have HN2 : Hid (OwnR 52 2 w4 w1.heap.size a4 (j + 1) c4 ((wideR xss).take (j + 1)) (upd A j ad) (upd C j cd) ∧ Below w1.heap.size w1 w4) := Lib.hid ⟨by rw [take_row2 (by rw [wideR_len, HL.out]; exact hjt), wideR_row (by rw [HL.out]; exact hjt), HL.out]; exact HN.out.1, HJ.out.2.trans HN.out.2⟩
        go_wp2_with fail
        go_roundw
        case rel => exact ⟨j + 1, a4, c4, _, _, by omega, by go_num, rfl, HN2⟩
        case measure => simp [intOf]; omega
    · obtain rfl : n = j := by omega
      have HM := Lib.hid HJ.out.1.rd
      rw [List.take_of_length_le (by rw [wideR_len, HL.out]; omega)] at HM
      have hp2 : 2 ≤ p := hp.bd.1
      go_wp2_with fail
      refine (l02Reduce_any p hp _ n _ (m + n) (wideR xss) _ (by exact HM.out) (by rw [wideR_len]; exact HL.out) (wideR_rws HR.out HL.out hp2) (by omega) (by omega)).mono ?_
      rintro e w2 ⟨R, a', c', rfl, hres, ho, hb⟩
      have HRes := Lib.hid hres
      have HO := Lib.hid ho
      have HB2 : Hid (Below w.heap.size w w2) := Lib.hid (HBi.out.trans (hb.mono HBi.out.size))
      clear hres ho hb
      go_wp2_with fail
      go_ret
      exact ⟨R, a', c', rfl, HRes.out, HO.out, HB2.out⟩
end Go.Proofs.Ytpkdgemnddcefaa
set_option linter.unusedVariables false
set_option linter.unusedSimpArgs false
namespace Go.Proofs.Ytpkdgemnddcefaa
open Go.RowKit

/-- an outer slice of the call's own whose rows are read where they stood in an elder world -/
structure Vw (T1 : TypeId) (wb w : World) (a : Option Addr) (n cap : Nat) (xss : List (List Int)) (A : Nat → Option Addr) (C : Nat → Nat) : Prop where
  len : xss.length = n
  own : w.ownsRow wb.heap.size T1 1 (.slice a n cap) n (rowVals xss A C n)
  row : ∀ i, i < n → RdI wb (A i) (rw_ xss i) ∧ (rw_ xss i).length ≤ C i
  below : Below wb.heap.size wb w
theorem Vw.none (T1 : TypeId) (wb : World) (A : Nat → Option Addr) (C : Nat → Nat) : Vw T1 wb wb Option.none 0 0 [] A C :=
  ⟨rfl, World.ownsRow_nil _ _ T1 1, fun i h => absurd h (by omega), Below.refl _ _⟩
theorem Vw.rd {T1 : TypeId} {wb w : World} {a : Option Addr} {n cap : Nat} {xss : List (List Int)} {A : Nat → Option Addr} {C : Nat → Nat} (h : Vw T1 wb w a n cap xss A C) : RdR w a xss := fun h0 => by
  obtain ⟨g, ha, hc⟩ := ownsRow_cell h.own (by rw [← h.len]; exact h0)
  refine ⟨g, 0, ha, fun i hi => ?_⟩
  rw [h.len] at hi
  refine ⟨A i, C i, ?_, (h.row i hi).1.keep h.below (Nat.le_refl _), (h.row i hi).2⟩
  rw [Nat.zero_add, hc i hi, rowVals_get hi]
theorem rowVals_push {xss : List (List Int)} {xs : List Int} {A : Nat → Option Addr} {C : Nat → Nat} {n cr : Nat} {ar : Option Addr} (hlen : xss.length = n) :
    rowVals (xss ++ [xs]) (upd A n ar) (upd C n cr) (n + 1) = rowVals xss A C n ++ [.slice ar xs.length cr] := by
  unfold rowVals
  rw [List.range_succ, List.map_append]
  congr 1
  · refine List.map_congr_left fun i hi => ?_
    have hi' : i < n := by simpa using hi
    rw [rw_append_lt (by omega), upd_lt hi', upd_lt hi']
  · simp only [List.map_cons, List.map_nil]
    rw [← hlen, rw_append_eq, upd_eq, upd_eq]
theorem Vw.push {T1 : TypeId} {wb w w' : World} {a a' ar : Option Addr} {n cap cap' cr m : Nat} {xss : List (List Int)} {xs : List Int} {A : Nat → Option Addr} {C : Nat → Nat} (h : Vw T1 wb w a n cap xss A C)
    (hr : RdI wb ar xs) (hm : xs.length = m) (hc : m ≤ cr) (r : w'.ownsRow wb.heap.size T1 1 (.slice a' (n + 1) cap') (n + 1) (rowVals xss A C n ++ [.slice ar m cr]))
    (g : Chg (fun k => ∃ p, a = some p ∧ p.block = k) w w') : Vw T1 wb w' a' (n + 1) cap' (xss ++ [xs]) (upd A n ar) (upd C n cr) := by
  subst hm
  refine ⟨by simp [h.len], by rw [rowVals_push h.len]; exact r, fun i hi => ?_, h.below.trans (g.below h.below.size fun k hk hx => ?_)⟩
  · by_cases he : i = n
    · subst he
      rw [upd_eq, upd_eq]
      have e : rw_ (xss ++ [xs]) i = xs := by rw [← h.len]; exact rw_append_eq
      rw [e]; exact ⟨hr, hc⟩
    · rw [upd_lt (by omega), upd_lt (by omega), rw_append_lt (by rw [h.len]; omega)]
      exact h.row i (by omega)
  · obtain ⟨x, hx, e⟩ := hx
    have := (ownsRow_block h.own x hx).1
    omega
set_option maxRecDepth 20000 in
set_option maxHeartbeats 2000000 in
theorem leftKernelRows_any (p : Int) (hp : GP p) (a : Option Addr) (n c m : Nat) (xss : List (List Int)) (w : World) (ha : RdR w a xss) (hl : xss.length = n) (hr : Rws p m xss) (hn : n ≤ 50) (hm : m ≤ 50) :
    Calls Try.prog 51 #[.int .i64 p, .slice a n c, .int .i64 m] w fun e w' => ∃ (N : List (List Int)) (a' : Option Addr) (c' : Nat), e = .returned (.slice a' N.length c') ∧ NullR p m xss N ∧ MadeH 2 w' w.heap.size a' N.length c' N ∧ Below w.heap.size w w' := by
  have HA := Lib.hid ha
  have HL := Lib.hid hl
  have HR := Lib.hid hr
  have HP := Lib.hid hp
  have hp2 : 2 ≤ p := hp.bd.1
  clear ha hl hr hp
  go_enter Try.func51, Try.ntmps51
  go_wp2_with fail
  refine (withIdentity_any _ n _ m xss _ (by exact HA.out) HL.out (fun i hi => HR.out.row i (by rw [HL.out]; exact hi)) (by omega) (by omega)).mono ?_
  rintro e w1 ⟨aw, cw, rfl, ho, hb⟩
  have HW1 := Lib.hid ho.rd
  have HB1 := Lib.hid hb
  clear ho hb
  go_wp2_with fail
  refine (reduceRows_any p HP.out _ n _ (m + n) (wideR xss) _ (by exact HW1.out) (by rw [wideR_len]; exact HL.out) (wideR_rws HR.out HL.out hp2) (by omega) (by omega)).mono ?_
  rintro e w2 ⟨W, a2, c2, rfl, hres, ho, hb⟩
  have HRes := Lib.hid hres
  have HW := Lib.hid ho.rd
  have HB2 : Hid (Below w.heap.size w w2) := Lib.hid (HB1.out.trans (hb.mono HB1.out.size))
  have hWl := hres.len
  have HNR : Hid (NullR p m xss (cutL m W)) := Lib.hid ⟨W, by rw [HL.out]; exact hres, rfl⟩
  obtain ⟨piv, hRR, _⟩ := hres
  have HRR := Lib.hid hRR
  clear ho hb hRR HW1
  go_wp2_with fail
  go_loopw [15, 7] (fun i v wr => ∃ (j k : Nat) (a1 : Option Addr) (c1 : Nat) (A : Nat → Option Addr) (C : Nat → Nat), j ≤ W.length ∧ k ≤ j ∧ i = .int .i64 j ∧ v = .slice a1 k c1 ∧ Hid (Vw 52 w2 wr a1 k c1 (cutL m (W.take j)) A C)) (fun i _ _ => W.length - (intOf i).toNat)
  case atStart => exact ⟨0, 0, none, 0, fun _ => none, fun _ => 0, Nat.zero_le _, Nat.le_refl _, rfl, rfl, Lib.hid (Vw.none _ _ _ _)⟩
  case round =>
    obtain ⟨j, k, a1, c1, A, C, hj, hkj, rfl, rfl, HV⟩ := hrel
    obtain ⟨wi, rfl⟩ : ∃ x, x = wr := ⟨wr, rfl⟩
    by_cases hjt : j < W.length
    · have hpn := HRR.out.pn j hjt
      have hlen := HRR.out.len j hjt
      have hnp : 0 < n := by
        refine Nat.pos_of_ne_zero fun h0 => ?_
        have e : wideR xss = [] := List.eq_nil_of_length_eq_zero (by rw [wideR_len, HL.out, h0])
        have h1 := HRes.out
        rw [e] at h1
        have h2 : W = [] := h1.unique ⟨fun _ => 0, Rref.nil _ _ _, SpEq.refl _ _⟩ hp2
        rw [h2] at hjt
        exact absurd hjt (by simp)
      obtain ⟨b, o, rfl, hc⟩ := (HW.out) (by omega)
      obtain ⟨aj, cj, dj0, rj, kj⟩ := hc j hjt
      rw [hlen] at dj0 kj
      have dj := cell_below (p := ⟨b, o + j, none⟩) dj0 HV.out.below
      obtain ⟨bj, oj, rfl, hcj⟩ := id rj (by omega)
      have RJ := Lib.hid rj
      have RJi : Hid (RdI wi (some ⟨bj, oj, none⟩) (rw_ W j)) := Lib.hid (rj.keep HV.out.below (Nat.le_refl _))
      have HLN := Lib.hid hlen
      clear hc hcj rj hlen dj0
      have V1 : m ≤ cj := by omega
      have V2 : ¬ cj = m := by omega
      have V3 : (m : Int) ≤ (m : Int) + n := by omega
      by_cases hz : zeroB ((rw_ W j).take m) = true
      · have HC := Lib.hid (cutL_yes hjt hz)
        have HZ := Lib.hid hz
        clear hz
        go_wp2_with (first
          | (go_at_call 91; refine (isZero_any _ _ _ ((rw_ W j).take m) _ (by exact RJi.out.take m (by rw [HLN.out]; omega)) (by rw [List.length_take, HLN.out]; omega) (by omega)).mono ?_; rintro e w' ⟨rfl, rfl⟩; rw [HZ.out])
          | (at_builtin; refine wpList_push rfl (.tmp 23) (.tmp 27) 24 rfl w2.heap.size 52 (.slice none 0 0) 24 Try.underlying24 Try.infoR rfl (by decide) (.slice (some ⟨bj, oj + m, none⟩) n (cj - m)) rfl _ _ _ _ rfl rfl (by exact HV.out.own) (by omega) (by exact HV.out.below.size) ?_; rintro a4 c4 w4 r4 q4 g4; have HN := Lib.hid (HV.out.push (RJ.out.drop m) (by rw [List.length_drop, HLN.out]; omega) (by omega) r4 g4); clear r4 q4 g4))
        have HN2 : Hid (Vw 52 w2 w4 a4 (k + 1) c4 (cutL m (W.take (j + 1))) (upd A k (some ⟨bj, oj + m, none⟩)) (upd C k (cj - m))) := Lib.hid (by rw [HC.out]; exact HN.out)
        go_roundw
        case rel => exact ⟨j + 1, k + 1, a4, c4, _, _, by omega, by omega, by go_num, rfl, HN2⟩
        case measure => simp [intOf]; omega
      · have hz2 : zeroB ((rw_ W j).take m) = false := by simpa using hz
        have HC := Lib.hid (cutL_no hjt hz2)
        have HZ := Lib.hid hz2
        clear hz hz2
        go_wp2_with (go_at_call 91; refine (isZero_any _ _ _ ((rw_ W j).take m) _ (by exact RJi.out.take m (by rw [HLN.out]; omega)) (by rw [List.length_take, HLN.out]; omega) (by omega)).mono ?_; rintro e w' ⟨rfl, rfl⟩; rw [HZ.out])
        have HN2 : Hid (Vw 52 w2 wi a1 k c1 (cutL m (W.take (j + 1))) A C) := Lib.hid (by rw [HC.out]; exact HV.out)
        go_roundw
        case rel => exact ⟨j + 1, k, a1, c1, _, _, by omega, by omega, by go_num, rfl, HN2⟩
        case measure => simp [intOf]; omega
    · obtain rfl : j = W.length := by omega
      have HV2 := Lib.hid HV.out.rd
      have HVl := HV.out.len
      have HVb := Lib.hid HV.out.below
      rw [List.take_length] at HV2 HVl
      subst HVl
      have hRf : IsRref p n (cutL m W) (cutL m W) := by have := HNR.out.rref; rwa [HL.out] at this
      have HRF := Lib.hid hRf
      clear hRf
      go_wp2_with fail
      refine (reduceRows_any p HP.out _ _ _ n (cutL m W) _ (by exact HV2.out) rfl ⟨HRF.out.row, HRF.out.rng⟩ (by omega) (by omega)).mono ?_
      rintro e w3 ⟨R, a3, c3, rfl, hres, ho, hb⟩
      obtain rfl : R = cutL m W := hres.unique HRF.out hp2
      have HO := Lib.hid ho
      have HB3 : Hid (Below w.heap.size w w3) := Lib.hid (HB2.out.trans ((HVb.out.trans (hb.mono HVb.out.size)).mono HB2.out.size))
      have sz : w.heap.size ≤ wi.heap.size := Nat.le_trans HB2.out.size HVb.out.size
      clear hres ho hb
      go_wp2_with fail
      go_ret
      exact ⟨cutL m W, a3, c3, rfl, HNR.out, HO.out.mono sz, HB3.out⟩
set_option maxRecDepth 20000 in
set_option maxHeartbeats 2000000 in
theorem l02Null_any (p : Int) (hp : GP p) (a : Option Addr) (n c m : Nat) (xss : List (List Int)) (w : World) (ha : RdR w a xss) (hl : xss.length = n) (hr : Rws p m xss) (hn : n ≤ 50) (hm : m ≤ 50) :
    Calls Try.prog 55 #[.int .i64 p, .slice a n c, .int .i64 m] w fun e w' => ∃ (N : List (List Int)) (a' : Option Addr) (c' : Nat), e = .returned (.slice a' N.length c') ∧ NullR p m xss N ∧ MadeR 52 2 w' w.heap.size a' N.length c' N ∧ Below w.heap.size w w' := by
  have HA := Lib.hid ha
  have HL := Lib.hid hl
  have HR := Lib.hid hr
  have HP := Lib.hid hp
  have hp2 : 2 ≤ p := hp.bd.1
  clear ha hl hr hp
  go_enter Try.func55, Try.ntmps55
  go_wp2_with fail
  refine (l02Wide_any p HP.out _ n _ m xss _ (by exact HA.out) HL.out HR.out (by omega) (by omega)).mono ?_
  rintro e w2 ⟨W, a2, c2, rfl, hres, ho, hb⟩
  have HRes := Lib.hid hres
  have HW := Lib.hid ho
  have HB2 : Hid (Below w.heap.size w w2) := Lib.hid hb
  have hWl := hres.len
  have HNR : Hid (NullR p m xss (cutL m W)) := Lib.hid ⟨W, by rw [HL.out]; exact hres, rfl⟩
  obtain ⟨piv, hRR, _⟩ := hres
  have HRR := Lib.hid hRR
  clear ho hb hRR
  go_wp2_with fail
  go_loopw [9, 8] (fun i v wr => ∃ (j k : Nat) (a1 : Option Addr) (c1 : Nat) (A : Nat → Option Addr) (C : Nat → Nat), j ≤ W.length ∧ k ≤ j ∧ i = .int .i64 j ∧ v = .slice a1 k c1 ∧ Hid (OwnR 52 2 wr w2.heap.size a1 k c1 (cutL m (W.take j)) A C ∧ Below w2.heap.size w2 wr)) (fun i _ _ => W.length - (intOf i).toNat)
  case atStart => exact ⟨0, 0, _, 0, fun _ => none, fun _ => 0, Nat.zero_le _, Nat.le_refl _, rfl, rfl, Lib.hid ⟨OwnR.empty w2 _ _ _ _, (Below.refl _ _).alloc (Nat.le_refl _) _⟩⟩
  case round =>
    obtain ⟨j, k, a1, c1, A, C, hj, hkj, rfl, rfl, HV⟩ := hrel
    obtain ⟨wi, rfl⟩ : ∃ x, x = wr := ⟨wr, rfl⟩
    by_cases hjt : j < W.length
    · have hpn := HRR.out.pn j hjt
      have hlen := HRR.out.len j hjt
      have hnp : 0 < n := by
        refine Nat.pos_of_ne_zero fun h0 => ?_
        have e : wideR xss = [] := List.eq_nil_of_length_eq_zero (by rw [wideR_len, HL.out, h0])
        have h1 := HRes.out
        rw [e] at h1
        have h2 : W = [] := h1.unique ⟨fun _ => 0, Rref.nil _ _ _, SpEq.refl _ _⟩ hp2
        rw [h2] at hjt
        exact absurd hjt (by simp)
      obtain ⟨b, o, rfl, hc⟩ := (HW.out.keep HV.out.2 (Nat.le_refl _)) (by omega)
      obtain ⟨aj, cj, dj, rj, kj⟩ := hc j hjt
      rw [hlen] at dj kj
      obtain ⟨bj, oj, rfl, hcj⟩ := id rj (by omega)
      have RJi := Lib.hid rj
      have HLN := Lib.hid hlen
      have HLD := Lib.hid (HRR.out.isLead hjt)
      have HZ0 := Lib.hid (zero_of HRR.out hjt (Nat.le_add_right m n))
      have hsz := HV.out.2.size
      clear hc hcj rj hlen
      have V1 : m ≤ cj := by omega
      have V2 : ¬ cj = m := by omega
      have V3 : (m : Int) ≤ (m : Int) + n := by omega
      by_cases hz : m ≤ piv j
      · have HC := Lib.hid (cutL_yes hjt (by rw [HZ0.out]; exact decide_eq_true hz))
        have b3 : decide ((m : Int) ≤ (piv j : Int)) = true := decide_eq_true (by omega)
        have b4 : (m : Int) ≤ (piv j : Int) := by omega
        go_wp2_with (first
          | (go_at_call 84; refine (l02Lead_any _ _ _ (rw_ W j) _ (by exact RJi.out) HLN.out (by omega)).mono ?_; rintro e w' ⟨k1, rfl, hk, rfl⟩; obtain rfl : k1 = piv j := hk.unique HLD.out; clear hk)
          | (go_at_call 82; refine (l01Own_any _ _ _ ((rw_ W j).drop m) _ (by exact RJi.out.drop m) (by rw [List.length_drop, HLN.out]; omega) (by omega)).mono ?_; rintro e w' ⟨ar, cr, rfl, ho, hb⟩; have HO := Lib.hid ho; have HBo := Lib.hid hb; have sb := hb.size; clear ho hb)
          | (at_builtin; refine wpList_push rfl (.tmp 27) (.tmp 35) 24 rfl w2.heap.size 52 (.slice none 0 0) 24 Try.underlying24 Try.infoR rfl (by decide) (.slice ar n cr) rfl _ _ _ _ rfl rfl (by exact (HV.out.1.keep HBo.out (Nat.le_refl _)).own) (by omega) (by exact Nat.le_trans hsz sb) ?_; rintro a4 c4 w4 r4 q4 g4; have HN := Lib.hid (HV.out.1.pushNew2 hsz HBo.out HO.out (Nat.le_refl _) r4 q4 g4); clear r4 q4 g4))
        have HN2 : Hid (OwnR 52 2 w4 w2.heap.size a4 (k + 1) c4 (cutL m (W.take (j + 1))) (upd A k ar) (upd C k cr) ∧ Below w2.heap.size w2 w4) := Lib.hid ⟨by rw [HC.out]; exact HN.out.1, HV.out.2.trans HN.out.2⟩
        go_roundw
        case rel => exact ⟨j + 1, k + 1, a4, c4, _, _, by omega, by omega, by go_num, rfl, HN2⟩
        case measure => simp [intOf]; omega
      · have HC := Lib.hid (cutL_no hjt (by rw [HZ0.out]; exact decide_eq_false hz))
        have b3 : decide ((m : Int) ≤ (piv j : Int)) = false := decide_eq_false (by omega)
        have b4 : ¬ (m : Int) ≤ (piv j : Int) := by omega
        go_wp2_with (go_at_call 84; refine (l02Lead_any _ _ _ (rw_ W j) _ (by exact RJi.out) HLN.out (by omega)).mono ?_; rintro e w' ⟨k1, rfl, hk, rfl⟩; obtain rfl : k1 = piv j := hk.unique HLD.out; clear hk)
        have HN2 : Hid (OwnR 52 2 wi w2.heap.size a1 k c1 (cutL m (W.take (j + 1))) A C ∧ Below w2.heap.size w2 wi) := Lib.hid ⟨by rw [HC.out]; exact HV.out.1, HV.out.2⟩
        go_roundw
        case rel => exact ⟨j + 1, k, a1, c1, _, _, by omega, by omega, by go_num, rfl, HN2⟩
        case measure => simp [intOf]; omega
    · obtain rfl : j = W.length := by omega
      have HV1 := HV.out.1
      rw [List.take_length] at HV1
      have hkl := HV1.len
      subst hkl
      have HM := Lib.hid HV1
      have sz := HB2.out.size
      have HB3 : Hid (Below w.heap.size w wi) := Lib.hid (HB2.out.trans (HV.out.2.mono HB2.out.size))
      clear HV1
      go_wp2_with fail
      go_ret
      exact ⟨cutL m W, a1, c1, rfl, HNR.out, ⟨A, C, HM.out.mono sz⟩, HB3.out⟩
end Go.Proofs.Ytpkdgemnddcefaa
