/- Rows with those of an identity matrix behind them, reduced: the reference. -/
import Derived.Test.YtngikcjdhbflkaaWide
set_option linter.unusedVariables false
set_option linter.unusedSimpArgs false
namespace Go.Proofs.Ytngikcjdhbflkaa
open Go.RowKit

/-- an append of a slice that is read as one step of a region that draws its order, told of the world at the append -/
theorem step_appSW {P : Program} {W : World} {ops : Array Oper} {o : Oper} {a : Act} {K : Act → World → Prop} {Q : Exit → Act → World → Prop} {E : Prop} (hgd : o.guard = none) (s x : Operand) (t : TypeId)
    (ho : o.op = .call { callee := .builtin .append, args := #[s, x], argTypes := #[t, t] })
    (B : Nat) (e : TypeId) (z : Value) (bytes : Nat) (ht : P.underlying t = some (.slice e)) (hinfo : (P.info? e).map (fun i => (i.zero, i.size, i.bytes)) = some (some z, 1, bytes))
    (hz1 : z.cells.size = 1) (hby : bytes ≤ 24) (ad : Option Addr) (n cap : Nat) (xs : List Value) (hs : a.eval s = .slice ad n cap)
    (ao : Option Addr) (m c : Nat) (hx : a.eval x = .slice ao m c) (hown : W.ownsRow B e 1 (.slice ad n cap) n xs)
    (news : List Value) (hl : news.length = m) (hnews : RdV W ao news) (h1 : ∀ u ∈ news, u.oneCell' = true)
    (hn : n + m ≤ 1000000000000) (hB : B ≤ W.heap.size)
    (h : ∀ ad' cap' w', w'.ownsRow B e 1 (.slice ad' (n + m) cap') (n + m) (xs ++ news) → (ad' = ad ∨ ad' = some ⟨W.heap.size, 0, none⟩) → Chg (fun k => ∃ p, ad = some p ∧ p.block = k) W w' → K (a.put o.dst (.slice ad' (n + m) cap')) w') :
    if Region.wanted o (yielded ops a.tmps) = true then Oper.wp P o a W K Q else E := by
  have hw : Region.wanted o (yielded ops a.tmps) = true := by simp [Region.wanted, hgd]
  rw [if_pos hw]
  obtain ⟨ad', cap', w', hr, h2, h3, h4⟩ := run_appS (P := P) W B t o.type e z bytes ht hinfo hz1 hby ad n cap xs hown ao m c news hl hnews h1 hn hB
  unfold Oper.wp execOp
  simp only [ho, resolve, invoke, builtin, Sem.run_bind, Sem.run_pure, Result.andThen_ok, List.map_toArray, List.map_cons, List.map_nil, hs, hx, hr]
  exact h ad' cap' w' h2 h3 h4
set_option maxRecDepth 20000 in
set_option maxHeartbeats 4000000 in
theorem l02Wide_any (p : Int) (hp : GP p) (a : Option Addr) (n c m : Nat) (xss : List (List Int)) (w : World) (ha : RdR w a xss) (hl : xss.length = n) (hr : Rws p m xss) (hn : n ≤ 50) (hm : m ≤ 50) :
    Calls Try.prog 100 #[.int .i64 p, .slice a n c] w fun e w' => ∃ (R : List (List Int)) (a' : Option Addr) (c' : Nat), e = .returned (.slice a' R.length c') ∧ IsRref p (m + n) (wideR xss) R ∧ RdR w' a' R ∧ Below w.heap.size w w' := by
  have HA := Lib.hid ha
  have HL := Lib.hid hl
  have HR := Lib.hid hr
  clear ha hl hr
  go_enter Try.func100, Try.ntmps100
  go_wp2_with fail
  refine (l02Unit_any n _ (by omega)).mono ?_
  rintro e w1 ⟨au, cu, rfl, ho, hb⟩
  have HU := Lib.hid ho.rd
  have HB1 := Lib.hid hb
  clear ho hb
  go_wp2_with fail
  go_loopw [7, 6] (fun i v wr => ∃ (j : Nat) (a1 : Option Addr) (c1 : Nat) (A : Nat → Option Addr) (C : Nat → Nat), j ≤ n ∧ i = .int .i64 j ∧ v = .slice a1 j c1 ∧ Hid (OwnR 38 2 wr w1.heap.size a1 j c1 ((wideR xss).take j) A C ∧ Below w1.heap.size w1 wr)) (fun i _ _ => n - (intOf i).toNat)
  case atStart => exact ⟨0, _, 0, fun _ => none, fun _ => 0, Nat.zero_le _, rfl, rfl, Lib.hid ⟨by simpa using OwnR.empty w1 _ _ _ _, (Below.refl _ _).alloc (Nat.le_refl _) _⟩⟩
  case round =>
    obtain ⟨j, a1, c1, A, C, hj, rfl, rfl, HJ⟩ := hrel
    obtain ⟨wi, rfl⟩ : ∃ x, x = wr := ⟨wr, rfl⟩
    have HBi : Hid (Below w.heap.size w wi) := Lib.hid (HB1.out.trans (HJ.out.2.mono HB1.out.size))
    by_cases hjt : j < n
    · obtain ⟨b, o, rfl, hc⟩ := (HA.out.keep HBi.out (Nat.le_refl _)) (by rw [HL.out]; omega)
      obtain ⟨aj, cj, dj, rj, _⟩ := hc j (by rw [HL.out]; exact hjt)
      have hrow := HR.out.row j (by rw [HL.out]; exact hjt)
      rw [hrow] at dj
      have RJ := Lib.hid rj
      have HRJ := Lib.hid hrow
      obtain ⟨b2, o2, rfl, hc2⟩ := (HU.out.keep HJ.out.2 (Nat.le_refl _)) (by rw [unitRs_len]; omega)
      obtain ⟨aj2, cj2, dj2, rj2, _⟩ := hc2 j (by rw [unitRs_len]; exact hjt)
      rw [unitRs_row hjt, unitR_len] at dj2
      rw [unitRs_row hjt] at rj2
      have RU := Lib.hid rj2
      have hsz := HJ.out.2.size
      have J1 : (j : Int) < (n : Int) := by omega
      clear hc rj hrow hc2 rj2
      go_wp2_with fail
      go_region_law (first
        | (go_simp; go_at_call 98; refine (l01Own_any _ _ _ (rw_ xss j) _ (by exact RJ.out.same (fun _ _ => rfl)) HRJ.out (by omega)).mono ?_; rintro e wc ⟨ac, cc, rfl, ho, hb⟩; have HBc : Hid (Below wi.heap.size wi wc) := Lib.hid ⟨hb.os, hb.tape, hb.output, hb.size, hb.block⟩; have HOc : Hid (OwnI 2 wc wi.heap.size ac m cc (rw_ xss j)) := Lib.hid ho; have djc := cell_below (p := ⟨b2, o2 + j, none⟩) dj2 HBc.out; have RUc : Hid (RdI wc aj2 (unitR n j)) := Lib.hid (RU.out.keep HBc.out (Nat.le_refl _)); have sc := HBc.out.size; clear ho hb)
        | (refine step_appSW rfl (.tmp 23) (.tmp 27) 38 rfl wi.heap.size 2 (.int .i64 0) 8 Try.underlying38 Try.info2 rfl (by decide) _ _ _ _ rfl _ _ _ rfl (by exact HOc.out) ((unitR n j).map (Value.int .i64)) (by rw [List.length_map, unitR_len]) (by exact (RUc.out.same (fun _ _ => rfl)).vals) (map_one _) (by omega) (by exact sc) ?_; rintro ad cd wd r4 q4 g4; have HOd := Lib.hid (app_own HOc.out HBc.out sc r4 ⟨g4.os, g4.tape, g4.output, g4.size, g4.block⟩); clear r4 q4 g4)
        | (refine step_pushW rfl (.tmp 18) (.tmp 29) 22 rfl w1.heap.size 38 (.slice none 0 0) 24 Try.underlying22 Try.infoR rfl (by decide) (.slice ad (m + n) cd) rfl _ _ _ _ _ rfl rfl (by exact (World.cell?_alloc_at _ _ _ _ rfl).trans rfl) (by exact (ownsRow_same (HJ.out.1.keep HOd.out.2 (Nat.le_refl _)).own (fun p hp => Below.heap_alloc _ _ _ (ownsRow_block (HJ.out.1.keep HOd.out.2 (Nat.le_refl _)).own p hp).2))) (by omega) (by exact Nat.le_trans hsz (Nat.le_trans HOd.out.2.size (by simp))) ?_; rintro a4 c4 w4 r4 q4 g4; have HN := Lib.hid (HJ.out.1.pushNew hsz HOd.out.2 HOd.out.1 (Nat.le_refl _) r4 q4 g4); clear r4 q4 g4))
      all_goals
        have HN2 : Hid (OwnR 38 2 w4 w1.heap.size a4 (j + 1) c4 ((wideR xss).take (j + 1)) (upd A j ad) (upd C j cd) ∧ Below w1.heap.size w1 w4) := Lib.hid ⟨by rw [take_row2 (by rw [wideR_len, HL.out]; exact hjt), wideR_row (by rw [HL.out]; exact hjt), HL.out]; exact HN.out.1, HJ.out.2.trans HN.out.2⟩
        go_wp2_with fail
        go_roundw
        case rel => exact ⟨j + 1, a4, c4, _, _, by omega, by go_num, rfl, HN2⟩
        case measure => simp [intOf]; omega
    · obtain rfl : n = j := by omega
      have HM := Lib.hid HJ.out.1.rd
      rw [List.take_of_length_le (by rw [wideR_len, HL.out]; omega)] at HM
      have hp2 : 2 ≤ p := hp.bd.1
      go_wp2_with fail
      refine (l02Reduce_any p hp _ n _ (m + n) (wideR xss) _ (by exact HM.out) (by rw [wideR_len]; exact HL.out) (wideR_rws HR.out HL.out hp2) (by omega) (by omega)).mono ?_
      rintro e w2 ⟨R, a', c', rfl, hres, ho, hb⟩
      have HRes := Lib.hid hres
      have HO := Lib.hid ho
      have HB2 : Hid (Below w.heap.size w w2) := Lib.hid (HBi.out.trans (hb.mono HBi.out.size))
      clear hres ho hb
      go_wp2_with fail
      go_ret
      exact ⟨R, a', c', rfl, HRes.out, HO.out, HB2.out⟩
end Go.Proofs.Ytngikcjdhbflkaa
