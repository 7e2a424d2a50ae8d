/- A vector minus one of a subspace, with 0 at all pivots: the program. -/
import Derived.Test.YtngikcjdhbflkaaPiv
import Derived.Test.YtngikcjdhbflkaaAddm
import Derived.Test.YtngikcjdhbflkaaConcat
import Derived.Test.YtngikcjdhbflkaaIns
set_option linter.unusedVariables false
set_option linter.unusedSimpArgs false
namespace Go.Proofs.Ytngikcjdhbflkaa
open Go.RowKit

theorem addm_neg (p x : Int) (r o : List Int) : addm p (-x) r o = addm p (p - x) r o := by
  unfold addm
  refine tab_congr fun j _ => ?_
  have e : el r j + (p - x) * el o j = (el r j + -x * el o j) + p * el o j := by grind
  rw [e, Int.add_mul_emod_self_left]
set_option maxRecDepth 20000 in
set_option maxHeartbeats 2000000 in
theorem remainderMod_any (p : Int) (hp : 2 ≤ p) (hp7 : p ≤ 7) (q : Int) (a b : Option Addr) (n m ca cb : Nat) (R : List (List Int)) (piv : Nat → Nat) (v : List Int) (w : World) (ha : RdR w a R) (hl : R.length = n) (hR : Rref p m R piv) (hb : RdI w b v) (hl2 : v.length = m) (hn : n ≤ 100) (hm : m ≤ 100)
    (hv : ∀ j, j < m → 0 ≤ el v j ∧ el v j < p) :
    Calls Try.prog 73 #[.agg #[.int .i64 p, .int .i64 q, .slice a n ca], .slice b m cb] w fun e w' => ∃ (u : List Int) (a' : Option Addr) (c' : Nat), e = .returned (.slice a' m c') ∧ Clr p m R piv v u n ∧ OwnI 2 w' w.heap.size a' m c' u ∧ Below w.heap.size w w' := by
  have HA := Lib.hid ha
  have HL := Lib.hid hl
  have HR := Lib.hid hR
  have HB := Lib.hid hb
  have HL2 := Lib.hid hl2
  have HV := Lib.hid hv
  clear ha hl hR hb hl2 hv
  go_enter Try.func73, Try.ntmps73
  go_wp2_with fail
  refine (clone_any _ _ _ v _ (by exact HB.out.alloc _) HL2.out (by omega)).mono ?_
  rintro e w1 ⟨a1, c1, rfl, ho, hb1⟩
  have X0 : Hid (BX 24 w1 w.heap.size #[.int .i64 p, .int .i64 q, .slice a n ca]) := Lib.hid ((BX.new w _ _).keep hb1)
  have HO1 := Lib.hid ho
  have HB1 : Hid (Below w.heap.size w w1) := Lib.hid (((Below.refl _ _).alloc (Nat.le_refl _) _).trans (hb1.mono (by simp)))
  have s1 : w.heap.size + 1 ≤ w1.heap.size := by have := hb1.size; simp at this; omega
  clear ho hb1
  have p0 : w1.cell? ⟨w.heap.size, 0, none⟩ = some (.int .i64 p) := X0.out.cell 0
  have p2 : w1.cell? ⟨w.heap.size, 2, none⟩ = some (.slice a n ca) := X0.out.cell 2
  go_wp2_with fail
  refine (pivots_any _ _ _ m R piv _ (by exact HA.out.keep HB1.out (Nat.le_refl _)) HL.out (fun i hi => HR.out.len i (by rw [HL.out]; exact hi)) (by omega) (by omega) (fun i hi => HR.out.isLead (by rw [HL.out]; exact hi)) (fun i hi => HR.out.pn i (by rw [HL.out]; exact hi))).mono ?_
  rintro e w2 ⟨ap, cp, rfl, ho, hb2⟩
  clear p0 p2
  have hle : ∀ x : Addr, a1 = some x → w.heap.size + 1 ≤ x.block ∧ x.block < w1.heap.size := fun x hx => by have := HO1.out.block x hx; simp at this; omega
  have HLE := Lib.hid hle
  have H0 : Hid (Clr p m R piv v v 0 ∧ OwnI 2 w2 w.heap.size a1 m c1 v ∧ BX 24 w2 w.heap.size #[.int .i64 p, .int .i64 q, .slice a n ca] ∧ OwnI 3 w2 w1.heap.size ap n cp (pivL piv n) ∧ Below w.heap.size w w2) := Lib.hid ⟨Clr.start HL2.out HV.out, (HO1.out.keep hb2 (Nat.le_refl _)).mono (by simp), X0.out.keep hb2, ho, HB1.out.trans (hb2.mono (by omega))⟩
  clear ho hb2 hle HO1
  go_wp2_with fail
  go_loopw [14] (fun i wr => ∃ (j : Nat) (u : List Int), j ≤ n ∧ i = .int .i64 j ∧ Hid (Clr p m R piv v u j ∧ OwnI 2 wr w.heap.size a1 m c1 u ∧ BX 24 wr w.heap.size #[.int .i64 p, .int .i64 q, .slice a n ca] ∧ OwnI 3 wr w1.heap.size ap n cp (pivL piv n) ∧ Below w.heap.size w wr)) (fun i _ => n - (intOf i).toNat)
  case atStart => exact ⟨0, v, Nat.zero_le _, rfl, H0⟩
  case round =>
    obtain ⟨j, u, hj, rfl, HC⟩ := hrel
    obtain ⟨wi, rfl⟩ : ∃ x, x = wr := ⟨wr, rfl⟩
    clear H0 X0
    by_cases hjt : j < n
    · have hjR : j < R.length := by rw [HL.out]; exact hjt
      obtain ⟨b1, o1, rfl, hc⟩ := (HA.out.keep HC.out.2.2.2.2 (Nat.le_refl _)) (by omega)
      obtain ⟨b0, o0, hb0, hc0⟩ := HA.out (by omega)
      injection hb0 with hb0
      obtain ⟨rfl, rfl⟩ : b1 = b0 ∧ o1 = o0 := by injection hb0 with e1 e2 e3; exact ⟨e1, e2⟩
      obtain ⟨aj, cj, dj, rj, _⟩ := hc j hjR
      obtain ⟨aj', cj', dj', rj', _⟩ := hc0 j hjR
      have hlj : (rw_ R j).length = m := HR.out.len j hjR
      have hpn := HR.out.pn j hjR
      have hsame : aj = aj' := by
        have e := cell_below (p := ⟨b1, o1 + j, none⟩) dj' HC.out.2.2.2.2
        rw [dj] at e; injection e with e; injection e
      subst hsame
      obtain ⟨g, rfl⟩ := HC.out.2.1.addr (by omega)
      have hap : Apart (some (⟨g, 0, none⟩ : Addr)) aj := by
        intro x y hx hy he
        obtain ⟨b2, o2, hb2, hc2⟩ := rj' (by omega)
        have h1 := (HLE.out x hx).1
        have h2 : b2 < w.heap.size := block_lt (hc2 0 (by omega))
        rw [hb2] at hy; injection hy with hy; subst hy; simp at he; omega
      rw [hlj] at dj
      have HAP := Lib.hid hap
      have RJ := Lib.hid rj
      have HLJ := Lib.hid hlj
      have HJR := Lib.hid hjR
      have hg := HLE.out _ rfl
      obtain ⟨hg1, hg2⟩ := hg
      clear hc rj hlj hjR hc0 rj' dj' hap hb0
      obtain ⟨gp, rfl⟩ := HC.out.2.2.2.1.addr (by omega)
      have ep := HC.out.2.2.2.1.cellAt hjt
      rw [pivL_el hjt] at ep
      have p0 : wi.cell? ⟨w.heap.size, 0, none⟩ = some (.int .i64 p) := HC.out.2.2.1.cell 0
      have p2 : wi.cell? ⟨w.heap.size, 2, none⟩ = some (.slice (some ⟨b1, o1, none⟩) n ca) := HC.out.2.2.1.cell 2
      have e1 := HC.out.2.1.cellAt hpn
      obtain ⟨u1, u2⟩ := HC.out.1.rng _ hpn
      have W1 : IntKind.i64.wrap (-(el u (piv j))) = -(el u (piv j)) := IntWalk.i64_in _ (by omega)
      have HN : Hid (Clr p m R piv v (addm p (-(el u (piv j))) u (rw_ R j)) (j + 1)) := Lib.hid (by rw [addm_neg]; exact HC.out.1.step HR.out HJR.out hp)
      have J1 : (j : Int) < (n : Int) := by omega
      have J4 : (piv j : Int) < (m : Int) := by omega
      go_wp2_with fail
      go_still_tail 13, (by kernel_rfl)
      change wpList _ _ _ _ _ wi.drew
      go_wp2_with (go_at_call 92; refine (addMultiple_any 2 w.heap.size _ _ m m _ _ u (rw_ R j) _ p _ (by exact HC.out.2.1.same (fun _ _ => rfl)) (by exact RJ.out.same (fun _ _ => rfl)) HLJ.out (Nat.le_refl _) (by omega) HAP.out hp hp7 (by omega) (by omega) HC.out.1.rng (fun t ht => HR.out.rng j t HJR.out ht)).mono ?_; rintro e w8 ⟨rfl, ho, hch⟩; have HO8 := Lib.hid ho; have HC8 : Hid (Chg (fun x => ∃ y, (some (⟨g, 0, none⟩ : Addr)) = some y ∧ y.block = x) wi w8) := Lib.hid ⟨hch.os, hch.tape, hch.output, hch.size, hch.block⟩; clear ho hch)
      have HB8 : Hid (Below (w.heap.size + 1) wi w8) := Lib.hid (HC8.out.below (by have := HC.out.2.2.1.lt; omega) (fun b hb hx => by obtain ⟨y, hy, e⟩ := hx; injection hy with hy; subst hy; simp at e; omega))
      have HP8 : Hid (OwnI 3 w8 w1.heap.size (some ⟨gp, 0, none⟩) n cp (pivL piv n)) := Lib.hid (HC.out.2.2.2.1.kept HC8.out (fun x hx h => by obtain ⟨y, hy, e⟩ := h; injection hy with hy; subst hy; have := (HC.out.2.2.2.1.block x hx).1; simp at e; omega))
      have HX8 : Hid (BX 24 w8 w.heap.size #[.int .i64 p, .int .i64 q, .slice (some ⟨b1, o1, none⟩) n ca]) := Lib.hid ((HB8.out.block _ (by omega)).trans HC.out.2.2.1)
      go_roundw
      case rel => exact ⟨j + 1, _, by omega, by go_num, Lib.hid ⟨HN.out, HO8.out, HX8.out, HP8.out, HC.out.2.2.2.2.trans (HB8.out.mono (by omega))⟩⟩
      case measure => simp [intOf]; omega
    · obtain rfl : n = j := by omega
      go_wp2
      go_ret
      exact ⟨u, a1, c1, rfl, HC.out.1, HC.out.2.1, HC.out.2.2.2.2⟩
end Go.Proofs.Ytngikcjdhbflkaa
