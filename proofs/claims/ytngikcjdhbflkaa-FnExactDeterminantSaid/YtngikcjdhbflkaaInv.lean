/- The inverse of a square matrix: the program and the reference. -/
import Derived.Test.YtngikcjdhbflkaaNullW
import Derived.Test.YtngikcjdhbflkaaMatRed
import Derived.Deep.RegionHeld3
set_option linter.unusedVariables false
set_option linter.unusedSimpArgs false
namespace Go.Proofs.Ytngikcjdhbflkaa
open Go.RowKit

def InvOk (W : List (List Int)) : Prop := ∀ i, i < W.length → el (rw_ W i) i = 1
instance (W : List (List Int)) : Decidable (InvOk W) := by unfold InvOk; exact inferInstance
/-- the right halves of the rows -/
def rightR (n : Nat) (W : List (List Int)) : List (List Int) := tab W.length fun i => (rw_ W i).drop n
theorem rightR_len (n : Nat) (W : List (List Int)) : (rightR n W).length = W.length := tab_len _ _
theorem rightR_row {n i : Nat} {W : List (List Int)} (h : i < W.length) : rw_ (rightR n W) i = (rw_ W i).drop n := rw_tab h
theorem Rref.piv_ge {p : Int} {n : Nat} {R : List (List Int)} {piv : Nat → Nat} (h : Rref p n R piv) : ∀ i, i < R.length → i ≤ piv i := by
  intro i
  induction i with
  | zero => intro _; exact Nat.zero_le _
  | succ i ih =>
    intro hi
    have h1 := ih (by omega)
    have h2 := h.mono i (i + 1) (by omega) hi
    omega
theorem Rref.diag {p : Int} {n : Nat} {R : List (List Int)} {piv : Nat → Nat} (h : Rref p n R piv) {i : Nat} (hi : i < R.length) : piv i = i ↔ el (rw_ R i) i = 1 := by
  constructor
  · intro e
    have := h.one i hi
    rwa [e] at this
  · intro e
    have h1 := h.piv_ge i hi
    refine Nat.le_antisymm (Nat.le_of_not_lt fun hlt => ?_) h1
    have := h.lead i i hi hlt
    omega
def InvR (p : Int) (m : Nat) (xss : List (List Int)) (ok : Bool) (R : List (List Int)) : Prop :=
  ∃ W, IsRref p (m + xss.length) (wideR xss) W ∧ ((InvOk W ∧ ok = true ∧ R = rightR xss.length W) ∨ (¬ InvOk W ∧ ok = false ∧ R = []))
theorem InvR.unique {p : Int} {m : Nat} {xss R R' : List (List Int)} {ok ok' : Bool} (h : InvR p m xss ok R) (h' : InvR p m xss ok' R') (hp : 2 ≤ p) : ok = ok' ∧ R = R' := by
  obtain ⟨W, h1, h2⟩ := h
  obtain ⟨W', k1, k2⟩ := h'
  obtain rfl := h1.unique k1 hp
  rcases h2 with ⟨a, b, c⟩ | ⟨a, b, c⟩ <;> rcases k2 with ⟨a', b', c'⟩ | ⟨a', b', c'⟩
  · exact ⟨by rw [b, b'], by rw [c, c']⟩
  · exact absurd a a'
  · exact absurd a' a
  · exact ⟨by rw [b, b'], by rw [c, c']⟩
theorem InvR.sm {p : Int} {m : Nat} {xss R : List (List Int)} {ok : Bool} (h : InvR p m xss ok R) (hm : m ≤ 50) (hl : xss.length ≤ 50) : R.length ≤ 1048576 ∧ ∀ i, i < R.length → (rw_ R i).length ≤ 1048576 := by
  obtain ⟨W, h1, ⟨_, _, rfl⟩ | ⟨_, _, rfl⟩⟩ := h
  · have := h1.len
    refine ⟨by rw [rightR_len]; omega, fun i hi => ?_⟩
    rw [rightR_len] at hi
    rw [rightR_row hi, List.length_drop, h1.row i hi]; omega
  · exact ⟨by simp, fun i hi => absurd hi (by simp)⟩
theorem wide_pos {p : Int} {m n : Nat} {xss W : List (List Int)} (h : IsRref p (m + n) (wideR xss) W) (hl : xss.length = n) (hp : 2 ≤ p) {j : Nat} (hj : j < W.length) : 0 < n := by
  refine Nat.pos_of_ne_zero fun h0 => ?_
  have e : wideR xss = [] := List.eq_nil_of_length_eq_zero (by rw [wideR_len, hl, h0])
  rw [e] at h
  have h2 : W = [] := h.unique ⟨fun _ => 0, Rref.nil _ _ _, SpEq.refl _ _⟩ hp
  rw [h2] at hj
  exact absurd hj (by simp)
set_option maxRecDepth 20000 in
set_option maxHeartbeats 2000000 in
theorem l02Inverse_any (p : Int) (hp : GP p) (a : Option Addr) (n c : Nat) (xss : List (List Int)) (w : World) (ha : RdR w a xss) (hl : xss.length = n) (hr : Rws p n xss) (hn : n ≤ 50) :
    Calls Try.prog 76 #[.int .i64 p, .slice a n c] w fun e w' => ∃ (ok : Bool) (R : List (List Int)) (a' : Option Addr) (c' : Nat), e = .returned (.tuple #[.slice a' R.length c', .bool ok]) ∧ InvR p n xss ok R ∧ MadeR 38 2 w' w.heap.size a' R.length c' R ∧ Below w.heap.size w w' := by
  have HA := Lib.hid ha
  have HL := Lib.hid hl
  have HR := Lib.hid hr
  have HP := Lib.hid hp
  have hp2 : 2 ≤ p := hp.bd.1
  clear ha hl hr hp
  go_enter Try.func76, Try.ntmps76
  go_wp2_with fail
  refine (l02Wide_any p HP.out _ n _ n xss _ (by exact HA.out) HL.out HR.out (by omega) (by omega)).mono ?_
  rintro e w2 ⟨W, a2, c2, rfl, hres, ho, hb⟩
  have HRes := Lib.hid hres
  have HW := Lib.hid ho
  have HB2 : Hid (Below w.heap.size w w2) := Lib.hid hb
  have hWl := hres.len
  have HY : Hid (InvOk W → InvR p n xss true (rightR n W)) := Lib.hid fun h => ⟨W, by rw [HL.out]; exact hres, .inl ⟨h, rfl, by rw [HL.out]⟩⟩
  have HN0 : Hid (¬ InvOk W → InvR p n xss false []) := Lib.hid fun h => ⟨W, by rw [HL.out]; exact hres, .inr ⟨h, rfl, rfl⟩⟩
  obtain ⟨piv, hRR, _⟩ := hres
  have HRR := Lib.hid hRR
  clear ho hb hRR
  go_wp2_with fail
  go_loopw [8, 7] (fun i v wr => ∃ (j : Nat) (a1 : Option Addr) (c1 : Nat) (A : Nat → Option Addr) (C : Nat → Nat), j ≤ W.length ∧ i = .int .i64 j ∧ v = .slice a1 j c1 ∧ Hid ((∀ i, i < j → el (rw_ W i) i = 1) ∧ OwnR 38 2 wr w2.heap.size a1 j c1 ((rightR n W).take j) A C ∧ Below w2.heap.size w2 wr)) (fun i _ _ => W.length - (intOf i).toNat)
  case atStart => exact ⟨0, _, 0, fun _ => none, fun _ => 0, Nat.zero_le _, rfl, rfl, Lib.hid ⟨fun i hi => absurd hi (by omega), OwnR.empty w2 _ _ _ _, (Below.refl _ _).alloc (Nat.le_refl _) _⟩⟩
  case round =>
    obtain ⟨j, a1, c1, A, C, hj, rfl, rfl, HV⟩ := hrel
    obtain ⟨wi, rfl⟩ : ∃ x, x = wr := ⟨wr, rfl⟩
    by_cases hjt : j < W.length
    · have hpn := HRR.out.pn j hjt
      have hlen := HRR.out.len j hjt
      have hnp : 0 < n := wide_pos HRes.out HL.out hp2 hjt
      obtain ⟨b, o, rfl, hc⟩ := (HW.out.keep HV.out.2.2 (Nat.le_refl _)) (by omega)
      obtain ⟨aj, cj, dj, rj, kj⟩ := hc j hjt
      rw [hlen] at dj kj
      obtain ⟨bj, oj, rfl, hcj⟩ := id rj (by omega)
      have RJi := Lib.hid rj
      have HLN := Lib.hid hlen
      have HLD := Lib.hid (HRR.out.isLead hjt)
      have HDG := Lib.hid (HRR.out.diag hjt)
      have hsz := HV.out.2.2.size
      clear hc hcj rj hlen
      have V1 : n ≤ cj := by omega
      have V2 : ¬ cj = n := by omega
      have V3 : (n : Int) ≤ (n : Int) + n := by omega
      by_cases hz : piv j = j
      · have b3 : ((piv j : Int) != (j : Int)) = false := by rw [hz]; simp
        have HE := Lib.hid (HDG.out.1 hz)
        have HZ := Lib.hid hz
        clear hz
        go_wp2_with (first
          | (go_at_call 83; refine (l02Lead_any _ _ _ (rw_ W j) _ (by exact RJi.out) HLN.out (by omega)).mono ?_; rintro e w' ⟨k1, rfl, hk, rfl⟩; obtain rfl : k1 = piv j := hk.unique HLD.out; clear hk)
          | (go_at_call 98; refine (l01Own_any _ _ _ ((rw_ W j).drop n) _ (by exact RJi.out.drop n) (by rw [List.length_drop, HLN.out]; omega) (by omega)).mono ?_; rintro e w' ⟨ar, cr, rfl, ho, hb⟩; have HO := Lib.hid ho; have HBo := Lib.hid hb; have sb := hb.size; clear ho hb)
          | (at_builtin; refine wpList_push rfl (.tmp 26) (.tmp 35) 22 rfl w2.heap.size 38 (.slice none 0 0) 24 Try.underlying22 Try.infoR rfl (by decide) (.slice ar n cr) rfl _ _ _ _ rfl rfl (by exact (HV.out.2.1.keep HBo.out (Nat.le_refl _)).own) (by omega) (by exact Nat.le_trans hsz sb) ?_; rintro a4 c4 w4 r4 q4 g4; have HN := Lib.hid (HV.out.2.1.pushNew2 hsz HBo.out HO.out (Nat.le_refl _) r4 q4 g4); clear r4 q4 g4))
        have HN2 : Hid ((∀ i, i < j + 1 → el (rw_ W i) i = 1) ∧ OwnR 38 2 w4 w2.heap.size a4 (j + 1) c4 ((rightR n W).take (j + 1)) (upd A j ar) (upd C j cr) ∧ Below w2.heap.size w2 w4) := Lib.hid ⟨fun i hi => (by
          by_cases he : i = j
          · subst he; exact HE.out
          · exact HV.out.1 i (by omega)), by rw [take_row2 (by rw [rightR_len]; exact hjt), rightR_row hjt]; exact HN.out.1, HV.out.2.2.trans HN.out.2⟩
        go_roundw
        case rel => exact ⟨j + 1, a4, c4, _, _, by omega, by go_num, rfl, HN2⟩
        case measure => simp [intOf]; omega
      · have b3 : ((piv j : Int) != (j : Int)) = true := bne_iff_ne.2 (by omega)
        have HE : Hid (¬ InvOk W) := Lib.hid fun h => hz (HDG.out.2 (h j hjt))
        clear hz
        go_wp2_with (go_at_call 83; refine (l02Lead_any _ _ _ (rw_ W j) _ (by exact RJi.out) HLN.out (by omega)).mono ?_; rintro e w' ⟨k1, rfl, hk, rfl⟩; obtain rfl : k1 = piv j := hk.unique HLD.out; clear hk)
        go_ret2
        exact ⟨false, [], none, 0, rfl, HN0.out HE.out, MadeR.none, HB2.out.trans (HV.out.2.2.mono HB2.out.size)⟩
    · obtain rfl : j = W.length := by omega
      have HI := Lib.hid (HY.out HV.out.1)
      have HV1 := HV.out.2.1
      rw [List.take_of_length_le (by rw [rightR_len]; omega)] at HV1
      have HM := Lib.hid HV1
      have sz := HB2.out.size
      have HB3 : Hid (Below w.heap.size w wi) := Lib.hid (HB2.out.trans (HV.out.2.2.mono HB2.out.size))
      clear HV1
      go_wp2_with fail
      go_ret2
      exact ⟨true, rightR n W, a1, c1, by rw [rightR_len]; rfl, HI.out, ⟨A, C, by rw [rightR_len]; exact HM.out.mono sz⟩, HB3.out⟩
set_option maxHeartbeats 1000000 in
theorem l02Square_any (p q : Int) (a : Option Addr) (n c : Nat) (w : World) (hn : n ≤ 1048576) :
    Calls Try.prog 63 #[.agg #[.int .i64 p, .int .i64 q, .slice a n c]] w fun e w' => e = .returned (.bool ((n : Int) == q)) ∧ Below w.heap.size w w' := by
  go_enter Try.func63, Try.ntmps63
  go_wp2
  go_ret
  exact ⟨rfl, (Below.refl _ _).alloc (Nat.le_refl _) _⟩
end Go.Proofs.Ytngikcjdhbflkaa
