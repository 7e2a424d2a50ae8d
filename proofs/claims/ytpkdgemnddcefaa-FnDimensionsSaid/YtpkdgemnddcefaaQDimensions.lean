/-
  The given statement of the law FnDimensions: whatever the input, the law answers true, and its arguments read afterwards as before.
  Conditions: none.
-/
import Derived.Test.YtpkdgemnddcefaaHeap
import Derived.ProofKit
import Derived.Lib.SmallJoins
import Derived.Deep.Matrix
import Derived.Test.YtpkdgemnddcefaaSrc
import Derived.Test.YtpkdgemnddcefaaMatHas
import Derived.Test.YtpkdgemnddcefaaNullW
import Derived.Test.YtpkdgemnddcefaaInvM
import Derived.Test.YtpkdgemnddcefaaMeetP
import Derived.Test.YtpkdgemnddcefaaSum
import Derived.Test.YtpkdgemnddcefaaMeet
import Derived.Test.YtpkdgemnddcefaaAnn
import Derived.Test.YtpkdgemnddcefaaNum
import Derived.Test.YtpkdgemnddcefaaMatTr
import Derived.Deep.RegionLaw
import Derived.Test.YtpkdgemnddcefaaDrC
import Derived.Test.YtpkdgemnddcefaaRows
import Derived.WalkKit
import Derived.OpenShut
set_option linter.unusedVariables false
set_option linter.unusedSimpArgs false
namespace Go.Proofs.Ytpkdgemnddcefaa
open Go.RowKit Go.ChangeShapes Go.WideShapes Go.ChangeAt Go.Joins Go.Deep
variable {H : Type} {enc : TypeId × Value → H}

theorem cell_spot {w : World} {a : Addr} {v : Value} (h : w.cell? a = some v) : a = ⟨a.block, a.off, none⟩ := by
  obtain ⟨b, o, s⟩ := a
  cases s with
  | none => rfl
  | some k => simp [World.cell?] at h; split at h <;> simp at h
theorem add_zero' (a : Addr) : a.add 0 = a := by simp [Addr.add]
theorem add_at (b o i : Nat) : (⟨b, o, none⟩ : Addr).add i = ⟨b, o + i, none⟩ := by unfold Addr.add; split <;> simp_all
theorem rdI_of {w : World} {a : Addr} {zs : List Int} (hc : ∀ i, i < zs.length → w.cell? (a.add i) = some (.int .i64 (zs.getD i 0))) (l : Nat) (hl : l ≤ zs.length) : RdI w (some a) (zs.take l) := fun h0 => by
  have hl' : (zs.take l).length = l := by simp; omega
  have h1 := hc 0 (by omega)
  rw [add_zero'] at h1
  have e := cell_spot h1
  refine ⟨a.block, a.off, by rw [← e], fun i hi => ?_⟩
  rw [hl'] at hi
  have h2 := hc i (by omega)
  rw [e, add_at] at h2
  rw [h2]
  simp [el, hi]
theorem openI {P : Program} {w : World} {base fuel : Nat} {held : Bool} {t e : TypeId} {a : Option Addr} {l c : Nat} {y : DataW H × List MemPlace} (ht : P.underlying t = some (.slice e)) (he : P.underlying e = some (.int .i64)) (hc : P.cellsOf e = 1)
    (h : DataW.trod enc P w base (fun _ => true) held fuel t [.slice a l c] = some y) : ∃ xs : List Int, xs.length = l ∧ RdI w a xs ∧ (∀ x ∈ xs, (Lit.int .i64 x).wf = true) ∧ l ≤ maxLen := by
  rcases open_ints ht he hc h with ⟨hcs, _⟩ | ⟨x, l', c', zs, hcs, _, hl, hm, hz, _, hcell, hwz⟩
  · simp at hcs
    obtain ⟨rfl, rfl, rfl⟩ := hcs
    exact ⟨[], rfl, RdI.nil _ _, by simp, by simp⟩
  · simp at hcs
    obtain ⟨rfl, rfl, rfl⟩ := hcs
    have hz' : zs.length = c := by simpa using hz
    exact ⟨zs.take l, by simp; omega, rdI_of hcell l (by omega), fun q hq => hwz q (List.mem_of_mem_take hq), Nat.le_trans hl hm⟩
theorem openR {P : Program} {w : World} {base fuel : Nat} {held : Bool} {t e q : TypeId} {a : Option Addr} {l c : Nat} {y : DataW H × List MemPlace} (ht : P.underlying t = some (.slice e)) (he : P.underlying e = some (.slice q)) (hq : P.underlying q = some (.int .i64))
    (ce : P.cellsOf e = 1) (cq : P.cellsOf q = 1)
    (h : DataW.trod enc P w base (fun _ => true) held fuel t [.slice a l c] = some y) : ∃ xss : List (List Int), xss.length = l ∧ RdR w a xss ∧ (∀ xs ∈ xss, xs.length ≤ maxLen ∧ ∀ x ∈ xs, (Lit.int .i64 x).wf = true) ∧ l ≤ maxLen := by
  rcases open_int_rows ht he hq ce cq h with ⟨hcs, _⟩ | ⟨x, l', c', A, L, C, Z, hcs, _, hl, hm, _, hrow⟩
  · simp at hcs
    obtain ⟨rfl, rfl, rfl⟩ := hcs
    exact ⟨[], rfl, RdR.nil _ _, by simp, by simp⟩
  · simp at hcs
    obtain ⟨rfl, rfl, rfl⟩ := hcs
    have hg : ∀ i, i < l → rw_ ((List.range l).map fun r => (Z r).take (L r)) i = (Z i).take (L i) := fun i hi => by simp [rw_, hi]
    refine ⟨(List.range l).map fun r => (Z r).take (L r), by simp, fun h0 => ?_, ?_, Nat.le_trans hl hm⟩
    · simp at h0
      have h1 := (hrow 0 (by omega)).1
      rw [add_zero'] at h1
      have e := cell_spot h1
      refine ⟨x.block, x.off, by rw [← e], fun i hi => ?_⟩
      simp at hi
      obtain ⟨k1, k2, k3, k4, k5, k6, k7⟩ := hrow i (by omega)
      rw [hg i hi]
      refine ⟨A i, C i, ?_, ?_, by simp; omega⟩
      · rw [e, add_at] at k1
        rw [k1]; simp; omega
      · cases hA : A i with
        | none =>
          have := k6 hA
          have hz : L i = 0 := by omega
          rw [hz]; simp; exact RdI.nil _ _
        | some a' =>
          exact rdI_of (fun j hj => (k7 a' hA).2 j (by omega)) _ (by omega)
    · intro xs hxs
      simp at hxs
      obtain ⟨r, hr, rfl⟩ := hxs
      obtain ⟨k1, k2, k3, k4, k5, k6, k7⟩ := hrow r (by omega)
      exact ⟨by simp; omega, fun z hz => k5 z (List.mem_of_mem_take hz)⟩
end Go.Proofs.Ytpkdgemnddcefaa
set_option linter.unusedVariables false
set_option linter.unusedSimpArgs false
namespace Go.Proofs.Ytpkdgemnddcefaa
open Go.RowKit Go.ChangeShapes Go.WideShapes Go.ChangeAt Go.Joins Go.Deep
variable {H : Type} {enc : TypeId × Value → H}

theorem rdB_of {w : World} {a : Addr} {zs : List Int} (hc : ∀ i, i < zs.length → w.cell? (a.add i) = some (.int .u8 (zs.getD i 0))) (l : Nat) (hl : l ≤ zs.length) : RdB w (some a) (zs.take l) := fun h0 => by
  have hl' : (zs.take l).length = l := by simp; omega
  have h1 := hc 0 (by omega)
  rw [add_zero'] at h1
  have e := cell_spot h1
  refine ⟨a.block, a.off, by rw [← e], fun i hi => ?_⟩
  rw [hl'] at hi
  have h2 := hc i (by omega)
  rw [e, add_at] at h2
  rw [h2]
  simp [el, hi]
theorem wf_u8 {a : Int} (h : (Lit.int .u8 a).wf = true) : 0 ≤ a ∧ a ≤ 255 := by
  simp [Lit.wf, IntKind.min, IntKind.max, IntKind.signed, IntKind.bits] at h
  omega
theorem openB {P : Program} {w : World} {base fuel : Nat} {held : Bool} {t e : TypeId} {a : Option Addr} {l c : Nat} {y : DataW H × List MemPlace} (ht : P.underlying t = some (.slice e)) (he : P.underlying e = some (.int .u8)) (hc : P.cellsOf e = 1)
    (h : DataW.trod enc P w base (fun _ => true) held fuel t [.slice a l c] = some y) : ∃ bs : List Int, bs.length = l ∧ RdB w a bs ∧ (∀ x ∈ bs, 0 ≤ x ∧ x ≤ 255) ∧ l ≤ c ∧ l ≤ maxLen := by
  rcases open_ints ht he hc h with ⟨hcs, _⟩ | ⟨x, l', c', zs, hcs, _, hl, hm, hz, _, hcell, hwz⟩
  · simp at hcs
    obtain ⟨rfl, rfl, rfl⟩ := hcs
    exact ⟨[], rfl, fun h => absurd h (by simp), by simp, Nat.le_refl _, by simp⟩
  · simp at hcs
    obtain ⟨rfl, rfl, rfl⟩ := hcs
    have hz' : zs.length = c := by simpa using hz
    exact ⟨zs.take l, by simp; omega, rdB_of hcell l (by omega), fun q hq => wf_u8 (hwz q (List.mem_of_mem_take hq)), hl, Nat.le_trans hl hm⟩
end Go.Proofs.Ytpkdgemnddcefaa
set_option linter.unusedVariables false
set_option linter.unusedSimpArgs false
namespace Go.Proofs.Ytpkdgemnddcefaa
open Go.RowKit

def hit (piv : Nat → Nat) (r j : Nat) : Bool := (List.range r).any fun i => piv i == j
theorem hit_t {piv : Nat → Nat} {r j i : Nat} (hi : i < r) (h : piv i = j) : hit piv r j = true := by
  unfold hit
  rw [List.any_eq_true]
  exact ⟨i, by simpa using hi, by simpa using h⟩
theorem hit_f {piv : Nat → Nat} {r j : Nat} (h : ∀ i, i < r → piv i ≠ j) : hit piv r j = false := by
  unfold hit
  rw [List.any_eq_false]
  intro i hi
  simpa using h i (by simpa using hi)
/-- the unit vectors at the first k places that are no pivots -/
def compL (piv : Nat → Nat) (r q k : Nat) : List (List Int) := ((List.range k).filter fun j => !hit piv r j).map (unitR q)
theorem compL_yes {piv : Nat → Nat} {r q k : Nat} (h : hit piv r k = true) : compL piv r q (k + 1) = compL piv r q k := by
  unfold compL; rw [List.range_succ, List.filter_append, List.map_append]; simp [h]
theorem compL_no {piv : Nat → Nat} {r q k : Nat} (h : hit piv r k = false) : compL piv r q (k + 1) = compL piv r q k ++ [unitR q k] := by
  unfold compL; rw [List.range_succ, List.filter_append, List.map_append]; simp [h]
theorem compL_congr {piv piv' : Nat → Nat} {r q k : Nat} (h : ∀ i, i < r → piv i = piv' i) : compL piv r q k = compL piv' r q k := by
  have e : ∀ j, hit piv r j = hit piv' r j := fun j => by
    by_cases hj : ∃ i, i < r ∧ piv i = j
    · obtain ⟨i, hi, he⟩ := hj
      rw [hit_t hi he, hit_t hi ((h i hi).symm.trans he)]
    · rw [hit_f (fun i hi he => hj ⟨i, hi, he⟩), hit_f (fun i hi he => hj ⟨i, hi, (h i hi).trans he⟩)]
  unfold compL
  simp only [e]
theorem compL_le (piv : Nat → Nat) (r q k : Nat) : (compL piv r q k).length ≤ k := by
  unfold compL
  rw [List.length_map]
  have := List.length_filter_le (fun j => !hit piv r j) (List.range k)
  simpa using this
theorem compL_row (piv : Nat → Nat) (r q k i : Nat) (h : i < (compL piv r q k).length) : (rw_ (compL piv r q k) i).length = q := by
  have hm := rw_mem h
  unfold compL at hm
  obtain ⟨j, _, hj⟩ := List.mem_map.1 hm
  unfold compL
  rw [← hj, unitR_len]
def res_StandardComplement (xss : List (List Int)) (p q P Q : Int) (R : List (List Int)) (d : Int) : Prop :=
  (subB xss p q = true ∧ P = p ∧ Q = q ∧ d = 0 ∧ ∃ piv, Rref p q.toNat xss piv ∧ R = compL piv xss.length q.toNat q.toNat) ∨ (subB xss p q = false ∧ (P, Q, R, d) = mvBad 1)
theorem res_StandardComplement_uniq {xss : List (List Int)} {p q P1 Q1 P2 Q2 d1 d2 : Int} {R1 R2 : List (List Int)} (h : res_StandardComplement xss p q P1 Q1 R1 d1) (k : res_StandardComplement xss p q P2 Q2 R2 d2) : P1 = P2 ∧ Q1 = Q2 ∧ R1 = R2 ∧ d1 = d2 := by
  rcases h with ⟨h0, h1, h2, h3, piv, h4, h5⟩ | ⟨h0, h⟩ <;> rcases k with ⟨k0, k1, k2, k3, piv', k4, k5⟩ | ⟨k0, k⟩
  · exact ⟨by rw [h1, k1], by rw [h2, k2], by rw [h5, k5]; exact compL_congr fun i hi => (h4.isLead hi).unique (k4.isLead hi), by rw [h3, k3]⟩
  · rw [h0] at k0; cases k0
  · rw [h0] at k0; cases k0
  · exact mv_uniq h k
theorem res_StandardComplement_small {xss : List (List Int)} {p q P Q d : Int} {R : List (List Int)} (h : res_StandardComplement xss p q P Q R d) : R.length ≤ 1048576 ∧ ∀ i, i < R.length → (rw_ R i).length ≤ 1048576 := by
  rcases h with ⟨h0, _, _, _, piv, h4, h5⟩ | ⟨_, h⟩
  · have h8 := (isMx_ok (subB_yes h0).1).q8
    subst h5
    have := compL_le piv xss.length q.toNat q.toNat
    exact ⟨by omega, fun i hi => by rw [compL_row _ _ _ _ _ hi]; omega⟩
  · exact mvBad_small h
set_option maxHeartbeats 400000 in
theorem indexInt_any (a : Option Addr) (n c : Nat) (xs : List Int) (v : Int) (w : World) (ha : RdI w a xs) (hl : xs.length = n) (hn : n ≤ 1048576) :
    Calls Try.prog 65 #[.slice a n c, .int .i64 v] w fun e w' => ((∃ k : Nat, k < n ∧ el xs k = v ∧ e = .returned (.int .i64 k)) ∨ ((∀ k, k < n → el xs k ≠ v) ∧ e = .returned (.int .i64 (-1)))) ∧ w = w' := by
  have HA := Lib.hid ha
  have HL := Lib.hid hl
  clear ha hl
  have H0 : Hid (∀ j, j < 0 → el xs j ≠ v) := Lib.hid fun j h => absurd h (by omega)
  go_enter Try.func65, Try.ntmps65
  go_wp2
  go_loop [8] (fun i => ∃ k : Nat, k ≤ n ∧ i = .int .i64 k ∧ Hid (∀ j, j < k → el xs j ≠ v)) (fun i => n - (intOf i).toNat)
  case atStart => exact ⟨0, Nat.zero_le _, rfl, H0⟩
  case round =>
    obtain ⟨k, hk, rfl, HK⟩ := hrel
    clear H0
    by_cases hlt : k < n
    · obtain ⟨b, o, rfl, hc⟩ := HA.out (by rw [HL.out]; omega)
      have d := hc k (by rw [HL.out]; exact hlt)
      have J1 : (k : Int) < (n : Int) := by omega
      clear hc
      by_cases hz : v = el xs k
      · have b1 : (v == el xs k) = true := by rw [hz]; simp
        have HZ := Lib.hid hz
        clear hz
        go_wp2
        go_ret
        exact ⟨.inl ⟨k, hlt, HZ.out.symm, rfl⟩, rfl⟩
      · have b1 : (v == el xs k) = false := beq_eq_false_iff_ne.2 hz
        have HK1 : Hid (∀ j, j < k + 1 → el xs j ≠ v) := Lib.hid fun j hj => by
          by_cases he : j = k
          · rw [he]; exact fun h => hz h.symm
          · exact HK.out j (by omega)
        clear hz
        go_wp2
        go_round
        case rel => exact ⟨k + 1, by omega, by go_num, HK1⟩
        case measure => simp [intOf]; omega
    · obtain rfl : k = n := by omega
      go_wp2
      go_ret
      exact ⟨.inr ⟨HK.out, rfl⟩, rfl⟩
set_option maxHeartbeats 400000 in
theorem containsPiv_any (a : Option Addr) (n c : Nat) (piv : Nat → Nat) (k : Nat) (w : World) (ha : RdI w a (pivL piv n)) (hn : n ≤ 1048576) (hk : k ≤ 1048576) :
    Calls Try.prog 33 #[.slice a n c, .int .i64 k] w fun e w' => e = .returned (.bool (hit piv n k)) ∧ w = w' := by
  have HA := Lib.hid ha
  clear ha
  by_cases hh : ∃ i, i < n ∧ piv i = k
  · obtain ⟨i, hi, he⟩ := hh
    have HT := Lib.hid (hit_t hi he)
    go_enter Try.func33, Try.ntmps33
    go_wp2_with fail
    refine (indexInt_any _ _ _ (pivL piv n) _ _ (by exact HA.out) (pivL_len _ _) hn).mono ?_
    rintro e w' ⟨⟨k1, h1, h2, rfl⟩ | ⟨h1, rfl⟩, rfl⟩
    · have b1 : decide (0 ≤ (k1 : Int)) = true := decide_eq_true (by omega)
      go_wp2_with fail
      go_ret
      exact ⟨ret_bool (by rw [HT.out]), rfl⟩
    · exact absurd (by rw [pivL_el hi, he]) (h1 i hi)
  · have HT := Lib.hid (hit_f (piv := piv) (r := n) (j := k) (fun i hi he => hh ⟨i, hi, he⟩))
    go_enter Try.func33, Try.ntmps33
    go_wp2_with fail
    refine (indexInt_any _ _ _ (pivL piv n) _ _ (by exact HA.out) (pivL_len _ _) hn).mono ?_
    rintro e w' ⟨⟨k1, h1, h2, rfl⟩ | ⟨h1, rfl⟩, rfl⟩
    · rw [pivL_el h1] at h2
      exact absurd ⟨k1, h1, by omega⟩ hh
    · go_wp2_with fail
      go_ret
      exact ⟨ret_bool (by rw [HT.out]), rfl⟩
set_option maxRecDepth 20000 in
set_option maxHeartbeats 4000000 in
theorem impl_StandardComplement_any (p q : Int) (a : Option Addr) (n c : Nat) (xss : List (List Int)) (w : World) (hp : I64 p) (hq : I64 q) (ha : RdR w a xss) (hl : xss.length = n) (hx : ∀ i, i < n → (rw_ xss i).length ≤ 1048576) (hn : n ≤ 1048576) (hcp : n ≤ c) :
    Calls Try.prog 13 #[.agg #[.int .i64 p, .int .i64 q, .slice a n c]] w fun e w' => ∃ (P Q : Int) (R : List (List Int)) (d : Int) (a' : Option Addr) (c' : Nat), e = .returned (.tuple #[.agg #[.int .i64 P, .int .i64 Q, .slice a' R.length c'], .int .i64 d]) ∧ res_StandardComplement xss p q P Q R d ∧ MadeR 52 2 w' w.heap.size a' R.length c' R ∧ Below w.heap.size w w' := by
  have HP := Lib.hid hp
  have HQ := Lib.hid hq
  have HA := Lib.hid ha
  have HL := Lib.hid hl
  have HX := Lib.hid hx
  clear hp hq ha hl hx
  by_cases hs : subB xss p q = true
  rotate_left
  · have hsf : subB xss p q = false := by simpa using hs
    have HS := Lib.hid hsf
    have HR : Hid (res_StandardComplement xss p q 0 0 [] 1) := Lib.hid (.inr ⟨hsf, rfl⟩)
    clear hs hsf
    go_enter Try.func13, Try.ntmps13
    go_wp2_with fail
    refine (impl_IsSubspace_any _ _ _ _ _ xss _ HP.out HQ.out (by exact (HA.out.alloc _).alloc _) HL.out HX.out hn hcp).mono ?_
    rintro e w1 ⟨he, hb⟩
    rw [HS.out] at he
    obtain rfl := he
    have X0 : Hid (BX 26 w1 w.heap.size #[.int .i64 p, .int .i64 q, .slice a n c]) := Lib.hid (((BX.new w _ _).alloc _).keep hb)
    have X1 : Hid (BX 26 w1 (w.heap.size + 1) #[.int .i64 0, .int .i64 0, .slice none 0 0]) := Lib.hid ((BX.newAt (by simp)).keep hb)
    have HB1 : Hid (Below w.heap.size w w1) := Lib.hid (below_al2 hb)
    have s1 : w.heap.size + 2 ≤ w1.heap.size := by have := hb.size; simp at this; omega
    clear hb
    have p0 : w1.cell? ⟨w.heap.size, 0, none⟩ = some (.int .i64 p) := X0.out.cell 0
    have p1 : w1.cell? ⟨w.heap.size, 1, none⟩ = some (.int .i64 q) := X0.out.cell 1
    have p2 : w1.cell? ⟨w.heap.size, 2, none⟩ = some (.slice a n c) := X0.out.cell 2
    have y0 : w1.cell? ⟨w.heap.size + 1, 0, none⟩ = some (.int .i64 0) := X1.out.cell 0
    have y1 : w1.cell? ⟨w.heap.size + 1, 1, none⟩ = some (.int .i64 0) := X1.out.cell 1
    have y2 : w1.cell? ⟨w.heap.size + 1, 2, none⟩ = some (.slice none 0 0) := X1.out.cell 2
    have f0 := X1.out.frz 0
    have f1 := X1.out.frz 1
    have f2 := X1.out.frz 2
    go_wp2_with fail
    refine bodyPost_ret (v := .tuple #[.agg #[.int .i64 0, .int .i64 0, .slice none 0 0], .int .i64 1]) (by simp [results, Try.results13, go_sem, y0, y1, y2]) rfl ⟨0, 0, [], 1, none, 0, rfl, HR.out, MadeR.none, ?_⟩
    exact (((HB1.out.setCell (by first | (simp; done) | (simp; omega)) _).setCell (by first | (simp; done) | (simp; omega)) _).setCell (by first | (simp; done) | (simp; omega)) _)
  · have hy := subB_yes hs
    have hm0 := isMx_ok hy.1
    have q0 := hm0.q0
    have q8 := hm0.q8
    have hl8 := hm0.len
    rw [HL.out] at hl8
    obtain ⟨m, rfl⟩ : ∃ m : Nat, q = m := ⟨q.toNat, by omega⟩
    have HS := Lib.hid hs
    obtain ⟨piv, hR, _⟩ := hy.2
    rw [Int.toNat_natCast] at hR
    have HRR := Lib.hid hR
    have HR : Hid (res_StandardComplement xss p m p m (compL piv n m m) 0) := Lib.hid (.inl ⟨hs, rfl, rfl, rfl, piv, by rw [Int.toNat_natCast]; exact hR, by rw [HL.out, Int.toNat_natCast]⟩)
    clear hs hy hm0 hR
    go_enter Try.func13, Try.ntmps13
    go_wp2_with fail
    refine (impl_IsSubspace_any _ _ _ _ _ xss _ HP.out HQ.out (by exact (HA.out.alloc _).alloc _) HL.out HX.out hn hcp).mono ?_
    rintro e w1 ⟨he, hb⟩
    rw [HS.out] at he
    obtain rfl := he
    have X0 : Hid (BX 26 w1 w.heap.size #[.int .i64 p, .int .i64 m, .slice a n c]) := Lib.hid (((BX.new w _ _).alloc _).keep hb)
    have X1 : Hid (BX 26 w1 (w.heap.size + 1) #[.int .i64 0, .int .i64 0, .slice none 0 0]) := Lib.hid ((BX.newAt (by simp)).keep hb)
    have HB1 : Hid (Below w.heap.size w w1) := Lib.hid (below_al2 hb)
    have s1 : w.heap.size + 2 ≤ w1.heap.size := by have := hb.size; simp at this; omega
    clear hb
    have p0 : w1.cell? ⟨w.heap.size, 0, none⟩ = some (.int .i64 p) := X0.out.cell 0
    have p1 : w1.cell? ⟨w.heap.size, 1, none⟩ = some (.int .i64 m) := X0.out.cell 1
    have p2 : w1.cell? ⟨w.heap.size, 2, none⟩ = some (.slice a n c) := X0.out.cell 2
    have y0 : w1.cell? ⟨w.heap.size + 1, 0, none⟩ = some (.int .i64 0) := X1.out.cell 0
    have y1 : w1.cell? ⟨w.heap.size + 1, 1, none⟩ = some (.int .i64 0) := X1.out.cell 1
    have y2 : w1.cell? ⟨w.heap.size + 1, 2, none⟩ = some (.slice none 0 0) := X1.out.cell 2
    have f0 := X1.out.frz 0
    have f1 := X1.out.frz 1
    have f2 := X1.out.frz 2
    have lt0 : w.heap.size < w1.heap.size := by omega
    have lt1 : w.heap.size + 1 < w1.heap.size := by omega
    go_wp2_with fail
    refine (pivots_any _ _ _ m xss piv _ (by exact (HA.out.keep HB1.out (Nat.le_refl _)).alloc _) HL.out (fun i hi => HRR.out.len i (by rw [HL.out]; exact hi)) (by omega) (by omega) (fun i hi => HRR.out.isLead (by rw [HL.out]; exact hi)) (fun i hi => HRR.out.pn i (by rw [HL.out]; exact hi))).mono ?_
    rintro e w2 ⟨ap, cp, rfl, ho, hb⟩
    clear p0 p1 p2 y0 y1 y2 f0 f1 f2 lt0 lt1
    have s2 : w1.heap.size + 1 ≤ w2.heap.size := by have := hb.size; simp at this; omega
    have HO : Hid (OwnI 3 w2 (w1.heap.size + 1) ap n cp (pivL piv n)) := Lib.hid (ho.mono (by simp))
    have X2 : Hid (BX 26 w2 w1.heap.size #[.int .i64 p, .int .i64 m, .slice none 0 0]) := Lib.hid ((BX.new w1 _ _).keep hb)
    replace X0 : Hid (BX 26 w2 w.heap.size #[.int .i64 p, .int .i64 m, .slice a n c]) := Lib.hid ((X0.out.alloc _).keep hb)
    replace X1 : Hid (BX 26 w2 (w.heap.size + 1) #[.int .i64 0, .int .i64 0, .slice none 0 0]) := Lib.hid ((X1.out.alloc _).keep hb)
    have HB2 : Hid (Below w.heap.size w w2) := Lib.hid ((HB1.out.alloc HB1.out.size _).trans (hb.mono (by simp; omega)))
    clear ho hb
    have p1 : w2.cell? ⟨w.heap.size, 1, none⟩ = some (.int .i64 m) := X0.out.cell 1
    go_wp2_with fail
    clear p1
    go_loopw [22] (fun i wr => ∃ (k r : Nat) (a1 : Option Addr) (c1 : Nat) (A : Nat → Option Addr) (C : Nat → Nat), k ≤ m ∧ r ≤ k ∧ i = .int .i64 k ∧ Hid (BX 26 wr w1.heap.size #[.int .i64 p, .int .i64 m, .slice a1 r c1]) ∧ Hid (OwnR 52 2 wr w2.heap.size a1 r c1 (compL piv n m k) A C ∧ (∀ k, k < w2.heap.size → k ≠ w1.heap.size → wr.heap[k]? = w2.heap[k]?) ∧ Below w.heap.size w wr ∧ w2.heap.size ≤ wr.heap.size)) (fun i _ => m - (intOf i).toNat)
    case atStart => exact ⟨0, 0, none, 0, fun _ => none, fun _ => 0, Nat.zero_le _, Nat.le_refl _, rfl, X2, Lib.hid ⟨OwnR.none _ _, fun _ _ _ => rfl, HB2.out, Nat.le_refl _⟩⟩
    case round =>
      obtain ⟨k, r, a1, c1, A, C, hk, hrk, rfl, HX, HJ⟩ := hrel
      obtain ⟨wi, rfl⟩ : ∃ x, x = wr := ⟨wr, rfl⟩
      clear X2
      have hsz := HJ.out.2.2.2
      have X0i : Hid (BX 26 wi w.heap.size #[.int .i64 p, .int .i64 m, .slice a n c]) := Lib.hid ((HJ.out.2.1 _ (by omega) (by omega)).trans X0.out)
      have X1i : Hid (BX 26 wi (w.heap.size + 1) #[.int .i64 0, .int .i64 0, .slice none 0 0]) := Lib.hid ((HJ.out.2.1 _ (by omega) (by omega)).trans X1.out)
      have HPi : Hid (OwnI 3 wi (w1.heap.size + 1) ap n cp (pivL piv n)) := Lib.hid (HO.out.same fun x hx => HJ.out.2.1 _ (HO.out.block x hx).2 (by have := (HO.out.block x hx).1; omega))
      have lt0 : w.heap.size < wi.heap.size := by omega
      have lt1 : w.heap.size + 1 < wi.heap.size := by omega
      have lt2 : w1.heap.size < wi.heap.size := by omega
      have p1 : wi.cell? ⟨w.heap.size, 1, none⟩ = some (.int .i64 m) := X0i.out.cell 1
      by_cases hkm : k < m
      · have J1 : (k : Int) < (m : Int) := by omega
        by_cases hh : hit piv n k = true
        · have HC : Hid (compL piv n m (k + 1) = compL piv n m k) := Lib.hid (compL_yes hh)
          have HH := Lib.hid hh
          clear hh
          go_wp2_with (go_at_call 33; refine (containsPiv_any _ _ _ piv k _ (by exact HPi.out.rd) (by omega) (by omega)).mono ?_; rintro e w' ⟨rfl, rfl⟩; rw [HH.out])
          have HN2 : Hid (OwnR 52 2 wi w2.heap.size a1 r c1 (compL piv n m (k + 1)) A C ∧ (∀ k, k < w2.heap.size → k ≠ w1.heap.size → wi.heap[k]? = w2.heap[k]?) ∧ Below w.heap.size w wi ∧ w2.heap.size ≤ wi.heap.size) := Lib.hid (by rw [HC.out]; exact HJ.out)
          go_roundw
          case rel => exact ⟨k + 1, r, a1, c1, A, C, by omega, by omega, by go_num, HX, HN2⟩
          case measure => simp [intOf]; omega
        · have hf : hit piv n k = false := by simpa using hh
          have HC : Hid (compL piv n m (k + 1) = compL piv n m k ++ [unitR m k]) := Lib.hid (compL_no hf)
          have HH := Lib.hid hf
          clear hh hf
          have hmk := run_make_row' (P := Try.prog) 52 2 (.int .i64 0) 8 Try.underlying52 Try.info2 rfl .i64 .i64 m (by omega) (by omega)
          have e1 := (OwnI.made wi 2 m (by unfold maxLen; omega)).cellAt hkm
          rw [el_tab hkm] at e1
          have e2 := (OwnI.made wi 2 m (by unfold maxLen; omega)).frozen k
          have HOu := Lib.hid (unit_own2 wi 2 hkm (by omega))
          have HBo : Hid (Below wi.heap.size wi (wi.alloc (.cells ((madeCells #[.int .i64 0] m).setIfInBounds k (.int .i64 1)) 2))) := Lib.hid ((Below.refl _ _).alloc (Nat.le_refl _) _)
          have x1 : wi.cell? ⟨w1.heap.size, 2, none⟩ = some (.slice a1 r c1) := HX.out.cell 2
          go_wp2_with (first
            | (go_at_call 33; refine (containsPiv_any _ _ _ piv k _ (by exact HPi.out.rd) (by omega) (by omega)).mono ?_; rintro e w' ⟨rfl, rfl⟩; rw [HH.out])
            | (at_builtin; refine wpList_pushB rfl (.tmp 36) (.tmp 38) 24 rfl w2.heap.size 52 (.slice none 0 0) 24 Try.underlying24 Try.infoR rfl (by decide) (.slice (some ⟨wi.heap.size, 0, none⟩) m m) rfl _ _ _ _ _ rfl rfl (by simp) (by exact (HJ.out.1.keep HBo.out (Nat.le_refl _)).own) (by omega) (by exact Nat.le_trans hsz HBo.out.size) ?_; rintro a4 c4 w4 r4 q4 g4; have HN := Lib.hid (HJ.out.1.pushNew2 hsz HBo.out HOu.out (Nat.le_refl _) r4 q4 g4); have Y2 := Lib.hid ((HX.out.keep HBo.out).chg g4 (fun hx => by obtain ⟨x, hx, e⟩ := hx; have := (ownsRow_block HJ.out.1.own x hx).1; omega)); have z1 : w4.cell? ⟨w1.heap.size, 2, none⟩ = some (.slice a1 r c1) := Y2.out.cell 2; have z2 := Y2.out.frz 2; clear r4 q4 g4))
          clear hmk e1 e2 x1
          have HR2 : Hid (BX 26 (w4.setCell ⟨w1.heap.size, 2, none⟩ (.slice a4 (r + 1) c4)) w1.heap.size #[.int .i64 p, .int .i64 m, .slice a4 (r + 1) c4]) := Lib.hid (Y2.out.set 2 _)
          have HN2 : Hid (OwnR 52 2 (w4.setCell ⟨w1.heap.size, 2, none⟩ (.slice a4 (r + 1) c4)) w2.heap.size a4 (r + 1) c4 (compL piv n m (k + 1)) (upd A r (some ⟨wi.heap.size, 0, none⟩)) (upd C r m) ∧ (∀ k, k < w2.heap.size → k ≠ w1.heap.size → (w4.setCell ⟨w1.heap.size, 2, none⟩ (.slice a4 (r + 1) c4)).heap[k]? = w2.heap[k]?) ∧ Below w.heap.size w (w4.setCell ⟨w1.heap.size, 2, none⟩ (.slice a4 (r + 1) c4)) ∧ w2.heap.size ≤ (w4.setCell ⟨w1.heap.size, 2, none⟩ (.slice a4 (r + 1) c4)).heap.size) := by
            refine Lib.hid ⟨?_, fun k hk hne => ?_, ?_, ?_⟩
            · rw [HC.out]; exact HN.out.1.setLow _ (by simp; omega) _
            · exact (Below.heap_setCell _ _ _ _ (by simp; omega)).trans ((HN.out.2.block k hk).trans (HJ.out.2.1 k hk hne))
            · exact (HJ.out.2.2.1.trans (HN.out.2.mono (by omega))).setCell (by simp; omega) _
            · have := HN.out.2.size; simp; omega
          go_roundw
          case rel => exact ⟨k + 1, r + 1, a4, c4, _, _, by omega, by omega, by go_num, HR2, HN2⟩
          case measure => simp [intOf]; omega
      · obtain rfl : m = k := by omega
        have hrl := HJ.out.1.len
        subst hrl
        have HM : Hid (MadeR 52 2 wi w2.heap.size a1 (compL piv n m m).length c1 (compL piv n m m)) := Lib.hid ⟨A, C, HJ.out.1⟩
        have HBf := Lib.hid HJ.out.2.2.1
        have x0 : wi.cell? ⟨w1.heap.size, 0, none⟩ = some (.int .i64 p) := HX.out.cell 0
        have x1 : wi.cell? ⟨w1.heap.size, 1, none⟩ = some (.int .i64 m) := HX.out.cell 1
        have x2 : wi.cell? ⟨w1.heap.size, 2, none⟩ = some (.slice a1 (compL piv n m m).length c1) := HX.out.cell 2
        have y0 : wi.cell? ⟨w.heap.size + 1, 0, none⟩ = some (.int .i64 0) := X1i.out.cell 0
        have y1 : wi.cell? ⟨w.heap.size + 1, 1, none⟩ = some (.int .i64 0) := X1i.out.cell 1
        have y2 : wi.cell? ⟨w.heap.size + 1, 2, none⟩ = some (.slice none 0 0) := X1i.out.cell 2
        have f0 := X1i.out.frz 0
        have f1 := X1i.out.frz 1
        have f2 := X1i.out.frz 2
        go_wp2_with fail
        refine bodyPost_ret (v := .tuple #[.agg #[.int .i64 (p), .int .i64 (m), .slice a1 (compL piv n m m).length c1], .int .i64 0]) (by simp [results, Try.results13, go_sem, y0, y1, y2]) rfl ⟨p, m, compL piv n m m, 0, a1, c1, rfl, HR.out, ?_, ?_⟩
        · refine MadeR.mono (B := w2.heap.size) ?_ (by omega)
          exact (((HM.out).setLow _ (by first | (simp; done) | (simp; omega)) _).setLow _ (by first | (simp; done) | (simp; omega)) _).setLow _ (by first | (simp; done) | (simp; omega)) _
        · exact (((HBf.out.setCell (by first | (simp; done) | (simp; omega)) _).setCell (by first | (simp; done) | (simp; omega)) _).setCell (by first | (simp; done) | (simp; omega)) _)
end Go.Proofs.Ytpkdgemnddcefaa
set_option linter.unusedVariables false
set_option linter.unusedSimpArgs false
namespace Go.Proofs.Ytpkdgemnddcefaa
open Go.RowKit

theorem GP.inv {p x : Int} (hp : GP p) (h0 : 0 < x) (h1 : x < p) : ∃ y, IsInv x p y := by
  rcases hp with rfl | rfl | rfl | rfl
  · obtain rfl : x = 1 := by omega
    exact inv_exists (by decide) (by decide)
  · rcases (show x = 1 ∨ x = 2 by omega) with rfl | rfl <;> exact inv_exists (by decide) (by decide)
  · rcases (show x = 1 ∨ x = 2 ∨ x = 3 ∨ x = 4 by omega) with rfl | rfl | rfl | rfl <;> exact inv_exists (by decide) (by decide)
  · rcases (show x = 1 ∨ x = 2 ∨ x = 3 ∨ x = 4 ∨ x = 5 ∨ x = 6 by omega) with rfl | rfl | rfl | rfl | rfl | rfl <;> exact inv_exists (by decide) (by decide)
theorem tab_in {α : Type} {n k : Nat} {f : Nat → α} (h : k < n) : f k ∈ tab n f := List.mem_map.2 ⟨k, List.mem_range.2 h, rfl⟩
theorem red_ex {p : Int} (hp : GP p) {n : Nat} {rows : List (List Int)} (h : Rws p n rows) : ∀ c, c ≤ n → ∃ (xss : List (List Int)) (d : Nat) (piv : Nat → Nat), Red p n rows xss c d piv ∧ xss.length = rows.length
  | 0, _ => ⟨rows, 0, fun _ => 0, Red.start h.row h.rng _, rfl⟩
  | c + 1, hc => by
    obtain ⟨xss, d, piv, hR, hl⟩ := red_ex hp h c (by omega)
    by_cases hz : ∀ i, d ≤ i → i < xss.length → el (rw_ xss i) c = 0
    · exact ⟨xss, d, piv, hR.skip (by omega) hz, hl⟩
    · obtain ⟨a, ha⟩ := Classical.not_forall.1 hz
      obtain ⟨ha1, ha⟩ := Classical.not_imp.1 ha
      obtain ⟨ha2, ha3⟩ := Classical.not_imp.1 ha
      have hg := hR.rng a c ha2 (by omega)
      obtain ⟨x, hx⟩ := hp.inv (show 0 < el (rw_ xss a) c by omega) hg.2
      exact ⟨_, _, _, hR.step hp.bd.1 (by omega) ha1 ha2 hx, by unfold stepR; rw [elR_len, scR_len, swR_len, hl]⟩
theorem rref_ex {p : Int} (hp : GP p) {n : Nat} {rows : List (List Int)} (h : Rws p n rows) : ∃ R, IsRref p n rows R ∧ R.length ≤ rows.length := by
  obtain ⟨xss, d, piv, hR, hl⟩ := red_ex hp h n (Nat.le_refl _)
  exact ⟨xss.take d, hR.fin (.inl rfl), by have := hR.dl; simp; omega⟩
theorem rref_le {p : Int} (hp : GP p) {n : Nat} {rows R : List (List Int)} (h : Rws p n rows) (hR : IsRref p n rows R) : R.length ≤ rows.length := by
  obtain ⟨R', h1, h2⟩ := rref_ex hp h
  rw [hR.unique h1 hp.bd.1]; exact h2
theorem Sp.shift {p : Int} {q : Nat} {rows : List (List Int)} {f : Nat → Int} (h : Sp p rows f) : Sp p (tab rows.length fun i => (rw_ rows i).drop q) (fun j => f (q + j)) := by
  induction h with
  | zero => exact .zero
  | add c _ hr ih =>
    obtain ⟨k, hk, rfl⟩ := mem_rows hr
    exact (Sp.add c ih (tab_in hk)).eq fun j => by rw [el_drop]
  | cong _ hd ih => exact .cong ih fun j => hd (q + j)
theorem Sp.cut {p : Int} {q : Nat} {rows : List (List Int)} {f : Nat → Int} (h : Sp p rows f) : Sp p (tab rows.length fun i => (rw_ rows i).take q) (fun j => if j < q then f j else 0) := by
  induction h with
  | zero => exact Sp.zero.eq fun j => by simp
  | add c _ hr ih =>
    obtain ⟨k, hk, rfl⟩ := mem_rows hr
    refine (Sp.add c ih (tab_in hk)).eq fun j => ?_
    by_cases hj : j < q
    · rw [if_pos hj, if_pos hj, el_take hj]
    · rw [if_neg hj, if_neg hj, el_ge (by rw [List.length_take]; omega)]; simp
  | cong _ hd ih =>
    refine .cong ih fun j => ?_
    by_cases hj : j < q
    · rw [if_pos hj, if_pos hj]; exact hd j
    · rw [if_neg hj, if_neg hj]; exact ⟨0, by simp⟩
theorem sp_unit {p : Int} {n : Nat} {f : Nat → Int} (hx : ∀ i, n ≤ i → p ∣ f i) : Sp p (unitRs n) f := by
  refine (Sp.comb (rows := unitRs n) f (k := n) (by rw [unitRs_len]; exact Nat.le_refl _)).cong fun j => ?_
  by_cases hj : j < n
  · rw [sm_single hj (fun i hi hne => by rw [unitRs_row hi, el_unit hj, if_neg (fun e => hne e.symm)]; simp), unitRs_row hj, el_unit hj, if_pos rfl]; exact ⟨0, by simp⟩
  · rw [sm_zero (fun i hi => by rw [unitRs_row hi, el_ge (by rw [unitR_len]; omega)]; simp)]
    obtain ⟨y, hy⟩ := hx j (by omega)
    exact ⟨-y, by rw [hy]; grind⟩
theorem rref_unit {p : Int} (hp : 2 ≤ p) (n : Nat) : Rref p n (unitRs n) (fun i => i) := by
  have hl := unitRs_len n
  refine ⟨fun i hi => ?_, fun i j hi hj => ?_, fun i hi => ?_, fun i k hik hk => hik, fun i j hi hj => ?_, fun i hi => ?_, fun i k hi hk hne => ?_⟩
  · rw [hl] at hi; rw [unitRs_row hi, unitR_len]
  · rw [hl] at hi; rw [unitRs_row hi, el_unit hj]; split <;> omega
  · rw [hl] at hi; exact hi
  · rw [hl] at hi; have hj' : j < i := hj; rw [unitRs_row hi, el_unit (by omega), if_neg (by omega)]
  · rw [hl] at hi; show el (rw_ (unitRs n) i) i = 1; rw [unitRs_row hi, el_unit hi, if_pos rfl]
  · rw [hl] at hi hk; show el (rw_ (unitRs n) i) k = 0; rw [unitRs_row hi, el_unit hk, if_neg (fun e => hne e.symm)]
theorem rank_null {p : Int} (hp : GP p) {q : Nat} {xss R N : List (List Int)} (h : Rws p q xss) (hR : IsRref p q xss R) (hN : NullR p q xss N) : R.length + N.length = xss.length := by
  obtain ⟨W, ⟨piv, hW, hS⟩, rfl⟩ := hN
  obtain ⟨s, hs, hlo, hhi⟩ := hW.reach q
  have eN : (cutL q W).length = W.length - s := by rw [cutL_is hW (Nat.le_add_right _ _) hs hlo hhi, tab_len]
  have hww := wideR_rws h rfl hp.bd.1
  have hw1 : W.length ≤ xss.length := by have := rref_le hp hww ⟨piv, hW, hS⟩; rwa [wideR_len] at this
  have hw2 : xss.length ≤ W.length := by
    have hDl : (tab W.length fun i => (rw_ W i).drop q).length = W.length := tab_len _ _
    have hDw : Rws p xss.length (tab W.length fun i => (rw_ W i).drop q) := by
      refine ⟨fun i hi => ?_, fun i j hi hj => ?_⟩
      · rw [hDl] at hi; rw [rw_tab hi, List.length_drop, hW.len i hi]; omega
      · rw [hDl] at hi; rw [rw_tab hi, el_drop]; exact hW.rng _ _ hi (by omega)
    have hD : IsRref p xss.length (tab W.length fun i => (rw_ W i).drop q) (unitRs xss.length) := by
      refine ⟨_, rref_unit hp.bd.1 _, fun r hr => ?_, fun r hr => ?_⟩
      · obtain ⟨i, hi, rfl⟩ := mem_rows hr
        exact sp_unit fun j hj => by rw [el_ge (by rw [hDw.row i hi]; exact hj)]; exact ⟨0, by simp⟩
      · obtain ⟨k, hk, rfl⟩ := mem_rows hr
        rw [unitRs_len] at hk
        rw [unitRs_row hk]
        have h1 := (hS.1 _ (rw_mem (by rw [wideR_len]; exact hk))).shift (q := q)
        exact h1.eq fun j => by rw [wideR_row hk, el_app_r (by rw [h.row k hk]; omega), h.row k hk]; congr 1; omega
    have := rref_le hp hDw hD
    rwa [unitRs_len, hDl] at this
  have hR' : IsRref p q xss (tab s fun i => (rw_ W i).take q) := by
    have hl : (tab s fun i => (rw_ W i).take q).length = s := tab_len _ _
    refine ⟨piv, ⟨fun i hi => ?_, fun i j hi hj => ?_, fun i hi => ?_, fun i k hik hk => ?_, fun i j hi hj => ?_, fun i hi => ?_, fun i k hi hk hne => ?_⟩, fun r hr => ?_, fun r hr => ?_⟩
    · rw [hl] at hi; rw [rw_tab hi, List.length_take, hW.len i (by omega)]; omega
    · rw [hl] at hi; rw [rw_tab hi, el_take hj]; exact hW.rng _ _ (by omega) (by omega)
    · rw [hl] at hi; exact hlo i hi
    · rw [hl] at hk; exact hW.mono i k hik (by omega)
    · rw [hl] at hi; have := hlo i hi; rw [rw_tab hi, el_take (by omega)]; exact hW.lead _ _ (by omega) hj
    · rw [hl] at hi; have := hlo i hi; rw [rw_tab hi, el_take (by omega)]; exact hW.one _ (by omega)
    · rw [hl] at hi hk; have := hlo k hk; rw [rw_tab hi, el_take (by omega)]; exact hW.clr _ _ (by omega) (by omega) hne
    · obtain ⟨k, hk, rfl⟩ := mem_rows hr
      have h1 := (hS.1 _ (rw_mem (by rw [wideR_len]; exact hk))).cut (q := q)
      refine (h1.sub fun r hr => ?_).eq fun j => ?_
      · obtain ⟨i, hi, rfl⟩ := mem_rows hr
        rw [tab_len] at hi
        by_cases his : i < s
        · rw [rw_tab hi]; exact Sp.row (tab_in (f := fun i => (rw_ W i).take q) his)
        · refine Sp.zero.eq fun j => ?_
          rw [rw_tab hi]
          by_cases hj : j < q
          · rw [el_take hj]; exact (hW.lead i j hi (by have := hhi i (by omega) hi; omega)).symm
          · exact (el_ge (by rw [List.length_take]; omega)).symm
      · by_cases hj : j < q
        · rw [if_pos hj, wideR_row hk, el_app_l (by rw [h.row k hk]; exact hj)]
        · rw [if_neg hj]; exact (el_ge (by rw [h.row k hk]; omega)).symm
    · obtain ⟨i, hi, rfl⟩ := mem_rows hr
      rw [hl] at hi
      rw [rw_tab hi]
      have h1 := (hS.2 _ (rw_mem (show i < W.length by omega))).cut (q := q)
      refine (h1.sub fun r hr => ?_).eq fun j => ?_
      · obtain ⟨k, hk, rfl⟩ := mem_rows hr
        rw [tab_len, wideR_len] at hk
        rw [rw_tab (by rw [wideR_len]; exact hk)]
        refine (Sp.at hk).eq fun j => ?_
        by_cases hj : j < q
        · rw [el_take hj, wideR_row hk, el_app_l (by rw [h.row k hk]; exact hj)]
        · rw [el_ge (by rw [h.row k hk]; omega), el_ge (by rw [List.length_take]; omega)]
      · by_cases hj : j < q
        · rw [if_pos hj, el_take hj]
        · rw [if_neg hj]; exact (el_ge (by rw [List.length_take]; omega)).symm
  rw [hR.unique hR' hp.bd.1, tab_len, eN]; omega
theorem null_ex {p : Int} (hp : GP p) {q : Nat} {xss : List (List Int)} (h : Rws p q xss) : ∃ N, NullR p q xss N := by
  obtain ⟨W, hW, _⟩ := rref_ex hp (wideR_rws h rfl hp.bd.1)
  exact ⟨_, W, hW, rfl⟩
/-- the dimension of a sum and that of an intersection -/
theorem dim_sum {p : Int} (hp : GP p) {q : Nat} {us vs S R : List (List Int)} {πu πv : Nat → Nat} (hu : Rref p q us πu) (hv : Rref p q vs πv) (hS : IsRref p q (us ++ vs) S) (hR : Meet p q us vs R) : S.length + R.length = us.length + vs.length := by
  have wu : Rws p q us := ⟨hu.len, hu.rng⟩
  have wv : Rws p q vs := ⟨hv.len, hv.rng⟩
  have wa := wu.app wv
  have hla : (us ++ vs).length = us.length + vs.length := List.length_append
  obtain ⟨N, hN⟩ := null_ex hp wa
  have h1 := rank_null hp wa hS hN
  have hTl := timesR_len p q us N
  have wT : Rws p q (timesR p q us N) := by
    refine ⟨fun i hi => ?_, fun i j hi hj => ?_⟩
    · rw [hTl] at hi; rw [timesR_row hi, tab_len]
    · rw [hTl] at hi; rw [timesR_row hi, el_tab hj]; have := hp.bd.1; exact ⟨Int.emod_nonneg _ (by omega), Int.emod_lt_of_pos _ (by omega)⟩
  obtain ⟨R', hR', _⟩ := rref_ex hp wT
  have hRR := hR.unique (meet_null hp.bd.1 hu hv hN hR') hp.bd.1
  subst hRR
  obtain ⟨M, hM⟩ := null_ex hp wT
  have h2 := rank_null hp wT hR' hM
  rw [hTl] at h2
  have hM0 : M.length = 0 := by
    refine Nat.eq_zero_of_not_pos fun hpos => ?_
    obtain ⟨σ, hσ, _⟩ := hM.rref
    rw [hTl] at hσ
    have hs := hM.sound wT hTl (Sp.at (p := p) hpos)
    obtain ⟨c, hc⟩ : ∃ c, c = el (rw_ M 0) := ⟨_, rfl⟩
    rw [← hc] at hs
    obtain ⟨y, hy⟩ : ∃ y : Nat → Int, y = fun k => sm (fun i => c i * el (rw_ N i) k) N.length := ⟨_, rfl⟩
    have hyN : Sp p N y := by rw [hy]; exact Sp.comb c (Nat.le_refl _)
    have hyu : ∀ j, j < q → p ∣ sm (fun k => y k * el (rw_ us k) j) us.length := fun j hj => by
      have e : sm (fun k => y k * el (rw_ us k) j) us.length = sm (fun i => c i * sm (fun k => el (rw_ N i) k * el (rw_ us k) j) us.length) N.length := by
        rw [hy, sm_congr (g := fun k => sm (fun i => c i * (el (rw_ N i) k * el (rw_ us k) j)) N.length) (fun k _ => by show sm _ _ * _ = _; rw [← sm_mulr]; exact sm_congr fun i _ => by rw [Int.mul_assoc]), sm_swap]
        exact sm_congr fun i _ => sm_mul _ _ _
      rw [e]
      have h3 := sm_dcongr (p := p) (n := N.length) (f := fun i => c i * el (rw_ (timesR p q us N) i) j) (g := fun i => c i * sm (fun k => el (rw_ N i) k * el (rw_ us k) j) us.length) fun i hi => by
        obtain ⟨x, hx⟩ := timesR_el (p := p) (j := j) hu.len hi
        exact ⟨c i * x, by rw [← Int.mul_sub, hx]; grind⟩
      have h4 := Int.dvd_sub (hs j hj) h3
      rwa [Int.sub_sub_self] at h4
    have hy1 : ∀ k, k < us.length → p ∣ y k := fun k hk => by
      have h3 := hyu (πu k) (hu.pn k hk)
      rwa [sm_single (f := fun i => y i * el (rw_ us i) (πu k)) hk (fun i hi hne => by rw [hu.clr i k hi hk hne]; simp), hu.one k hk, Int.mul_one] at h3
    have hy2 : ∀ k, k < vs.length → p ∣ y (us.length + k) := fun k hk => by
      have h3 := hN.sound wa hla hyN (πv k) (hv.pn k hk)
      rw [sm_app] at h3
      have h4 : p ∣ sm (fun i => y i * el (rw_ (us ++ vs) i) (πv k)) us.length := sm_dvd fun i hi => dvdL (hy1 i hi) _
      have h5 := Int.dvd_sub h3 h4
      rw [Int.add_comm, Int.add_sub_cancel] at h5
      rw [sm_congr (g := fun i => y (us.length + i) * el (rw_ vs i) (πv k)) (fun i hi => by rw [rw_app_r (by omega)]; congr 3; omega)] at h5
      rwa [sm_single (f := fun i => y (us.length + i) * el (rw_ vs i) (πv k)) hk (fun i hi hne => by rw [hv.clr i k hi hk hne]; simp), hv.one k hk, Int.mul_one] at h5
    obtain ⟨τ, hτ, _⟩ := hN.rref
    rw [hla] at hτ
    have hcd : ∀ i, i < N.length → p ∣ c i := fun i hi => by
      have e : y (τ i) = c i := by
        rw [hy]
        show sm (fun k => c k * el (rw_ N k) (τ i)) N.length = c i
        rw [sm_single (f := fun k => c k * el (rw_ N k) (τ i)) hi (fun k hk hne => by rw [hτ.clr k i hk hi hne]; simp), hτ.one i hi, Int.mul_one]
      have hlt := hτ.pn i hi
      rw [← e]
      rcases Nat.lt_or_ge (τ i) us.length with h | h
      · exact hy1 _ h
      · have := hy2 (τ i - us.length) (by omega)
        rwa [show us.length + (τ i - us.length) = τ i by omega] at this
    have h7 := hcd (σ 0) (hσ.pn 0 hpos)
    rw [hc, hσ.one 0 hpos] at h7
    exact not_dvd_one hp.bd.1 h7
  omega
theorem ann_iff {p : Int} {q : Nat} {us Nu : List (List Int)} (wu : Rws p q us) (h : NullR p us.length (colsR us q) Nu) (f : Nat → Int) : Sp p Nu f ↔ (∀ i, q ≤ i → p ∣ f i) ∧ ∀ r ∈ us, p ∣ sm (fun i => f i * el r i) q := by
  have hR := h.rref
  rw [colsR_len] at hR
  obtain ⟨π, hRr, _⟩ := hR
  constructor
  · intro hf
    refine ⟨hf.supp hRr.len, fun r hr => ?_⟩
    obtain ⟨j, hj, rfl⟩ := mem_rows hr
    have := h.sound (colsR_rws' wu rfl) (colsR_len _ _) hf j hj
    rwa [sm_congr (g := fun i => f i * el (rw_ us j) i) (fun i hi => by rw [colsR_el hi hj])] at this
  · rintro ⟨h1, h2⟩
    refine h.compl (colsR_rws' wu rfl) (colsR_len _ _) h1 fun j hj => ?_
    rw [sm_congr (g := fun i => f i * el (rw_ us j) i) (fun i hi => by rw [colsR_el hi hj])]
    exact h2 _ (rw_mem hj)
/-- the annihilator of a sum is the intersection of the annihilators -/
theorem ann_meet {p : Int} {q : Nat} {us vs S Nu Nv C : List (List Int)} (wu : Rws p q us) (wv : Rws p q vs) (h1 : NullR p us.length (colsR us q) Nu) (h2 : NullR p vs.length (colsR vs q) Nv) (hS : IsRref p q (us ++ vs) S) (hC : NullR p S.length (colsR S q) C) : Meet p q Nu Nv C := by
  have wS : Rws p q S := ⟨hS.row, hS.rng⟩
  have hR := hC.rref
  rw [colsR_len] at hR
  obtain ⟨π, hRr, _⟩ := hR
  obtain ⟨_, _, hE⟩ := hS
  refine ⟨π, hRr, fun f => ?_⟩
  rw [ann_iff wS hC, ann_iff wu h1, ann_iff wv h2]
  constructor
  · rintro ⟨k1, k2⟩
    have key : ∀ r ∈ us ++ vs, p ∣ sm (fun i => f i * el r i) q := fun r hr => by
      rw [dot_comm]
      exact (hE.1 r hr).lin _ _ fun t ht => by rw [dot_comm]; exact k2 t ht
    exact ⟨⟨k1, fun r hr => key r (List.mem_append_left _ hr)⟩, ⟨k1, fun r hr => key r (List.mem_append_right _ hr)⟩⟩
  · rintro ⟨⟨k1, k2⟩, _, k3⟩
    refine ⟨k1, fun r hr => ?_⟩
    rw [dot_comm]
    refine (hE.2 r hr).lin _ _ fun t ht => ?_
    rw [dot_comm]
    rcases List.mem_append.1 ht with ht | ht
    · exact k2 t ht
    · exact k3 t ht
theorem compL_count {p : Int} {q : Nat} {us : List (List Int)} {π : Nat → Nat} (h : Rref p q us π) : ∀ k, k ≤ q → ∃ s, s ≤ us.length ∧ (∀ i, i < s → π i < k) ∧ (∀ i, s ≤ i → i < us.length → k ≤ π i) ∧ (compL π us.length q k).length + s = k
  | 0, _ => ⟨0, Nat.zero_le _, fun i hi => absurd hi (by omega), fun i _ _ => Nat.zero_le _, by simp [compL]⟩
  | k + 1, hk => by
    obtain ⟨s, h1, h2, h3, h4⟩ := compL_count h k (by omega)
    by_cases hs : s < us.length ∧ π s = k
    · refine ⟨s + 1, by omega, fun i hi => ?_, fun i hi1 hi2 => ?_, ?_⟩
      · by_cases e : i = s
        · subst e; omega
        · have := h2 i (by omega); omega
      · have := h.mono s i (by omega) hi2; omega
      · rw [compL_yes (hit_t hs.1 hs.2)]; omega
    · refine ⟨s, h1, fun i hi => by have := h2 i hi; omega, fun i hi1 hi2 => ?_, ?_⟩
      · have h5 := h3 i hi1 hi2
        have h6 : π i ≠ k := fun e => by
          rcases Nat.eq_or_lt_of_le hi1 with e1 | e1
          · subst e1; exact hs ⟨hi2, e⟩
          · have h7 := h.mono s i e1 hi2
            have h8 := h3 s (Nat.le_refl _) (by omega)
            omega
        omega
      · rw [compL_no (hit_f fun i hi => ?_), List.length_append]
        · simp; omega
        · intro e
          rcases Nat.lt_or_ge i s with hlt | hge
          · have := h2 i hlt; omega
          · rcases Nat.eq_or_lt_of_le hge with e1 | e1
            · subst e1; exact hs ⟨hi, e⟩
            · have h7 := h.mono s i e1 hi
              have h8 := h3 s (Nat.le_refl _) (by omega)
              omega
theorem comp_len {p : Int} {q : Nat} {us : List (List Int)} {π : Nat → Nat} (h : Rref p q us π) : (compL π us.length q q).length + us.length = q := by
  obtain ⟨s, h1, h2, h3, h4⟩ := compL_count h q (Nat.le_refl _)
  have : s = us.length := by
    rcases Nat.lt_or_ge s us.length with hlt | hge
    · have := h3 s (Nat.le_refl _) hlt
      have := h.pn s hlt
      omega
    · omega
  omega
theorem comp_whole {p : Int} (hp : GP p) {q : Nat} {us R : List (List Int)} {π : Nat → Nat} (h : Rref p q us π) (hR : IsRref p q (us ++ compL π us.length q q) R) : R.length = q := by
  have hE : IsRref p q (us ++ compL π us.length q q) (unitRs q) := by
    refine ⟨_, rref_unit hp.bd.1 _, fun r hr => ?_, fun r hr => ?_⟩
    · refine sp_unit fun i hi => ?_
      have hl : r.length = q := by
        rcases List.mem_append.1 hr with hr | hr
        · obtain ⟨k, hk, rfl⟩ := mem_rows hr; exact h.len k hk
        · obtain ⟨k, hk, rfl⟩ := mem_rows hr; exact compL_row _ _ _ _ _ hk
      rw [el_ge (by omega)]; exact ⟨0, by simp⟩
    · obtain ⟨f, hf⟩ : ∃ f, f = el r := ⟨_, rfl⟩
      obtain ⟨k0, hk0, rfl⟩ := mem_rows hr
      rw [unitRs_len] at hk0
      have hf0 : ∀ i, q ≤ i → f i = 0 := fun i hi => by rw [hf, unitRs_row hk0]; exact el_ge (by rw [unitR_len]; exact hi)
      rw [← hf]
      obtain ⟨g, hg⟩ : ∃ g : Nat → Int, g = fun t => f t - sm (fun i => f (π i) * el (rw_ us i) t) us.length := ⟨_, rfl⟩
      have hgp : ∀ k, k < us.length → g (π k) = 0 := fun k hk => by
        rw [hg]
        show f (π k) - sm (fun i => f (π i) * el (rw_ us i) (π k)) us.length = 0
        rw [sm_single (f := fun i => f (π i) * el (rw_ us i) (π k)) hk (fun i hi hne => by rw [h.clr i k hi hk hne]; simp), h.one k hk]; omega
      have hg0 : ∀ i, q ≤ i → g i = 0 := fun i hi => by
        rw [hg]
        show f i - sm (fun k => f (π k) * el (rw_ us k) i) us.length = 0
        rw [hf0 i hi, sm_zero fun k hk => by rw [el_ge (by rw [h.len k hk]; exact hi)]; simp]; rfl
      have hgs : ∀ k, k ≤ q → Sp p (us ++ compL π us.length q q) (fun t => sm (fun j => g j * el (unitR q j) t) k) := by
        intro k
        induction k with
        | zero => intro _; exact Sp.zero
        | succ k ih =>
          intro hk
          simp only [sm]
          cases hh : hit π us.length k
          · refine (ih (by omega)).addmul (g k) (Sp.row (List.mem_append_right _ ?_))
            unfold compL
            exact List.mem_map.2 ⟨k, List.mem_filter.2 ⟨List.mem_range.2 (by omega), by rw [hh]; rfl⟩, rfl⟩
          · obtain ⟨i, hi, he⟩ := List.any_eq_true.1 hh
            have hgk : g k = 0 := by
              have : π i = k := by simpa using he
              rw [← this]; exact hgp i (List.mem_range.1 hi)
            exact (ih (by omega)).eq fun t => by rw [hgk]; simp
      have hgg : Sp p (us ++ compL π us.length q q) g := (hgs q (Nat.le_refl _)).eq fun t => by
        by_cases ht : t < q
        · rw [sm_single (f := fun j => g j * el (unitR q j) t) ht (fun j hj hne => by rw [el_unit ht, if_neg (fun e => hne e.symm)]; simp), el_unit ht, if_pos rfl, Int.mul_one]
        · rw [hg0 t (by omega), sm_zero fun j hj => by rw [el_ge (by rw [unitR_len]; omega)]; simp]
      have hc := (Sp.comb (p := p) (rows := us) (fun i => f (π i)) (k := us.length) (Nat.le_refl _)).mono (rows := us ++ compL π us.length q q) (fun r hr => List.mem_append_left _ hr)
      exact (hc.addmul 1 hgg).eq fun t => by rw [hg]; show _ + 1 * (f t - _) = _; omega
  rw [hR.unique hE hp.bd.1, unitRs_len]
end Go.Proofs.Ytpkdgemnddcefaa
set_option linter.unusedVariables false
set_option linter.unusedSimpArgs false
namespace Go.Proofs.Ytpkdgemnddcefaa
open Go.RowKit
theorem subB_rref {p q : Int} {R : List (List Int)} {piv : Nat → Nat} (hg : GP p) (h0 : 0 ≤ q) (h8 : q ≤ 8) (h : Rref p q.toNat R piv) : subB R p q = true := by
  have hself : IsRref p q.toNat R R := ⟨piv, h, SpEq.refl _ _⟩
  unfold subB
  rw [Bool.and_eq_true]
  refine ⟨isMx_t ⟨hg, h0, h8, ?_, fun i hi => ⟨?_, fun j hj => ?_⟩⟩, by simpa using hself⟩
  · have := hself.len; omega
  · have := h.len i hi; omega
  · have hl := h.len i hi
    have := h.rng i j hi (by omega)
    omega
theorem compL_units {π : Nat → Nat} {r q : Nat} : ∀ k, k ≤ q → ∃ σ : Nat → Nat, (∀ i, i < (compL π r q k).length → rw_ (compL π r q k) i = unitR q (σ i) ∧ σ i < k) ∧ ∀ i j, i < j → j < (compL π r q k).length → σ i < σ j
  | 0, _ => ⟨fun _ => 0, fun i hi => by have := compL_le π r q 0; omega, fun i j _ hj => by have := compL_le π r q 0; omega⟩
  | k + 1, hk => by
    obtain ⟨σ, h1, h2⟩ := compL_units (π := π) (r := r) (q := q) k (by omega)
    cases hh : hit π r k
    · rw [compL_no hh]
      have hl : (compL π r q k ++ [unitR q k]).length = (compL π r q k).length + 1 := by simp
      refine ⟨fun i => if i < (compL π r q k).length then σ i else k, fun i hi => ?_, fun i j hij hj => ?_⟩
      · by_cases hi2 : i < (compL π r q k).length
        · simp only [if_pos hi2]
          rw [rw_append_lt hi2]
          exact ⟨(h1 i hi2).1, by have := (h1 i hi2).2; omega⟩
        · obtain rfl : i = (compL π r q k).length := by omega
          simp only [if_neg hi2]
          rw [rw_append_eq]
          exact ⟨rfl, by omega⟩
      · have hi2 : i < (compL π r q k).length := by omega
        simp only [if_pos hi2]
        by_cases hj2 : j < (compL π r q k).length
        · simp only [if_pos hj2]; exact h2 i j hij hj2
        · simp only [if_neg hj2]; exact (h1 i hi2).2
    · rw [compL_yes hh]
      exact ⟨σ, fun i hi => ⟨(h1 i hi).1, by have := (h1 i hi).2; omega⟩, h2⟩
theorem compL_rref {p : Int} (hp : 2 ≤ p) {π : Nat → Nat} {r q : Nat} : ∃ σ, Rref p q (compL π r q q) σ := by
  obtain ⟨σ, h1, h2⟩ := compL_units (π := π) (r := r) (q := q) q (Nat.le_refl _)
  refine ⟨σ, ⟨fun i hi => ?_, fun i j hi hj => ?_, fun i hi => (h1 i hi).2, fun i k hik hk => h2 i k hik hk, fun i j hi hj => ?_, fun i hi => ?_, fun i k hi hk hne => ?_⟩⟩
  · rw [(h1 i hi).1, unitR_len]
  · rw [(h1 i hi).1, el_unit hj]; split <;> omega
  · have := (h1 i hi).2; rw [(h1 i hi).1, el_unit (by omega), if_neg (by omega)]
  · rw [(h1 i hi).1, el_unit (h1 i hi).2, if_pos rfl]
  · have hne2 : σ k ≠ σ i := by
      rcases Nat.lt_or_gt_of_ne hne with h | h
      · have := h2 i k h hk; omega
      · have := h2 k i h hi; omega
    rw [(h1 i hi).1, el_unit (h1 k hk).2, if_neg hne2]
section
variable {xs ys : List (List Int)} {p q p1 q1 P Q P2 Q2 : Int} {R R2 : List (List Int)} {d d2 : Int}
/-- both fail alike -/
theorem dims_code (h1 : res_SubspaceSum xs p q ys p1 q1 P Q R d) (h2 : res_SubspaceIntersection xs p q ys p1 q1 P2 Q2 R2 d2) : d2 = d ∧ (d ≠ 0 → R = []) := by
  rcases h1 with ⟨a0, a1⟩ | ⟨a0, ⟨a1, a2⟩ | ⟨a1, a2, a3, a4, a5⟩⟩ <;> rcases h2 with ⟨b0, b1⟩ | ⟨b0, ⟨b1, b2⟩ | ⟨b1, b2, b3, b4, b5⟩⟩
  · unfold mvBad at a1 b1; simp at a1 b1; exact ⟨by omega, fun _ => a1.2.2.1⟩
  · exact absurd b0 a0
  · exact absurd b0 a0
  · exact absurd a0 b0
  · unfold mvBad at a2 b2; simp at a2 b2; exact ⟨by omega, fun _ => a2.2.2.1⟩
  · exact absurd b1 a1
  · exact absurd a0 b0
  · exact absurd a1 b1
  · exact ⟨by omega, fun h => absurd a4 h⟩
/-- what holds where both succeed -/
structure Dims (xs ys : List (List Int)) (p q : Int) (S M : List (List Int)) : Prop where
  sx : subB xs p q = true
  sy : subB ys p q = true
  ss : subB S p q = true
  sum : IsRref p q.toNat (xs ++ ys) S
  meet : Meet p q.toNat xs ys M
  dim : S.length + M.length = xs.length + ys.length
theorem dims_ok (h1 : res_SubspaceSum xs p q ys p1 q1 P Q R d) (h2 : res_SubspaceIntersection xs p q ys p1 q1 P2 Q2 R2 d2) (hd : d = 0) : P = p ∧ Q = q ∧ p1 = p ∧ q1 = q ∧ Dims xs ys p q R R2 := by
  rcases h1 with ⟨a0, a1⟩ | ⟨a0, ⟨a1, a2⟩ | ⟨a1, a2, a3, a4, a5⟩⟩
  · unfold mvBad at a1; simp at a1; omega
  · unfold mvBad at a2; simp at a2; omega
  · rcases h2 with ⟨b0, b1⟩ | ⟨b0, ⟨b1, b2⟩ | ⟨b1, b2, b3, b4, b5⟩⟩
    · exact absurd a0 b0
    · exact absurd a1 b1
    · obtain ⟨rfl, rfl⟩ := a1
      obtain ⟨mx, π, hx, _⟩ := subB_yes a0.1
      obtain ⟨my, σ, hy, _⟩ := subB_yes a0.2
      have hok := isMx_ok mx
      obtain ⟨τ, hs, hsp⟩ := id a5
      exact ⟨a2, a3, rfl, rfl, a0.1, a0.2, subB_rref hok.gp hok.q0 hok.q8 hs, a5, b5, dim_sum hok.gp hx hy a5 b5⟩
/-- an annihilator of a subspace -/
theorem ann_ok (h : res_Annihilator xs p q P Q R d) (hs : subB xs p q = true) : d = 0 ∧ P = p ∧ Q = q ∧ subB R p q = true ∧ NullR p xs.length (colsR xs q.toNat) R := by
  rcases h with ⟨h0, h1, h2, h3, h4⟩ | ⟨h0, _⟩
  · have hok := isMx_ok (subB_yes h0).1
    obtain ⟨piv, hr, _⟩ := h4.rref
    have hl : (colsR xs q.toNat).length = q.toNat := by first | exact colsR_len _ _ | simp [colsR]
    rw [hl] at hr
    exact ⟨h3, h1, h2, subB_rref hok.gp hok.q0 hok.q8 hr, h4⟩
  · rw [hs] at h0; cases h0
/-- the annihilator of the sum -/
theorem meet_ok {S M Na Nb C : List (List Int)} (hD : Dims xs ys p q S M) (ha : NullR p xs.length (colsR xs q.toNat) Na) (hb : NullR p ys.length (colsR ys q.toNat) Nb) (hc : NullR p S.length (colsR S q.toNat) C) (sa : subB Na p q = true) (sb : subB Nb p q = true) (h : res_SubspaceIntersection Na p q Nb p q P Q R d) : d = 0 ∧ P = p ∧ Q = q ∧ R = C := by
  have hx := isMx_ok (subB_yes hD.sx).1
  have wx := (subB_yes hD.sx).2.rws
  have wy := (subB_yes hD.sy).2.rws
  have hm := ann_meet wx wy ha hb hD.sum hc
  rcases h with ⟨b0, b1⟩ | ⟨b0, ⟨b1, b2⟩ | ⟨b1, b2, b3, b4, b5⟩⟩
  · exact absurd ⟨sa, sb⟩ b0
  · exact absurd ⟨rfl, rfl⟩ b1
  · exact ⟨b4, b2, b3, b5.unique hm hx.gp.bd.1⟩
/-- a complement -/
theorem comp_ok (h : res_StandardComplement xs p q P Q R d) (hs : subB xs p q = true) : d = 0 ∧ P = p ∧ Q = q ∧ subB R p q = true ∧ (R.length : Int) + xs.length = q ∧ ∃ piv, Rref p q.toNat xs piv ∧ R = compL piv xs.length q.toNat q.toNat := by
  rcases h with ⟨h0, h1, h2, h3, piv, h4, h5⟩ | ⟨h0, _⟩
  · have hok := isMx_ok (subB_yes h0).1
    obtain ⟨σ, hr⟩ := compL_rref hok.gp.bd.1 (π := piv) (r := xs.length) (q := q.toNat)
    have hl := comp_len h4
    refine ⟨h3, h1, h2, by rw [h5]; exact subB_rref hok.gp hok.q0 hok.q8 hr, ?_, piv, h4, h5⟩
    have := hok.q0
    rw [h5]; omega
  · rw [hs] at h0; cases h0
/-- .. and the whole space -/
theorem whole_ok {piv : Nat → Nat} {W : List (List Int)} (hs : subB xs p q = true) (hr : Rref p q.toNat xs piv) (hW : W = compL piv xs.length q.toNat q.toNat) (sw : subB W p q = true) (h : res_SubspaceSum xs p q W p q P Q R d) : d = 0 ∧ (R.length : Int) = q := by
  have hok := isMx_ok (subB_yes hs).1
  have h0 := hok.q0
  rcases h with ⟨b0, b1⟩ | ⟨b0, ⟨b1, b2⟩ | ⟨b1, b2, b3, b4, b5⟩⟩
  · exact absurd ⟨hs, sw⟩ b0
  · exact absurd ⟨rfl, rfl⟩ b1
  · rw [hW] at b5
    have := comp_whole hok.gp hr b5
    exact ⟨b4, by omega⟩
end
/-- how great the results are -/
theorem small_sum {xs ys : List (List Int)} {p q p1 q1 P Q d : Int} {R : List (List Int)} (h : res_SubspaceSum xs p q ys p1 q1 P Q R d) : I64 P ∧ I64 Q ∧ R.length ≤ 8 ∧ ∀ i, i < R.length → (rw_ R i).length ≤ 100 := by
  have bad : ∀ k : Int, (P, Q, R, d) = mvBad k → I64 P ∧ I64 Q ∧ R.length ≤ 8 ∧ ∀ i, i < R.length → (rw_ R i).length ≤ 100 := fun k e => by
    unfold mvBad at e; simp at e
    obtain ⟨e1, e2, e3, _⟩ := e
    subst e1 e2 e3
    exact ⟨by unfold I64; omega, by unfold I64; omega, by simp, fun i hi => by simp at hi⟩
  rcases h with ⟨_, e⟩ | ⟨a0, ⟨_, e⟩ | ⟨_, h2, h3, h4, h5⟩⟩
  · exact bad _ e
  · exact bad _ e
  · have hok := isMx_ok (subB_yes a0.1).1
    have hb := hok.gp.bd
    have h8 := hok.q8
    have h0 := hok.q0
    have hl := h5.len
    exact ⟨by unfold I64; omega, by unfold I64; omega, by omega, fun i hi => by rw [h5.row i hi]; omega⟩
theorem small_sub {R : List (List Int)} {p q : Int} (h : subB R p q = true) : I64 p ∧ I64 q ∧ R.length ≤ 8 ∧ ∀ i, i < R.length → (rw_ R i).length ≤ 100 := by
  have hok := isMx_ok (subB_yes h).1
  have hb := hok.gp.bd
  have h8 := hok.q8
  have h0 := hok.q0
  exact ⟨by unfold I64; omega, by unfold I64; omega, hok.len, fun i hi => by have := (hok.row i hi).1; omega⟩
theorem small_meet {xs ys : List (List Int)} {p q p1 q1 P Q d : Int} {R : List (List Int)} (h : res_SubspaceIntersection xs p q ys p1 q1 P Q R d) : I64 P ∧ I64 Q ∧ R.length ≤ 8 ∧ ∀ i, i < R.length → (rw_ R i).length ≤ 100 := by
  have bad : ∀ k : Int, (P, Q, R, d) = mvBad k → I64 P ∧ I64 Q ∧ R.length ≤ 8 ∧ ∀ i, i < R.length → (rw_ R i).length ≤ 100 := fun k e => by
    unfold mvBad at e; simp at e
    obtain ⟨e1, e2, e3, _⟩ := e
    subst e1 e2 e3
    exact ⟨by unfold I64; omega, by unfold I64; omega, by simp, fun i hi => by simp at hi⟩
  rcases h with ⟨_, e⟩ | ⟨a0, ⟨_, e⟩ | ⟨_, h2, h3, h4, piv, h5, _⟩⟩
  · exact bad _ e
  · exact bad _ e
  · have hok := isMx_ok (subB_yes a0.1).1
    have hs := small_sub (subB_rref hok.gp hok.q0 hok.q8 h5)
    rw [h2, h3]; exact hs
end Go.Proofs.Ytpkdgemnddcefaa
set_option linter.unusedVariables false
set_option linter.unusedSimpArgs false
namespace Go.Proofs.Ytpkdgemnddcefaa
open Go.RowKit
theorem Code0.of {w : World} {a : Option Addr} {m : Nat} {bs : List Int} (hl : bs.length = m) (hx : RdB w a bs) (hw : ∀ x ∈ bs, 0 ≤ x ∧ x ≤ 255) (hm : m ≤ 4096) : Code0 w a m bs :=
  ⟨hl, hx, fun i hi => hw _ (el_mem (by omega)), by omega⟩
set_option maxHeartbeats 400000 in
theorem big_t (a : Option Addr) (n c : Nat) (w : World) (h : 4096 < n) (hn : n ≤ maxLen) :
    Calls Try.prog 5 #[.slice a n c] w fun e w' => e = .returned (.bool true) ∧ w = w' := by
  unfold maxLen at hn
  go_enter Try.func5, Try.ntmps5
  go_wp2
  go_ret
  exact ⟨ret_bool (by simp; omega), rfl⟩
theorem big_f (a : Option Addr) (n c : Nat) (w : World) (h : n ≤ 4096) :
    Calls Try.prog 5 #[.slice a n c] w fun e w' => e = .returned (.bool false) ∧ w = w' := by
  go_enter Try.func5, Try.ntmps5
  go_wp2
  go_ret
  exact ⟨ret_bool (by simp; omega), rfl⟩
set_option maxHeartbeats 400000 in
theorem likeInts_t (a b : Option Addr) (n m ca cb : Nat) (xs : List Int) (w : World) (ha : RdI w a xs) (hb : RdI w b xs) (hn : xs.length = n) (hm : xs.length = m) (hl : n ≤ 1000000000000) :
    Calls Try.prog 57 #[.slice a n ca, .slice b m cb] w fun e w' => e = .returned (.bool true) ∧ Below w.heap.size w w' := by
  subst hn
  obtain rfl := hm
  have HA := Lib.hid ha
  have HB := Lib.hid hb
  clear ha hb
  go_enter Try.func57, Try.ntmps57
  go_wp2
  go_loopw [5] (fun i wr => ∃ k : Nat, k ≤ xs.length ∧ i = .int .i64 k ∧ ∃ n, wr = w.drewN n) (fun i _ => xs.length - (intOf i).toNat)
  case atStart => exact ⟨0, Nat.zero_le _, rfl, 0, rfl⟩
  case round =>
    obtain ⟨k, hk, rfl, n, rfl⟩ := hrel
    by_cases hlt : k < xs.length
    · obtain ⟨b1, o1, rfl, h1⟩ := HA.out (by omega)
      obtain ⟨b2, o2, rfl, h2⟩ := HB.out (by omega)
      have c1 := h1 k hlt
      have c2 := h2 k hlt
      clear h1 h2
      have hi : (k : Int) < xs.length := by omega
      go_wp2
      go_quiet (fail)
      go_wp2
      go_roundw
      case rel => exact ⟨k + 1, by omega, by go_num, n + nq, by simp⟩
      case measure => simp [intOf]; omega
    · go_wp2
      go_ret
      exact ⟨rfl, Below.ofDrew ⟨n, rfl⟩⟩
set_option maxHeartbeats 1000000 in
theorem like29_t (a b : Option Addr) (n ca cb : Nat) (xs : List (List Int)) (w : World) (ha : RdR w a xs) (hb : RdR w b xs) (hn : xs.length = n) (hl : n ≤ 1000) (hx : ∀ i, i < n → (rw_ xs i).length ≤ 1000) :
    Calls Try.prog 28 #[.slice a n ca, .slice b n cb] w fun e w' => e = .returned (.bool true) ∧ Below w.heap.size w w' := by
  subst hn
  have HA := Lib.hid ha
  have HB := Lib.hid hb
  have HX := Lib.hid hx
  clear ha hb hx
  go_enter Try.func28, Try.ntmps28
  go_wp2
  go_loopw [5] (fun i wr => ∃ k : Nat, k ≤ xs.length ∧ i = .int .i64 k ∧ Hid (Below w.heap.size w wr)) (fun i _ => xs.length - (intOf i).toNat)
  case atStart => exact ⟨0, Nat.zero_le _, rfl, Lib.hid (Below.refl _ _)⟩
  case round =>
    obtain ⟨k, hk, rfl, HW⟩ := hrel
    obtain ⟨wi, rfl⟩ : ∃ x, x = wr := ⟨wr, rfl⟩
    by_cases hlt : k < xs.length
    · obtain ⟨b1, o1, rfl, h1⟩ := HA.out.keep HW.out (Nat.le_refl _) (by omega)
      obtain ⟨b2, o2, rfl, h2⟩ := HB.out.keep HW.out (Nat.le_refl _) (by omega)
      obtain ⟨a1, c1, e1, r1, _⟩ := h1 k hlt
      obtain ⟨a2, c2, e2, r2, _⟩ := h2 k hlt
      have HR1 := Lib.hid r1
      have HR2 := Lib.hid r2
      have hxk : (rw_ xs k).length ≤ 1000 := HX.out k hlt
      clear h1 h2 r1 r2
      have hi : (k : Int) < xs.length := by omega
      go_wp2_with fail
      go_region_law (first | (go_simp; go_at_call 57; refine (likeInts_t _ _ _ _ _ _ (rw_ xs k) _ (by exact HR1.out.same (fun _ _ => rfl)) (by exact HR2.out.same (fun _ _ => rfl)) rfl rfl (by omega)).mono ?_; rintro e w2 ⟨rfl, hb0⟩; have HB2 : Hid (Below w.heap.size w w2) := Lib.hid (HW.out.trans (Below.mono (B' := w.heap.size) ⟨hb0.os, hb0.tape, hb0.output, hb0.size, hb0.block⟩ HW.out.size)); clear hb0))
      all_goals
        go_wp2_with fail
        go_roundw
        case rel => exact ⟨k + 1, by omega, by go_num, HB2⟩
        case measure => simp [intOf]; omega
    · have hi : ¬ (k : Int) < xs.length := by omega
      go_wp2_with fail
      go_ret
      exact ⟨rfl, HW.out⟩
set_option maxHeartbeats 1000000 in
theorem likeM9_t (p q : Int) (a b : Option Addr) (n ca cb : Nat) (xs : List (List Int)) (w : World) (ha : RdR w a xs) (hb : RdR w b xs) (hn : xs.length = n) (hl : n ≤ 1000) (hx : ∀ i, i < n → (rw_ xs i).length ≤ 1000) :
    Calls Try.prog 10 #[.agg #[.int .i64 p, .int .i64 q, .slice a n ca], .agg #[.int .i64 p, .int .i64 q, .slice b n cb]] w fun e w' => e = .returned (.bool true) ∧ Below w.heap.size w w' := by
  have HA := Lib.hid ha
  have HB := Lib.hid hb
  have HX := Lib.hid hx
  have HN := Lib.hid hn
  clear ha hb hx hn
  go_enter Try.func10, Try.ntmps10
  go_wp2_with fail
  have hb0 : Below w.heap.size w ((w.alloc (.cells #[.int .i64 p, .int .i64 q, .slice a n ca] 26)).alloc (.cells #[.int .i64 p, .int .i64 q, .slice b n cb] 26)) := ((Below.refl _ _).alloc (Nat.le_refl _) _).alloc (by simp) _
  refine (like29_t a b n ca cb xs _ (by exact HA.out.keep hb0 (Nat.le_refl _)) (by exact HB.out.keep hb0 (Nat.le_refl _)) HN.out hl HX.out).mono ?_
  rintro e w2 ⟨rfl, hb⟩
  have HB2 := Lib.hid (hb0.trans (hb.mono hb0.size))
  clear hb hb0
  go_wp2_with fail
  go_ret
  exact ⟨rfl, HB2.out⟩
end Go.Proofs.Ytpkdgemnddcefaa
set_option linter.unusedVariables false
set_option linter.unusedSimpArgs false
namespace Go.Proofs.Ytpkdgemnddcefaa
open Go.RowKit
/-- a matrix of few rows and columns that is read -/
structure SmallM (w : World) (p q : Int) (a : Option Addr) (n c : Nat) (xs : List (List Int)) : Prop where
  ip : I64 p
  iq : I64 q
  rd : RdR w a xs
  len : xs.length = n
  cap : n ≤ c
  nl : n ≤ 100
  xl : ∀ i, i < n → (rw_ xs i).length ≤ 100
theorem SmallM.keep {B : Nat} {w w2 : World} {p q : Int} {a : Option Addr} {n c : Nat} {xs : List (List Int)} (h : SmallM w p q a n c xs) (hb : Below B w w2) (hB : w.heap.size ≤ B) : SmallM w2 p q a n c xs := ⟨h.ip, h.iq, h.rd.keep hb hB, h.len, h.cap, h.nl, h.xl⟩
theorem MadeR.likeM {T1 T2 : TypeId} {w w2 : World} {B : Nat} {a : Option Addr} {n cap : Nat} {xs : List (List Int)} (h : MadeR T1 T2 w B a n cap xs) (h1 : w2.heap = w.heap) : MadeR T1 T2 w2 B a n cap xs := by
  obtain ⟨A, C, h⟩ := h
  exact ⟨A, C, h.same (fun p hp => by rw [h1]) (fun i hi p hp => by rw [h1])⟩
def DrawnTwo (w : World) (e : Ending) (w' : World) : Prop :=
  ∃ (p q : Int) (a : Option Addr) (n c : Nat) (xs : List (List Int)) (p1 q1 : Int) (a1 : Option Addr) (n1 c1 : Nat) (xs1 : List (List Int)), e = .returned (.tuple #[.agg #[.int .i64 p, .int .i64 q, .slice a n c], .agg #[.int .i64 p1, .int .i64 q1, .slice a1 n1 c1]]) ∧ SmallM w' p q a n c xs ∧ SmallM w' p1 q1 a1 n1 c1 xs1 ∧ Below w.heap.size w w'
set_option maxRecDepth 20000 in
set_option maxHeartbeats 4000000 in
theorem DrawSubspaceSum_any (a : Option Addr) (m c : Nat) (bs : List Int) (w : World) (hs : Code0 w a m bs) (hmc : m ≤ c) :
    Calls Try.prog 6 #[.slice a m c] w (DrawnTwo w) := by
  have HS := Lib.hid hs
  clear hs
  go_enter Try.func6, Try.ntmps6
  go_wp2_with fail
  obtain ⟨W, hW⟩ : ∃ W, W = (w.alloc (.cells #[.int .i64 0, .int .i64 0, .slice none 0 0] 26)).alloc (.cells #[.int .i64 0, .int .i64 0, .slice none 0 0] 26) := ⟨_, rfl⟩
  rw [← hW]
  have HRA : Hid (BX 26 W w.heap.size #[.int .i64 0, .int .i64 0, .slice none 0 0]) := Lib.hid (by rw [hW]; exact (BX.new _ _ _).alloc _)
  have HRB : Hid (BX 26 W (w.heap.size + 1) #[.int .i64 0, .int .i64 0, .slice none 0 0]) := Lib.hid (by rw [hW]; have := BX.new (w.alloc (.cells #[.int .i64 0, .int .i64 0, .slice none 0 0] 26)) 26 #[.int .i64 0, .int .i64 0, .slice none 0 0]; simp at this; exact this)
  have HB0 : Hid (Below w.heap.size w W) := Lib.hid (by rw [hW]; exact ((Below.refl _ _).alloc (Nat.le_refl _) _).alloc (by simp) _)
  have sW : W.heap.size = w.heap.size + 2 := by rw [hW]; simp
  clear hW
  refine (l01From_any a m c bs W (by exact ⟨HS.out.len, HS.out.rd.keep HB0.out (Nat.le_refl _), HS.out.rng, HS.out.sm⟩) hmc).mono ?_
  rintro e w1 ⟨rfl, hs, hb⟩
  rw [sW] at hs
  have HS1 := Lib.hid hs
  have HRA1 := Lib.hid (HRA.out.keep hb)
  have HRB1 := Lib.hid (HRB.out.keep hb)
  have HB1 : Hid (Below w.heap.size w w1) := Lib.hid (HB0.out.trans (hb.mono HB0.out.size))
  have s1 := hs.lt
  clear hs hb HRA HRB HB0
  go_wp2_with fail
  refine (l03Draw_any (w.heap.size + 2) a m c bs w1 HS1.out hmc).mono ?_
  rintro e w2 hpost
  unfold DrawnM at hpost
  obtain ⟨p, q, au, nu, cu, xs, rfl, hp, hq, hm, hn, hx, hs, hc⟩ := hpost
  have s2 := hc.size
  obtain ⟨w3, hw3⟩ : ∃ x, x = w2.alloc (.cells #[.int .i64 p, .int .i64 q, .slice au nu cu] 26) := ⟨_, rfl⟩
  have HS3 := Lib.hid (by rw [hw3]; exact hs.al _ : Src w3 (w.heap.size + 2) a m c bs)
  have HM3 : Hid (MadeR 52 2 w3 w1.heap.size au nu cu xs) := Lib.hid (by rw [hw3]; exact hm.alloc _)
  have HU3 : Hid (BX 26 w3 w2.heap.size #[.int .i64 p, .int .i64 q, .slice au nu cu]) := Lib.hid (by rw [hw3]; exact BX.new _ _ _)
  have HRA3 : Hid (BX 26 w3 w.heap.size #[.int .i64 0, .int .i64 0, .slice none 0 0]) := Lib.hid (by rw [hw3]; exact (HRA1.out.chg hc (by omega)).alloc _)
  have HRB3 : Hid (BX 26 w3 (w.heap.size + 1) #[.int .i64 0, .int .i64 0, .slice none 0 0]) := Lib.hid (by rw [hw3]; exact (HRB1.out.chg hc (by omega)).alloc _)
  have HB3 : Hid (Below w.heap.size w w3) := Lib.hid (by rw [hw3]; exact (HB1.out.trans (hc.up (by omega) (by omega))).alloc (by omega) _)
  have HP := Lib.hid hp
  have HQ := Lib.hid hq
  have HX := Lib.hid hx
  have s3 : w3.heap.size = w2.heap.size + 1 := by rw [hw3]; simp
  clear hp hq hm hx hs hc HRA1 HRB1 HB1
  go_wp2_with fail
  rw [← hw3]
  clear hw3
  have y0 := HU3.out.cell 0
  have y1 := HU3.out.cell 1
  have y2 := HU3.out.cell 2
  have ly := HU3.out.lt
  simp at y0 y1 y2
  have hl3 : w.heap.size + 2 < w1.heap.size := s1
  have hne0 : w2.heap.size ≠ w.heap.size := by omega
  have hne1 : w2.heap.size ≠ w.heap.size + 1 := by omega
  go_region_law (first
    | (go_simp; go_at_call 21; (refine (l03Partner_any (w.heap.size + 2) a m c bs p q au nu cu xs w1.heap.size _ (by exact HS3.out.like rfl) hmc HP.out HQ.out (by exact HM3.out.likeM rfl) hl3 hn HX.out).mono ?_; rintro e w4 hpost; unfold DrawnM at hpost; obtain ⟨p', q', av, nv, cv, ys, rfl, hp', hq', hm', hn', hx', hs', hc0⟩ := hpost; have hc : Chg (fun j => j = w.heap.size + 2) w3 w4 := ⟨hc0.os, hc0.tape, hc0.output, hc0.size, hc0.block⟩; have s4 := hc.size; have HU4 := Lib.hid (HU3.out.chg hc (by omega)); have HRA4 := Lib.hid (HRA3.out.chg hc (by omega)); have HRB4 := Lib.hid (HRB3.out.chg hc (by omega)); have HM4 := Lib.hid (HM3.out.kept hc (fun k hk e => by omega)); have HV4 : Hid (MadeR 52 2 w4 w3.heap.size av nv cv ys) := Lib.hid hm'; have HB4 : Hid (Below w.heap.size w w4) := Lib.hid (HB3.out.trans (hc.up (by omega) (by omega))); have HP' := Lib.hid hp'; have HQ' := Lib.hid hq'; have HX' := Lib.hid hx'; have y04 := HU4.out.cell 0; have y14 := HU4.out.cell 1; have y24 := HU4.out.cell 2; have ly4 := HU4.out.lt; have r0 := HRA4.out.cell 0; have r1 := HRA4.out.cell 1; have r2 := HRA4.out.cell 2; have r3 := HRB4.out.cell 0; have r4 := HRB4.out.cell 1; have r5 := HRB4.out.cell 2; have f0 := HRA4.out.frz 0; have f1 := HRA4.out.frz 1; have f2 := HRA4.out.frz 2; have f3 := HRB4.out.frz 0; have f4 := HRB4.out.frz 1; have f5 := HRB4.out.frz 2; have l0 := HRA4.out.lt; have l1 := HRB4.out.lt; simp at y04 y14 y24 r0 r1 r2 r3 r4 r5; clear hp' hq' hm' hx' hs' hc0 hc)))
  all_goals
    have A0 := ((((HRA4.out.set 0 (.int .i64 p)).set 1 (.int .i64 q)).set 2 (.slice au nu cu)).other (p := ⟨w.heap.size + 1, 0, none⟩) (by simp) (.int .i64 p') |>.other (p := ⟨w.heap.size + 1, 1, none⟩) (by simp) (.int .i64 q')).other (p := ⟨w.heap.size + 1, 2, none⟩) (by simp) (.slice av nv cv)
    have B0 := (((((HRB4.out.other (p := ⟨w.heap.size, 0, none⟩) (by simp) (.int .i64 p)).other (p := ⟨w.heap.size, 1, none⟩) (by simp) (.int .i64 q)).other (p := ⟨w.heap.size, 2, none⟩) (by simp) (.slice au nu cu)).set 0 (.int .i64 p')).set 1 (.int .i64 q')).set 2 (.slice av nv cv)
    have u0 := A0.cell 0
    have u1 := A0.cell 1
    have u2 := A0.cell 2
    have u3 := B0.cell 0
    have u4 := B0.cell 1
    have u5 := B0.cell 2
    simp at u0 u1 u2 u3 u4 u5
    have hbz : Below w.heap.size w4 ((((((w4.setCell ⟨w.heap.size, 0, none⟩ (.int .i64 p)).setCell ⟨w.heap.size, 1, none⟩ (.int .i64 q)).setCell ⟨w.heap.size, 2, none⟩ (.slice au nu cu)).setCell ⟨w.heap.size + 1, 0, none⟩ (.int .i64 p')).setCell ⟨w.heap.size + 1, 1, none⟩ (.int .i64 q')).setCell ⟨w.heap.size + 1, 2, none⟩ (.slice av nv cv)) := ((((((Below.refl _ _).setCell (p := ⟨w.heap.size, 0, none⟩) (Nat.le_refl _) _).setCell (p := ⟨w.heap.size, 1, none⟩) (Nat.le_refl _) _).setCell (p := ⟨w.heap.size, 2, none⟩) (Nat.le_refl _) _).setCell (p := ⟨w.heap.size + 1, 0, none⟩) (show w.heap.size ≤ w.heap.size + 1 by omega) _).setCell (p := ⟨w.heap.size + 1, 1, none⟩) (show w.heap.size ≤ w.heap.size + 1 by omega) _).setCell (p := ⟨w.heap.size + 1, 2, none⟩) (show w.heap.size ≤ w.heap.size + 1 by omega) _
    have HMZ := Lib.hid ((((((HM4.out.setLow ⟨w.heap.size, 0, none⟩ (by simp; omega) (.int .i64 p)).setLow ⟨w.heap.size, 1, none⟩ (by simp; omega) (.int .i64 q)).setLow ⟨w.heap.size, 2, none⟩ (by simp; omega) (.slice au nu cu)).setLow ⟨w.heap.size + 1, 0, none⟩ (by simp; omega) (.int .i64 p')).setLow ⟨w.heap.size + 1, 1, none⟩ (by simp; omega) (.int .i64 q')).setLow ⟨w.heap.size + 1, 2, none⟩ (by simp; omega) (.slice av nv cv))
    have HVZ := Lib.hid ((((((HV4.out.setLow ⟨w.heap.size, 0, none⟩ (by simp; omega) (.int .i64 p)).setLow ⟨w.heap.size, 1, none⟩ (by simp; omega) (.int .i64 q)).setLow ⟨w.heap.size, 2, none⟩ (by simp; omega) (.slice au nu cu)).setLow ⟨w.heap.size + 1, 0, none⟩ (by simp; omega) (.int .i64 p')).setLow ⟨w.heap.size + 1, 1, none⟩ (by simp; omega) (.int .i64 q')).setLow ⟨w.heap.size + 1, 2, none⟩ (by simp; omega) (.slice av nv cv))
    have HBZ := Lib.hid (HB4.out.trans hbz)
    clear A0 B0 hbz
    go_wp2_with fail
    refine bodyPost_ret (v := .tuple #[.agg #[.int .i64 p, .int .i64 q, .slice au nu cu], .agg #[.int .i64 p', .int .i64 q', .slice av nv cv]]) (by simp [results, Try.results6, go_sem, u0, u1, u2, u3, u4, u5]) rfl (by unfold DrawnTwo; exact ⟨p, q, au, nu, cu, xs, p', q', av, nv, cv, ys, rfl, ⟨HP.out, HQ.out, HMZ.out.rd, HMZ.out.len, HMZ.out.capl, hn, HX.out⟩, ⟨HP'.out, HQ'.out, HVZ.out.rd, HVZ.out.len, HVZ.out.capl, hn', HX'.out⟩, HBZ.out⟩)
end Go.Proofs.Ytpkdgemnddcefaa
set_option linter.unusedVariables false
set_option linter.unusedSimpArgs false
namespace Go.Proofs.Ytpkdgemnddcefaa
open Go.RowKit
theorem SmallM.al {w : World} {p q : Int} {a : Option Addr} {n c : Nat} {xs : List (List Int)} (h : SmallM w p q a n c xs) (ob : Obj) : SmallM (w.alloc ob) p q a n c xs := h.keep ((Below.refl w.heap.size w).alloc (Nat.le_refl _) ob) (Nat.le_refl _)
theorem SmallM.xm {w : World} {p q : Int} {a : Option Addr} {n c : Nat} {xs : List (List Int)} (h : SmallM w p q a n c xs) : ∀ i, i < n → (rw_ xs i).length ≤ 1048576 := fun i hi => Nat.le_trans (h.xl i hi) (by omega)
theorem SmallM.nm {w : World} {p q : Int} {a : Option Addr} {n c : Nat} {xs : List (List Int)} (h : SmallM w p q a n c xs) : n ≤ 1048576 := Nat.le_trans h.nl (by omega)
set_option maxRecDepth 20000 in
set_option maxHeartbeats 8000000 in
theorem law_Dimensions (a0 : Option Addr) (n0 c0 : Nat) (bs : List Int) (w : World) (hl : bs.length = n0) (hx : RdB w a0 bs) (hw : ∀ x ∈ bs, 0 ≤ x ∧ x ≤ 255) (hc : n0 ≤ c0) (hm : n0 ≤ maxLen) :
    Calls Try.prog 3 #[.slice a0 n0 c0] w fun e w' => e = .returned (.bool true) ∧ Below w.heap.size w w' := by
  by_cases hbig : 4096 < n0
  · clear hx hw
    go_enter Try.func3, Try.ntmps3
    go_wp2_with (go_at_call 5; refine (big_t _ _ _ _ hbig hm).mono ?_; rintro e w' ⟨rfl, rfl⟩)
    go_ret
    exact ⟨rfl, Below.refl _ _⟩
  have hs : n0 ≤ 4096 := by omega
  have HS := Lib.hid (Code0.of hl hx hw hs)
  clear hl hx hw hm hbig
  go_enter Try.func3, Try.ntmps3
  go_wp2_with (go_at_call 5; refine (big_f _ _ _ _ hs).mono ?_; rintro e w' ⟨rfl, rfl⟩)
  refine (DrawSubspaceSum_any a0 n0 c0 bs w HS.out hc).mono ?_
  rintro e w1 hpost
  unfold DrawnTwo at hpost
  obtain ⟨p, q, au, nu, cu, xs, p1, q1, av, nv, cv, ys, rfl, hU, hV, hb⟩ := hpost
  have HU1 := Lib.hid hU
  have HV1 := Lib.hid hV
  have HB1 := Lib.hid hb
  clear hU hV hb HS
  go_wp2_with fail
  obtain ⟨w2, hw2⟩ : ∃ x, x = (w1.alloc (.cells #[.int .i64 p, .int .i64 q, .slice au nu cu] 26)).alloc (.cells #[.int .i64 p1, .int .i64 q1, .slice av nv cv] 26) := ⟨_, rfl⟩
  rw [← hw2]
  have HBu_2 : Hid (BX 26 w2 w1.heap.size #[.int .i64 p, .int .i64 q, .slice au nu cu]) := Lib.hid (by rw [hw2]; exact (BX.new _ _ _).alloc _)
  have HBv_2 : Hid (BX 26 w2 (w1.heap.size + 1) #[.int .i64 p1, .int .i64 q1, .slice av nv cv]) := Lib.hid (by rw [hw2]; have := BX.new (w1.alloc (.cells #[.int .i64 p, .int .i64 q, .slice au nu cu] 26)) 26 #[.int .i64 p1, .int .i64 q1, .slice av nv cv]; simp at this; exact this)
  have HDu_2 : Hid (SmallM w2 p q au nu cu xs) := Lib.hid (by rw [hw2]; exact (HU1.out.al _).al _)
  have HDv_2 : Hid (SmallM w2 p1 q1 av nv cv ys) := Lib.hid (by rw [hw2]; exact (HV1.out.al _).al _)
  have HW_2 : Hid (Below w.heap.size w w2) := Lib.hid (by rw [hw2]; exact (HB1.out.alloc HB1.out.size _).alloc (Nat.le_trans HB1.out.size (by simp)) _)
  clear hw2 HU1 HV1 HB1
  refine (impl_SubspaceSum_any p q au nu cu xs p1 q1 av nv cv ys _ HDu_2.out.ip HDu_2.out.iq (by exact HDu_2.out.rd) HDu_2.out.len HDu_2.out.xm HDu_2.out.nm HDu_2.out.cap HDv_2.out.ip HDv_2.out.iq (by exact HDv_2.out.rd) HDv_2.out.len HDv_2.out.xm HDv_2.out.nm HDv_2.out.cap).mono ?_
  rintro e w3 ⟨P, Q, S, d, as', cs, rfl, h1, ho, hb⟩
  have HBu_3 := Lib.hid (BX.keep HBu_2.out hb)
  have HBv_3 := Lib.hid (BX.keep HBv_2.out hb)
  have HDu_3 := Lib.hid (SmallM.keep HDu_2.out hb (Nat.le_refl _))
  have HDv_3 := Lib.hid (SmallM.keep HDv_2.out hb (Nat.le_refl _))
  have HW_3 : Hid (Below w.heap.size w w3) := Lib.hid (HW_2.out.trans (hb.mono HW_2.out.size))
  clear HBu_2 HBv_2 HDu_2 HDv_2 HW_2
  have HDs_3 : Hid (SmallM w3 P Q as' S.length cs S) := Lib.hid ⟨(small_sum h1).1, (small_sum h1).2.1, ho.rd, rfl, ho.capl, Nat.le_trans (small_sum h1).2.2.1 (by omega), (small_sum h1).2.2.2⟩
  have H1 := Lib.hid h1
  clear h1 ho hb
  have yu0 := HBu_3.out.cell 0
  have yu1 := HBu_3.out.cell 1
  have yu2 := HBu_3.out.cell 2
  have lu := HBu_3.out.lt
  have yv0 := HBv_3.out.cell 0
  have yv1 := HBv_3.out.cell 1
  have yv2 := HBv_3.out.cell 2
  have lv := HBv_3.out.lt
  simp at yu0 yu1 yu2 yv0 yv1 yv2
  go_wp2_with fail
  refine (impl_SubspaceIntersection_any p q au nu cu xs p1 q1 av nv cv ys _ (HDu_3.out.al (.cells #[.int .i64 P, .int .i64 Q, .slice as' S.length cs] 26)).ip (HDu_3.out.al (.cells #[.int .i64 P, .int .i64 Q, .slice as' S.length cs] 26)).iq (by exact (HDu_3.out.al (.cells #[.int .i64 P, .int .i64 Q, .slice as' S.length cs] 26)).rd) (HDu_3.out.al (.cells #[.int .i64 P, .int .i64 Q, .slice as' S.length cs] 26)).len (HDu_3.out.al (.cells #[.int .i64 P, .int .i64 Q, .slice as' S.length cs] 26)).xm (HDu_3.out.al (.cells #[.int .i64 P, .int .i64 Q, .slice as' S.length cs] 26)).nm (HDu_3.out.al (.cells #[.int .i64 P, .int .i64 Q, .slice as' S.length cs] 26)).cap (HDv_3.out.al (.cells #[.int .i64 P, .int .i64 Q, .slice as' S.length cs] 26)).ip (HDv_3.out.al (.cells #[.int .i64 P, .int .i64 Q, .slice as' S.length cs] 26)).iq (by exact (HDv_3.out.al (.cells #[.int .i64 P, .int .i64 Q, .slice as' S.length cs] 26)).rd) (HDv_3.out.al (.cells #[.int .i64 P, .int .i64 Q, .slice as' S.length cs] 26)).len (HDv_3.out.al (.cells #[.int .i64 P, .int .i64 Q, .slice as' S.length cs] 26)).xm (HDv_3.out.al (.cells #[.int .i64 P, .int .i64 Q, .slice as' S.length cs] 26)).nm (HDv_3.out.al (.cells #[.int .i64 P, .int .i64 Q, .slice as' S.length cs] 26)).cap).mono ?_
  rintro e w4 ⟨P2, Q2, M, d2, am, cm, rfl, h2, ho, hb⟩
  clear yu0 yu1 yu2 lu yv0 yv1 yv2 lv
  have HBu_4 := Lib.hid (BX.keep (HBu_3.out.alloc (.cells #[.int .i64 P, .int .i64 Q, .slice as' S.length cs] 26)) hb)
  have HBv_4 := Lib.hid (BX.keep (HBv_3.out.alloc (.cells #[.int .i64 P, .int .i64 Q, .slice as' S.length cs] 26)) hb)
  have HBs_4 : Hid (BX 26 w4 w3.heap.size #[.int .i64 P, .int .i64 Q, .slice as' S.length cs]) := Lib.hid ((BX.new w3 26 #[.int .i64 P, .int .i64 Q, .slice as' S.length cs]).keep hb)
  have HDu_4 := Lib.hid (SmallM.keep (HDu_3.out.al (.cells #[.int .i64 P, .int .i64 Q, .slice as' S.length cs] 26)) hb (Nat.le_refl _))
  have HDv_4 := Lib.hid (SmallM.keep (HDv_3.out.al (.cells #[.int .i64 P, .int .i64 Q, .slice as' S.length cs] 26)) hb (Nat.le_refl _))
  have HDs_4 := Lib.hid (SmallM.keep (HDs_3.out.al (.cells #[.int .i64 P, .int .i64 Q, .slice as' S.length cs] 26)) hb (Nat.le_refl _))
  have HW_4 : Hid (Below w.heap.size w w4) := Lib.hid ((HW_3.out.alloc HW_3.out.size (.cells #[.int .i64 P, .int .i64 Q, .slice as' S.length cs] 26)).trans (hb.mono (Nat.le_trans HW_3.out.size (by simp))))
  clear HBu_3 HBv_3 HDu_3 HDv_3 HDs_3 HW_3
  have HDm_4 : Hid (SmallM w4 P2 Q2 am M.length cm M) := Lib.hid ⟨(small_meet h2).1, (small_meet h2).2.1, ho.rd, rfl, ho.capl, Nat.le_trans (small_meet h2).2.2.1 (by omega), (small_meet h2).2.2.2⟩
  obtain ⟨hdd, hS0⟩ := dims_code H1.out h2
  subst hdd
  have HS0 := Lib.hid hS0
  have H2 := Lib.hid h2
  clear h2 ho hb hS0
  have yu0 := HBu_4.out.cell 0
  have yu1 := HBu_4.out.cell 1
  have yu2 := HBu_4.out.cell 2
  have lu := HBu_4.out.lt
  have yv0 := HBv_4.out.cell 0
  have yv1 := HBv_4.out.cell 1
  have yv2 := HBv_4.out.cell 2
  have lv := HBv_4.out.lt
  have ys0 := HBs_4.out.cell 0
  have ys1 := HBs_4.out.cell 1
  have ys2 := HBs_4.out.cell 2
  have ls := HBs_4.out.lt
  simp at yu0 yu1 yu2 yv0 yv1 yv2 ys0 ys1 ys2
  go_wp2_with fail
  refine (spec_SubspaceIntersection_any p q au nu cu xs p1 q1 av nv cv ys _ (HDu_4.out.al (.cells #[.int .i64 P2, .int .i64 Q2, .slice am M.length cm] 26)).ip (HDu_4.out.al (.cells #[.int .i64 P2, .int .i64 Q2, .slice am M.length cm] 26)).iq (by exact (HDu_4.out.al (.cells #[.int .i64 P2, .int .i64 Q2, .slice am M.length cm] 26)).rd) (HDu_4.out.al (.cells #[.int .i64 P2, .int .i64 Q2, .slice am M.length cm] 26)).len (HDu_4.out.al (.cells #[.int .i64 P2, .int .i64 Q2, .slice am M.length cm] 26)).xm (HDu_4.out.al (.cells #[.int .i64 P2, .int .i64 Q2, .slice am M.length cm] 26)).nm (HDu_4.out.al (.cells #[.int .i64 P2, .int .i64 Q2, .slice am M.length cm] 26)).cap (HDv_4.out.al (.cells #[.int .i64 P2, .int .i64 Q2, .slice am M.length cm] 26)).ip (HDv_4.out.al (.cells #[.int .i64 P2, .int .i64 Q2, .slice am M.length cm] 26)).iq (by exact (HDv_4.out.al (.cells #[.int .i64 P2, .int .i64 Q2, .slice am M.length cm] 26)).rd) (HDv_4.out.al (.cells #[.int .i64 P2, .int .i64 Q2, .slice am M.length cm] 26)).len (HDv_4.out.al (.cells #[.int .i64 P2, .int .i64 Q2, .slice am M.length cm] 26)).xm (HDv_4.out.al (.cells #[.int .i64 P2, .int .i64 Q2, .slice am M.length cm] 26)).nm (HDv_4.out.al (.cells #[.int .i64 P2, .int .i64 Q2, .slice am M.length cm] 26)).cap).mono ?_
  rintro e w5 ⟨P3, Q3, M3, d3, ar, cr, rfl, h3, ho, hb⟩
  clear yu0 yu1 yu2 lu yv0 yv1 yv2 lv ys0 ys1 ys2 ls
  have HBu_5 := Lib.hid (BX.keep (HBu_4.out.alloc (.cells #[.int .i64 P2, .int .i64 Q2, .slice am M.length cm] 26)) hb)
  have HBv_5 := Lib.hid (BX.keep (HBv_4.out.alloc (.cells #[.int .i64 P2, .int .i64 Q2, .slice am M.length cm] 26)) hb)
  have HBs_5 := Lib.hid (BX.keep (HBs_4.out.alloc (.cells #[.int .i64 P2, .int .i64 Q2, .slice am M.length cm] 26)) hb)
  have HBm_5 : Hid (BX 26 w5 w4.heap.size #[.int .i64 P2, .int .i64 Q2, .slice am M.length cm]) := Lib.hid ((BX.new w4 26 #[.int .i64 P2, .int .i64 Q2, .slice am M.length cm]).keep hb)
  have HDu_5 := Lib.hid (SmallM.keep (HDu_4.out.al (.cells #[.int .i64 P2, .int .i64 Q2, .slice am M.length cm] 26)) hb (Nat.le_refl _))
  have HDv_5 := Lib.hid (SmallM.keep (HDv_4.out.al (.cells #[.int .i64 P2, .int .i64 Q2, .slice am M.length cm] 26)) hb (Nat.le_refl _))
  have HDs_5 := Lib.hid (SmallM.keep (HDs_4.out.al (.cells #[.int .i64 P2, .int .i64 Q2, .slice am M.length cm] 26)) hb (Nat.le_refl _))
  have HDm_5 := Lib.hid (SmallM.keep (HDm_4.out.al (.cells #[.int .i64 P2, .int .i64 Q2, .slice am M.length cm] 26)) hb (Nat.le_refl _))
  have HW_5 : Hid (Below w.heap.size w w5) := Lib.hid ((HW_4.out.alloc HW_4.out.size (.cells #[.int .i64 P2, .int .i64 Q2, .slice am M.length cm] 26)).trans (hb.mono (Nat.le_trans HW_4.out.size (by simp))))
  clear HBu_4 HBv_4 HBs_4 HDu_4 HDv_4 HDs_4 HDm_4 HW_4
  obtain ⟨rfl, rfl, rfl, rfl⟩ := res_SubspaceIntersection_uniq H2.out h3
  have HDr_5 : Hid (SmallM w5 P2 Q2 ar M.length cr M) := Lib.hid ⟨(small_meet h3).1, (small_meet h3).2.1, ho.rd, rfl, ho.capl, Nat.le_trans (small_meet h3).2.2.1 (by omega), (small_meet h3).2.2.2⟩
  clear h3 ho hb
  have yu0 := HBu_5.out.cell 0
  have yu1 := HBu_5.out.cell 1
  have yu2 := HBu_5.out.cell 2
  have lu := HBu_5.out.lt
  have yv0 := HBv_5.out.cell 0
  have yv1 := HBv_5.out.cell 1
  have yv2 := HBv_5.out.cell 2
  have lv := HBv_5.out.lt
  have ys0 := HBs_5.out.cell 0
  have ys1 := HBs_5.out.cell 1
  have ys2 := HBs_5.out.cell 2
  have ls := HBs_5.out.lt
  have ym0 := HBm_5.out.cell 0
  have ym1 := HBm_5.out.cell 1
  have ym2 := HBm_5.out.cell 2
  have lm := HBm_5.out.lt
  simp at yu0 yu1 yu2 yv0 yv1 yv2 ys0 ys1 ys2 ym0 ym1 ym2
  have e1 : (d2 != d2) = false := by simp
  have hMl : M.length ≤ 100 := HDm_5.out.nl
  have hSl : S.length ≤ 100 := HDs_5.out.nl
  go_wp2_with fail
  refine (likeM9_t P2 Q2 am ar M.length cm cr M _ (by exact (HDm_5.out.al (.cells #[.int .i64 P2, .int .i64 Q2, .slice ar M.length cr] 26)).rd) (by exact (HDr_5.out.al (.cells #[.int .i64 P2, .int .i64 Q2, .slice ar M.length cr] 26)).rd) rfl (by omega) (fun i hi => Nat.le_trans ((HDm_5.out.al (.cells #[.int .i64 P2, .int .i64 Q2, .slice ar M.length cr] 26)).xl i hi) (by omega))).mono ?_
  rintro e w6 ⟨rfl, hb⟩
  clear yu0 yu1 yu2 lu yv0 yv1 yv2 lv ys0 ys1 ys2 ls ym0 ym1 ym2 lm
  have HBu_6 := Lib.hid (BX.keep (HBu_5.out.alloc (.cells #[.int .i64 P2, .int .i64 Q2, .slice ar M.length cr] 26)) hb)
  have HBv_6 := Lib.hid (BX.keep (HBv_5.out.alloc (.cells #[.int .i64 P2, .int .i64 Q2, .slice ar M.length cr] 26)) hb)
  have HBs_6 := Lib.hid (BX.keep (HBs_5.out.alloc (.cells #[.int .i64 P2, .int .i64 Q2, .slice ar M.length cr] 26)) hb)
  have HBm_6 := Lib.hid (BX.keep (HBm_5.out.alloc (.cells #[.int .i64 P2, .int .i64 Q2, .slice ar M.length cr] 26)) hb)
  have HBr_6 : Hid (BX 26 w6 w5.heap.size #[.int .i64 P2, .int .i64 Q2, .slice ar M.length cr]) := Lib.hid ((BX.new w5 26 #[.int .i64 P2, .int .i64 Q2, .slice ar M.length cr]).keep hb)
  have HDu_6 := Lib.hid (SmallM.keep (HDu_5.out.al (.cells #[.int .i64 P2, .int .i64 Q2, .slice ar M.length cr] 26)) hb (Nat.le_refl _))
  have HDv_6 := Lib.hid (SmallM.keep (HDv_5.out.al (.cells #[.int .i64 P2, .int .i64 Q2, .slice ar M.length cr] 26)) hb (Nat.le_refl _))
  have HDs_6 := Lib.hid (SmallM.keep (HDs_5.out.al (.cells #[.int .i64 P2, .int .i64 Q2, .slice ar M.length cr] 26)) hb (Nat.le_refl _))
  have HDm_6 := Lib.hid (SmallM.keep (HDm_5.out.al (.cells #[.int .i64 P2, .int .i64 Q2, .slice ar M.length cr] 26)) hb (Nat.le_refl _))
  have HDr_6 := Lib.hid (SmallM.keep (HDr_5.out.al (.cells #[.int .i64 P2, .int .i64 Q2, .slice ar M.length cr] 26)) hb (Nat.le_refl _))
  have HW_6 : Hid (Below w.heap.size w w6) := Lib.hid ((HW_5.out.alloc HW_5.out.size (.cells #[.int .i64 P2, .int .i64 Q2, .slice ar M.length cr] 26)).trans (hb.mono (Nat.le_trans HW_5.out.size (by simp))))
  clear HBu_5 HBv_5 HBs_5 HBm_5 HDu_5 HDv_5 HDs_5 HDm_5 HDr_5 HW_5
  clear hb
  by_cases hd0 : d2 = 0
  · obtain rfl := hd0
    have e2 : ((0 : Int) != 0) = false := by rfl
    obtain ⟨eP, eQ, ep, eq, hD⟩ := dims_ok H1.out H2.out rfl
    obtain rfl := eP.symm
    obtain rfl := eQ.symm
    obtain rfl := ep.symm
    obtain rfl := eq.symm
    have HDI := Lib.hid hD
    have hnu : xs.length = nu := HDu_6.out.len
    have hnv : ys.length = nv := HDv_6.out.len
    have hnu1 : nu ≤ 100 := HDu_6.out.nl
    have hnv1 : nv ≤ 100 := HDv_6.out.nl
    have hdim : (S.length : Int) + (M.length : Int) = (nu : Int) + (nv : Int) := by have := hD.dim; omega
    have hsx := hD.sx
    have hsy := hD.sy
    have hss := hD.ss
    have HSX := Lib.hid hsx
    have HSY := Lib.hid hsy
    have HSS := Lib.hid hss
    have W1 : IntKind.i64.wrap ((nu : Int) + (nv : Int)) = (nu : Int) + (nv : Int) := IntWalk.i64_in _ (by omega)
    clear hD hsx hsy hss H1 H2 HS0
    have yu0 := HBu_6.out.cell 0
    have yu1 := HBu_6.out.cell 1
    have yu2 := HBu_6.out.cell 2
    have lu := HBu_6.out.lt
    have yv0 := HBv_6.out.cell 0
    have yv1 := HBv_6.out.cell 1
    have yv2 := HBv_6.out.cell 2
    have lv := HBv_6.out.lt
    have ys0 := HBs_6.out.cell 0
    have ys1 := HBs_6.out.cell 1
    have ys2 := HBs_6.out.cell 2
    have ls := HBs_6.out.lt
    have ym0 := HBm_6.out.cell 0
    have ym1 := HBm_6.out.cell 1
    have ym2 := HBm_6.out.cell 2
    have lm := HBm_6.out.lt
    have yr0 := HBr_6.out.cell 0
    have yr1 := HBr_6.out.cell 1
    have yr2 := HBr_6.out.cell 2
    have lr := HBr_6.out.lt
    simp at yu0 yu1 yu2 yv0 yv1 yv2 ys0 ys1 ys2 ym0 ym1 ym2 yr0 yr1 yr2
    go_wp2_with fail
    refine (impl_IsSubspace_any p q as' S.length cs S _ HDs_6.out.ip HDs_6.out.iq (by exact HDs_6.out.rd) HDs_6.out.len HDs_6.out.xm HDs_6.out.nm HDs_6.out.cap).mono ?_
    rintro e w7 ⟨rfl, hb⟩
    clear yu0 yu1 yu2 lu yv0 yv1 yv2 lv ys0 ys1 ys2 ls ym0 ym1 ym2 lm yr0 yr1 yr2 lr
    have HBu_7 := Lib.hid (BX.keep HBu_6.out hb)
    have HBv_7 := Lib.hid (BX.keep HBv_6.out hb)
    have HBs_7 := Lib.hid (BX.keep HBs_6.out hb)
    have HBm_7 := Lib.hid (BX.keep HBm_6.out hb)
    have HBr_7 := Lib.hid (BX.keep HBr_6.out hb)
    have HDu_7 := Lib.hid (SmallM.keep HDu_6.out hb (Nat.le_refl _))
    have HDv_7 := Lib.hid (SmallM.keep HDv_6.out hb (Nat.le_refl _))
    have HDs_7 := Lib.hid (SmallM.keep HDs_6.out hb (Nat.le_refl _))
    have HDm_7 := Lib.hid (SmallM.keep HDm_6.out hb (Nat.le_refl _))
    have HDr_7 := Lib.hid (SmallM.keep HDr_6.out hb (Nat.le_refl _))
    have HW_7 : Hid (Below w.heap.size w w7) := Lib.hid (HW_6.out.trans (hb.mono HW_6.out.size))
    clear HBu_6 HBv_6 HBs_6 HBm_6 HBr_6 HDu_6 HDv_6 HDs_6 HDm_6 HDr_6 HW_6
    rw [HSS.out]
    clear hb
    have yu0 := HBu_7.out.cell 0
    have yu1 := HBu_7.out.cell 1
    have yu2 := HBu_7.out.cell 2
    have lu := HBu_7.out.lt
    have yv0 := HBv_7.out.cell 0
    have yv1 := HBv_7.out.cell 1
    have yv2 := HBv_7.out.cell 2
    have lv := HBv_7.out.lt
    have ys0 := HBs_7.out.cell 0
    have ys1 := HBs_7.out.cell 1
    have ys2 := HBs_7.out.cell 2
    have ls := HBs_7.out.lt
    have ym0 := HBm_7.out.cell 0
    have ym1 := HBm_7.out.cell 1
    have ym2 := HBm_7.out.cell 2
    have lm := HBm_7.out.lt
    have yr0 := HBr_7.out.cell 0
    have yr1 := HBr_7.out.cell 1
    have yr2 := HBr_7.out.cell 2
    have lr := HBr_7.out.lt
    simp at yu0 yu1 yu2 yv0 yv1 yv2 ys0 ys1 ys2 ym0 ym1 ym2 yr0 yr1 yr2
    go_wp2_with fail
    refine (impl_Annihilator_any p q au nu cu xs _ HDu_7.out.ip HDu_7.out.iq (by exact HDu_7.out.rd) HDu_7.out.len HDu_7.out.xm HDu_7.out.nm HDu_7.out.cap).mono ?_
    rintro e w8 ⟨PA, QA, RA, dA, aa, ca, rfl, hA, ho, hb⟩
    clear yu0 yu1 yu2 lu yv0 yv1 yv2 lv ys0 ys1 ys2 ls ym0 ym1 ym2 lm yr0 yr1 yr2 lr
    have HBu_8 := Lib.hid (BX.keep HBu_7.out hb)
    have HBv_8 := Lib.hid (BX.keep HBv_7.out hb)
    have HBs_8 := Lib.hid (BX.keep HBs_7.out hb)
    have HBm_8 := Lib.hid (BX.keep HBm_7.out hb)
    have HBr_8 := Lib.hid (BX.keep HBr_7.out hb)
    have HDu_8 := Lib.hid (SmallM.keep HDu_7.out hb (Nat.le_refl _))
    have HDv_8 := Lib.hid (SmallM.keep HDv_7.out hb (Nat.le_refl _))
    have HDs_8 := Lib.hid (SmallM.keep HDs_7.out hb (Nat.le_refl _))
    have HDm_8 := Lib.hid (SmallM.keep HDm_7.out hb (Nat.le_refl _))
    have HDr_8 := Lib.hid (SmallM.keep HDr_7.out hb (Nat.le_refl _))
    have HW_8 : Hid (Below w.heap.size w w8) := Lib.hid (HW_7.out.trans (hb.mono HW_7.out.size))
    clear HBu_7 HBv_7 HBs_7 HBm_7 HBr_7 HDu_7 HDv_7 HDs_7 HDm_7 HDr_7 HW_7
    obtain ⟨hd, eP, eQ, hsub, hnull⟩ := ann_ok hA HSX.out
    subst hd
    obtain rfl := eP.symm
    obtain rfl := eQ.symm
    have HNA := Lib.hid hnull
    have HTA := Lib.hid hsub
    have HDa_8 : Hid (SmallM w8 p q aa RA.length ca RA) := Lib.hid ⟨(small_sub hsub).1, (small_sub hsub).2.1, ho.rd, rfl, ho.capl, Nat.le_trans (small_sub hsub).2.2.1 (by omega), (small_sub hsub).2.2.2⟩
    clear hA ho hb hnull hsub
    have yu0 := HBu_8.out.cell 0
    have yu1 := HBu_8.out.cell 1
    have yu2 := HBu_8.out.cell 2
    have lu := HBu_8.out.lt
    have yv0 := HBv_8.out.cell 0
    have yv1 := HBv_8.out.cell 1
    have yv2 := HBv_8.out.cell 2
    have lv := HBv_8.out.lt
    have ys0 := HBs_8.out.cell 0
    have ys1 := HBs_8.out.cell 1
    have ys2 := HBs_8.out.cell 2
    have ls := HBs_8.out.lt
    have ym0 := HBm_8.out.cell 0
    have ym1 := HBm_8.out.cell 1
    have ym2 := HBm_8.out.cell 2
    have lm := HBm_8.out.lt
    have yr0 := HBr_8.out.cell 0
    have yr1 := HBr_8.out.cell 1
    have yr2 := HBr_8.out.cell 2
    have lr := HBr_8.out.lt
    simp at yu0 yu1 yu2 yv0 yv1 yv2 ys0 ys1 ys2 ym0 ym1 ym2 yr0 yr1 yr2
    go_wp2_with fail
    refine (impl_Annihilator_any p q av nv cv ys _ (HDv_8.out.al (.cells #[.int .i64 p, .int .i64 q, .slice aa RA.length ca] 26)).ip (HDv_8.out.al (.cells #[.int .i64 p, .int .i64 q, .slice aa RA.length ca] 26)).iq (by exact (HDv_8.out.al (.cells #[.int .i64 p, .int .i64 q, .slice aa RA.length ca] 26)).rd) (HDv_8.out.al (.cells #[.int .i64 p, .int .i64 q, .slice aa RA.length ca] 26)).len (HDv_8.out.al (.cells #[.int .i64 p, .int .i64 q, .slice aa RA.length ca] 26)).xm (HDv_8.out.al (.cells #[.int .i64 p, .int .i64 q, .slice aa RA.length ca] 26)).nm (HDv_8.out.al (.cells #[.int .i64 p, .int .i64 q, .slice aa RA.length ca] 26)).cap).mono ?_
    rintro e w9 ⟨PA, QA, RB, dA, ab, cb, rfl, hA, ho, hb⟩
    clear yu0 yu1 yu2 lu yv0 yv1 yv2 lv ys0 ys1 ys2 ls ym0 ym1 ym2 lm yr0 yr1 yr2 lr
    have HBu_9 := Lib.hid (BX.keep (HBu_8.out.alloc (.cells #[.int .i64 p, .int .i64 q, .slice aa RA.length ca] 26)) hb)
    have HBv_9 := Lib.hid (BX.keep (HBv_8.out.alloc (.cells #[.int .i64 p, .int .i64 q, .slice aa RA.length ca] 26)) hb)
    have HBs_9 := Lib.hid (BX.keep (HBs_8.out.alloc (.cells #[.int .i64 p, .int .i64 q, .slice aa RA.length ca] 26)) hb)
    have HBm_9 := Lib.hid (BX.keep (HBm_8.out.alloc (.cells #[.int .i64 p, .int .i64 q, .slice aa RA.length ca] 26)) hb)
    have HBr_9 := Lib.hid (BX.keep (HBr_8.out.alloc (.cells #[.int .i64 p, .int .i64 q, .slice aa RA.length ca] 26)) hb)
    have HBa_9 : Hid (BX 26 w9 w8.heap.size #[.int .i64 p, .int .i64 q, .slice aa RA.length ca]) := Lib.hid ((BX.new w8 26 #[.int .i64 p, .int .i64 q, .slice aa RA.length ca]).keep hb)
    have HDu_9 := Lib.hid (SmallM.keep (HDu_8.out.al (.cells #[.int .i64 p, .int .i64 q, .slice aa RA.length ca] 26)) hb (Nat.le_refl _))
    have HDv_9 := Lib.hid (SmallM.keep (HDv_8.out.al (.cells #[.int .i64 p, .int .i64 q, .slice aa RA.length ca] 26)) hb (Nat.le_refl _))
    have HDs_9 := Lib.hid (SmallM.keep (HDs_8.out.al (.cells #[.int .i64 p, .int .i64 q, .slice aa RA.length ca] 26)) hb (Nat.le_refl _))
    have HDm_9 := Lib.hid (SmallM.keep (HDm_8.out.al (.cells #[.int .i64 p, .int .i64 q, .slice aa RA.length ca] 26)) hb (Nat.le_refl _))
    have HDr_9 := Lib.hid (SmallM.keep (HDr_8.out.al (.cells #[.int .i64 p, .int .i64 q, .slice aa RA.length ca] 26)) hb (Nat.le_refl _))
    have HDa_9 := Lib.hid (SmallM.keep (HDa_8.out.al (.cells #[.int .i64 p, .int .i64 q, .slice aa RA.length ca] 26)) hb (Nat.le_refl _))
    have HW_9 : Hid (Below w.heap.size w w9) := Lib.hid ((HW_8.out.alloc HW_8.out.size (.cells #[.int .i64 p, .int .i64 q, .slice aa RA.length ca] 26)).trans (hb.mono (Nat.le_trans HW_8.out.size (by simp))))
    clear HBu_8 HBv_8 HBs_8 HBm_8 HBr_8 HDu_8 HDv_8 HDs_8 HDm_8 HDr_8 HDa_8 HW_8
    obtain ⟨hd, eP, eQ, hsub, hnull⟩ := ann_ok hA HSY.out
    subst hd
    obtain rfl := eP.symm
    obtain rfl := eQ.symm
    have HNB := Lib.hid hnull
    have HTB := Lib.hid hsub
    have HDb_9 : Hid (SmallM w9 p q ab RB.length cb RB) := Lib.hid ⟨(small_sub hsub).1, (small_sub hsub).2.1, ho.rd, rfl, ho.capl, Nat.le_trans (small_sub hsub).2.2.1 (by omega), (small_sub hsub).2.2.2⟩
    clear hA ho hb hnull hsub
    have yu0 := HBu_9.out.cell 0
    have yu1 := HBu_9.out.cell 1
    have yu2 := HBu_9.out.cell 2
    have lu := HBu_9.out.lt
    have yv0 := HBv_9.out.cell 0
    have yv1 := HBv_9.out.cell 1
    have yv2 := HBv_9.out.cell 2
    have lv := HBv_9.out.lt
    have ys0 := HBs_9.out.cell 0
    have ys1 := HBs_9.out.cell 1
    have ys2 := HBs_9.out.cell 2
    have ls := HBs_9.out.lt
    have ym0 := HBm_9.out.cell 0
    have ym1 := HBm_9.out.cell 1
    have ym2 := HBm_9.out.cell 2
    have lm := HBm_9.out.lt
    have yr0 := HBr_9.out.cell 0
    have yr1 := HBr_9.out.cell 1
    have yr2 := HBr_9.out.cell 2
    have lr := HBr_9.out.lt
    have ya0 := HBa_9.out.cell 0
    have ya1 := HBa_9.out.cell 1
    have ya2 := HBa_9.out.cell 2
    have la := HBa_9.out.lt
    simp at yu0 yu1 yu2 yv0 yv1 yv2 ys0 ys1 ys2 ym0 ym1 ym2 yr0 yr1 yr2 ya0 ya1 ya2
    go_wp2_with fail
    refine (impl_Annihilator_any p q as' S.length cs S _ (HDs_9.out.al (.cells #[.int .i64 p, .int .i64 q, .slice ab RB.length cb] 26)).ip (HDs_9.out.al (.cells #[.int .i64 p, .int .i64 q, .slice ab RB.length cb] 26)).iq (by exact (HDs_9.out.al (.cells #[.int .i64 p, .int .i64 q, .slice ab RB.length cb] 26)).rd) (HDs_9.out.al (.cells #[.int .i64 p, .int .i64 q, .slice ab RB.length cb] 26)).len (HDs_9.out.al (.cells #[.int .i64 p, .int .i64 q, .slice ab RB.length cb] 26)).xm (HDs_9.out.al (.cells #[.int .i64 p, .int .i64 q, .slice ab RB.length cb] 26)).nm (HDs_9.out.al (.cells #[.int .i64 p, .int .i64 q, .slice ab RB.length cb] 26)).cap).mono ?_
    rintro e w10 ⟨PA, QA, RC, dA, ac, cc, rfl, hA, ho, hb⟩
    clear yu0 yu1 yu2 lu yv0 yv1 yv2 lv ys0 ys1 ys2 ls ym0 ym1 ym2 lm yr0 yr1 yr2 lr ya0 ya1 ya2 la
    have HBu_10 := Lib.hid (BX.keep (HBu_9.out.alloc (.cells #[.int .i64 p, .int .i64 q, .slice ab RB.length cb] 26)) hb)
    have HBv_10 := Lib.hid (BX.keep (HBv_9.out.alloc (.cells #[.int .i64 p, .int .i64 q, .slice ab RB.length cb] 26)) hb)
    have HBs_10 := Lib.hid (BX.keep (HBs_9.out.alloc (.cells #[.int .i64 p, .int .i64 q, .slice ab RB.length cb] 26)) hb)
    have HBm_10 := Lib.hid (BX.keep (HBm_9.out.alloc (.cells #[.int .i64 p, .int .i64 q, .slice ab RB.length cb] 26)) hb)
    have HBr_10 := Lib.hid (BX.keep (HBr_9.out.alloc (.cells #[.int .i64 p, .int .i64 q, .slice ab RB.length cb] 26)) hb)
    have HBa_10 := Lib.hid (BX.keep (HBa_9.out.alloc (.cells #[.int .i64 p, .int .i64 q, .slice ab RB.length cb] 26)) hb)
    have HBb_10 : Hid (BX 26 w10 w9.heap.size #[.int .i64 p, .int .i64 q, .slice ab RB.length cb]) := Lib.hid ((BX.new w9 26 #[.int .i64 p, .int .i64 q, .slice ab RB.length cb]).keep hb)
    have HDu_10 := Lib.hid (SmallM.keep (HDu_9.out.al (.cells #[.int .i64 p, .int .i64 q, .slice ab RB.length cb] 26)) hb (Nat.le_refl _))
    have HDv_10 := Lib.hid (SmallM.keep (HDv_9.out.al (.cells #[.int .i64 p, .int .i64 q, .slice ab RB.length cb] 26)) hb (Nat.le_refl _))
    have HDs_10 := Lib.hid (SmallM.keep (HDs_9.out.al (.cells #[.int .i64 p, .int .i64 q, .slice ab RB.length cb] 26)) hb (Nat.le_refl _))
    have HDm_10 := Lib.hid (SmallM.keep (HDm_9.out.al (.cells #[.int .i64 p, .int .i64 q, .slice ab RB.length cb] 26)) hb (Nat.le_refl _))
    have HDr_10 := Lib.hid (SmallM.keep (HDr_9.out.al (.cells #[.int .i64 p, .int .i64 q, .slice ab RB.length cb] 26)) hb (Nat.le_refl _))
    have HDa_10 := Lib.hid (SmallM.keep (HDa_9.out.al (.cells #[.int .i64 p, .int .i64 q, .slice ab RB.length cb] 26)) hb (Nat.le_refl _))
    have HDb_10 := Lib.hid (SmallM.keep (HDb_9.out.al (.cells #[.int .i64 p, .int .i64 q, .slice ab RB.length cb] 26)) hb (Nat.le_refl _))
    have HW_10 : Hid (Below w.heap.size w w10) := Lib.hid ((HW_9.out.alloc HW_9.out.size (.cells #[.int .i64 p, .int .i64 q, .slice ab RB.length cb] 26)).trans (hb.mono (Nat.le_trans HW_9.out.size (by simp))))
    clear HBu_9 HBv_9 HBs_9 HBm_9 HBr_9 HBa_9 HDu_9 HDv_9 HDs_9 HDm_9 HDr_9 HDa_9 HDb_9 HW_9
    obtain ⟨hd, eP, eQ, hsub, hnull⟩ := ann_ok hA HSS.out
    subst hd
    obtain rfl := eP.symm
    obtain rfl := eQ.symm
    have HNC := Lib.hid hnull
    have HTC := Lib.hid hsub
    have HDc_10 : Hid (SmallM w10 p q ac RC.length cc RC) := Lib.hid ⟨(small_sub hsub).1, (small_sub hsub).2.1, ho.rd, rfl, ho.capl, Nat.le_trans (small_sub hsub).2.2.1 (by omega), (small_sub hsub).2.2.2⟩
    clear hA ho hb hnull hsub
    have yu0 := HBu_10.out.cell 0
    have yu1 := HBu_10.out.cell 1
    have yu2 := HBu_10.out.cell 2
    have lu := HBu_10.out.lt
    have yv0 := HBv_10.out.cell 0
    have yv1 := HBv_10.out.cell 1
    have yv2 := HBv_10.out.cell 2
    have lv := HBv_10.out.lt
    have ys0 := HBs_10.out.cell 0
    have ys1 := HBs_10.out.cell 1
    have ys2 := HBs_10.out.cell 2
    have ls := HBs_10.out.lt
    have ym0 := HBm_10.out.cell 0
    have ym1 := HBm_10.out.cell 1
    have ym2 := HBm_10.out.cell 2
    have lm := HBm_10.out.lt
    have yr0 := HBr_10.out.cell 0
    have yr1 := HBr_10.out.cell 1
    have yr2 := HBr_10.out.cell 2
    have lr := HBr_10.out.lt
    have ya0 := HBa_10.out.cell 0
    have ya1 := HBa_10.out.cell 1
    have ya2 := HBa_10.out.cell 2
    have la := HBa_10.out.lt
    have yb0 := HBb_10.out.cell 0
    have yb1 := HBb_10.out.cell 1
    have yb2 := HBb_10.out.cell 2
    have lb := HBb_10.out.lt
    simp at yu0 yu1 yu2 yv0 yv1 yv2 ys0 ys1 ys2 ym0 ym1 ym2 yr0 yr1 yr2 ya0 ya1 ya2 yb0 yb1 yb2
    go_wp2_with fail
    refine (impl_SubspaceIntersection_any p q aa RA.length ca RA p q ab RB.length cb RB _ (HDa_10.out.al (.cells #[.int .i64 p, .int .i64 q, .slice ac RC.length cc] 26)).ip (HDa_10.out.al (.cells #[.int .i64 p, .int .i64 q, .slice ac RC.length cc] 26)).iq (by exact (HDa_10.out.al (.cells #[.int .i64 p, .int .i64 q, .slice ac RC.length cc] 26)).rd) (HDa_10.out.al (.cells #[.int .i64 p, .int .i64 q, .slice ac RC.length cc] 26)).len (HDa_10.out.al (.cells #[.int .i64 p, .int .i64 q, .slice ac RC.length cc] 26)).xm (HDa_10.out.al (.cells #[.int .i64 p, .int .i64 q, .slice ac RC.length cc] 26)).nm (HDa_10.out.al (.cells #[.int .i64 p, .int .i64 q, .slice ac RC.length cc] 26)).cap (HDb_10.out.al (.cells #[.int .i64 p, .int .i64 q, .slice ac RC.length cc] 26)).ip (HDb_10.out.al (.cells #[.int .i64 p, .int .i64 q, .slice ac RC.length cc] 26)).iq (by exact (HDb_10.out.al (.cells #[.int .i64 p, .int .i64 q, .slice ac RC.length cc] 26)).rd) (HDb_10.out.al (.cells #[.int .i64 p, .int .i64 q, .slice ac RC.length cc] 26)).len (HDb_10.out.al (.cells #[.int .i64 p, .int .i64 q, .slice ac RC.length cc] 26)).xm (HDb_10.out.al (.cells #[.int .i64 p, .int .i64 q, .slice ac RC.length cc] 26)).nm (HDb_10.out.al (.cells #[.int .i64 p, .int .i64 q, .slice ac RC.length cc] 26)).cap).mono ?_
    rintro e w11 ⟨PD, QD, RD, dD, ad, cd, rfl, hI, ho, hb⟩
    clear yu0 yu1 yu2 lu yv0 yv1 yv2 lv ys0 ys1 ys2 ls ym0 ym1 ym2 lm yr0 yr1 yr2 lr ya0 ya1 ya2 la yb0 yb1 yb2 lb
    have HBu_11 := Lib.hid (BX.keep (HBu_10.out.alloc (.cells #[.int .i64 p, .int .i64 q, .slice ac RC.length cc] 26)) hb)
    have HBv_11 := Lib.hid (BX.keep (HBv_10.out.alloc (.cells #[.int .i64 p, .int .i64 q, .slice ac RC.length cc] 26)) hb)
    have HBs_11 := Lib.hid (BX.keep (HBs_10.out.alloc (.cells #[.int .i64 p, .int .i64 q, .slice ac RC.length cc] 26)) hb)
    have HBm_11 := Lib.hid (BX.keep (HBm_10.out.alloc (.cells #[.int .i64 p, .int .i64 q, .slice ac RC.length cc] 26)) hb)
    have HBr_11 := Lib.hid (BX.keep (HBr_10.out.alloc (.cells #[.int .i64 p, .int .i64 q, .slice ac RC.length cc] 26)) hb)
    have HBa_11 := Lib.hid (BX.keep (HBa_10.out.alloc (.cells #[.int .i64 p, .int .i64 q, .slice ac RC.length cc] 26)) hb)
    have HBb_11 := Lib.hid (BX.keep (HBb_10.out.alloc (.cells #[.int .i64 p, .int .i64 q, .slice ac RC.length cc] 26)) hb)
    have HBc_11 : Hid (BX 26 w11 w10.heap.size #[.int .i64 p, .int .i64 q, .slice ac RC.length cc]) := Lib.hid ((BX.new w10 26 #[.int .i64 p, .int .i64 q, .slice ac RC.length cc]).keep hb)
    have HDu_11 := Lib.hid (SmallM.keep (HDu_10.out.al (.cells #[.int .i64 p, .int .i64 q, .slice ac RC.length cc] 26)) hb (Nat.le_refl _))
    have HDv_11 := Lib.hid (SmallM.keep (HDv_10.out.al (.cells #[.int .i64 p, .int .i64 q, .slice ac RC.length cc] 26)) hb (Nat.le_refl _))
    have HDs_11 := Lib.hid (SmallM.keep (HDs_10.out.al (.cells #[.int .i64 p, .int .i64 q, .slice ac RC.length cc] 26)) hb (Nat.le_refl _))
    have HDm_11 := Lib.hid (SmallM.keep (HDm_10.out.al (.cells #[.int .i64 p, .int .i64 q, .slice ac RC.length cc] 26)) hb (Nat.le_refl _))
    have HDr_11 := Lib.hid (SmallM.keep (HDr_10.out.al (.cells #[.int .i64 p, .int .i64 q, .slice ac RC.length cc] 26)) hb (Nat.le_refl _))
    have HDa_11 := Lib.hid (SmallM.keep (HDa_10.out.al (.cells #[.int .i64 p, .int .i64 q, .slice ac RC.length cc] 26)) hb (Nat.le_refl _))
    have HDb_11 := Lib.hid (SmallM.keep (HDb_10.out.al (.cells #[.int .i64 p, .int .i64 q, .slice ac RC.length cc] 26)) hb (Nat.le_refl _))
    have HDc_11 := Lib.hid (SmallM.keep (HDc_10.out.al (.cells #[.int .i64 p, .int .i64 q, .slice ac RC.length cc] 26)) hb (Nat.le_refl _))
    have HW_11 : Hid (Below w.heap.size w w11) := Lib.hid ((HW_10.out.alloc HW_10.out.size (.cells #[.int .i64 p, .int .i64 q, .slice ac RC.length cc] 26)).trans (hb.mono (Nat.le_trans HW_10.out.size (by simp))))
    clear HBu_10 HBv_10 HBs_10 HBm_10 HBr_10 HBa_10 HBb_10 HDu_10 HDv_10 HDs_10 HDm_10 HDr_10 HDa_10 HDb_10 HDc_10 HW_10
    obtain ⟨hd, eP, eQ, eR⟩ := meet_ok HDI.out HNA.out HNB.out HNC.out HTA.out HTB.out hI
    subst hd
    obtain rfl := eP.symm
    obtain rfl := eQ.symm
    obtain rfl := eR.symm
    have HDd_11 : Hid (SmallM w11 p q ad RC.length cd RC) := Lib.hid ⟨(small_sub HTC.out).1, (small_sub HTC.out).2.1, ho.rd, rfl, ho.capl, Nat.le_trans (small_sub HTC.out).2.2.1 (by omega), (small_sub HTC.out).2.2.2⟩
    clear hI ho hb
    have yu0 := HBu_11.out.cell 0
    have yu1 := HBu_11.out.cell 1
    have yu2 := HBu_11.out.cell 2
    have lu := HBu_11.out.lt
    have yv0 := HBv_11.out.cell 0
    have yv1 := HBv_11.out.cell 1
    have yv2 := HBv_11.out.cell 2
    have lv := HBv_11.out.lt
    have ys0 := HBs_11.out.cell 0
    have ys1 := HBs_11.out.cell 1
    have ys2 := HBs_11.out.cell 2
    have ls := HBs_11.out.lt
    have ym0 := HBm_11.out.cell 0
    have ym1 := HBm_11.out.cell 1
    have ym2 := HBm_11.out.cell 2
    have lm := HBm_11.out.lt
    have yr0 := HBr_11.out.cell 0
    have yr1 := HBr_11.out.cell 1
    have yr2 := HBr_11.out.cell 2
    have lr := HBr_11.out.lt
    have ya0 := HBa_11.out.cell 0
    have ya1 := HBa_11.out.cell 1
    have ya2 := HBa_11.out.cell 2
    have la := HBa_11.out.lt
    have yb0 := HBb_11.out.cell 0
    have yb1 := HBb_11.out.cell 1
    have yb2 := HBb_11.out.cell 2
    have lb := HBb_11.out.lt
    have yc0 := HBc_11.out.cell 0
    have yc1 := HBc_11.out.cell 1
    have yc2 := HBc_11.out.cell 2
    have lc := HBc_11.out.lt
    simp at yu0 yu1 yu2 yv0 yv1 yv2 ys0 ys1 ys2 ym0 ym1 ym2 yr0 yr1 yr2 ya0 ya1 ya2 yb0 yb1 yb2 yc0 yc1 yc2
    have hRC : RC.length ≤ 100 := HDc_11.out.nl
    go_wp2_with fail
    refine (likeM9_t p q ac ad RC.length cc cd RC _ (by exact (HDc_11.out.al (.cells #[.int .i64 p, .int .i64 q, .slice ad RC.length cd] 26)).rd) (by exact (HDd_11.out.al (.cells #[.int .i64 p, .int .i64 q, .slice ad RC.length cd] 26)).rd) rfl (by omega) (fun i hi => Nat.le_trans ((HDc_11.out.al (.cells #[.int .i64 p, .int .i64 q, .slice ad RC.length cd] 26)).xl i hi) (by omega))).mono ?_
    rintro e w12 ⟨rfl, hb⟩
    clear yu0 yu1 yu2 lu yv0 yv1 yv2 lv ys0 ys1 ys2 ls ym0 ym1 ym2 lm yr0 yr1 yr2 lr ya0 ya1 ya2 la yb0 yb1 yb2 lb yc0 yc1 yc2 lc
    have HBu_12 := Lib.hid (BX.keep (HBu_11.out.alloc (.cells #[.int .i64 p, .int .i64 q, .slice ad RC.length cd] 26)) hb)
    have HBv_12 := Lib.hid (BX.keep (HBv_11.out.alloc (.cells #[.int .i64 p, .int .i64 q, .slice ad RC.length cd] 26)) hb)
    have HBs_12 := Lib.hid (BX.keep (HBs_11.out.alloc (.cells #[.int .i64 p, .int .i64 q, .slice ad RC.length cd] 26)) hb)
    have HBm_12 := Lib.hid (BX.keep (HBm_11.out.alloc (.cells #[.int .i64 p, .int .i64 q, .slice ad RC.length cd] 26)) hb)
    have HBr_12 := Lib.hid (BX.keep (HBr_11.out.alloc (.cells #[.int .i64 p, .int .i64 q, .slice ad RC.length cd] 26)) hb)
    have HBa_12 := Lib.hid (BX.keep (HBa_11.out.alloc (.cells #[.int .i64 p, .int .i64 q, .slice ad RC.length cd] 26)) hb)
    have HBb_12 := Lib.hid (BX.keep (HBb_11.out.alloc (.cells #[.int .i64 p, .int .i64 q, .slice ad RC.length cd] 26)) hb)
    have HBc_12 := Lib.hid (BX.keep (HBc_11.out.alloc (.cells #[.int .i64 p, .int .i64 q, .slice ad RC.length cd] 26)) hb)
    have HBd_12 : Hid (BX 26 w12 w11.heap.size #[.int .i64 p, .int .i64 q, .slice ad RC.length cd]) := Lib.hid ((BX.new w11 26 #[.int .i64 p, .int .i64 q, .slice ad RC.length cd]).keep hb)
    have HDu_12 := Lib.hid (SmallM.keep (HDu_11.out.al (.cells #[.int .i64 p, .int .i64 q, .slice ad RC.length cd] 26)) hb (Nat.le_refl _))
    have HDv_12 := Lib.hid (SmallM.keep (HDv_11.out.al (.cells #[.int .i64 p, .int .i64 q, .slice ad RC.length cd] 26)) hb (Nat.le_refl _))
    have HDs_12 := Lib.hid (SmallM.keep (HDs_11.out.al (.cells #[.int .i64 p, .int .i64 q, .slice ad RC.length cd] 26)) hb (Nat.le_refl _))
    have HDm_12 := Lib.hid (SmallM.keep (HDm_11.out.al (.cells #[.int .i64 p, .int .i64 q, .slice ad RC.length cd] 26)) hb (Nat.le_refl _))
    have HDr_12 := Lib.hid (SmallM.keep (HDr_11.out.al (.cells #[.int .i64 p, .int .i64 q, .slice ad RC.length cd] 26)) hb (Nat.le_refl _))
    have HDa_12 := Lib.hid (SmallM.keep (HDa_11.out.al (.cells #[.int .i64 p, .int .i64 q, .slice ad RC.length cd] 26)) hb (Nat.le_refl _))
    have HDb_12 := Lib.hid (SmallM.keep (HDb_11.out.al (.cells #[.int .i64 p, .int .i64 q, .slice ad RC.length cd] 26)) hb (Nat.le_refl _))
    have HDc_12 := Lib.hid (SmallM.keep (HDc_11.out.al (.cells #[.int .i64 p, .int .i64 q, .slice ad RC.length cd] 26)) hb (Nat.le_refl _))
    have HDd_12 := Lib.hid (SmallM.keep (HDd_11.out.al (.cells #[.int .i64 p, .int .i64 q, .slice ad RC.length cd] 26)) hb (Nat.le_refl _))
    have HW_12 : Hid (Below w.heap.size w w12) := Lib.hid ((HW_11.out.alloc HW_11.out.size (.cells #[.int .i64 p, .int .i64 q, .slice ad RC.length cd] 26)).trans (hb.mono (Nat.le_trans HW_11.out.size (by simp))))
    clear HBu_11 HBv_11 HBs_11 HBm_11 HBr_11 HBa_11 HBb_11 HBc_11 HDu_11 HDv_11 HDs_11 HDm_11 HDr_11 HDa_11 HDb_11 HDc_11 HDd_11 HW_11
    clear hb
    have yu0 := HBu_12.out.cell 0
    have yu1 := HBu_12.out.cell 1
    have yu2 := HBu_12.out.cell 2
    have lu := HBu_12.out.lt
    have yv0 := HBv_12.out.cell 0
    have yv1 := HBv_12.out.cell 1
    have yv2 := HBv_12.out.cell 2
    have lv := HBv_12.out.lt
    have ys0 := HBs_12.out.cell 0
    have ys1 := HBs_12.out.cell 1
    have ys2 := HBs_12.out.cell 2
    have ls := HBs_12.out.lt
    have ym0 := HBm_12.out.cell 0
    have ym1 := HBm_12.out.cell 1
    have ym2 := HBm_12.out.cell 2
    have lm := HBm_12.out.lt
    have yr0 := HBr_12.out.cell 0
    have yr1 := HBr_12.out.cell 1
    have yr2 := HBr_12.out.cell 2
    have lr := HBr_12.out.lt
    have ya0 := HBa_12.out.cell 0
    have ya1 := HBa_12.out.cell 1
    have ya2 := HBa_12.out.cell 2
    have la := HBa_12.out.lt
    have yb0 := HBb_12.out.cell 0
    have yb1 := HBb_12.out.cell 1
    have yb2 := HBb_12.out.cell 2
    have lb := HBb_12.out.lt
    have yc0 := HBc_12.out.cell 0
    have yc1 := HBc_12.out.cell 1
    have yc2 := HBc_12.out.cell 2
    have lc := HBc_12.out.lt
    have yd0 := HBd_12.out.cell 0
    have yd1 := HBd_12.out.cell 1
    have yd2 := HBd_12.out.cell 2
    have ld := HBd_12.out.lt
    simp at yu0 yu1 yu2 yv0 yv1 yv2 ys0 ys1 ys2 ym0 ym1 ym2 yr0 yr1 yr2 ya0 ya1 ya2 yb0 yb1 yb2 yc0 yc1 yc2 yd0 yd1 yd2
    go_wp2_with fail
    refine (impl_StandardComplement_any p q au nu cu xs _ HDu_12.out.ip HDu_12.out.iq (by exact HDu_12.out.rd) HDu_12.out.len HDu_12.out.xm HDu_12.out.nm HDu_12.out.cap).mono ?_
    rintro e w13 ⟨PE, QE, RE, dE, ae, ce, rfl, hE, ho, hb⟩
    clear yu0 yu1 yu2 lu yv0 yv1 yv2 lv ys0 ys1 ys2 ls ym0 ym1 ym2 lm yr0 yr1 yr2 lr ya0 ya1 ya2 la yb0 yb1 yb2 lb yc0 yc1 yc2 lc yd0 yd1 yd2 ld
    have HBu_13 := Lib.hid (BX.keep HBu_12.out hb)
    have HBv_13 := Lib.hid (BX.keep HBv_12.out hb)
    have HBs_13 := Lib.hid (BX.keep HBs_12.out hb)
    have HBm_13 := Lib.hid (BX.keep HBm_12.out hb)
    have HBr_13 := Lib.hid (BX.keep HBr_12.out hb)
    have HBa_13 := Lib.hid (BX.keep HBa_12.out hb)
    have HBb_13 := Lib.hid (BX.keep HBb_12.out hb)
    have HBc_13 := Lib.hid (BX.keep HBc_12.out hb)
    have HBd_13 := Lib.hid (BX.keep HBd_12.out hb)
    have HDu_13 := Lib.hid (SmallM.keep HDu_12.out hb (Nat.le_refl _))
    have HDv_13 := Lib.hid (SmallM.keep HDv_12.out hb (Nat.le_refl _))
    have HDs_13 := Lib.hid (SmallM.keep HDs_12.out hb (Nat.le_refl _))
    have HDm_13 := Lib.hid (SmallM.keep HDm_12.out hb (Nat.le_refl _))
    have HDr_13 := Lib.hid (SmallM.keep HDr_12.out hb (Nat.le_refl _))
    have HDa_13 := Lib.hid (SmallM.keep HDa_12.out hb (Nat.le_refl _))
    have HDb_13 := Lib.hid (SmallM.keep HDb_12.out hb (Nat.le_refl _))
    have HDc_13 := Lib.hid (SmallM.keep HDc_12.out hb (Nat.le_refl _))
    have HDd_13 := Lib.hid (SmallM.keep HDd_12.out hb (Nat.le_refl _))
    have HW_13 : Hid (Below w.heap.size w w13) := Lib.hid (HW_12.out.trans (hb.mono HW_12.out.size))
    clear HBu_12 HBv_12 HBs_12 HBm_12 HBr_12 HBa_12 HBb_12 HBc_12 HBd_12 HDu_12 HDv_12 HDs_12 HDm_12 HDr_12 HDa_12 HDb_12 HDc_12 HDd_12 HW_12
    obtain ⟨hd, eP, eQ, hsub, hlen, piv, hr, hR⟩ := comp_ok hE HSX.out
    subst hd
    obtain rfl := eP.symm
    obtain rfl := eQ.symm
    have HTE := Lib.hid hsub
    have HPV := Lib.hid hr
    have HRE := Lib.hid hR
    have HLE := Lib.hid hlen
    have HDe_13 : Hid (SmallM w13 p q ae RE.length ce RE) := Lib.hid ⟨(small_sub hsub).1, (small_sub hsub).2.1, ho.rd, rfl, ho.capl, Nat.le_trans (small_sub hsub).2.2.1 (by omega), (small_sub hsub).2.2.2⟩
    clear hE ho hb hsub hr hR hlen
    have yu0 := HBu_13.out.cell 0
    have yu1 := HBu_13.out.cell 1
    have yu2 := HBu_13.out.cell 2
    have lu := HBu_13.out.lt
    have yv0 := HBv_13.out.cell 0
    have yv1 := HBv_13.out.cell 1
    have yv2 := HBv_13.out.cell 2
    have lv := HBv_13.out.lt
    have ys0 := HBs_13.out.cell 0
    have ys1 := HBs_13.out.cell 1
    have ys2 := HBs_13.out.cell 2
    have ls := HBs_13.out.lt
    have ym0 := HBm_13.out.cell 0
    have ym1 := HBm_13.out.cell 1
    have ym2 := HBm_13.out.cell 2
    have lm := HBm_13.out.lt
    have yr0 := HBr_13.out.cell 0
    have yr1 := HBr_13.out.cell 1
    have yr2 := HBr_13.out.cell 2
    have lr := HBr_13.out.lt
    have ya0 := HBa_13.out.cell 0
    have ya1 := HBa_13.out.cell 1
    have ya2 := HBa_13.out.cell 2
    have la := HBa_13.out.lt
    have yb0 := HBb_13.out.cell 0
    have yb1 := HBb_13.out.cell 1
    have yb2 := HBb_13.out.cell 2
    have lb := HBb_13.out.lt
    have yc0 := HBc_13.out.cell 0
    have yc1 := HBc_13.out.cell 1
    have yc2 := HBc_13.out.cell 2
    have lc := HBc_13.out.lt
    have yd0 := HBd_13.out.cell 0
    have yd1 := HBd_13.out.cell 1
    have yd2 := HBd_13.out.cell 2
    have ld := HBd_13.out.lt
    simp at yu0 yu1 yu2 yv0 yv1 yv2 ys0 ys1 ys2 ym0 ym1 ym2 yr0 yr1 yr2 ya0 ya1 ya2 yb0 yb1 yb2 yc0 yc1 yc2 yd0 yd1 yd2
    go_wp2_with fail
    refine (impl_SubspaceSum_any p q au nu cu xs p q ae RE.length ce RE _ (HDu_13.out.al (.cells #[.int .i64 p, .int .i64 q, .slice ae RE.length ce] 26)).ip (HDu_13.out.al (.cells #[.int .i64 p, .int .i64 q, .slice ae RE.length ce] 26)).iq (by exact (HDu_13.out.al (.cells #[.int .i64 p, .int .i64 q, .slice ae RE.length ce] 26)).rd) (HDu_13.out.al (.cells #[.int .i64 p, .int .i64 q, .slice ae RE.length ce] 26)).len (HDu_13.out.al (.cells #[.int .i64 p, .int .i64 q, .slice ae RE.length ce] 26)).xm (HDu_13.out.al (.cells #[.int .i64 p, .int .i64 q, .slice ae RE.length ce] 26)).nm (HDu_13.out.al (.cells #[.int .i64 p, .int .i64 q, .slice ae RE.length ce] 26)).cap (HDe_13.out.al (.cells #[.int .i64 p, .int .i64 q, .slice ae RE.length ce] 26)).ip (HDe_13.out.al (.cells #[.int .i64 p, .int .i64 q, .slice ae RE.length ce] 26)).iq (by exact (HDe_13.out.al (.cells #[.int .i64 p, .int .i64 q, .slice ae RE.length ce] 26)).rd) (HDe_13.out.al (.cells #[.int .i64 p, .int .i64 q, .slice ae RE.length ce] 26)).len (HDe_13.out.al (.cells #[.int .i64 p, .int .i64 q, .slice ae RE.length ce] 26)).xm (HDe_13.out.al (.cells #[.int .i64 p, .int .i64 q, .slice ae RE.length ce] 26)).nm (HDe_13.out.al (.cells #[.int .i64 p, .int .i64 q, .slice ae RE.length ce] 26)).cap).mono ?_
    rintro e w14 ⟨PF, QF, RF, dF, af, cf, rfl, hF, ho, hb⟩
    clear yu0 yu1 yu2 lu yv0 yv1 yv2 lv ys0 ys1 ys2 ls ym0 ym1 ym2 lm yr0 yr1 yr2 lr ya0 ya1 ya2 la yb0 yb1 yb2 lb yc0 yc1 yc2 lc yd0 yd1 yd2 ld
    have HBu_14 := Lib.hid (BX.keep (HBu_13.out.alloc (.cells #[.int .i64 p, .int .i64 q, .slice ae RE.length ce] 26)) hb)
    have HBv_14 := Lib.hid (BX.keep (HBv_13.out.alloc (.cells #[.int .i64 p, .int .i64 q, .slice ae RE.length ce] 26)) hb)
    have HBs_14 := Lib.hid (BX.keep (HBs_13.out.alloc (.cells #[.int .i64 p, .int .i64 q, .slice ae RE.length ce] 26)) hb)
    have HBm_14 := Lib.hid (BX.keep (HBm_13.out.alloc (.cells #[.int .i64 p, .int .i64 q, .slice ae RE.length ce] 26)) hb)
    have HBr_14 := Lib.hid (BX.keep (HBr_13.out.alloc (.cells #[.int .i64 p, .int .i64 q, .slice ae RE.length ce] 26)) hb)
    have HBa_14 := Lib.hid (BX.keep (HBa_13.out.alloc (.cells #[.int .i64 p, .int .i64 q, .slice ae RE.length ce] 26)) hb)
    have HBb_14 := Lib.hid (BX.keep (HBb_13.out.alloc (.cells #[.int .i64 p, .int .i64 q, .slice ae RE.length ce] 26)) hb)
    have HBc_14 := Lib.hid (BX.keep (HBc_13.out.alloc (.cells #[.int .i64 p, .int .i64 q, .slice ae RE.length ce] 26)) hb)
    have HBd_14 := Lib.hid (BX.keep (HBd_13.out.alloc (.cells #[.int .i64 p, .int .i64 q, .slice ae RE.length ce] 26)) hb)
    have HBe_14 : Hid (BX 26 w14 w13.heap.size #[.int .i64 p, .int .i64 q, .slice ae RE.length ce]) := Lib.hid ((BX.new w13 26 #[.int .i64 p, .int .i64 q, .slice ae RE.length ce]).keep hb)
    have HDu_14 := Lib.hid (SmallM.keep (HDu_13.out.al (.cells #[.int .i64 p, .int .i64 q, .slice ae RE.length ce] 26)) hb (Nat.le_refl _))
    have HDv_14 := Lib.hid (SmallM.keep (HDv_13.out.al (.cells #[.int .i64 p, .int .i64 q, .slice ae RE.length ce] 26)) hb (Nat.le_refl _))
    have HDs_14 := Lib.hid (SmallM.keep (HDs_13.out.al (.cells #[.int .i64 p, .int .i64 q, .slice ae RE.length ce] 26)) hb (Nat.le_refl _))
    have HDm_14 := Lib.hid (SmallM.keep (HDm_13.out.al (.cells #[.int .i64 p, .int .i64 q, .slice ae RE.length ce] 26)) hb (Nat.le_refl _))
    have HDr_14 := Lib.hid (SmallM.keep (HDr_13.out.al (.cells #[.int .i64 p, .int .i64 q, .slice ae RE.length ce] 26)) hb (Nat.le_refl _))
    have HDa_14 := Lib.hid (SmallM.keep (HDa_13.out.al (.cells #[.int .i64 p, .int .i64 q, .slice ae RE.length ce] 26)) hb (Nat.le_refl _))
    have HDb_14 := Lib.hid (SmallM.keep (HDb_13.out.al (.cells #[.int .i64 p, .int .i64 q, .slice ae RE.length ce] 26)) hb (Nat.le_refl _))
    have HDc_14 := Lib.hid (SmallM.keep (HDc_13.out.al (.cells #[.int .i64 p, .int .i64 q, .slice ae RE.length ce] 26)) hb (Nat.le_refl _))
    have HDd_14 := Lib.hid (SmallM.keep (HDd_13.out.al (.cells #[.int .i64 p, .int .i64 q, .slice ae RE.length ce] 26)) hb (Nat.le_refl _))
    have HDe_14 := Lib.hid (SmallM.keep (HDe_13.out.al (.cells #[.int .i64 p, .int .i64 q, .slice ae RE.length ce] 26)) hb (Nat.le_refl _))
    have HW_14 : Hid (Below w.heap.size w w14) := Lib.hid ((HW_13.out.alloc HW_13.out.size (.cells #[.int .i64 p, .int .i64 q, .slice ae RE.length ce] 26)).trans (hb.mono (Nat.le_trans HW_13.out.size (by simp))))
    clear HBu_13 HBv_13 HBs_13 HBm_13 HBr_13 HBa_13 HBb_13 HBc_13 HBd_13 HDu_13 HDv_13 HDs_13 HDm_13 HDr_13 HDa_13 HDb_13 HDc_13 HDd_13 HDe_13 HW_13
    obtain ⟨hd, hq⟩ := whole_ok HSX.out HPV.out HRE.out HTE.out hF
    subst hd
    have hle : (RE.length : Int) + (nu : Int) = q := by have := HLE.out; omega
    have hfl : RF.length ≤ 100 := Nat.le_trans (small_sum hF).2.2.1 (by omega)
    have hel : RE.length ≤ 100 := HDe_14.out.nl
    clear hF ho hb
    have yu0 := HBu_14.out.cell 0
    have yu1 := HBu_14.out.cell 1
    have yu2 := HBu_14.out.cell 2
    have lu := HBu_14.out.lt
    have yv0 := HBv_14.out.cell 0
    have yv1 := HBv_14.out.cell 1
    have yv2 := HBv_14.out.cell 2
    have lv := HBv_14.out.lt
    have ys0 := HBs_14.out.cell 0
    have ys1 := HBs_14.out.cell 1
    have ys2 := HBs_14.out.cell 2
    have ls := HBs_14.out.lt
    have ym0 := HBm_14.out.cell 0
    have ym1 := HBm_14.out.cell 1
    have ym2 := HBm_14.out.cell 2
    have lm := HBm_14.out.lt
    have yr0 := HBr_14.out.cell 0
    have yr1 := HBr_14.out.cell 1
    have yr2 := HBr_14.out.cell 2
    have lr := HBr_14.out.lt
    have ya0 := HBa_14.out.cell 0
    have ya1 := HBa_14.out.cell 1
    have ya2 := HBa_14.out.cell 2
    have la := HBa_14.out.lt
    have yb0 := HBb_14.out.cell 0
    have yb1 := HBb_14.out.cell 1
    have yb2 := HBb_14.out.cell 2
    have lb := HBb_14.out.lt
    have yc0 := HBc_14.out.cell 0
    have yc1 := HBc_14.out.cell 1
    have yc2 := HBc_14.out.cell 2
    have lc := HBc_14.out.lt
    have yd0 := HBd_14.out.cell 0
    have yd1 := HBd_14.out.cell 1
    have yd2 := HBd_14.out.cell 2
    have ld := HBd_14.out.lt
    have ye0 := HBe_14.out.cell 0
    have ye1 := HBe_14.out.cell 1
    have ye2 := HBe_14.out.cell 2
    have le := HBe_14.out.lt
    simp at yu0 yu1 yu2 yv0 yv1 yv2 ys0 ys1 ys2 ym0 ym1 ym2 yr0 yr1 yr2 ya0 ya1 ya2 yb0 yb1 yb2 yc0 yc1 yc2 yd0 yd1 yd2 ye0 ye1 ye2
    have b1 : ((RF.length : Int) == q) = true := by simp [hq]
    have b2 : ((RE.length : Int) + (nu : Int) == q) = true := by simp [hle]
    have W2 : IntKind.i64.wrap ((RE.length : Int) + (nu : Int)) = (RE.length : Int) + (nu : Int) := IntWalk.i64_in _ (by omega)
    go_wp2_with fail
    go_ret
    exact ⟨rfl, HW_14.out.alloc HW_14.out.size _⟩
  · have e2 : (d2 != 0) = true := bne_iff_ne.2 hd0
    have hS : S = [] := HS0.out hd0
    have hSL : ((S.length : Int) == 0) = true := by rw [hS]; rfl
    clear hS
    have yu0 := HBu_6.out.cell 0
    have yu1 := HBu_6.out.cell 1
    have yu2 := HBu_6.out.cell 2
    have lu := HBu_6.out.lt
    have yv0 := HBv_6.out.cell 0
    have yv1 := HBv_6.out.cell 1
    have yv2 := HBv_6.out.cell 2
    have lv := HBv_6.out.lt
    have ys0 := HBs_6.out.cell 0
    have ys1 := HBs_6.out.cell 1
    have ys2 := HBs_6.out.cell 2
    have ls := HBs_6.out.lt
    have ym0 := HBm_6.out.cell 0
    have ym1 := HBm_6.out.cell 1
    have ym2 := HBm_6.out.cell 2
    have lm := HBm_6.out.lt
    have yr0 := HBr_6.out.cell 0
    have yr1 := HBr_6.out.cell 1
    have yr2 := HBr_6.out.cell 2
    have lr := HBr_6.out.lt
    simp at yu0 yu1 yu2 yv0 yv1 yv2 ys0 ys1 ys2 ym0 ym1 ym2 yr0 yr1 yr2
    go_wp2_with fail
    go_ret
    exact ⟨rfl, HW_6.out⟩
end Go.Proofs.Ytpkdgemnddcefaa
namespace Go.Proofs.Ytpkdgemnddcefaa.fnDimensions
open Go.ChangeShapes Go.WideShapes Go.ChangeAt Go.RowKit Go.Joins
set_option linter.unusedVariables false

theorem own : ownKnob Try.prog.godebug = none := by kernel_rfl
theorem laidOut : laidOutB Try.prog = true := by kernel_rfl

set_option maxRecDepth 100000 in
theorem lifted (os : Os) (started : os.Started) (H : Type) (enc : TypeId × Value → H) :
    ReturnsInHanded {} Try.checked os 3 .any (Rows.fnDimensionsSpec.pre6 enc Try.prog Try.f3 Rows.fnDimensionsRow.domain false) (Rows.fnDimensionsSpec.post enc Try.prog Try.f3 false true false false) := by
  refine returnsInHanded_of_change (C := Try.checked) own started (by kernel_rfl) Try.func3
    (ChangeSpec.witness6 (enc := enc) (C := Try.checked) false ⟨#[], #[.slice none 0 0], []⟩ 8 (by kernel_rfl) (by kernel_rfl) (by kernel_rfl) (by kernel_rfl)) ?_
  intro W base args ds gs before hval0 hW hcnd _
  have hval : ∀ (j : Nat) t v, Try.f3.params[j]? = some t → args[j]? = some v → Value.okWide Try.prog W .any base t v := hval0
  have hW' := hW
  obtain ⟨p, q, hA0, hV, rfl, hfz, hnd⟩ := hW
  have hA : DataW.TrodAll enc Try.prog W 0 (fun _ => true) true Try.f3.params.toList args.toList ds p := hA0
  rw [Try.params3] at hA hval
  obtain ⟨v0, vs0, d0, ds0, p0, q0, hargs, rfl, rfl, h0, r0⟩ := trodAll_cons hA
  obtain ⟨rfl, rfl, rfl⟩ := trodAll_nil r0
  obtain rfl : args = #[v0] := by cases args; simp_all
  obtain ⟨rfl, rfl⟩ := trodVars_none hV
  have k0 := h0
  have lt0 : ∀ x ∈ p0, x.block < W.heap.size := by obtain ⟨m, hm⟩ := k0; exact DataW.trod_lt m _ _ _ hm
  obtain ⟨a0, l0, c0, rfl⟩ := okWide_slice Try.underlying22 (hval 0 22 v0 rfl rfl)
  obtain ⟨xs0, hl0, hx0, hw0, hc0, hm0⟩ : ∃ xs : List Int, xs.length = l0 ∧ RdB W a0 xs ∧ (∀ x ∈ xs, 0 ≤ x ∧ x ≤ 255) ∧ l0 ≤ c0 ∧ l0 ≤ maxLen := by
    obtain ⟨fuel, hf⟩ := h0
    exact openB Try.underlying22 Try.underlying5 (by kernel_rfl) hf
  clear hA0 hval0
  refine (law_Dimensions a0 l0 c0 xs0 W hl0 hx0 hw0 hc0 hm0).mono fun e W' ⟨he, bel⟩ => ?_
  subst he
  exact ⟨_, rfl, _, _, _, [], _, [], hW', trodAll_mk1 (shut_bool Try.underlying4 _), (trodAll_cons_mk (Below.trod laidOut (by kernel_rfl) (of_decide_eq_true (by kernel_rfl)) k0 bel lt0) trodAll_mk0), rfl, bel.frame _, fun h => by cases h⟩

theorem over : Rows.fnDimensionsRow.holds Try.pinned (OpenSpec.ofChange Rows.fnDimensionsSpec) :=
  OpenClaim.holds_of_wide 3 Try.f3 rfl rfl rfl rfl rfl rfl rfl ⟨rfl, rfl, rfl, rfl, rfl⟩ rfl rfl rfl rfl rfl (by kernel_rfl) Try.func3 (by kernel_rfl)
    (of_decide_eq_true (by kernel_rfl)) (by unfold Func.isWrapper; first | (rw [if_pos (by decide +kernel)]; kernel_rfl) | (rw [if_neg (by decide +kernel)]; exact ⟨rfl, rfl⟩))
    (fun os started H enc _ => lifted os started H enc)

/-- the given statement -/
theorem proved : Rows.FnDimensionsSaid := over
#print axioms proved
end Go.Proofs.Ytpkdgemnddcefaa.fnDimensions
