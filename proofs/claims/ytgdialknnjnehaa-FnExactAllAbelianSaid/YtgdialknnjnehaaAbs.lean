/- Slices of abelian groups that the call owns: each group's factors in a block of their own. -/
import Derived.Test.YtgdialknnjnehaaAppK
import Derived.Test.YtgdialknnjnehaaOwnR
import Derived.Test.YtgdialknnjnehaaKitA
import Derived.Test.YtgdialknnjnehaaKitV
import Derived.Test.YtgdialknnjnehaaRowW
import Derived.Test.YtgdialknnjnehaaBox
import Derived.Deep.RegionHeld3
set_option linter.unusedVariables false
set_option linter.unusedSimpArgs false
namespace Go.Proofs.Ytgdialknnjnehaa
open Go.RowKit

def abVals (L : List (List Int)) (A : Nat → Option Addr) (C : Nat → Nat) (K : Nat → Int) : Nat → List Value
  | 0 => []
  | n + 1 => abVals L A C K n ++ [.slice (A n) (rw_ L n).length (C n), .int .i64 (K n)]
section
variable {L L' : List (List Int)} {A A' : Nat → Option Addr} {C C' : Nat → Nat} {K K' : Nat → Int}
theorem abVals_len : ∀ n, (abVals L A C K n).length = n * 2
  | 0 => rfl
  | n + 1 => by rw [abVals, List.length_append, abVals_len n]; simp; omega
theorem abVals_0 {i : Nat} : ∀ {n}, i < n → (abVals L A C K n)[i * 2]? = some (.slice (A i) (rw_ L i).length (C i))
  | n + 1, h => by
    rw [abVals]
    by_cases he : i = n
    · subst he; rw [List.getElem?_append_right (by rw [abVals_len]; omega), abVals_len]; simp
    · rw [List.getElem?_append_left (by rw [abVals_len]; omega)]; exact abVals_0 (by omega)
theorem abVals_1 {i : Nat} : ∀ {n}, i < n → (abVals L A C K n)[i * 2 + 1]? = some (.int .i64 (K i))
  | n + 1, h => by
    rw [abVals]
    by_cases he : i = n
    · subst he; rw [List.getElem?_append_right (by rw [abVals_len]; omega), abVals_len, show i * 2 + 1 - i * 2 = 1 by omega]; rfl
    · rw [List.getElem?_append_left (by rw [abVals_len]; omega)]; exact abVals_1 (by omega)
theorem abVals_congr : ∀ {n}, (∀ i, i < n → rw_ L i = rw_ L' i ∧ A i = A' i ∧ C i = C' i ∧ K i = K' i) → abVals L A C K n = abVals L' A' C' K' n
  | 0, _ => rfl
  | n + 1, h => by
    rw [abVals, abVals, abVals_congr (n := n) (fun i hi => h i (by omega))]
    obtain ⟨h1, h2, h3, h4⟩ := h n (by omega)
    rw [h1, h2, h3, h4]
end
/-- read: the groups' factors, and their ranks -/
def RdA (w : World) (a : Option Addr) (n : Nat) (L : List (List Int)) (K : Nat → Int) : Prop :=
  0 < n → ∃ b o, a = some ⟨b, o, none⟩ ∧ ∀ i, i < n → ∃ ai ci, w.cell? ⟨b, o + i * 2, none⟩ = some (.slice ai (rw_ L i).length ci) ∧ w.cell? ⟨b, o + i * 2 + 1, none⟩ = some (.int .i64 (K i)) ∧ RdI w ai (rw_ L i) ∧ (rw_ L i).length ≤ ci
structure OwnA (T0 T2 : TypeId) (w : World) (B : Nat) (a : Option Addr) (n cap : Nat) (L : List (List Int)) (A : Nat → Option Addr) (C : Nat → Nat) (K : Nat → Int) : Prop where
  len : L.length = n
  own : w.ownsRow B T0 2 (.slice a n cap) n (abVals L A C K n)
  row : ∀ i, i < n → OwnI T2 w B (A i) (rw_ L i).length (C i) (rw_ L i)
  ap : ∀ i j, i < n → j < n → i ≠ j → Apart (A i) (A j)
  apo : ∀ i, i < n → Apart a (A i)
section
variable {T0 T2 : TypeId} {w w' : World} {B : Nat} {a : Option Addr} {n cap : Nat} {L : List (List Int)} {A : Nat → Option Addr} {C : Nat → Nat} {K : Nat → Int}
theorem owns2_cases {T : TypeId} {xs : List Value} (h : w.ownsRow B T 2 (.slice a n cap) n xs) : (a = Option.none ∧ n = 0 ∧ cap = 0 ∧ xs = []) ∨
    ∃ g cur, a = some ⟨g, 0, Option.none⟩ ∧ B ≤ g ∧ w.heap[g]? = some (.cells cur T (0, 0)) ∧ n ≤ cap ∧ cap ≤ maxLen ∧ cur.size = cap * 2 ∧ cur.toList.take (n * 2) = xs := by
  obtain ⟨h1, h2⟩ := h
  rcases h2 with ⟨h2, h3⟩ | ⟨g, cap', cur, hv, hg, hh, h3, h4, h5, h6⟩
  · injection h2 with e1 e2 e3
    subst e1; subst e2; subst e3
    exact .inl ⟨rfl, rfl, rfl, List.eq_nil_of_length_eq_zero (by simpa using h1)⟩
  · injection hv with e1 e2 e3
    subst e1; subst e3
    exact .inr ⟨g, cur, rfl, hg, hh, h3, h4, h5, h6⟩
theorem owns2_block {T : TypeId} {xs : List Value} (h : w.ownsRow B T 2 (.slice a n cap) n xs) : ∀ p, a = some p → B ≤ p.block ∧ p.block < w.heap.size := by
  intro p hp
  rcases owns2_cases h with ⟨ha, _⟩ | ⟨g, cur, ha, hg, hh, _⟩
  · rw [ha] at hp; cases hp
  · rw [ha] at hp; injection hp with e; subst e
    exact ⟨hg, (Array.getElem?_eq_some_iff.1 hh).1⟩
theorem owns2_same {T : TypeId} {xs : List Value} (h : w.ownsRow B T 2 (.slice a n cap) n xs) (hs : ∀ p, a = some p → w'.heap[p.block]? = w.heap[p.block]?) : w'.ownsRow B T 2 (.slice a n cap) n xs := by
  refine ⟨h.1, ?_⟩
  rcases h.2 with h2 | ⟨g, cap', cur, hv, hg, hh, rest⟩
  · exact .inl h2
  · refine .inr ⟨g, cap', cur, hv, hg, ?_, rest⟩
    injection hv with e1 e2 e3
    rw [hs _ e1]; exact hh
theorem owns2_mono {T : TypeId} {B' : Nat} {v : Value} {xs : List Value} (h : w.ownsRow B T 2 v n xs) (hB : B' ≤ B) : w.ownsRow B' T 2 v n xs := by
  refine ⟨h.1, ?_⟩
  rcases h.2 with h2 | ⟨g, cap', cur, hv, hg, rest⟩
  · exact .inl h2
  · exact .inr ⟨g, cap', cur, hv, Nat.le_trans hB hg, rest⟩
theorem owns2_cell {T : TypeId} {xs : List Value} (h : w.ownsRow B T 2 (.slice a n cap) n xs) (h0 : 0 < n) : ∃ g, a = some ⟨g, 0, Option.none⟩ ∧ ∀ i, i < n * 2 → w.cell? ⟨g, i, Option.none⟩ = xs[i]? := by
  rcases owns2_cases h with ⟨_, hn, _⟩ | ⟨g, cur, ha, hg, hh, h1, h2, h3, h4⟩
  · omega
  · refine ⟨g, ha, fun i hi => ?_⟩
    rw [wr_cell hh, ← h4, List.getElem?_take, if_pos hi]
    simp
theorem OwnA.capl (h : OwnA T0 T2 w B a n cap L A C K) : n ≤ cap := by
  rcases owns2_cases h.own with ⟨_, h1, h2, _⟩ | ⟨g, cur, _, _, _, h1, _⟩ <;> omega
theorem OwnA.rd (h : OwnA T0 T2 w B a n cap L A C K) : RdA w a n L K := fun h0 => by
  obtain ⟨g, ha, hc⟩ := owns2_cell h.own h0
  refine ⟨g, 0, ha, fun i hi => ⟨A i, C i, ?_, ?_, (h.row i hi).rd, (h.row i hi).capl⟩⟩
  · rw [Nat.zero_add, hc _ (by omega), abVals_0 hi]
  · rw [Nat.zero_add, hc _ (by omega), abVals_1 hi]
theorem OwnA.none (A : Nat → Option Addr) (C : Nat → Nat) (K : Nat → Int) : OwnA T0 T2 w B Option.none 0 0 [] A C K :=
  ⟨rfl, World.ownsRow_nil w B T0 2, fun i h => absurd h (by omega), fun i j h => absurd h (by omega), fun i h => absurd h (by omega)⟩
theorem OwnA.empty (w : World) (A : Nat → Option Addr) (C : Nat → Nat) (K : Nat → Int) : OwnA T0 T2 (w.alloc (.cells #[] T0)) w.heap.size (some ⟨w.heap.size, 0, Option.none⟩) 0 0 [] A C K :=
  ⟨rfl, World.ownsRow_made w #[] 0 (Nat.le_refl _) (Nat.zero_le _) (by simp), fun i h => absurd h (by omega), fun i j h => absurd h (by omega), fun i h => absurd h (by omega)⟩
theorem OwnA.same (h : OwnA T0 T2 w B a n cap L A C K) (hs : ∀ p, a = some p → w'.heap[p.block]? = w.heap[p.block]?) (hr : ∀ i, i < n → ∀ p, A i = some p → w'.heap[p.block]? = w.heap[p.block]?) : OwnA T0 T2 w' B a n cap L A C K :=
  ⟨h.len, owns2_same h.own hs, fun i hi => (h.row i hi).same (hr i hi), h.ap, h.apo⟩
theorem OwnA.keep {B1 : Nat} (h : OwnA T0 T2 w B a n cap L A C K) (hb : Below B1 w w') (hB : w.heap.size ≤ B1) : OwnA T0 T2 w' B a n cap L A C K :=
  h.same (fun p hp => hb.block _ (Nat.lt_of_lt_of_le (owns2_block h.own p hp).2 hB)) (fun i hi p hp => hb.block _ (Nat.lt_of_lt_of_le ((h.row i hi).block p hp).2 hB))
theorem OwnA.mono {B' : Nat} (h : OwnA T0 T2 w B a n cap L A C K) (hB : B' ≤ B) : OwnA T0 T2 w B' a n cap L A C K :=
  ⟨h.len, owns2_mono h.own hB, fun i hi => (h.row i hi).mono hB, h.ap, h.apo⟩
theorem RdA.same (h : RdA w a n L K) (hs : ∀ p, a = some p → w'.heap[p.block]? = w.heap[p.block]?) (hr : ∀ i, i < n → ∀ ai, RdI w ai (rw_ L i) → RdI w' ai (rw_ L i)) : RdA w' a n L K := fun h0 => by
  obtain ⟨b, o, ha, hc⟩ := h h0
  refine ⟨b, o, ha, fun i hi => ?_⟩
  obtain ⟨ai, ci, c1, c2, c3, c4⟩ := hc i hi
  have e := hs _ ha
  exact ⟨ai, ci, (World.cell?_of_block (w := w) (a := ⟨b, o + i * 2, none⟩) e).trans c1, (World.cell?_of_block (w := w) (a := ⟨b, o + i * 2 + 1, none⟩) e).trans c2, hr i hi ai c3, c4⟩
theorem RdA.keep {B1 : Nat} (h : RdA w a n L K) (hb : Below B1 w w') (hB : w.heap.size ≤ B1) : RdA w' a n L K := fun h0 => by
  obtain ⟨b, o, ha, hc⟩ := h h0
  refine ⟨b, o, ha, fun i hi => ?_⟩
  obtain ⟨ai, ci, c1, c2, c3, c4⟩ := hc i hi
  have e : w'.heap[b]? = w.heap[b]? := hb.block _ (Nat.lt_of_lt_of_le (block_lt (p := ⟨b, o + i * 2, none⟩) c1) hB)
  exact ⟨ai, ci, (World.cell?_of_block (w := w) (a := ⟨b, o + i * 2, none⟩) e).trans c1, (World.cell?_of_block (w := w) (a := ⟨b, o + i * 2 + 1, none⟩) e).trans c2, c3.keep hb hB, c4⟩
end
/-- a group with factors in a new block is appended -/
theorem OwnA.push {T0 T2 : TypeId} {wi wc w4 : World} {B Bc j c1 c4 m cc : Nat} {a1 a4 ac : Option Addr} {L : List (List Int)} {xs : List Int} {A : Nat → Option Addr} {C : Nat → Nat} {K : Nat → Int} {r : Int}
    (h : OwnA T0 T2 wi B a1 j c1 L A C K) (hB : B ≤ wi.heap.size) (hb : Below wi.heap.size wi wc) (ho : OwnI T2 wc Bc ac m cc xs) (hBc : wi.heap.size ≤ Bc)
    (r4 : w4.ownsRow B T0 2 (.slice a4 (j + 1) c4) (j + 1) (abVals L A C K j ++ [.slice ac m cc, .int .i64 r])) (q4 : a4 = a1 ∨ a4 = some ⟨wc.heap.size, 0, Option.none⟩)
    (g4 : Chg (fun k => ∃ p, a1 = some p ∧ p.block = k) wc w4) :
    OwnA T0 T2 w4 B a4 (j + 1) c4 (L ++ [xs]) (upd A j ac) (upd C j cc) (upd K j r) ∧ Below B wi w4 := by
  obtain rfl := ho.len
  have hsz := hb.size
  have h1 : OwnA T0 T2 wc B a1 j c1 L A C K := h.keep hb (Nat.le_refl _)
  have hap : ∀ (b : Option Addr), (∀ p, b = some p → p.block < wi.heap.size) → Apart b ac := fun b hb' p q hp hq e => by
    have h3 := hb' p hp
    have h4 := (ho.block q hq).1
    omega
  have hra : ∀ i, i < j → Apart (A i) ac := fun i hi => hap _ (fun p hp => ((h.row i hi).block p hp).2)
  have hro : Apart a1 ac := hap _ (fun p hp => (owns2_block h.own p hp).2)
  have hlen := h.len
  have e0 : rw_ (L ++ [xs]) j = xs := by rw [← hlen]; exact rw_append_eq
  have el' : ∀ i, i < j → rw_ (L ++ [xs]) i = rw_ L i := fun i hi => rw_append_lt (by omega)
  have hkeep : ∀ i, i < j → OwnI T2 w4 B (A i) (rw_ L i).length (C i) (rw_ L i) := fun i hi =>
    (h1.row i hi).kept g4 (fun p hp hx => by obtain ⟨q, hq, e⟩ := hx; exact h.apo i hi q p hq hp e)
  have hkr : OwnI T2 w4 B ac xs.length cc xs := (ho.mono (by omega)).kept g4 (fun p hp hx => by obtain ⟨q, hq, e⟩ := hx; exact hro q p hq hp e)
  have hapo : ∀ b, Apart a1 b → (∀ p, b = some p → p.block < wc.heap.size) → Apart a4 b := by
    intro b hb hlt p q hp hq'
    rcases q4 with hq | hq
    · rw [hq] at hp; exact hb p q hp hq'
    · rw [hq] at hp; injection hp with e; subst e
      have := hlt q hq'
      show wc.heap.size ≠ q.block
      omega
  refine ⟨⟨by simp [hlen], ?_, fun i hi => ?_, fun i k hi hk hne => ?_, fun i hi => ?_⟩, ?_⟩
  · have e : abVals (L ++ [xs]) (upd A j ac) (upd C j cc) (upd K j r) (j + 1) = abVals L A C K j ++ [.slice ac xs.length cc, .int .i64 r] := by
      rw [abVals, abVals_congr (L' := L) (A' := A) (C' := C) (K' := K) (fun i hi => ⟨el' i hi, upd_lt hi, upd_lt hi, upd_lt hi⟩), e0, upd_eq, upd_eq, upd_eq]
    rw [e]; exact r4
  · by_cases he : i = j
    · subst he; rw [e0, upd_eq, upd_eq]; exact hkr
    · have hi' : i < j := by omega
      rw [el' i hi', upd_lt hi', upd_lt hi']; exact hkeep i hi'
  · by_cases h1 : i = j
    · subst h1
      rw [upd_eq, upd_lt (show k < i by omega)]; exact (hra k (by omega)).symm
    · by_cases h2 : k = j
      · subst h2
        rw [upd_eq, upd_lt (show i < k by omega)]; exact hra i (by omega)
      · rw [upd_lt (show i < j by omega), upd_lt (show k < j by omega)]; exact h.ap i k (by omega) (by omega) hne
  · by_cases h1 : i = j
    · subst h1; rw [upd_eq]; exact hapo _ hro (fun p hp => (ho.block p hp).2)
    · rw [upd_lt (show i < j by omega)]; exact hapo _ (h.apo i (by omega)) (fun p hp => Nat.lt_of_lt_of_le ((h.row i (by omega)).block p hp).2 hsz)
  · exact (hb.mono hB).trans (g4.below (by omega) (fun k hk hx => by obtain ⟨x, hx, e⟩ := hx; have := (owns2_block h.own x hx).1; omega))
/-! ### the laws' helpers -/
/-- where the marks of the i-th group begin -/
def stA (k : Int) (L : List (List Int)) : Nat → Int
  | 0 => k
  | i + 1 => stA k L i + (rw_ L i).length + 1
theorem stA_ge {k : Int} {L : List (List Int)} : ∀ i, k ≤ stA k L i
  | 0 => Int.le_refl _
  | i + 1 => by have := stA_ge (k := k) (L := L) i; rw [stA]; omega
theorem stA_le {k : Int} {L : List (List Int)} (hx : ∀ i, (rw_ L i).length ≤ 1000) : ∀ i : Nat, stA k L i ≤ k + 1001 * i
  | 0 => by simp [stA]
  | i + 1 => by have := stA_le (k := k) hx i; have := hx i; rw [stA]; omega
def mkA (k : Int) (L : List (List Int)) : List (List Int) := (List.range L.length).map fun i => marks (stA k L i) (rw_ L i).length
theorem mkA_row {k : Int} {L : List (List Int)} {i : Nat} (h : i < L.length) : rw_ (mkA k L) i = marks (stA k L i) (rw_ L i).length := by simp [mkA, rw_, h]
set_option maxHeartbeats 1000000 in
theorem eqAbelianS_t (a b : Option Addr) (n ca cb : Nat) (L : List (List Int)) (K : Nat → Int) (w : World) (ha : RdA w a n L K) (hb : RdA w b n L K) (hn : n ≤ 100000) (hx : ∀ i, (rw_ L i).length ≤ 1000) :
    Calls Try.prog 45 #[.slice a n ca, .slice b n cb] w fun e w' => e = .returned (.bool true) ∧ Below w.heap.size w w' := by
  have HA := Lib.hid ha
  have HB := Lib.hid hb
  have HX := Lib.hid hx
  clear ha hb hx
  go_enter Try.func45, Try.ntmps45
  go_wp2
  go_loopw [5] (fun i wr => ∃ k : Nat, k ≤ n ∧ i = .int .i64 k ∧ Hid (Below w.heap.size w wr)) (fun i _ => n - (intOf i).toNat)
  case atStart => exact ⟨0, Nat.zero_le _, rfl, Lib.hid (Below.refl _ _)⟩
  case round =>
    obtain ⟨k, hk, rfl, HW⟩ := hrel
    by_cases hlt : k < n
    · obtain ⟨b1, o1, rfl, c1⟩ := HA.out.keep HW.out (Nat.le_refl _) (by omega)
      obtain ⟨b2, o2, rfl, c2⟩ := HB.out.keep HW.out (Nat.le_refl _) (by omega)
      obtain ⟨a1, d1, x1, x2, x3, _⟩ := c1 k hlt
      obtain ⟨a2, d2, y1, y2, y3, _⟩ := c2 k hlt
      have R1 := Lib.hid x3
      have R2 := Lib.hid y3
      have hxk := HX.out k
      obtain ⟨m, hm⟩ : ∃ m, m = (rw_ L k).length := ⟨_, rfl⟩
      rw [← hm] at x1 y1 hxk
      have HM1 : Hid ((rw_ L k).length = m) := Lib.hid hm.symm
      have HM2 : Hid (m ≤ 1000000000000) := Lib.hid (by omega)
      clear c1 c2 x3 y3 hm
      obtain ⟨wi, rfl⟩ : ∃ x, x = wr := ⟨wr, rfl⟩
      go_wp2_with fail
      have b1l : b1 < wi.heap.size := block_lt (p := ⟨b1, o1 + k * 2, none⟩) x1
      have b2l : b2 < wi.heap.size := block_lt (p := ⟨b2, o2 + k * 2, none⟩) y1
      go_region_held3 (fun w' => w'.cell? ⟨b1, o1 + k * 2, none⟩ = some (.slice a1 m d1) ∧ w'.cell? ⟨b1, o1 + k * 2 + 1, none⟩ = some (.int .i64 (K k)) ∧ w'.cell? ⟨b2, o2 + k * 2, none⟩ = some (.slice a2 m d2) ∧ w'.cell? ⟨b2, o2 + k * 2 + 1, none⟩ = some (.int .i64 (K k))) (go_keep)
        (first
          | (go_at_call 18; (with_reducible refine (eqAbelian_t a1 a2 m m d1 d2 (rw_ L k) (K k) _ ?_ ?_ HM1.out HM1.out HM2.out).mono ?_); exact R1.out; exact R2.out; rintro e w2 ⟨rfl, hb0⟩; have hb : Below wi.heap.size wi w2 := ⟨hb0.os, hb0.tape, hb0.output, hb0.size, hb0.block⟩; have x1' := cell_below (p := ⟨b1, o1 + k * 2, none⟩) x1 hb; have x2' := cell_below (p := ⟨b1, o1 + k * 2 + 1, none⟩) x2 hb; have y1' := cell_below (p := ⟨b2, o2 + k * 2, none⟩) y1 hb; have y2' := cell_below (p := ⟨b2, o2 + k * 2 + 1, none⟩) y2 hb; have HW2 : Hid (Below w.heap.size w w2) := Lib.hid (HW.out.trans (hb.mono HW.out.size)); clear hb hb0))
      go_wp2_with fail
      go_roundw
      case rel => exact ⟨k + 1, by omega, by go_num, HW2⟩
      case measure => simp [intOf]; omega
    · go_wp2
      go_ret
      exact ⟨rfl, HW.out⟩
/-- marks are being laid: i groups are done -/
structure MkA (T0 T2 : TypeId) (w wr : World) (B : Nat) (a : Option Addr) (n : Nat) (L : List (List Int)) (A : Nat → Option Addr) (C : Nat → Nat) (K : Nat → Int) (k : Int) (i : Nat) : Prop where
  out : 0 < n → ∃ g cur, a = some ⟨g, 0, none⟩ ∧ B ≤ g ∧ wr.heap[g]? = some (.cells cur T0 (0, 0)) ∧ ∀ j, j < n → cur[j * 2]? = some (.slice (A j) (rw_ L j).length (C j)) ∧ cur[j * 2 + 1]? = some (.int .i64 (if j < i then stA k L j + (rw_ L j).length else K j))
  done : ∀ j, j < i → RdI wr (A j) (marks (stA k L j) (rw_ L j).length)
  todo : ∀ j, i ≤ j → j < n → OwnI T2 wr B (A j) (rw_ L j).length (C j) (rw_ L j)
  lt : ∀ j, j < n → ∀ p, A j = some p → B ≤ p.block ∧ p.block < wr.heap.size
  bel : Below B w wr
section
variable {T0 T2 : TypeId} {w wr w2 : World} {B : Nat} {a : Option Addr} {n cap : Nat} {L : List (List Int)} {A : Nat → Option Addr} {C : Nat → Nat} {K : Nat → Int} {k : Int} {i g : Nat}
theorem MkA.start (h : OwnA T0 T2 w B a n cap L A C K) (k : Int) : MkA T0 T2 w w B a n L A C K k 0 := by
  refine ⟨fun h0 => ?_, fun j hj => absurd hj (by omega), fun j _ hj => h.row j hj, fun j hj => (h.row j hj).block, Below.refl _ _⟩
  rcases owns2_cases h.own with ⟨_, hn, _⟩ | ⟨g, cur, ha, hg, hh, h1, h2, h3, h4⟩
  · omega
  · refine ⟨g, cur, ha, hg, hh, fun j hj => ?_⟩
    have e : ∀ t, t < n * 2 → cur[t]? = (abVals L A C K n)[t]? := fun t ht => by rw [← h4, List.getElem?_take, if_pos ht]; simp
    rw [if_neg (by omega), e _ (by omega), e _ (by omega)]
    exact ⟨abVals_0 hj, abVals_1 hj⟩
theorem MkA.step (h : MkA T0 T2 w wr B a n L A C K k i) (hap : ∀ i j, i < n → j < n → i ≠ j → Apart (A i) (A j)) (hapo : ∀ i, i < n → Apart a (A i)) (hi : i < n) (hr : RdI w2 (A i) (marks (stA k L i) (rw_ L i).length)) (hc : Chg (fun j => ∃ p, A i = some p ∧ p.block = j) wr w2) (ha : a = some ⟨g, 0, none⟩) :
    MkA T0 T2 w (w2.setCell ⟨g, i * 2 + 1, none⟩ (.int .i64 (stA k L i + (rw_ L i).length))) B a n L A C K k (i + 1) := by
  obtain ⟨g', cur, ha', hg, hh, hcur⟩ := h.out (by omega)
  rw [ha] at ha'
  injection ha' with e; injection e with e1; subst e1
  have hgl : g < wr.heap.size := (Array.getElem?_eq_some_iff.1 hh).1
  have hh2 : w2.heap[g]? = some (.cells cur T0 (0, 0)) := (hc.block g hgl (fun hx => by obtain ⟨p, hp, e⟩ := hx; exact hapo i hi _ p ha hp e.symm)).trans hh
  have hset : ∀ m, m ≠ g → (w2.setCell ⟨g, i * 2 + 1, none⟩ (.int .i64 (stA k L i + (rw_ L i).length))).heap[m]? = w2.heap[m]? := fun m hm => by
    have := (Chg.refl (fun j => j = g) w2).setCell ⟨g, i * 2 + 1, none⟩ rfl (.int .i64 (stA k L i + (rw_ L i).length))
    rcases Nat.lt_or_ge m w2.heap.size with hl | hl
    · exact this.block m hl hm
    · rw [Array.getElem?_eq_none hl, Array.getElem?_eq_none (by simp; omega)]
  have hne : ∀ j, j < n → ∀ p, A j = some p → p.block ≠ g := fun j hj p hp e => hapo j hj _ p ha hp e.symm
  refine ⟨fun _ => ⟨g, cur.setIfInBounds (i * 2 + 1) (.int .i64 (stA k L i + (rw_ L i).length)), ha, hg, wr_setCell hh2 _, fun j hj => ?_⟩, fun j hj => ?_, fun j hj1 hj2 => ?_, fun j hj p hp => ?_, ?_⟩
  · obtain ⟨c1, c2⟩ := hcur j hj
    refine ⟨by rw [Array.getElem?_setIfInBounds_ne (by omega)]; exact c1, ?_⟩
    by_cases he : j = i
    · subst he
      rw [if_pos (by omega), Array.getElem?_setIfInBounds_self_of_lt ((Array.getElem?_eq_some_iff.1 c2).1)]
    · rw [Array.getElem?_setIfInBounds_ne (by omega), c2]
      by_cases hl : j < i
      · rw [if_pos hl, if_pos (by omega)]
      · rw [if_neg hl, if_neg (by omega)]
  · by_cases he : j = i
    · subst he; exact hr.same (fun p hp => hset _ (hne j hi p hp))
    · refine ((h.done j (by omega)).same (fun p hp => ?_)).same (fun p hp => hset _ (hne j (by omega) p hp))
      exact hc.block _ (h.lt j (by omega) p hp).2 (fun hx => by obtain ⟨q, hq, e⟩ := hx; exact hap i j hi (by omega) (fun e => he e.symm) q p hq hp e)
  · refine ((h.todo j (by omega) hj2).same (fun p hp => ?_)).same (fun p hp => hset _ (hne j hj2 p hp))
    exact hc.block _ (h.lt j hj2 p hp).2 (fun hx => by obtain ⟨q, hq, e⟩ := hx; exact hap i j hi hj2 (by omega) q p hq hp e)
  · have h1 := h.lt j hj p hp
    have h2 := hc.size
    refine ⟨h1.1, ?_⟩
    simp
    omega
  · have h1 := hc.size
    exact (h.bel.trans (hc.below (by have := h.bel.size; omega) (fun j hj hx => by obtain ⟨p, hp, e⟩ := hx; have := (h.lt i hi p hp).1; omega))).setCell (p := ⟨g, i * 2 + 1, none⟩) hg _
theorem MkA.rd (h : MkA T0 T2 w wr B a n L A C K k n) (hl : L.length = n) (hC : ∀ i, i < n → (rw_ L i).length ≤ C i) : RdA wr a n (mkA k L) (fun i => stA k L i + (rw_ L i).length) := fun h0 => by
  obtain ⟨g, cur, ha, hg, hh, hcur⟩ := h.out h0
  refine ⟨g, 0, ha, fun i hi => ⟨A i, C i, ?_, ?_, ?_, ?_⟩⟩
  · rw [mkA_row (by omega), marks_len, Nat.zero_add, wr_cell hh]; exact (hcur i hi).1
  · rw [Nat.zero_add, wr_cell hh, (hcur i hi).2, if_pos hi]
  · rw [mkA_row (by omega)]; exact h.done i hi
  · rw [mkA_row (by omega), marks_len]; exact hC i hi
end
set_option maxHeartbeats 1000000 in
theorem markAbelianS_t (T0 T2 : TypeId) (a : Option Addr) (n c B : Nat) (L : List (List Int)) (A : Nat → Option Addr) (C : Nat → Nat) (K : Nat → Int) (k : Int) (w : World) (h : OwnA T0 T2 w B a n c L A C K) (hn : n ≤ 100000) (hx : ∀ i, (rw_ L i).length ≤ 1000) (h0 : 0 ≤ k) (h1 : k ≤ 1000000000) :
    Calls Try.prog 46 #[.slice a n c, .int .i64 k] w fun e w' => e = .returned (.int .i64 (stA k L n)) ∧ RdA w' a n (mkA k L) (fun i => stA k L i + (rw_ L i).length) ∧ Below B w w' := by
  have HO := Lib.hid h
  have HX := Lib.hid hx
  clear h hx
  go_enter Try.func46, Try.ntmps46
  go_wp2
  go_loopw [5, 1] (fun i q wr => ∃ j : Nat, j ≤ n ∧ i = .int .i64 j ∧ q = .int .i64 (stA k L j) ∧ Hid (MkA T0 T2 w wr B a n L A C K k j)) (fun i _ _ => n - (intOf i).toNat)
  case atStart => exact ⟨0, Nat.zero_le _, rfl, rfl, Lib.hid (MkA.start HO.out k)⟩
  case round =>
    obtain ⟨j, hj, rfl, rfl, HM⟩ := hrel
    by_cases hlt : j < n
    · obtain ⟨g, cur, ha, hg, hh, hcur⟩ := HM.out.out (by omega)
      have d0 : wr.cell? ⟨g, j * 2, none⟩ = some (.slice (A j) (rw_ L j).length (C j)) := by rw [wr_cell hh]; exact (hcur j hlt).1
      have d1 : ∃ v, wr.cell? ⟨g, j * 2 + 1, none⟩ = some v := ⟨_, by rw [wr_cell hh]; exact (hcur j hlt).2⟩
      have f1 : wr.frozen? ⟨g, j * 2 + 1, none⟩ = false := wr_frozen hh
      have HHg := Lib.hid hh
      have HA := Lib.hid ha
      obtain ⟨v1, d1⟩ := d1
      have hs1 := stA_le (k := k) HX.out j
      have hs2 := stA_ge (k := k) (L := L) j
      have hl9 := HX.out j
      obtain ⟨l, hl⟩ : ∃ l, l = (rw_ L j).length := ⟨_, rfl⟩
      obtain ⟨s, hs⟩ : ∃ s, s = stA k L j := ⟨_, rfl⟩
      have HLE := Lib.hid hl
      have HSE := Lib.hid hs
      have HST : Hid (stA k L (j + 1) = s + l + 1) := Lib.hid (by rw [stA, ← hl, ← hs])
      have HW : Hid (WrI T2 wr (A j) l) := Lib.hid (by rw [hl]; exact (HM.out.todo j (Nat.le_refl _) hlt).wr)
      rw [← hl] at d0 hl9
      rw [← hs] at hs1 hs2 ⊢
      subst ha
      clear hcur hh hl hs hg
      obtain ⟨wi, rfl⟩ : ∃ x, x = wr := ⟨wr, rfl⟩
      have hgl : g < wi.heap.size := block_lt (p := ⟨g, j * 2, none⟩) d0
      go_wp2_with (go_at_call 33; refine (markInt64S_t T2 _ _ _ _ _ (by exact HW.out) (by omega) (by omega) (by omega)).mono ?_; rintro e w' ⟨rfl, hr, hc⟩; have HR := Lib.hid hr; have HC := Lib.hid hc; have hblk : w'.heap[g]? = wi.heap[g]? := (hc.block g hgl (fun hx => by obtain ⟨p, hp, e⟩ := hx; exact HO.out.apo j hlt ⟨g, 0, none⟩ p rfl hp e.symm)); have d0' : w'.cell? ⟨g, j * 2, none⟩ = some (.slice (A j) l (C j)) := (World.cell?_of_block (w := wi) (a := ⟨g, j * 2, none⟩) hblk).trans d0; have d1' : w'.cell? ⟨g, j * 2 + 1, none⟩ = some v1 := (World.cell?_of_block (w := wi) (a := ⟨g, j * 2 + 1, none⟩) hblk).trans d1; have f1' : w'.frozen? ⟨g, j * 2 + 1, none⟩ = false := (World.frozen?_of_block (w := wi) (a := ⟨g, j * 2 + 1, none⟩) hblk).trans f1; clear hr hc hblk)
      have HN : Hid (MkA T0 T2 w (w'.setCell ⟨g, j * 2 + 1, none⟩ (.int .i64 (s + l))) B (some ⟨g, 0, none⟩) n L A C K k (j + 1)) := Lib.hid (by
        have h := HM.out.step (w2 := w') HO.out.ap HO.out.apo hlt (by rw [← HLE.out, ← HSE.out]; exact HR.out) HC.out rfl
        rw [← HLE.out, ← HSE.out] at h
        exact h)
      go_roundw
      case rel => exact ⟨j + 1, by omega, by go_num, by rw [HST.out], HN⟩
      case measure => simp [intOf]; omega
    · obtain rfl : j = n := by omega
      go_wp2
      go_ret
      exact ⟨rfl, HM.out.rd HO.out.len (fun i hi => (HO.out.row i hi).capl), HM.out.bel⟩
set_option maxHeartbeats 1000000 in
theorem heldAbelianS_t (a : Option Addr) (n c : Nat) (L : List (List Int)) (k : Int) (w : World) (h : RdA w a n (mkA k L) (fun i => stA k L i + (rw_ L i).length)) (hL : L.length = n) (hn : n ≤ 100000) (hx : ∀ i, (rw_ L i).length ≤ 1000) (h0 : 0 ≤ k) (h1 : k ≤ 1000000000) :
    Calls Try.prog 47 #[.slice a n c, .int .i64 k] w fun e w' => e = .returned (.int .i64 (stA k L n)) ∧ w = w' := by
  have HO := Lib.hid h
  have HX := Lib.hid hx
  have HL := Lib.hid hL
  clear h hx hL
  go_enter Try.func47, Try.ntmps47
  go_wp2
  go_loop [5, 1] (fun i q => ∃ j : Nat, j ≤ n ∧ i = .int .i64 j ∧ q = .int .i64 (stA k L j)) (fun i _ => n - (intOf i).toNat)
  case atStart => exact ⟨0, Nat.zero_le _, rfl, rfl⟩
  case round =>
    obtain ⟨j, hj, rfl, rfl⟩ := hrel
    by_cases hlt : j < n
    · obtain ⟨b, o, rfl, hc⟩ := HO.out (by omega)
      obtain ⟨ai, ci, d0, d1o, r1, _⟩ := hc j hlt
      rw [mkA_row (by rw [HL.out]; exact hlt)] at d0 r1
      rw [marks_len] at d0
      have hs1 := stA_le (k := k) HX.out j
      have hs2 := stA_ge (k := k) (L := L) j
      have hl9 := HX.out j
      obtain ⟨l, hl⟩ : ∃ l, l = (rw_ L j).length := ⟨_, rfl⟩
      obtain ⟨s, hs⟩ : ∃ s, s = stA k L j := ⟨_, rfl⟩
      have HST : Hid (stA k L (j + 1) = s + l + 1) := Lib.hid (by rw [stA, ← hl, ← hs])
      have d1 : w.cell? ⟨b, o + j * 2 + 1, none⟩ = some (.int .i64 (s + l)) := by rw [hl, hs]; exact d1o
      clear d1o
      rw [← hl] at d0 hl9 r1
      rw [← hs] at hs1 hs2 r1 ⊢
      have R1 := Lib.hid r1
      have g1 : ¬ s + (l : Int) < 0 := by omega
      have g2 : decide (s + (l : Int) < 0) = false := decide_eq_false g1
      clear hc r1 hl hs
      go_wp2_with (go_at_call 34; refine (heldInt64S_t _ _ _ _ _ (by exact R1.out) (by omega) (by omega) (by omega)).mono ?_; rintro e w' ⟨rfl, rfl⟩)
      go_round
      case rel => exact ⟨j + 1, by omega, by go_num, by rw [HST.out]⟩
      case measure => simp [intOf]; omega
    · obtain rfl : j = n := by omega
      go_wp2
      go_ret
      exact ⟨rfl, rfl⟩
end Go.Proofs.Ytgdialknnjnehaa
