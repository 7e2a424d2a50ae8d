/- Slices of abelian groups that the call owns: each group's factors in a block of their own. -/
import Derived.Test.YtkidohohiihbaaaAppK
import Derived.Test.YtkidohohiihbaaaOwnR
import Derived.Test.YtkidohohiihbaaaAb
import Derived.Test.YtkidohohiihbaaaRowW
import Derived.Test.YtkidohohiihbaaaBox
import Derived.Deep.RegionHeld3
set_option linter.unusedVariables false
set_option linter.unusedSimpArgs false
namespace Go.Proofs.Ytkidohohiihbaaa
open Go.RowKit

def abVals (L : List (List Int)) (A : Nat → Option Addr) (C : Nat → Nat) (K : Nat → Int) : Nat → List Value
  | 0 => []
  | n + 1 => abVals L A C K n ++ [.slice (A n) (rw_ L n).length (C n), .int .i64 (K n)]
section
variable {L L' : List (List Int)} {A A' : Nat → Option Addr} {C C' : Nat → Nat} {K K' : Nat → Int}
theorem abVals_len : ∀ n, (abVals L A C K n).length = n * 2
  | 0 => rfl
  | n + 1 => by rw [abVals, List.length_append, abVals_len n]; simp; omega
theorem abVals_0 {i : Nat} : ∀ {n}, i < n → (abVals L A C K n)[i * 2]? = some (.slice (A i) (rw_ L i).length (C i))
  | n + 1, h => by
    rw [abVals]
    by_cases he : i = n
    · subst he; rw [List.getElem?_append_right (by rw [abVals_len]; omega), abVals_len]; simp
    · rw [List.getElem?_append_left (by rw [abVals_len]; omega)]; exact abVals_0 (by omega)
theorem abVals_1 {i : Nat} : ∀ {n}, i < n → (abVals L A C K n)[i * 2 + 1]? = some (.int .i64 (K i))
  | n + 1, h => by
    rw [abVals]
    by_cases he : i = n
    · subst he; rw [List.getElem?_append_right (by rw [abVals_len]; omega), abVals_len, show i * 2 + 1 - i * 2 = 1 by omega]; rfl
    · rw [List.getElem?_append_left (by rw [abVals_len]; omega)]; exact abVals_1 (by omega)
theorem abVals_congr : ∀ {n}, (∀ i, i < n → rw_ L i = rw_ L' i ∧ A i = A' i ∧ C i = C' i ∧ K i = K' i) → abVals L A C K n = abVals L' A' C' K' n
  | 0, _ => rfl
  | n + 1, h => by
    rw [abVals, abVals, abVals_congr (n := n) (fun i hi => h i (by omega))]
    obtain ⟨h1, h2, h3, h4⟩ := h n (by omega)
    rw [h1, h2, h3, h4]
end
/-- read: the groups' factors, and their ranks -/
def RdA (w : World) (a : Option Addr) (n : Nat) (L : List (List Int)) (K : Nat → Int) : Prop :=
  0 < n → ∃ b o, a = some ⟨b, o, none⟩ ∧ ∀ i, i < n → ∃ ai ci, w.cell? ⟨b, o + i * 2, none⟩ = some (.slice ai (rw_ L i).length ci) ∧ w.cell? ⟨b, o + i * 2 + 1, none⟩ = some (.int .i64 (K i)) ∧ RdI w ai (rw_ L i) ∧ (rw_ L i).length ≤ ci
structure OwnA (T0 T2 : TypeId) (w : World) (B : Nat) (a : Option Addr) (n cap : Nat) (L : List (List Int)) (A : Nat → Option Addr) (C : Nat → Nat) (K : Nat → Int) : Prop where
  len : L.length = n
  own : w.ownsRow B T0 2 (.slice a n cap) n (abVals L A C K n)
  row : ∀ i, i < n → OwnI T2 w B (A i) (rw_ L i).length (C i) (rw_ L i)
  ap : ∀ i j, i < n → j < n → i ≠ j → Apart (A i) (A j)
  apo : ∀ i, i < n → Apart a (A i)
section
variable {T0 T2 : TypeId} {w w' : World} {B : Nat} {a : Option Addr} {n cap : Nat} {L : List (List Int)} {A : Nat → Option Addr} {C : Nat → Nat} {K : Nat → Int}
theorem owns2_cases {T : TypeId} {xs : List Value} (h : w.ownsRow B T 2 (.slice a n cap) n xs) : (a = Option.none ∧ n = 0 ∧ cap = 0 ∧ xs = []) ∨
    ∃ g cur, a = some ⟨g, 0, Option.none⟩ ∧ B ≤ g ∧ w.heap[g]? = some (.cells cur T (0, 0)) ∧ n ≤ cap ∧ cap ≤ maxLen ∧ cur.size = cap * 2 ∧ cur.toList.take (n * 2) = xs := by
  obtain ⟨h1, h2⟩ := h
  rcases h2 with ⟨h2, h3⟩ | ⟨g, cap', cur, hv, hg, hh, h3, h4, h5, h6⟩
  · injection h2 with e1 e2 e3
    subst e1; subst e2; subst e3
    exact .inl ⟨rfl, rfl, rfl, List.eq_nil_of_length_eq_zero (by simpa using h1)⟩
  · injection hv with e1 e2 e3
    subst e1; subst e3
    exact .inr ⟨g, cur, rfl, hg, hh, h3, h4, h5, h6⟩
theorem owns2_block {T : TypeId} {xs : List Value} (h : w.ownsRow B T 2 (.slice a n cap) n xs) : ∀ p, a = some p → B ≤ p.block ∧ p.block < w.heap.size := by
  intro p hp
  rcases owns2_cases h with ⟨ha, _⟩ | ⟨g, cur, ha, hg, hh, _⟩
  · rw [ha] at hp; cases hp
  · rw [ha] at hp; injection hp with e; subst e
    exact ⟨hg, (Array.getElem?_eq_some_iff.1 hh).1⟩
theorem owns2_same {T : TypeId} {xs : List Value} (h : w.ownsRow B T 2 (.slice a n cap) n xs) (hs : ∀ p, a = some p → w'.heap[p.block]? = w.heap[p.block]?) : w'.ownsRow B T 2 (.slice a n cap) n xs := by
  refine ⟨h.1, ?_⟩
  rcases h.2 with h2 | ⟨g, cap', cur, hv, hg, hh, rest⟩
  · exact .inl h2
  · refine .inr ⟨g, cap', cur, hv, hg, ?_, rest⟩
    injection hv with e1 e2 e3
    rw [hs _ e1]; exact hh
theorem owns2_mono {T : TypeId} {B' : Nat} {v : Value} {xs : List Value} (h : w.ownsRow B T 2 v n xs) (hB : B' ≤ B) : w.ownsRow B' T 2 v n xs := by
  refine ⟨h.1, ?_⟩
  rcases h.2 with h2 | ⟨g, cap', cur, hv, hg, rest⟩
  · exact .inl h2
  · exact .inr ⟨g, cap', cur, hv, Nat.le_trans hB hg, rest⟩
theorem owns2_cell {T : TypeId} {xs : List Value} (h : w.ownsRow B T 2 (.slice a n cap) n xs) (h0 : 0 < n) : ∃ g, a = some ⟨g, 0, Option.none⟩ ∧ ∀ i, i < n * 2 → w.cell? ⟨g, i, Option.none⟩ = xs[i]? := by
  rcases owns2_cases h with ⟨_, hn, _⟩ | ⟨g, cur, ha, hg, hh, h1, h2, h3, h4⟩
  · omega
  · refine ⟨g, ha, fun i hi => ?_⟩
    rw [wr_cell hh, ← h4, List.getElem?_take, if_pos hi]
    simp
theorem OwnA.capl (h : OwnA T0 T2 w B a n cap L A C K) : n ≤ cap := by
  rcases owns2_cases h.own with ⟨_, h1, h2, _⟩ | ⟨g, cur, _, _, _, h1, _⟩ <;> omega
theorem OwnA.rd (h : OwnA T0 T2 w B a n cap L A C K) : RdA w a n L K := fun h0 => by
  obtain ⟨g, ha, hc⟩ := owns2_cell h.own h0
  refine ⟨g, 0, ha, fun i hi => ⟨A i, C i, ?_, ?_, (h.row i hi).rd, (h.row i hi).capl⟩⟩
  · rw [Nat.zero_add, hc _ (by omega), abVals_0 hi]
  · rw [Nat.zero_add, hc _ (by omega), abVals_1 hi]
theorem OwnA.none (A : Nat → Option Addr) (C : Nat → Nat) (K : Nat → Int) : OwnA T0 T2 w B Option.none 0 0 [] A C K :=
  ⟨rfl, World.ownsRow_nil w B T0 2, fun i h => absurd h (by omega), fun i j h => absurd h (by omega), fun i h => absurd h (by omega)⟩
theorem OwnA.empty (w : World) (A : Nat → Option Addr) (C : Nat → Nat) (K : Nat → Int) : OwnA T0 T2 (w.alloc (.cells #[] T0)) w.heap.size (some ⟨w.heap.size, 0, Option.none⟩) 0 0 [] A C K :=
  ⟨rfl, World.ownsRow_made w #[] 0 (Nat.le_refl _) (Nat.zero_le _) (by simp), fun i h => absurd h (by omega), fun i j h => absurd h (by omega), fun i h => absurd h (by omega)⟩
theorem OwnA.same (h : OwnA T0 T2 w B a n cap L A C K) (hs : ∀ p, a = some p → w'.heap[p.block]? = w.heap[p.block]?) (hr : ∀ i, i < n → ∀ p, A i = some p → w'.heap[p.block]? = w.heap[p.block]?) : OwnA T0 T2 w' B a n cap L A C K :=
  ⟨h.len, owns2_same h.own hs, fun i hi => (h.row i hi).same (hr i hi), h.ap, h.apo⟩
theorem OwnA.keep {B1 : Nat} (h : OwnA T0 T2 w B a n cap L A C K) (hb : Below B1 w w') (hB : w.heap.size ≤ B1) : OwnA T0 T2 w' B a n cap L A C K :=
  h.same (fun p hp => hb.block _ (Nat.lt_of_lt_of_le (owns2_block h.own p hp).2 hB)) (fun i hi p hp => hb.block _ (Nat.lt_of_lt_of_le ((h.row i hi).block p hp).2 hB))
theorem OwnA.mono {B' : Nat} (h : OwnA T0 T2 w B a n cap L A C K) (hB : B' ≤ B) : OwnA T0 T2 w B' a n cap L A C K :=
  ⟨h.len, owns2_mono h.own hB, fun i hi => (h.row i hi).mono hB, h.ap, h.apo⟩
theorem RdA.same (h : RdA w a n L K) (hs : ∀ p, a = some p → w'.heap[p.block]? = w.heap[p.block]?) (hr : ∀ i, i < n → ∀ ai, RdI w ai (rw_ L i) → RdI w' ai (rw_ L i)) : RdA w' a n L K := fun h0 => by
  obtain ⟨b, o, ha, hc⟩ := h h0
  refine ⟨b, o, ha, fun i hi => ?_⟩
  obtain ⟨ai, ci, c1, c2, c3, c4⟩ := hc i hi
  have e := hs _ ha
  exact ⟨ai, ci, (World.cell?_of_block (w := w) (a := ⟨b, o + i * 2, none⟩) e).trans c1, (World.cell?_of_block (w := w) (a := ⟨b, o + i * 2 + 1, none⟩) e).trans c2, hr i hi ai c3, c4⟩
theorem RdA.keep {B1 : Nat} (h : RdA w a n L K) (hb : Below B1 w w') (hB : w.heap.size ≤ B1) : RdA w' a n L K := fun h0 => by
  obtain ⟨b, o, ha, hc⟩ := h h0
  refine ⟨b, o, ha, fun i hi => ?_⟩
  obtain ⟨ai, ci, c1, c2, c3, c4⟩ := hc i hi
  have e : w'.heap[b]? = w.heap[b]? := hb.block _ (Nat.lt_of_lt_of_le (block_lt (p := ⟨b, o + i * 2, none⟩) c1) hB)
  exact ⟨ai, ci, (World.cell?_of_block (w := w) (a := ⟨b, o + i * 2, none⟩) e).trans c1, (World.cell?_of_block (w := w) (a := ⟨b, o + i * 2 + 1, none⟩) e).trans c2, c3.keep hb hB, c4⟩
end
/-- a group with factors in a new block is appended -/
theorem OwnA.push {T0 T2 : TypeId} {wi wc w4 : World} {B Bc j c1 c4 m cc : Nat} {a1 a4 ac : Option Addr} {L : List (List Int)} {xs : List Int} {A : Nat → Option Addr} {C : Nat → Nat} {K : Nat → Int} {r : Int}
    (h : OwnA T0 T2 wi B a1 j c1 L A C K) (hB : B ≤ wi.heap.size) (hb : Below wi.heap.size wi wc) (ho : OwnI T2 wc Bc ac m cc xs) (hBc : wi.heap.size ≤ Bc)
    (r4 : w4.ownsRow B T0 2 (.slice a4 (j + 1) c4) (j + 1) (abVals L A C K j ++ [.slice ac m cc, .int .i64 r])) (q4 : a4 = a1 ∨ a4 = some ⟨wc.heap.size, 0, Option.none⟩)
    (g4 : Chg (fun k => ∃ p, a1 = some p ∧ p.block = k) wc w4) :
    OwnA T0 T2 w4 B a4 (j + 1) c4 (L ++ [xs]) (upd A j ac) (upd C j cc) (upd K j r) ∧ Below B wi w4 := by
  obtain rfl := ho.len
  have hsz := hb.size
  have h1 : OwnA T0 T2 wc B a1 j c1 L A C K := h.keep hb (Nat.le_refl _)
  have hap : ∀ (b : Option Addr), (∀ p, b = some p → p.block < wi.heap.size) → Apart b ac := fun b hb' p q hp hq e => by
    have h3 := hb' p hp
    have h4 := (ho.block q hq).1
    omega
  have hra : ∀ i, i < j → Apart (A i) ac := fun i hi => hap _ (fun p hp => ((h.row i hi).block p hp).2)
  have hro : Apart a1 ac := hap _ (fun p hp => (owns2_block h.own p hp).2)
  have hlen := h.len
  have e0 : rw_ (L ++ [xs]) j = xs := by rw [← hlen]; exact rw_append_eq
  have el' : ∀ i, i < j → rw_ (L ++ [xs]) i = rw_ L i := fun i hi => rw_append_lt (by omega)
  have hkeep : ∀ i, i < j → OwnI T2 w4 B (A i) (rw_ L i).length (C i) (rw_ L i) := fun i hi =>
    (h1.row i hi).kept g4 (fun p hp hx => by obtain ⟨q, hq, e⟩ := hx; exact h.apo i hi q p hq hp e)
  have hkr : OwnI T2 w4 B ac xs.length cc xs := (ho.mono (by omega)).kept g4 (fun p hp hx => by obtain ⟨q, hq, e⟩ := hx; exact hro q p hq hp e)
  have hapo : ∀ b, Apart a1 b → (∀ p, b = some p → p.block < wc.heap.size) → Apart a4 b := by
    intro b hb hlt p q hp hq'
    rcases q4 with hq | hq
    · rw [hq] at hp; exact hb p q hp hq'
    · rw [hq] at hp; injection hp with e; subst e
      have := hlt q hq'
      show wc.heap.size ≠ q.block
      omega
  refine ⟨⟨by simp [hlen], ?_, fun i hi => ?_, fun i k hi hk hne => ?_, fun i hi => ?_⟩, ?_⟩
  · have e : abVals (L ++ [xs]) (upd A j ac) (upd C j cc) (upd K j r) (j + 1) = abVals L A C K j ++ [.slice ac xs.length cc, .int .i64 r] := by
      rw [abVals, abVals_congr (L' := L) (A' := A) (C' := C) (K' := K) (fun i hi => ⟨el' i hi, upd_lt hi, upd_lt hi, upd_lt hi⟩), e0, upd_eq, upd_eq, upd_eq]
    rw [e]; exact r4
  · by_cases he : i = j
    · subst he; rw [e0, upd_eq, upd_eq]; exact hkr
    · have hi' : i < j := by omega
      rw [el' i hi', upd_lt hi', upd_lt hi']; exact hkeep i hi'
  · by_cases h1 : i = j
    · subst h1
      rw [upd_eq, upd_lt (show k < i by omega)]; exact (hra k (by omega)).symm
    · by_cases h2 : k = j
      · subst h2
        rw [upd_eq, upd_lt (show i < k by omega)]; exact hra i (by omega)
      · rw [upd_lt (show i < j by omega), upd_lt (show k < j by omega)]; exact h.ap i k (by omega) (by omega) hne
  · by_cases h1 : i = j
    · subst h1; rw [upd_eq]; exact hapo _ hro (fun p hp => (ho.block p hp).2)
    · rw [upd_lt (show i < j by omega)]; exact hapo _ (h.apo i (by omega)) (fun p hp => Nat.lt_of_lt_of_le ((h.row i (by omega)).block p hp).2 hsz)
  · exact (hb.mono hB).trans (g4.below (by omega) (fun k hk hx => by obtain ⟨x, hx, e⟩ := hx; have := (owns2_block h.own x hx).1; omega))
/-! ### the laws' helpers -/
/-- where the marks of the i-th group begin -/
def stA (k : Int) (L : List (List Int)) : Nat → Int
  | 0 => k
  | i + 1 => stA k L i + (rw_ L i).length + 1
theorem stA_ge {k : Int} {L : List (List Int)} : ∀ i, k ≤ stA k L i
  | 0 => Int.le_refl _
  | i + 1 => by have := stA_ge (k := k) (L := L) i; rw [stA]; omega
theorem stA_le {k : Int} {L : List (List Int)} (hx : ∀ i, (rw_ L i).length ≤ 1000) : ∀ i : Nat, stA k L i ≤ k + 1001 * i
  | 0 => by simp [stA]
  | i + 1 => by have := stA_le (k := k) hx i; have := hx i; rw [stA]; omega
def mkA (k : Int) (L : List (List Int)) : List (List Int) := (List.range L.length).map fun i => marks (stA k L i) (rw_ L i).length
theorem mkA_row {k : Int} {L : List (List Int)} {i : Nat} (h : i < L.length) : rw_ (mkA k L) i = marks (stA k L i) (rw_ L i).length := by simp [mkA, rw_, h]
/-- marks are being laid: i groups are done -/
structure MkA (T0 T2 : TypeId) (w wr : World) (B : Nat) (a : Option Addr) (n : Nat) (L : List (List Int)) (A : Nat → Option Addr) (C : Nat → Nat) (K : Nat → Int) (k : Int) (i : Nat) : Prop where
  out : 0 < n → ∃ g cur, a = some ⟨g, 0, none⟩ ∧ B ≤ g ∧ wr.heap[g]? = some (.cells cur T0 (0, 0)) ∧ ∀ j, j < n → cur[j * 2]? = some (.slice (A j) (rw_ L j).length (C j)) ∧ cur[j * 2 + 1]? = some (.int .i64 (if j < i then stA k L j + (rw_ L j).length else K j))
  done : ∀ j, j < i → RdI wr (A j) (marks (stA k L j) (rw_ L j).length)
  todo : ∀ j, i ≤ j → j < n → OwnI T2 wr B (A j) (rw_ L j).length (C j) (rw_ L j)
  lt : ∀ j, j < n → ∀ p, A j = some p → B ≤ p.block ∧ p.block < wr.heap.size
  bel : Below B w wr
section
variable {T0 T2 : TypeId} {w wr w2 : World} {B : Nat} {a : Option Addr} {n cap : Nat} {L : List (List Int)} {A : Nat → Option Addr} {C : Nat → Nat} {K : Nat → Int} {k : Int} {i g : Nat}
theorem MkA.start (h : OwnA T0 T2 w B a n cap L A C K) (k : Int) : MkA T0 T2 w w B a n L A C K k 0 := by
  refine ⟨fun h0 => ?_, fun j hj => absurd hj (by omega), fun j _ hj => h.row j hj, fun j hj => (h.row j hj).block, Below.refl _ _⟩
  rcases owns2_cases h.own with ⟨_, hn, _⟩ | ⟨g, cur, ha, hg, hh, h1, h2, h3, h4⟩
  · omega
  · refine ⟨g, cur, ha, hg, hh, fun j hj => ?_⟩
    have e : ∀ t, t < n * 2 → cur[t]? = (abVals L A C K n)[t]? := fun t ht => by rw [← h4, List.getElem?_take, if_pos ht]; simp
    rw [if_neg (by omega), e _ (by omega), e _ (by omega)]
    exact ⟨abVals_0 hj, abVals_1 hj⟩
theorem MkA.step (h : MkA T0 T2 w wr B a n L A C K k i) (hap : ∀ i j, i < n → j < n → i ≠ j → Apart (A i) (A j)) (hapo : ∀ i, i < n → Apart a (A i)) (hi : i < n) (hr : RdI w2 (A i) (marks (stA k L i) (rw_ L i).length)) (hc : Chg (fun j => ∃ p, A i = some p ∧ p.block = j) wr w2) (ha : a = some ⟨g, 0, none⟩) :
    MkA T0 T2 w (w2.setCell ⟨g, i * 2 + 1, none⟩ (.int .i64 (stA k L i + (rw_ L i).length))) B a n L A C K k (i + 1) := by
  obtain ⟨g', cur, ha', hg, hh, hcur⟩ := h.out (by omega)
  rw [ha] at ha'
  injection ha' with e; injection e with e1; subst e1
  have hgl : g < wr.heap.size := (Array.getElem?_eq_some_iff.1 hh).1
  have hh2 : w2.heap[g]? = some (.cells cur T0 (0, 0)) := (hc.block g hgl (fun hx => by obtain ⟨p, hp, e⟩ := hx; exact hapo i hi _ p ha hp e.symm)).trans hh
  have hset : ∀ m, m ≠ g → (w2.setCell ⟨g, i * 2 + 1, none⟩ (.int .i64 (stA k L i + (rw_ L i).length))).heap[m]? = w2.heap[m]? := fun m hm => by
    have := (Chg.refl (fun j => j = g) w2).setCell ⟨g, i * 2 + 1, none⟩ rfl (.int .i64 (stA k L i + (rw_ L i).length))
    rcases Nat.lt_or_ge m w2.heap.size with hl | hl
    · exact this.block m hl hm
    · rw [Array.getElem?_eq_none hl, Array.getElem?_eq_none (by simp; omega)]
  have hne : ∀ j, j < n → ∀ p, A j = some p → p.block ≠ g := fun j hj p hp e => hapo j hj _ p ha hp e.symm
  refine ⟨fun _ => ⟨g, cur.setIfInBounds (i * 2 + 1) (.int .i64 (stA k L i + (rw_ L i).length)), ha, hg, wr_setCell hh2 _, fun j hj => ?_⟩, fun j hj => ?_, fun j hj1 hj2 => ?_, fun j hj p hp => ?_, ?_⟩
  · obtain ⟨c1, c2⟩ := hcur j hj
    refine ⟨by rw [Array.getElem?_setIfInBounds_ne (by omega)]; exact c1, ?_⟩
    by_cases he : j = i
    · subst he
      rw [if_pos (by omega), Array.getElem?_setIfInBounds_self_of_lt ((Array.getElem?_eq_some_iff.1 c2).1)]
    · rw [Array.getElem?_setIfInBounds_ne (by omega), c2]
      by_cases hl : j < i
      · rw [if_pos hl, if_pos (by omega)]
      · rw [if_neg hl, if_neg (by omega)]
  · by_cases he : j = i
    · subst he; exact hr.same (fun p hp => hset _ (hne j hi p hp))
    · refine ((h.done j (by omega)).same (fun p hp => ?_)).same (fun p hp => hset _ (hne j (by omega) p hp))
      exact hc.block _ (h.lt j (by omega) p hp).2 (fun hx => by obtain ⟨q, hq, e⟩ := hx; exact hap i j hi (by omega) (fun e => he e.symm) q p hq hp e)
  · refine ((h.todo j (by omega) hj2).same (fun p hp => ?_)).same (fun p hp => hset _ (hne j hj2 p hp))
    exact hc.block _ (h.lt j hj2 p hp).2 (fun hx => by obtain ⟨q, hq, e⟩ := hx; exact hap i j hi hj2 (by omega) q p hq hp e)
  · have h1 := h.lt j hj p hp
    have h2 := hc.size
    refine ⟨h1.1, ?_⟩
    simp
    omega
  · have h1 := hc.size
    exact (h.bel.trans (hc.below (by have := h.bel.size; omega) (fun j hj hx => by obtain ⟨p, hp, e⟩ := hx; have := (h.lt i hi p hp).1; omega))).setCell (p := ⟨g, i * 2 + 1, none⟩) hg _
theorem MkA.rd (h : MkA T0 T2 w wr B a n L A C K k n) (hl : L.length = n) (hC : ∀ i, i < n → (rw_ L i).length ≤ C i) : RdA wr a n (mkA k L) (fun i => stA k L i + (rw_ L i).length) := fun h0 => by
  obtain ⟨g, cur, ha, hg, hh, hcur⟩ := h.out h0
  refine ⟨g, 0, ha, fun i hi => ⟨A i, C i, ?_, ?_, ?_, ?_⟩⟩
  · rw [mkA_row (by omega), marks_len, Nat.zero_add, wr_cell hh]; exact (hcur i hi).1
  · rw [Nat.zero_add, wr_cell hh, (hcur i hi).2, if_pos hi]
  · rw [mkA_row (by omega)]; exact h.done i hi
  · rw [mkA_row (by omega), marks_len]; exact hC i hi
end
end Go.Proofs.Ytkidohohiihbaaa
