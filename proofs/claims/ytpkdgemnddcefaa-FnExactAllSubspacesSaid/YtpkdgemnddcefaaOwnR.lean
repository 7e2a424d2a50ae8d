/- Slices of slices of integers that the call owns: each row in a block of its own. No program in sight. -/
import Derived.Test.YtpkdgemnddcefaaHeap
set_option linter.unusedVariables false
set_option linter.unusedSimpArgs false
namespace Go.Proofs.Ytpkdgemnddcefaa
open Go.RowKit

/-- the rows' slices as they stand in the outer slice -/
def rowVals (xss : List (List Int)) (A : Nat → Option Addr) (C : Nat → Nat) (n : Nat) : List Value := (List.range n).map fun i => .slice (A i) (rw_ xss i).length (C i)
theorem rowVals_len (xss : List (List Int)) (A : Nat → Option Addr) (C : Nat → Nat) (n : Nat) : (rowVals xss A C n).length = n := by simp [rowVals]
theorem rowVals_get {xss : List (List Int)} {A : Nat → Option Addr} {C : Nat → Nat} {n i : Nat} (h : i < n) : (rowVals xss A C n)[i]? = some (.slice (A i) (rw_ xss i).length (C i)) := by simp [rowVals, h]
structure OwnR (T1 T2 : TypeId) (w : World) (B : Nat) (a : Option Addr) (n cap : Nat) (xss : List (List Int)) (A : Nat → Option Addr) (C : Nat → Nat) : Prop where
  len : xss.length = n
  own : w.ownsRow B T1 1 (.slice a n cap) n (rowVals xss A C n)
  row : ∀ i, i < n → OwnI T2 w B (A i) (rw_ xss i).length (C i) (rw_ xss i)
  ap : ∀ i j, i < n → j < n → i ≠ j → Apart (A i) (A j)
  apo : ∀ i, i < n → Apart a (A i)
section
variable {T1 T2 : TypeId} {w w' : World} {B : Nat} {a : Option Addr} {n cap : Nat} {xss : List (List Int)} {A : Nat → Option Addr} {C : Nat → Nat}
theorem OwnR.none (A : Nat → Option Addr) (C : Nat → Nat) : OwnR T1 T2 w B none 0 0 [] A C :=
  ⟨rfl, World.ownsRow_nil w B T1 1, fun i h => absurd h (by omega), fun i j h => absurd h (by omega), fun i h => absurd h (by omega)⟩
theorem ownsRow_cases {T : TypeId} {xs : List Value} (h : w.ownsRow B T 1 (.slice a n cap) n xs) : (a = Option.none ∧ n = 0 ∧ cap = 0 ∧ xs = []) ∨
    ∃ g cur, a = some ⟨g, 0, Option.none⟩ ∧ B ≤ g ∧ w.heap[g]? = some (.cells cur T (0, 0)) ∧ n ≤ cap ∧ cap ≤ maxLen ∧ cur.size = cap ∧ cur.toList.take n = xs := by
  obtain ⟨h1, h2⟩ := h
  rcases h2 with ⟨h2, h3⟩ | ⟨g, cap', cur, hv, hg, hh, h3, h4, h5, h6⟩
  · injection h2 with e1 e2 e3
    subst e1; subst e2; subst e3
    exact .inl ⟨rfl, rfl, rfl, List.eq_nil_of_length_eq_zero (by simpa using h1)⟩
  · injection hv with e1 e2 e3
    subst e1; subst e3
    exact .inr ⟨g, cur, rfl, hg, hh, h3, h4, by simpa using h5, by simpa using h6⟩
theorem ownsRow_block {T : TypeId} {xs : List Value} (h : w.ownsRow B T 1 (.slice a n cap) n xs) : ∀ p, a = some p → B ≤ p.block ∧ p.block < w.heap.size := by
  intro p hp
  rcases ownsRow_cases h with ⟨ha, _⟩ | ⟨g, cur, ha, hg, hh, _⟩
  · rw [ha] at hp; cases hp
  · rw [ha] at hp; injection hp with e; subst e
    exact ⟨hg, (Array.getElem?_eq_some_iff.1 hh).1⟩
theorem ownsRow_same {T : TypeId} {xs : List Value} (h : w.ownsRow B T 1 (.slice a n cap) n xs) (hs : ∀ p, a = some p → w'.heap[p.block]? = w.heap[p.block]?) : w'.ownsRow B T 1 (.slice a n cap) n xs := by
  refine ⟨h.1, ?_⟩
  rcases h.2 with h2 | ⟨g, cap', cur, hv, hg, hh, rest⟩
  · exact .inl h2
  · refine .inr ⟨g, cap', cur, hv, hg, ?_, rest⟩
    injection hv with e1 e2 e3
    rw [hs _ e1]; exact hh
theorem ownsRow_mono {T : TypeId} {B' : Nat} {v : Value} {xs : List Value} (h : w.ownsRow B T 1 v n xs) (hB : B' ≤ B) : w.ownsRow B' T 1 v n xs := by
  refine ⟨h.1, ?_⟩
  rcases h.2 with h2 | ⟨g, cap', cur, hv, hg, rest⟩
  · exact .inl h2
  · exact .inr ⟨g, cap', cur, hv, Nat.le_trans hB hg, rest⟩
theorem ownsRow_cell {T : TypeId} {xs : List Value} (h : w.ownsRow B T 1 (.slice a n cap) n xs) (h0 : 0 < n) : ∃ g, a = some ⟨g, 0, Option.none⟩ ∧ ∀ i, i < n → w.cell? ⟨g, i, Option.none⟩ = xs[i]? := by
  rcases ownsRow_cases h with ⟨_, hn, _⟩ | ⟨g, cur, ha, hg, hh, h1, h2, h3, h4⟩
  · omega
  · refine ⟨g, ha, fun i hi => ?_⟩
    rw [wr_cell hh, ← h4, List.getElem?_take, if_pos hi]
    simp
theorem OwnI.capl {T : TypeId} {w : World} {B : Nat} {a : Option Addr} {n cap : Nat} {xs : List Int} (h : OwnI T w B a n cap xs) : n ≤ cap := by
  rcases h.cases with ⟨_, h1, h2, _⟩ | ⟨g, cur, _, _, _, h1, _⟩ <;> omega
theorem OwnR.capl (h : OwnR T1 T2 w B a n cap xss A C) : n ≤ cap := by
  rcases ownsRow_cases h.own with ⟨_, h1, h2, _⟩ | ⟨g, cur, _, _, _, h1, _⟩ <;> omega
theorem OwnR.rd (h : OwnR T1 T2 w B a n cap xss A C) : RdR w a xss := fun h0 => by
  obtain ⟨g, ha, hc⟩ := ownsRow_cell h.own (by rw [← h.len]; exact h0)
  refine ⟨g, 0, ha, fun i hi => ?_⟩
  rw [h.len] at hi
  refine ⟨A i, C i, ?_, (h.row i hi).rd, (h.row i hi).capl⟩
  rw [Nat.zero_add, hc i hi, rowVals_get hi]
/-- kept where the blocks of the outer slice and of the rows are as they were -/
theorem OwnR.same (h : OwnR T1 T2 w B a n cap xss A C) (hs : ∀ p, a = some p → w'.heap[p.block]? = w.heap[p.block]?) (hr : ∀ i, i < n → ∀ p, A i = some p → w'.heap[p.block]? = w.heap[p.block]?) : OwnR T1 T2 w' B a n cap xss A C :=
  ⟨h.len, ownsRow_same h.own hs, fun i hi => (h.row i hi).same (hr i hi), h.ap, h.apo⟩
theorem OwnR.keep {B1 : Nat} (h : OwnR T1 T2 w B a n cap xss A C) (hb : Below B1 w w') (hB : w.heap.size ≤ B1) : OwnR T1 T2 w' B a n cap xss A C :=
  h.same (fun p hp => hb.block _ (Nat.lt_of_lt_of_le (ownsRow_block h.own p hp).2 hB)) (fun i hi p hp => hb.block _ (Nat.lt_of_lt_of_le ((h.row i hi).block p hp).2 hB))
theorem OwnR.kept {S : Nat → Prop} (h : OwnR T1 T2 w B a n cap xss A C) (hc : Chg S w w') (hs : ∀ p, a = some p → ¬ S p.block) (hr : ∀ i, i < n → ∀ p, A i = some p → ¬ S p.block) : OwnR T1 T2 w' B a n cap xss A C :=
  h.same (fun p hp => hc.block _ (ownsRow_block h.own p hp).2 (hs p hp)) (fun i hi p hp => hc.block _ ((h.row i hi).block p hp).2 (hr i hi p hp))
theorem OwnR.mono {B' : Nat} (h : OwnR T1 T2 w B a n cap xss A C) (hB : B' ≤ B) : OwnR T1 T2 w B' a n cap xss A C :=
  ⟨h.len, ownsRow_mono h.own hB, fun i hi => (h.row i hi).mono hB, h.ap, h.apo⟩
/-- only the first n rows' places matter -/
theorem OwnR.congr {A' : Nat → Option Addr} {C' : Nat → Nat} (h : OwnR T1 T2 w B a n cap xss A C) (hA : ∀ i, i < n → A' i = A i) (hC : ∀ i, i < n → C' i = C i) : OwnR T1 T2 w B a n cap xss A' C' := by
  refine ⟨h.len, ?_, fun i hi => by rw [hA i hi, hC i hi]; exact h.row i hi, fun i j hi hj hne => by rw [hA i hi, hA j hj]; exact h.ap i j hi hj hne, fun i hi => by rw [hA i hi]; exact h.apo i hi⟩
  have e : rowVals xss A' C' n = rowVals xss A C n := by
    unfold rowVals
    refine List.map_congr_left fun i hi => ?_
    have hi' : i < n := by simpa using hi
    rw [hA i hi', hC i hi']
  rw [e]; exact h.own
end
theorem rw_append_lt {xss : List (List Int)} {xs : List Int} {i : Nat} (h : i < xss.length) : rw_ (xss ++ [xs]) i = rw_ xss i := by simp [rw_, List.getElem?_append, h]
theorem rw_append_eq {xss : List (List Int)} {xs : List Int} : rw_ (xss ++ [xs]) xss.length = xs := by simp [rw_]
/-- the places of the rows with one more -/
def upd {α : Type} (f : Nat → α) (n : Nat) (x : α) : Nat → α := fun i => if i = n then x else f i
theorem upd_lt {α : Type} {f : Nat → α} {n : Nat} {x : α} {i : Nat} (h : i < n) : upd f n x i = f i := if_neg (by omega)
theorem upd_eq {α : Type} {f : Nat → α} {n : Nat} {x : α} : upd f n x n = x := if_pos rfl
/-- what an append of one more row makes -/
theorem OwnR.pushed {T1 T2 : TypeId} {w w' : World} {B : Nat} {a a' ar : Option Addr} {n cap cap' cr : Nat} {xss : List (List Int)} {xs : List Int} {A : Nat → Option Addr} {C : Nat → Nat}
    (h : OwnR T1 T2 w B a n cap xss A C) (hrow : OwnI T2 w B ar xs.length cr xs) (hra : ∀ i, i < n → Apart (A i) ar) (hro : Apart a ar)
    (hown : w'.ownsRow B T1 1 (.slice a' (n + 1) cap') (n + 1) (rowVals xss A C n ++ [.slice ar xs.length cr])) (hq : a' = a ∨ ∃ p, a' = some p ∧ w.heap.size ≤ p.block)
    (hc : Chg (fun k => ∃ p, a = some p ∧ p.block = k) w w') : OwnR T1 T2 w' B a' (n + 1) cap' (xss ++ [xs]) (upd A n ar) (upd C n cr) := by
  have hlen := h.len
  have e0 : rw_ (xss ++ [xs]) n = xs := by rw [← hlen]; exact rw_append_eq
  have el' : ∀ i, i < n → rw_ (xss ++ [xs]) i = rw_ xss i := fun i hi => rw_append_lt (by omega)
  have hkeep : ∀ i, i < n → OwnI T2 w' B (A i) (rw_ xss i).length (C i) (rw_ xss i) := fun i hi =>
    (h.row i hi).kept hc (fun p hp hx => by obtain ⟨q, hq, e⟩ := hx; exact h.apo i hi q p hq hp e)
  have hkr : OwnI T2 w' B ar xs.length cr xs := hrow.kept hc (fun p hp hx => by obtain ⟨q, hq, e⟩ := hx; exact hro q p hq hp e)
  have hapo : ∀ b, Apart a b → (∀ p, b = some p → p.block < w.heap.size) → Apart a' b := by
    intro b hb hlt p q hp hq'
    rcases hq with hq | ⟨p', hq, hq2⟩
    · rw [hq] at hp; exact hb p q hp hq'
    · rw [hq] at hp; injection hp with e; subst e
      have := hlt q hq'
      omega
  refine ⟨by simp [hlen], ?_, fun i hi => ?_, fun i j hi hj hne => ?_, fun i hi => ?_⟩
  · have e : rowVals (xss ++ [xs]) (upd A n ar) (upd C n cr) (n + 1) = rowVals xss A C n ++ [.slice ar xs.length cr] := by
      unfold rowVals
      rw [List.range_succ, List.map_append]
      congr 1
      · refine List.map_congr_left fun i hi => ?_
        have hi' : i < n := by simpa using hi
        rw [el' i hi', upd_lt hi', upd_lt hi']
      · simp only [List.map_cons, List.map_nil]
        rw [e0, upd_eq, upd_eq]
    rw [e]; exact hown
  · by_cases he : i = n
    · subst he; rw [e0, upd_eq, upd_eq]; exact hkr
    · have hi' : i < n := by omega
      rw [el' i hi', upd_lt hi', upd_lt hi']; exact hkeep i hi'
  · by_cases h1 : i = n
    · subst h1
      rw [upd_eq, upd_lt (show j < i by omega)]; exact (hra j (by omega)).symm
    · by_cases h2 : j = n
      · subst h2
        rw [upd_eq, upd_lt (show i < j by omega)]; exact hra i (by omega)
      · rw [upd_lt (show i < n by omega), upd_lt (show j < n by omega)]; exact h.ap i j (by omega) (by omega) hne
  · by_cases h1 : i = n
    · subst h1; rw [upd_eq]; exact hapo _ hro (fun p hp => (hrow.block p hp).2)
    · rw [upd_lt (show i < n by omega)]; exact hapo _ (h.apo i (by omega)) (fun p hp => ((h.row i (by omega)).block p hp).2)
end Go.Proofs.Ytpkdgemnddcefaa
