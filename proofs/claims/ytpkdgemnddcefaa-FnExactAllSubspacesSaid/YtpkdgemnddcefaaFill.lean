/- Filling a new slice of slices row by row; marking the rows of a slice of slices. No program in sight. -/
import Derived.Test.YtpkdgemnddcefaaOwnR
import Derived.Test.YtpkdgemnddcefaaList
set_option linter.unusedVariables false
set_option linter.unusedSimpArgs false
namespace Go.Proofs.Ytpkdgemnddcefaa
open Go.RowKit

/-- a slice of slices of the call's own -/
def MadeR (T1 T2 : TypeId) (w : World) (B : Nat) (a : Option Addr) (n cap : Nat) (xss : List (List Int)) : Prop := ∃ A C, OwnR T1 T2 w B a n cap xss A C
section
variable {T1 T2 : TypeId} {w w' : World} {B : Nat} {a : Option Addr} {n cap : Nat} {xss : List (List Int)}
theorem MadeR.rd (h : MadeR T1 T2 w B a n cap xss) : RdR w a xss := by obtain ⟨A, C, h⟩ := h; exact h.rd
theorem MadeR.len (h : MadeR T1 T2 w B a n cap xss) : xss.length = n := by obtain ⟨A, C, h⟩ := h; exact h.len
theorem MadeR.capl (h : MadeR T1 T2 w B a n cap xss) : n ≤ cap := by obtain ⟨A, C, h⟩ := h; exact h.capl
theorem MadeR.keep {B1 : Nat} (h : MadeR T1 T2 w B a n cap xss) (hb : Below B1 w w') (hB : w.heap.size ≤ B1) : MadeR T1 T2 w' B a n cap xss := by
  obtain ⟨A, C, h⟩ := h; exact ⟨A, C, h.keep hb hB⟩
theorem MadeR.mono {B' : Nat} (h : MadeR T1 T2 w B a n cap xss) (hB : B' ≤ B) : MadeR T1 T2 w B' a n cap xss := by
  obtain ⟨A, C, h⟩ := h; exact ⟨A, C, h.mono hB⟩
theorem MadeR.none : MadeR T1 T2 w B Option.none 0 0 [] := ⟨fun _ => Option.none, fun _ => 0, OwnR.none _ _⟩
end

structure FillR (T1 T2 : TypeId) (w wr : World) (b n k : Nat) (xss : List (List Int)) (A : Nat → Option Addr) (C : Nat → Nat) : Prop where
  bel : Below w.heap.size w wr
  hb : w.heap.size ≤ b
  blk : ∃ cur, wr.heap[b]? = some (.cells cur T1 (0, 0)) ∧ cur.size = n ∧ (∀ i, i < k → cur[i]? = some (.slice (A i) (rw_ xss i).length (C i))) ∧ ∀ i, k ≤ i → i < n → cur[i]? = some (.slice none 0 0)
  row : ∀ i, i < k → OwnI T2 wr w.heap.size (A i) (rw_ xss i).length (C i) (rw_ xss i)
  ap : ∀ i j, i < k → j < k → i ≠ j → Apart (A i) (A j)
  apo : ∀ i, i < k → ∀ p, A i = some p → p.block ≠ b
section
variable {T1 T2 : TypeId} {w wr w2 : World} {b n k : Nat} {xss : List (List Int)} {A : Nat → Option Addr} {C : Nat → Nat}
theorem FillR.start (T1 T2 : TypeId) (w : World) (n : Nat) (xss : List (List Int)) (A : Nat → Option Addr) (C : Nat → Nat) : FillR T1 T2 w (w.alloc (.cells (madeCells #[.slice none 0 0] n) T1)) w.heap.size n 0 xss A C := by
  refine ⟨(Below.refl _ _).alloc (Nat.le_refl _) _, Nat.le_refl _, ⟨_, heap_alloc_new w _, by simp [size_madeCells], fun i hi => absurd hi (by omega), fun i _ hi => ?_⟩, fun i hi => absurd hi (by omega), fun i j hi => absurd hi (by omega), fun i hi => absurd hi (by omega)⟩
  rw [← Array.getElem?_toList, toList_madeCells_one]
  simp [hi]
theorem FillR.cell (h : FillR T1 T2 w wr b n k xss A C) (hk : k < n) : wr.cell? ⟨b, k, none⟩ = some (.slice none 0 0) := by
  obtain ⟨cur, h3, h4, h5, h6⟩ := h.blk
  rw [wr_cell h3]; exact h6 k (by omega) hk
theorem FillR.frozen (h : FillR T1 T2 w wr b n k xss A C) (i : Nat) : wr.frozen? ⟨b, i, none⟩ = false := by
  obtain ⟨cur, h3, h4, h5, h6⟩ := h.blk
  exact wr_frozen h3
theorem FillR.bsize (h : FillR T1 T2 w wr b n k xss A C) : b < wr.heap.size := by
  obtain ⟨cur, h3, h4, h5, h6⟩ := h.blk
  exact (Array.getElem?_eq_some_iff.1 h3).1
theorem FillR.step {a' : Option Addr} {c' : Nat} (h : FillR T1 T2 w wr b n k xss A C) (hk : k < n) (hb : Below wr.heap.size wr w2) (ho : OwnI T2 w2 wr.heap.size a' (rw_ xss k).length c' (rw_ xss k)) :
    FillR T1 T2 w (w2.setCell ⟨b, k, none⟩ (.slice a' (rw_ xss k).length c')) b n (k + 1) xss (upd A k a') (upd C k c') := by
  have hbs := h.bsize
  have hsz := h.bel.size
  obtain ⟨cur, h3, h4, h5, h6⟩ := h.blk
  have h3' : w2.heap[b]? = some (.cells cur T1 (0, 0)) := by rw [hb.block b hbs]; exact h3
  have hne : ∀ p, a' = some p → p.block ≠ b := fun p hp e => by have := (ho.block p hp).1; omega
  have hset : ∀ j, j ≠ b → (w2.setCell ⟨b, k, none⟩ (.slice a' (rw_ xss k).length c')).heap[j]? = w2.heap[j]? := fun j hj => Below.heap_setCell _ _ _ _ hj
  refine ⟨(h.bel.trans (hb.mono hsz)).setCell (p := ⟨b, k, none⟩) h.hb _, h.hb, ⟨_, wr_setCell h3' _, by simpa using h4, fun i hi => ?_, fun i hi hn => ?_⟩, fun i hi => ?_, fun i j hi hj hne' => ?_, fun i hi p hp => ?_⟩
  · rw [Array.getElem?_setIfInBounds]
    by_cases he : k = i
    · subst he; rw [if_pos rfl, if_pos (by omega), upd_eq, upd_eq]
    · have hi' : i < k := by omega
      rw [if_neg he, upd_lt hi', upd_lt hi']; exact h5 i hi'
  · rw [Array.getElem?_setIfInBounds, if_neg (by omega)]; exact h6 i (by omega) hn
  · by_cases he : i = k
    · subst he
      rw [upd_eq, upd_eq]
      exact (ho.mono hsz).same (fun p hp => hset _ (hne p hp))
    · have hi' : i < k := by omega
      rw [upd_lt hi', upd_lt hi']
      exact ((h.row i hi').keep hb (Nat.le_refl _)).same (fun p hp => hset _ (h.apo i hi' p hp))
  · have hx : ∀ i, i < k → Apart (A i) a' := fun i hi p q hp hq e => by
      have h1 := ((h.row i hi).block p hp).2
      have h2 := (ho.block q hq).1
      omega
    by_cases h1 : i = k
    · subst h1
      rw [upd_eq, upd_lt (show j < i by omega)]; exact (hx j (by omega)).symm
    · by_cases h2 : j = k
      · subst h2
        rw [upd_eq, upd_lt (show i < j by omega)]; exact hx i (by omega)
      · rw [upd_lt (show i < k by omega), upd_lt (show j < k by omega)]; exact h.ap i j (by omega) (by omega) hne'
  · by_cases h1 : i = k
    · subst h1; rw [upd_eq] at hp; exact hne p hp
    · rw [upd_lt (show i < k by omega)] at hp; exact h.apo i (by omega) p hp
theorem FillR.own (h : FillR T1 T2 w wr b n n xss A C) (hl : xss.length = n) (hm : n ≤ maxLen) : OwnR T1 T2 wr w.heap.size (some ⟨b, 0, none⟩) n n xss A C := by
  obtain ⟨cur, h3, h4, h5, h6⟩ := h.blk
  refine ⟨hl, ⟨by simp [rowVals_len], .inr ⟨b, n, cur, rfl, h.hb, h3, Nat.le_refl _, hm, by simpa using h4, ?_⟩⟩, h.row, h.ap, fun i hi p q hp hq => ?_⟩
  · refine List.ext_getElem? fun i => ?_
    by_cases hi : i < n
    · have := h5 i hi
      simp only [Nat.mul_one]
      rw [List.getElem?_take, if_pos hi, Array.getElem?_toList, this, rowVals_get hi]
    · simp only [Nat.mul_one]
      rw [List.getElem?_take, if_neg hi, List.getElem?_eq_none (by rw [rowVals_len]; omega)]
  · injection hp with e
    subst e
    exact fun e => h.apo i hi q hq e.symm
end

/-- rows of the call's own behind an outer slice that is only read: its spare room is nobody's business -/
structure HasR (T2 : TypeId) (w : World) (B : Nat) (a : Option Addr) (n cap : Nat) (xss : List (List Int)) (A : Nat → Option Addr) (C : Nat → Nat) : Prop where
  len : xss.length = n
  le : n ≤ cap
  out : 0 < n → ∃ g, a = some ⟨g, 0, none⟩ ∧ B ≤ g ∧ g < w.heap.size ∧ ∀ i, i < n → w.cell? ⟨g, i, none⟩ = some (.slice (A i) (rw_ xss i).length (C i))
  row : ∀ i, i < n → OwnI T2 w B (A i) (rw_ xss i).length (C i) (rw_ xss i)
  ap : ∀ i j, i < n → j < n → i ≠ j → Apart (A i) (A j)
  apo : ∀ i, i < n → Apart a (A i)
section
variable {T1 T2 : TypeId} {w w' : World} {B : Nat} {a : Option Addr} {n cap : Nat} {xss : List (List Int)} {A : Nat → Option Addr} {C : Nat → Nat}
theorem OwnR.has (h : OwnR T1 T2 w B a n cap xss A C) : HasR T2 w B a n cap xss A C :=
  ⟨h.len, h.capl, fun h0 => by
    obtain ⟨g, ha, hc⟩ := ownsRow_cell h.own h0
    have hb := ownsRow_block h.own _ ha
    exact ⟨g, ha, hb.1, hb.2, fun i hi => by rw [hc i hi, rowVals_get hi]⟩, h.row, h.ap, h.apo⟩
theorem HasR.rd (h : HasR T2 w B a n cap xss A C) : RdR w a xss := fun h0 => by
  obtain ⟨g, ha, _, _, hc⟩ := h.out (by rw [← h.len]; exact h0)
  refine ⟨g, 0, ha, fun i hi => ?_⟩
  rw [h.len] at hi
  exact ⟨A i, C i, by rw [Nat.zero_add]; exact hc i hi, (h.row i hi).rd, (h.row i hi).capl⟩
theorem HasR.blk (h : HasR T2 w B a n cap xss A C) (h0 : 0 < n) : ∀ p, a = some p → B ≤ p.block ∧ p.block < w.heap.size := by
  intro p hp
  obtain ⟨g, ha, h1, h2, _⟩ := h.out h0
  rw [ha] at hp; injection hp with e; subst e
  exact ⟨h1, h2⟩
theorem HasR.same (h : HasR T2 w B a n cap xss A C) (hs : 0 < n → ∀ p, a = some p → w'.heap[p.block]? = w.heap[p.block]?) (hr : ∀ i, i < n → ∀ p, A i = some p → w'.heap[p.block]? = w.heap[p.block]?) : HasR T2 w' B a n cap xss A C :=
  ⟨h.len, h.le, fun h0 => by
    obtain ⟨g, ha, h1, h2, hc⟩ := h.out h0
    have he := hs h0 _ ha
    refine ⟨g, ha, h1, ?_, fun i hi => ?_⟩
    · refine Nat.lt_of_not_le fun hle => ?_
      have e1 : w'.heap[g]? = none := Array.getElem?_eq_none hle
      have e2 : w.heap[g]? = some w.heap[g] := Array.getElem?_eq_getElem h2
      rw [show w'.heap[g]? = w.heap[g]? from he, e2] at e1
      cases e1
    · rw [World.cell?_of_block (w := w) (a := ⟨g, i, none⟩) he]; exact hc i hi, fun i hi => (h.row i hi).same (hr i hi), h.ap, h.apo⟩
theorem HasR.keep {B1 : Nat} (h : HasR T2 w B a n cap xss A C) (hb : Below B1 w w') (hB : w.heap.size ≤ B1) : HasR T2 w' B a n cap xss A C :=
  h.same (fun h0 p hp => hb.block _ (Nat.lt_of_lt_of_le (h.blk h0 p hp).2 hB)) (fun i hi p hp => hb.block _ (Nat.lt_of_lt_of_le ((h.row i hi).block p hp).2 hB))
theorem HasR.mono {B' : Nat} (h : HasR T2 w B a n cap xss A C) (hB : B' ≤ B) : HasR T2 w B' a n cap xss A C :=
  ⟨h.len, h.le, fun h0 => by obtain ⟨g, ha, h1, h2, hc⟩ := h.out h0; exact ⟨g, ha, Nat.le_trans hB h1, h2, hc⟩, fun i hi => (h.row i hi).mono hB, h.ap, h.apo⟩
theorem HasR.setLow (h : HasR T2 w B a n cap xss A C) (p : Addr) (hp : p.block < B) (v : Value) : HasR T2 (w.setCell p v) B a n cap xss A C :=
  h.same (fun h0 q hq => Below.heap_setCell _ _ _ _ (by have := (h.blk h0 q hq).1; omega)) (fun i hi q hq => Below.heap_setCell _ _ _ _ (by have := ((h.row i hi).block q hq).1; omega))
end
def MadeH (T2 : TypeId) (w : World) (B : Nat) (a : Option Addr) (n cap : Nat) (xss : List (List Int)) : Prop := ∃ A C, HasR T2 w B a n cap xss A C
section
variable {T1 T2 : TypeId} {w w' : World} {B : Nat} {a : Option Addr} {n cap : Nat} {xss : List (List Int)}
theorem MadeR.has (h : MadeR T1 T2 w B a n cap xss) : MadeH T2 w B a n cap xss := by obtain ⟨A, C, h⟩ := h; exact ⟨A, C, h.has⟩
theorem MadeH.has (h : MadeH T2 w B a n cap xss) : MadeH T2 w B a n cap xss := h
theorem MadeH.rd (h : MadeH T2 w B a n cap xss) : RdR w a xss := by obtain ⟨A, C, h⟩ := h; exact h.rd
theorem MadeH.len (h : MadeH T2 w B a n cap xss) : xss.length = n := by obtain ⟨A, C, h⟩ := h; exact h.len
theorem MadeH.capl (h : MadeH T2 w B a n cap xss) : n ≤ cap := by obtain ⟨A, C, h⟩ := h; exact h.le
theorem MadeH.keep {B1 : Nat} (h : MadeH T2 w B a n cap xss) (hb : Below B1 w w') (hB : w.heap.size ≤ B1) : MadeH T2 w' B a n cap xss := by
  obtain ⟨A, C, h⟩ := h; exact ⟨A, C, h.keep hb hB⟩
theorem MadeH.mono {B' : Nat} (h : MadeH T2 w B a n cap xss) (hB : B' ≤ B) : MadeH T2 w B' a n cap xss := by
  obtain ⟨A, C, h⟩ := h; exact ⟨A, C, h.mono hB⟩
theorem MadeH.setLow (h : MadeH T2 w B a n cap xss) (p : Addr) (hp : p.block < B) (v : Value) : MadeH T2 (w.setCell p v) B a n cap xss := by
  obtain ⟨A, C, h⟩ := h; exact ⟨A, C, h.setLow p hp v⟩
theorem MadeH.none : MadeH T2 w B Option.none 0 0 [] := MadeR.none (T1 := T2) |>.has
end

/-! ### marks in all rows -/
/-- how many numbers stand in the first rows -/
def offs (xss : List (List Int)) : Nat → Nat
  | 0 => 0
  | k + 1 => offs xss k + (rw_ xss k).length
theorem offs_mono (xss : List (List Int)) {i j : Nat} (h : i ≤ j) : offs xss i ≤ offs xss j := by
  induction h with
  | refl => exact Nat.le_refl _
  | step _ ih => simp only [offs]; omega
theorem offs_row {xss : List (List Int)} {i n : Nat} (h : i < n) : (rw_ xss i).length ≤ offs xss n := by
  have := offs_mono xss (show i + 1 ≤ n by omega)
  simp only [offs] at this
  omega
def mkR (m : Int) (xss : List (List Int)) : List (List Int) := (List.range xss.length).map fun i => marks (m + offs xss i) (rw_ xss i).length
theorem mkR_len (m : Int) (xss : List (List Int)) : (mkR m xss).length = xss.length := by simp [mkR]
theorem mkR_row {m : Int} {xss : List (List Int)} {i : Nat} (h : i < xss.length) : rw_ (mkR m xss) i = marks (m + offs xss i) (rw_ xss i).length := by simp [mkR, rw_, h]

/-- the blocks in which the rows lie -/
def RowBlk (n : Nat) (A : Nat → Option Addr) (j : Nat) : Prop := ∃ i, i < n ∧ ∃ p, A i = some p ∧ p.block = j
structure MkR (T2 : TypeId) (w wr : World) (B : Nat) (a : Option Addr) (n cap : Nat) (xss : List (List Int)) (A : Nat → Option Addr) (C : Nat → Nat) (m : Int) (k : Nat) : Prop where
  own : HasR T2 w B a n cap xss A C
  chg : Chg (RowBlk n A) w wr
  done : ∀ i, i < k → RdI wr (A i) (marks (m + offs xss i) (rw_ xss i).length)
  todo : ∀ i, k ≤ i → i < n → OwnI T2 wr B (A i) (rw_ xss i).length (C i) (rw_ xss i)
section
variable {T2 : TypeId} {w wr w2 : World} {B : Nat} {a : Option Addr} {n cap : Nat} {xss : List (List Int)} {A : Nat → Option Addr} {C : Nat → Nat} {m : Int} {k : Nat}
theorem MkR.start (h : HasR T2 w B a n cap xss A C) (m : Int) : MkR T2 w w B a n cap xss A C m 0 :=
  ⟨h, Chg.refl _ _, fun i hi => absurd hi (by omega), fun i _ hi => h.row i hi⟩
theorem MkR.outer (h : MkR T2 w wr B a n cap xss A C m k) (hk : k < n) : ∃ b, a = some ⟨b, 0, none⟩ ∧ wr.cell? ⟨b, k, none⟩ = some (.slice (A k) (rw_ xss k).length (C k)) := by
  obtain ⟨g, ha, _, hlt, hc⟩ := h.own.out (by omega)
  refine ⟨g, ha, ?_⟩
  rw [World.cell?_of_block (w := w) (a := ⟨g, k, none⟩) (h.chg.block g hlt (fun hx => by obtain ⟨i, hi, p, hp, e⟩ := hx; exact h.own.apo i hi _ p ha hp e.symm))]
  exact hc k hk
theorem MkR.step (h : MkR T2 w wr B a n cap xss A C m k) (hk : k < n) (hr : RdI w2 (A k) (marks (m + offs xss k) (rw_ xss k).length)) (hc : Chg (fun j => ∃ p, A k = some p ∧ p.block = j) wr w2) :
    MkR T2 w w2 B a n cap xss A C m (k + 1) := by
  refine ⟨h.own, h.chg.trans (hc.mono fun j _ hj => ⟨k, hk, hj⟩), fun i hi => ?_, fun i hi hn => ?_⟩
  · by_cases he : i = k
    · subst he; exact hr
    · refine (h.done i (by omega)).same fun p hp => hc.block _ ?_ ?_
      · have := ((h.own.row i (by omega)).block p hp).2
        have := h.chg.size
        omega
      · intro hx
        obtain ⟨q, hq, e⟩ := hx
        exact h.own.ap i k (by omega) hk he p q hp hq e.symm
  · exact (h.todo i (by omega) hn).kept hc (fun p hp hx => by
      obtain ⟨q, hq, e⟩ := hx
      exact h.own.ap i k hn hk (by omega) p q hp hq e.symm)
theorem MkR.rd (h : MkR T2 w wr B a n cap xss A C m n) : RdR wr a (mkR m xss) := fun h0 => by
  rw [mkR_len, h.own.len] at h0
  obtain ⟨g, ha, _, hlt, hc⟩ := h.own.out h0
  refine ⟨g, 0, ha, fun i hi => ?_⟩
  rw [mkR_len] at hi
  have hin : i < n := by rw [← h.own.len]; exact hi
  rw [mkR_row hi]
  refine ⟨A i, C i, ?_, h.done i hin, by rw [marks_len]; exact (h.own.row i hin).capl⟩
  rw [Nat.zero_add, World.cell?_of_block (w := w) (a := ⟨g, i, none⟩) (h.chg.block g hlt (fun hx => by obtain ⟨i, hi, p, hp, e⟩ := hx; exact h.own.apo i hi _ p ha hp e.symm)), hc i hin, marks_len]
end
/-- a slice of slices is kept where no block that it lies in is changed -/
theorem RdR.kept {S : Nat → Prop} {w w' : World} {a : Option Addr} {xss : List (List Int)} (h : RdR w a xss) (hc : Chg S w w') (hs : ∀ j, j < w.heap.size → S j → False) : RdR w' a xss := fun h0 => by
  obtain ⟨b, o, ha, hx⟩ := h h0
  have hk : ∀ (p : Addr) v, w.cell? p = some v → w'.cell? p = some v := fun p v hp => by
    rw [World.cell?_of_block (w := w) (hc.block _ (block_lt hp) (fun hh => hs _ (block_lt hp) hh))]; exact hp
  refine ⟨b, o, ha, fun i hi => ?_⟩
  obtain ⟨ai, ci, h1, h2, h3⟩ := hx i hi
  refine ⟨ai, ci, hk _ _ h1, fun h0 => ?_, h3⟩
  obtain ⟨b', o', ha', hc'⟩ := h2 h0
  exact ⟨b', o', ha', fun j hj => hk _ _ (hc' j hj)⟩
end Go.Proofs.Ytpkdgemnddcefaa
