/- Draws of unimodular tables: whatever the code, a square table with small entries. -/
import Derived.Test.YtcnphhcdjhmmkaaDraw1
import Derived.Test.YtcnphhcdjhmmkaaSubM
import Derived.Test.YtcnphhcdjhmmkaaCau2
import Derived.Test.YtcnphhcdjhmmkaaPush
import Derived.Deep.RegionHeld3
import Derived.Deep.RegionLaw
import Derived.OwnWalk
set_option linter.unusedVariables false
set_option linter.unusedSimpArgs false
namespace Go.Proofs.Ytcnphhcdjhmmkaa
open Go.RowKit
/-- one row replaced -/
def rowSet (xss : List (List Int)) (i : Nat) (r : List Int) : List (List Int) := tab xss.length fun j => if j = i then r else rw_ xss j
theorem rowSet_len (xss : List (List Int)) (i : Nat) (r : List Int) : (rowSet xss i r).length = xss.length := tab_len _ _
theorem rowSet_eq {xss : List (List Int)} {i : Nat} {r : List Int} (h : i < xss.length) : rw_ (rowSet xss i r) i = r := by unfold rowSet; rw [rw_tab h, if_pos rfl]
theorem rowSet_ne {xss : List (List Int)} {i j : Nat} {r : List Int} (h : j < xss.length) (hne : j ≠ i) : rw_ (rowSet xss i r) j = rw_ xss j := by unfold rowSet; rw [rw_tab h, if_neg hne]
section
variable {T1 T2 : TypeId} {w w' : World} {B n cap : Nat} {a : Option Addr} {xss : List (List Int)} {A : Nat → Option Addr} {C : Nat → Nat}
theorem ownsRow_setCell {T : TypeId} {g k : Nat} {vs : List Value} (h : w.ownsRow B T 1 (.slice (some ⟨g, 0, none⟩) n cap) n vs) (hk : k < n) (v : Value) : (w.setCell ⟨g, k, none⟩ v).ownsRow B T 1 (.slice (some ⟨g, 0, none⟩) n cap) n (vs.set k v) := by
  have hl : vs.length = n := by have := h.1; simpa using this
  rcases ownsRow_cases h with ⟨h1, _⟩ | ⟨g', cur, h1, h2, h3, h4, h5, h6, h7⟩
  · cases h1
  · injection h1 with e; injection e with e1; subst e1
    refine ⟨by simp [hl], .inr ⟨g, cap, _, rfl, h2, wr_setCell h3 _, h4, h5, by simpa using h6, ?_⟩⟩
    rw [Nat.mul_one]
    refine List.ext_getElem? fun i => ?_
    rw [List.getElem?_take, List.getElem?_set]
    have hx : ∀ j, j < n → cur[j]? = vs[j]? := fun j hj => by
      rw [← h7, List.getElem?_take, if_pos hj, Array.getElem?_toList]
    by_cases hi : i < n
    · rw [if_pos hi, Array.getElem?_toList, Array.getElem?_setIfInBounds]
      by_cases hki : k = i
      · subst hki
        rw [if_pos rfl, if_pos (by omega), if_pos rfl, if_pos (by omega)]
      · rw [if_neg hki, if_neg hki, hx i hi]
    · rw [if_neg hi]
      by_cases hki : k = i
      · omega
      · rw [if_neg hki, List.getElem?_eq_none (by omega)]
end
/-- a row replaced by a new one -/
theorem OwnR.putRowS {T1 T2 : TypeId} {w : World} {B B1 n cap g k m' cr : Nat} {xss : List (List Int)} {A : Nat → Option Addr} {C : Nat → Nat} {ar : Option Addr} {r : List Int} (h : OwnR T1 T2 w B (some ⟨g, 0, Option.none⟩) n cap xss A C) (hk : k < n)
    (hr : OwnI T2 w B1 ar m' cr r) (hB : B ≤ B1) (hg : g < B1) (hA : ∀ i, i < n → ∀ p, A i = some p → p.block < B1) :
    OwnR T1 T2 (w.setCell ⟨g, k, Option.none⟩ (.slice ar m' cr)) B (some ⟨g, 0, Option.none⟩) n cap (rowSet xss k r) (fun i => if i = k then ar else A i) (fun i => if i = k then cr else C i) := by
  have hl := h.len
  have hrl := hr.len
  subst hrl
  have hne : ∀ i, i < n → ∀ p, A i = some p → p.block ≠ g := fun i hi p hp hx => h.apo i hi _ p rfl hp hx.symm
  have hnr : ∀ p, ar = some p → p.block ≠ g := fun p hp hx => by have := (hr.block p hp).1; omega
  refine ⟨by rw [rowSet_len, hl], ?_, fun i hi => ?_, fun i j hi hj hij => ?_, fun i hi => ?_⟩
  · have h1 := ownsRow_setCell h.own hk (.slice ar r.length cr)
    have e1 : (rowVals xss A C n).set k (.slice ar r.length cr) = rowVals (rowSet xss k r) (fun i => if i = k then ar else A i) (fun i => if i = k then cr else C i) n := by
      refine List.ext_getElem? fun i => ?_
      rw [List.getElem?_set]
      by_cases hi : i < n
      · rw [rowVals_get hi, rowVals_get hi]
        simp only [rowVals_len]
        by_cases h1 : k = i
        · subst h1
          rw [if_pos rfl, if_pos hi, if_pos rfl, if_pos rfl, rowSet_eq (by omega)]
        · rw [if_neg h1, if_neg (fun e => h1 e.symm), if_neg (fun e => h1 e.symm), rowSet_ne (by omega) (fun e => h1 e.symm)]
      · rw [if_neg (by omega), List.getElem?_eq_none (by rw [rowVals_len]; omega), List.getElem?_eq_none (by rw [rowVals_len]; omega)]
    rw [← e1]; exact h1
  · by_cases h1 : i = k
    · subst h1
      rw [rowSet_eq (by omega), if_pos rfl, if_pos rfl]
      exact (hr.mono hB).same (fun p hp => Below.heap_setCell _ _ _ _ (hnr p hp))
    · rw [rowSet_ne (by omega) h1, if_neg h1, if_neg h1]
      exact (h.row i hi).same (fun p hp => Below.heap_setCell _ _ _ _ (hne i hi p hp))
  · by_cases h1 : i = k
    · rw [if_pos h1, if_neg (by omega)]
      intro p q hp hq
      have := (hr.block p hp).1
      have := hA j hj q hq
      omega
    · rw [if_neg h1]
      by_cases h2 : j = k
      · rw [if_pos h2]
        intro p q hp hq
        have := (hr.block q hq).1
        have := hA i hi p hp
        omega
      · rw [if_neg h2]; exact h.ap i j hi hj hij
  · by_cases h1 : i = k
    · rw [if_pos h1]
      intro p q hp hq
      injection hp with hp; subst hp
      exact fun e => hnr q hq e.symm
    · rw [if_neg h1]; exact h.apo i hi
theorem Src.al {w : World} {b : Nat} {a : Option Addr} {m c : Nat} {bs : List Int} (h : Src w b a m c bs) (o : Obj) : Src (w.alloc o) b a m c bs := h.keep ((Below.refl _ _).alloc (Nat.le_refl _) o)
theorem Src.like {w w2 : World} {b : Nat} {a : Option Addr} {m c : Nat} {bs : List Int} (h : Src w b a m c bs) (h1 : w2.heap = w.heap) : Src w2 b a m c bs := by
  obtain ⟨⟨k, s, k1, k2, k3⟩, ⟨c1, c2, c3, c4⟩, h5⟩ := h
  exact ⟨⟨k, s, by unfold BX; rw [h1]; exact k1, k2, k3⟩, ⟨c1, c2.same (fun p hp => by rw [h1]), c3, c4⟩, h5⟩
/-- where the rows lie -/
structure LowS (ad : Option Addr) (k : Nat) (A : Nat → Option Addr) (L : Nat) : Prop where
  o : ∀ p, ad = some p → p.block < L
  r : ∀ i, i < k → ∀ p, A i = some p → p.block < L
/-- rows of n small numbers -/
structure Sm (Bd : Int) (n : Nat) (xs : List (List Int)) : Prop where
  row : ∀ i, i < xs.length → (rw_ xs i).length = n
  ent : ∀ i j, i < xs.length → j < n → -Bd ≤ el (rw_ xs i) j ∧ el (rw_ xs i) j ≤ Bd
theorem Sm.mono {Bd Bd' : Int} {n : Nat} {xs : List (List Int)} (h : Sm Bd n xs) (hb : Bd ≤ Bd') : Sm Bd' n xs := ⟨h.row, fun i j hi hj => by have := h.ent i j hi hj; omega⟩
theorem Sm.snoc {Bd : Int} {n : Nat} {xs : List (List Int)} {v : List Int} (h : Sm Bd n xs) (hl : v.length = n) (hv : ∀ j, j < n → -Bd ≤ el v j ∧ el v j ≤ Bd) : Sm Bd n (xs ++ [v]) := by
  have e : ∀ i, i < (xs ++ [v]).length → (i < xs.length ∧ rw_ (xs ++ [v]) i = rw_ xs i) ∨ rw_ (xs ++ [v]) i = v := fun i hi => by
    by_cases h1 : i < xs.length
    · exact .inl ⟨h1, rw_append_lt h1⟩
    · obtain rfl : i = xs.length := by simp at hi; omega
      exact .inr rw_append_eq
  refine ⟨fun i hi => ?_, fun i j hi hj => ?_⟩
  · rcases e i hi with ⟨h1, h2⟩ | h2
    · rw [h2]; exact h.row i h1
    · rw [h2]; exact hl
  · rcases e i hi with ⟨h1, h2⟩ | h2
    · rw [h2]; exact h.ent i j h1 hj
    · rw [h2]; exact hv j hj
theorem Sm.put {Bd Bd' : Int} {n k : Nat} {xs : List (List Int)} {v : List Int} (h : Sm Bd n xs) (hb : Bd ≤ Bd') (hk : k < xs.length) (hl : v.length = n) (hv : ∀ j, j < n → -Bd' ≤ el v j ∧ el v j ≤ Bd') : Sm Bd' n (rowSet xs k v) := by
  refine ⟨fun i hi => ?_, fun i j hi hj => ?_⟩ <;> rw [rowSet_len] at hi <;> by_cases hik : i = k
  · subst hik; rw [rowSet_eq hk]; exact hl
  · rw [rowSet_ne hi hik]; exact h.row i hi
  · subst hik; rw [rowSet_eq hk]; exact hv j hj
  · rw [rowSet_ne hi hik]; have := h.ent i j hi hj; omega
structure SS (w wr : World) (b : Nat) (a : Option Addr) (m c : Nat) (bs : List Int) (Bd : Int) (n k : Nat) (ad : Option Addr) (cap : Nat) (xs : List (List Int)) (A : Nat → Option Addr) (C : Nat → Nat) : Prop where
  s0 : Src w b a m c bs
  bx : ∃ k s : Nat, BX 52 wr b #[.slice a m c, .int .i64 k, .int .i64 s] ∧ k ≤ m ∧ s < 2147483647
  chg : Chg (fun j => j = b) w wr
  own : OwnR 31 2 wr w.heap.size ad k cap xs A C
  sm : Sm Bd n xs
section
variable {w wr w2 w3 : World} {b : Nat} {a : Option Addr} {m c : Nat} {bs : List Int} {Bd Bd' : Int} {n k : Nat} {ad a4 : Option Addr} {cap c4 : Nat} {xs : List (List Int)} {A : Nat → Option Addr} {C : Nat → Nat}
theorem SS.src (h : SS w wr b a m c bs Bd n k ad cap xs A C) : Src wr b a m c bs := by
  obtain ⟨k, s, h1, h2, h3⟩ := h.bx
  exact h.s0.set k s h1 h2 h3 h.chg
theorem SS.sz (h : SS w wr b a m c bs Bd n k ad cap xs A C) : w.heap.size ≤ wr.heap.size := h.chg.size
theorem SS.low (h : SS w wr b a m c bs Bd n k ad cap xs A C) : LowS ad k A wr.heap.size := ⟨fun p hp => (ownsRow_block h.own.own p hp).2, fun i hi p hp => ((h.own.row i hi).block p hp).2⟩
theorem SS.next (h : SS w wr b a m c bs Bd n k ad cap xs A C) (hs : Src w2 b a m c bs) (hc : Chg (fun j => j = b) w3 w2) (h1 : w3.heap = wr.heap) (h2 : w3.os = wr.os) (h3 : w3.tape = wr.tape) (h4 : w3.output = wr.output) : SS w w2 b a m c bs Bd n k ad cap xs A C := by
  have lb := h.s0.lt
  have hsz := h.chg.size
  have hh : ∀ j, j < wr.heap.size → j ≠ b → w2.heap[j]? = wr.heap[j]? := fun j hj hne => by rw [hc.block j (by rw [h1]; exact hj) hne, h1]
  refine ⟨h.s0, hs.box, ⟨(hc.os.trans h2).trans h.chg.os, (hc.tape.trans h3).trans h.chg.tape, (hc.output.trans h4).trans h.chg.output, by have := hc.size; rw [h1] at this; omega, fun j hj hn => (hh j (by omega) hn).trans (h.chg.block j hj hn)⟩, h.own.same (fun p hp => ?_) (fun i hi p hp => ?_), h.sm⟩
  · have := ownsRow_block h.own.own p hp; exact hh _ this.2 (by omega)
  · have := (h.own.row i hi).block p hp; exact hh _ this.2 (by omega)
/-- memory from L on is no matter, where the rows lie below -/
theorem SS.below {L : Nat} (h : SS w wr b a m c bs Bd n k ad cap xs A C) (hl : LowS ad k A L) (hL : w.heap.size ≤ L) (hb : Below L w3 w2) (h1 : w3.heap = wr.heap) (h2 : w3.os = wr.os) (h3 : w3.tape = wr.tape) (h4 : w3.output = wr.output) : SS w w2 b a m c bs Bd n k ad cap xs A C := by
  have lb := h.s0.lt
  have hsz := h.chg.size
  have hh : ∀ j, j < L → w2.heap[j]? = wr.heap[j]? := fun j hj => by rw [hb.block j hj, h1]
  obtain ⟨k, s, k1, k2, k3⟩ := h.bx
  exact ⟨h.s0, ⟨k, s, (hh _ (by omega)).trans k1, k2, k3⟩, ⟨(hb.os.trans h2).trans h.chg.os, (hb.tape.trans h3).trans h.chg.tape, (hb.output.trans h4).trans h.chg.output, by have := hb.size; rw [h1] at this; omega, fun j hj hn => (hh j (by omega)).trans (h.chg.block j hj hn)⟩, h.own.same (fun p hp => hh _ (hl.o p hp)) (fun i hi p hp => hh _ (hl.r i hi p hp)), h.sm⟩
theorem SS.al (h : SS w wr b a m c bs Bd n k ad cap xs A C) (o : Obj) : SS w (wr.alloc o) b a m c bs Bd n k ad cap xs A C := h.below h.low h.sz ((Below.refl wr.heap.size wr).alloc (Nat.le_refl _) o) rfl rfl rfl rfl
theorem SS.push {L nv cv : Nat} {av : Option Addr} {v : List Int} (h : SS w wr b a m c bs Bd n k ad cap xs A C) (hl : LowS ad k A L) (hL : w.heap.size ≤ L) (hv : OwnI 2 wr L av nv cv v) (hn : nv = n) (hvr : ∀ j, j < n → -Bd ≤ el v j ∧ el v j ≤ Bd)
    (r4 : w2.ownsRow w.heap.size 31 1 (.slice a4 (k + 1) c4) (k + 1) (rowVals xs A C k ++ [.slice av nv cv])) (q4 : a4 = ad ∨ ∃ p, a4 = some p ∧ wr.heap.size ≤ p.block) (g4 : Chg (fun k => ∃ p, ad = some p ∧ p.block = k) wr w2) :
    SS w w2 b a m c bs Bd n (k + 1) a4 c4 (xs ++ [v]) (upd A k av) (upd C k cv) := by
  have lb := h.s0.lt
  have hn0 : ∀ j, j < w.heap.size → ¬ ∃ p, ad = some p ∧ p.block = j := fun j hj hx => by obtain ⟨p, hp, e⟩ := hx; have := (ownsRow_block h.own.own p hp).1; omega
  obtain ⟨k1, s, h1, h2, h3⟩ := h.bx
  have hsz := h.chg.size
  have hvl := hv.len
  have hvn : v.length = n := by omega
  subst hvl
  have hown := h.own.pushed (ar := av) (cr := cv) (xs := v) (hv.mono hL) (fun i hi p q hp hq e => by have h5 := hl.r i hi p hp; have h6 := (hv.block q hq).1; omega) (fun p q hp hq e => by have h5 := hl.o p hp; have h6 := (hv.block q hq).1; omega) r4 q4 g4
  refine ⟨h.s0, ⟨k1, s, h1.chg g4 (hn0 b lb), h2, h3⟩, ?_, hown, h.sm.snoc hvn hvr⟩
  exact ⟨g4.os.trans h.chg.os, g4.tape.trans h.chg.tape, g4.output.trans h.chg.output, Nat.le_trans hsz g4.size, fun j hj hne => (g4.block j (by omega) (hn0 j hj)).trans (h.chg.block j hj hne)⟩
/-- a row is put into the place of another one -/
theorem SS.put {L g i nv cv : Nat} {av : Option Addr} {v : List Int} (h : SS w wr b a m c bs Bd n k (some ⟨g, 0, none⟩) cap xs A C) (hl : LowS (some ⟨g, 0, none⟩) k A L) (hL : w.heap.size ≤ L) (hv : OwnI 2 wr L av nv cv v) (hn : nv = n) (hi : i < k) (hb : Bd ≤ Bd') (hvr : ∀ j, j < n → -Bd' ≤ el v j ∧ el v j ≤ Bd') :
    SS w (wr.setCell ⟨g, i, none⟩ (.slice av nv cv)) b a m c bs Bd' n k (some ⟨g, 0, none⟩) cap (rowSet xs i v) (fun t => if t = i then av else A t) (fun t => if t = i then cv else C t) := by
  have lb := h.s0.lt
  have hgB := (ownsRow_block h.own.own _ rfl).1
  have hgl := hl.o _ rfl
  simp at hgB hgl
  obtain ⟨k1, s, h1, h2, h3⟩ := h.bx
  have hvl := hv.len
  refine ⟨h.s0, ⟨k1, s, h1.other (by simp; omega) _, h2, h3⟩, ?_, h.own.putRowS hi hv hL hgl hl.r, h.sm.put hb (by rw [h.own.len]; exact hi) (by omega) hvr⟩
  refine ⟨h.chg.os, h.chg.tape, h.chg.output, by simpa [World.setCell] using h.chg.size, fun j hj hne => (Below.heap_setCell _ _ _ _ (by simp; omega)).trans (h.chg.block j hj hne)⟩
/-- the cells of the rows -/
theorem SS.cells (h : SS w wr b a m c bs Bd n k ad cap xs A C) : 0 < k → ∃ g, ad = some ⟨g, 0, none⟩ ∧ (∀ i, i < k → wr.cell? ⟨g, i, none⟩ = some (.slice (A i) n (C i))) ∧ (∀ i, wr.frozen? ⟨g, i, none⟩ = false) ∧ g < wr.heap.size := fun h0 => by
  rcases ownsRow_cases h.own.own with ⟨_, h1, _⟩ | ⟨g, cur, h1, h2, h3, _⟩
  · omega
  · obtain ⟨g', ha, hc⟩ := ownsRow_cell h.own.own h0
    rw [h1] at ha; injection ha with e; injection e with e1; subst e1
    refine ⟨g, h1, fun i hi => ?_, fun i => wr_frozen h3, (Array.getElem?_eq_some_iff.1 h3).1⟩
    rw [hc i hi, rowVals_get hi, h.sm.row i (by rw [h.own.len]; exact hi)]
theorem SS.cellsG {g : Nat} (h : SS w wr b a m c bs Bd n k (some ⟨g, 0, none⟩) cap xs A C) : ∀ i, i < k → wr.cell? ⟨g, i, none⟩ = some (.slice (A i) n (C i)) := fun i hi => by
  obtain ⟨g', e, hc, _⟩ := h.cells (by omega)
  injection e with e
  injection e with e1
  subst e1
  exact hc i hi
end
/-- rows of a diagonal of ones and minus ones -/
def UD (n : Nat) (xs : List (List Int)) : Prop := ∀ i, i < xs.length → (el (rw_ xs i) i = 1 ∨ el (rw_ xs i) i = -1) ∧ ∀ j, j < n → j ≠ i → el (rw_ xs i) j = 0
def UN (n : Nat) (xs : List (List Int)) : Prop := dN n (fun i j => el (rw_ xs i) j) = 1 ∨ dN n (fun i j => el (rw_ xs i) j) = -1
theorem UD.snoc {n k : Nat} {xs : List (List Int)} {x : Int} (h : UD n xs) (hl : xs.length = k) (hk : k < n) (hx : x = 1 ∨ x = -1) : UD n (xs ++ [(tab n (fun _ => (0 : Int))).set k x]) := fun i hi => by
  by_cases h1 : i < xs.length
  · rw [rw_append_lt h1]; exact h i h1
  · obtain rfl : i = xs.length := by simp at hi; omega
    rw [rw_append_eq]
    subst hl
    refine ⟨by simpa [el, tab, hk] using hx, fun j hj hne => by simp [el, tab, hj, hne.symm]⟩
theorem prd_sgn {δ : Nat → Int} : ∀ k, (∀ i, i < k → δ i = 1 ∨ δ i = -1) → prd δ k = 1 ∨ prd δ k = -1
  | 0, _ => .inl rfl
  | k + 1, h => by
    have h1 := prd_sgn k (fun i hi => h i (by omega))
    have h2 := h k (by omega)
    show prd δ k * δ k = 1 ∨ prd δ k * δ k = -1
    rcases h1 with h1 | h1 <;> rcases h2 with h2 | h2 <;> rw [h1, h2] <;> simp
theorem UD.un {n : Nat} {xs : List (List Int)} (h : UD n xs) (hl : xs.length = n) : UN n xs := by
  unfold UN
  rw [dN_congr (m' := fun i j => if i = j then el (rw_ xs i) i else 0) fun i j hi hj => ?_, dN_diag n (fun i => el (rw_ xs i) i)]
  · exact prd_sgn n (fun i hi => (h i (by omega)).1)
  · by_cases e : i = j
    · subst e; rw [if_pos rfl]
    · rw [if_neg e]; exact (h i (by omega)).2 j hj (fun e2 => e e2.symm)
theorem UN.sub {n i J : Nat} {f : Int} {xs : List (List Int)} (h : UN n xs) (hn : n ≤ 4) (hl : xs.length = n) (hr : ∀ i, i < n → (rw_ xs i).length = n) (hi : i < n) (hJ : J < n) (hne : i ≠ J) : UN n (rowSet xs i (subM f (rw_ xs i) (rw_ xs J))) := by
  have e1 : dN n (fun t j => el (rw_ (rowSet xs i (subM f (rw_ xs i) (rw_ xs J))) t) j) = dN n (fun t j => if t = i then sm (fun s => (if s = 0 then 1 else -f) * (if s = 0 then el (rw_ xs i) j else el (rw_ xs J) j)) 2 else el (rw_ xs t) j) := by
    refine dN_congr fun t j ht hj => ?_
    by_cases e : t = i
    · subst e
      rw [rowSet_eq (by omega), if_pos rfl, subM_el (by rw [hr t ht]; exact hj)]
      simp [sm]
      grind
    · rw [rowSet_ne (by omega) e, if_neg e]
  have e2 := dN_lin (n := 2) (fun s => if s = 0 then 1 else -f) (fun s j => if s = 0 then el (rw_ xs i) j else el (rw_ xs J) j) n i (fun t j => el (rw_ xs t) j) hi
  have e3 : dN n (fun t j => if t = i then el (rw_ xs i) j else el (rw_ xs t) j) = dN n (fun t j => el (rw_ xs t) j) := dN_congr fun t j _ _ => by
    by_cases e : t = i
    · rw [if_pos e, e]
    · rw [if_neg e]
  have e4 := dN_like hn (fun t j => el (rw_ xs t) j) hi hJ hne
  unfold UN
  rw [e1, e2]
  simp only [sm, if_true, Nat.one_ne_zero, if_false]
  rw [e3, e4]
  unfold UN at h
  simpa using h
set_option maxRecDepth 20000 in
set_option maxHeartbeats 4000000 in
theorem l04Shears_any (b : Nat) (a : Option Addr) (m c : Nat) (bs : List Int) (n : Nat) (w : World) (hs : Src w b a m c bs) (hmc : m ≤ c) (hn1 : 1 ≤ n) (hn : n ≤ 4) :
    Calls Try.prog 20 #[.pointer (some ⟨b, 0, none⟩), .int .i64 n] w fun e w' => ∃ (xs : List (List Int)) (a' : Option Addr) (c' : Nat), e = .returned (.slice a' n c') ∧ MadeR 31 2 w' w.heap.size a' n c' xs ∧ Sm 27 n xs ∧ UN n xs ∧ Src w' b a m c bs ∧ Chg (fun j => j = b) w w' := by
  have S0 : Hid (SS w (w.alloc (.cells #[] 31)) b a m c bs 1 n 0 (some ⟨w.heap.size, 0, none⟩) 0 [] (fun _ => none) (fun _ => 0)) := Lib.hid (by
    obtain ⟨k, s, h1, h2, h3⟩ := hs.box
    exact ⟨hs, ⟨k, s, h1.alloc _, h2, h3⟩, (Chg.refl _ w).alloc _, OwnR.empty w _ _ _ _, ⟨fun i hi => by simp at hi, fun i j hi => by simp at hi⟩⟩)
  have HMK := Lib.hid (run_make_row' (P := Try.prog) 31 2 (.int .i64 0) 8 Try.underlying31 Try.info2 rfl .i64 .i64 n (by omega) (by omega))
  have lb : b < w.heap.size := hs.lt
  clear hs
  go_enter Try.func20, Try.ntmps20
  go_wp2_with fail
  go_loopw [6, 5] (fun i o wr => ∃ (k : Nat) (ad : Option Addr) (cap : Nat) (xs : List (List Int)) (A : Nat → Option Addr) (C : Nat → Nat), k ≤ n ∧ i = .int .i64 k ∧ o = .slice ad k cap ∧ Hid (SS w wr b a m c bs 1 n k ad cap xs A C) ∧ Hid (UD n xs)) (fun i _ _ => n - (intOf i).toNat)
  case atStart => exact ⟨0, _, 0, [], _, _, Nat.zero_le _, rfl, rfl, S0, Lib.hid (fun i hi => by simp at hi)⟩
  case round =>
    obtain ⟨k, ad, cap, xs, A, C, hk, rfl, rfl, HJ, HUD⟩ := hrel
    obtain ⟨wi, rfl⟩ : ∃ x, x = wr := ⟨wr, rfl⟩
    clear S0
    by_cases hkn : k < n
    · have J1 : (k : Int) < (n : Int) := by omega
      have hmk := HMK.out
      have hsw := HJ.out.sz
      have HLW := Lib.hid HJ.out.low
      go_wp2_with fail
      refine (l01Next_any b a m c bs 2 _ (by exact (HJ.out.al _).src) (by omega) hmc).mono ?_
      rintro e w2 ⟨z, rfl, hz0, hz1, hs, hc⟩
      have HJ2 := Lib.hid ((HJ.out.al (.cells (madeCells #[.int .i64 0] n) 2)).next hs hc rfl rfl rfl rfl)
      have HO2 := Lib.hid ((OwnI.made wi 2 n (by unfold maxLen; omega)).kept hc (fun p hp e => by injection hp with hp; subst hp; simp at e; omega))
      have s2 := hc.size
      simp at s2
      have c2 := HO2.out.cellAt hkn
      have f2 := HO2.out.frozen k
      have W1 : IntKind.i64.wrap (2 * z) = 2 * z := IntWalk.i64_in _ (by omega)
      have W2 : IntKind.i64.wrap (1 - 2 * z) = 1 - 2 * z := IntWalk.i64_in _ (by omega)
      have hzb : -1 ≤ 1 - 2 * z ∧ 1 - 2 * z ≤ 1 := by omega
      have HUN := Lib.hid (HUD.out.snoc HJ.out.own.len hkn (show 1 - 2 * z = 1 ∨ 1 - 2 * z = -1 by omega))
      clear hs hc hmk hz0 hz1
      have HO3 := Lib.hid (HO2.out.set hkn (1 - 2 * z))
      have HJ3 := Lib.hid (HJ2.out.below (L := wi.heap.size) (w3 := w2) (w2 := w2.setCell ⟨wi.heap.size, k, none⟩ (.int .i64 (1 - 2 * z))) HLW.out hsw ((Below.refl _ _).setCell (p := ⟨wi.heap.size, k, none⟩) (Nat.le_refl _) _) rfl rfl rfl rfl)
      have HVR : Hid (∀ j, j < n → -1 ≤ el ((tab n (fun _ => (0 : Int))).set k (1 - 2 * z)) j ∧ el ((tab n (fun _ => (0 : Int))).set k (1 - 2 * z)) j ≤ 1) := Lib.hid (fun j hj => by
        by_cases hjk : k = j
        · subst hjk; simp [el, tab, hkn]; omega
        · simp [el, tab, hjk, hj])
      have hsz3 : w.heap.size ≤ (w2.setCell ⟨wi.heap.size, k, none⟩ (.int .i64 (1 - 2 * z))).heap.size := HJ3.out.sz
      go_wp2_with (at_builtin; (refine wpList_pushB rfl (.tmp 26) (.tmp 28) 24 rfl w.heap.size 31 (.slice none 0 0) 24 Try.underlying24 Try.infoR rfl (by decide) (.slice (some ⟨wi.heap.size, 0, none⟩) n n) rfl _ _ _ w2.heap.size _ rfl rfl (by simp [World.setCell]) (by exact HJ3.out.own.own) (by omega) (by exact hsz3) ?_; rintro a4 c4 w4 r4 q4 g4; have HN := Lib.hid (HJ3.out.push HLW.out hsw HO3.out rfl HVR.out r4 q4 g4); clear r4 q4 g4))
      go_wp2_with fail
      go_roundw
      case rel => exact ⟨k + 1, a4, c4, _, _, _, by omega, by go_num, rfl, HN, HUN⟩
      case measure => simp [intOf]; omega
    · obtain rfl : k = n := by omega
      have J1 : ¬ (k : Int) < (k : Int) := by omega
      go_wp2_with fail
      refine (l01Next_any b a m c bs 4 wi HJ.out.src (by omega) hmc).mono ?_
      rintro e w2 ⟨K, rfl, hK0, hK1, hs, hc⟩
      obtain ⟨K, rfl⟩ : ∃ K' : Nat, K = K' := ⟨K.toNat, by omega⟩
      have hK : K ≤ 3 := by omega
      have HJ2 := Lib.hid (HJ.out.next hs hc rfl rfl rfl rfl)
      have HU2 := Lib.hid (HUD.out.un HJ.out.own.len)
      clear hs hc hK0 hK1 HJ
      obtain ⟨g, rfl, _⟩ := HJ2.out.cells (by omega)
      go_wp2_with fail
      go_loopw [8] (fun kk wr => ∃ (K : Nat) (Bd : Int) (ys : List (List Int)) (A : Nat → Option Addr) (C : Nat → Nat), kk = .int .i64 K ∧ 0 ≤ Bd ∧ Bd * 3 ^ K ≤ 27 ∧ K ≤ 3 ∧ Hid (SS w wr b a m c bs Bd k k (some ⟨g, 0, none⟩) cap ys A C) ∧ Hid (UN k ys)) (fun kk _ => (intOf kk).toNat)
      case atStart => exact ⟨K, 1, xs, A, C, rfl, by omega, by
        rcases (show K = 0 ∨ K = 1 ∨ K = 2 ∨ K = 3 by omega) with rfl | rfl | rfl | rfl <;> decide, hK, HJ2, HU2⟩
      case round =>
        obtain ⟨K, Bd, ys, A, C, rfl, hB0, hB, hK, HL, HU⟩ := hrel
        obtain ⟨w4, rfl⟩ : ∃ x, x = wr := ⟨wr, rfl⟩
        clear HJ2
        have HFin : Hid (MadeR 31 2 w4 w.heap.size (some ⟨g, 0, none⟩) k cap ys ∧ Sm 27 k ys) := Lib.hid ⟨⟨A, C, HL.out.own⟩, HL.out.sm.mono (by
          rcases (show K = 0 ∨ K = 1 ∨ K = 2 ∨ K = 3 by omega) with rfl | rfl | rfl | rfl <;> simp at hB <;> omega)⟩
        by_cases hK0 : 0 < K
        · by_cases hk2 : 1 < k
          · obtain ⟨K, rfl⟩ : ∃ K', K = K' + 1 := ⟨K - 1, by omega⟩
            have hBp : Bd * 3 * 3 ^ K ≤ 27 := by rw [Int.pow_succ] at hB; rw [Int.mul_assoc, Int.mul_comm 3]; exact hB
            have hB9 : Bd ≤ 9 := by rcases (show K = 0 ∨ K = 1 ∨ K = 2 by omega) with rfl | rfl | rfl <;> simp at hBp <;> omega
            have HBP := Lib.hid hBp
            have d1 : (0 : Int) < (K : Int) + 1 := by omega
            have d2 : (1 : Int) < (k : Int) := by omega
            clear hB hBp HFin
            go_wp2_with fail
            refine (l01Next_any b a m c bs k w4 HL.out.src (by omega) hmc).mono ?_
            rintro e w5 ⟨i, rfl, hi0, hi1, hs, hc⟩
            obtain ⟨i, rfl⟩ : ∃ i' : Nat, i = i' := ⟨i.toNat, by omega⟩
            have hik : i < k := by omega
            have hiK : (i : Int) < (k : Int) := by omega
            have HL5 := Lib.hid (HL.out.next hs hc rfl rfl rfl rfl)
            clear hs hc hi0 hi1 HL
            have W0 : IntKind.i64.wrap ((k : Int) - 1) = (k : Int) - 1 := IntWalk.i64_in _ (by omega)
            go_wp2_with fail
            refine (l01Next_any b a m c bs ((k : Int) - 1) w5 HL5.out.src (by omega) hmc).mono ?_
            rintro e w6 ⟨d, rfl, hd0, hd1, hs, hc⟩
            obtain ⟨d, rfl⟩ : ∃ d' : Nat, d = d' := ⟨d.toNat, by omega⟩
            have hdk : d + 1 < k := by omega
            have HL6 := Lib.hid (HL5.out.next hs hc rfl rfl rfl rfl)
            clear hs hc hd0 hd1 HL5
            obtain ⟨J, hJ⟩ : ∃ J : Nat, J = (i + 1 + d) % k := ⟨_, rfl⟩
            have hJk : J < k := by rw [hJ]; exact Nat.mod_lt _ (by omega)
            have hJK : (J : Int) < (k : Int) := by omega
            have W1 : IntKind.i64.wrap ((i : Int) + 1) = (i : Int) + 1 := IntWalk.i64_in _ (by omega)
            have W2 : IntKind.i64.wrap ((i : Int) + 1 + (d : Int)) = (i : Int) + 1 + (d : Int) := IntWalk.i64_in _ (by omega)
            have W3 : ((i : Int) + 1 + (d : Int)).tmod (k : Int) = (J : Int) := by rw [Int.tmod_eq_emod_of_nonneg (by omega), hJ]; simp
            have hnn : ¬ (k : Int) = 0 := by omega
            have hiJ : i ≠ J := by
              rw [hJ]
              by_cases h1 : i + 1 + d < k
              · rw [Nat.mod_eq_of_lt h1]; omega
              · rw [Nat.mod_eq_sub_mod (by omega), Nat.mod_eq_of_lt (by omega)]; omega
            have HIJ := Lib.hid hiJ
            have hnk : ¬ k = 0 := by omega
            clear hJ hiJ
            have ci := HL6.out.cellsG i hik
            have cj := HL6.out.cellsG J hJk
            obtain ⟨g', eg, _, hfz, hgl⟩ := HL6.out.cells (by omega)
            obtain rfl : g = g' := by injection eg with eg; injection eg with eg
            have HSM := Lib.hid HL6.out.sm
            have HLEN := Lib.hid HL6.out.own.len
            have HIK := Lib.hid hik
            have HJK := Lib.hid hJk
            have HLW := Lib.hid HL6.out.low
            have hsw := HL6.out.sz
            have HGL := Lib.hid hgl
            clear hfz eg
            go_wp2_with fail
            go_region_law (first
              | (go_simp; go_at_call 18; (refine (l01Next_any b a m c bs 5 _ (by exact HL6.out.src.like rfl) (by omega) hmc).mono ?_; rintro e w7 ⟨f, rfl, hf0, hf1, hs, hc⟩; have HL7 := Lib.hid (HL6.out.next hs hc rfl rfl rfl rfl); have hf5 : f < 5 := (by omega); have WF : IntKind.i64.wrap (f - 2) = f - 2 := IntWalk.i64_in _ (by omega); have ci7 := HL7.out.cellsG i HIK.out; have cj7 := HL7.out.cellsG J HJK.out; have s7 : w6.heap.size ≤ w7.heap.size := hc.size; clear hs hc hf1))
              | (go_simp; go_at_call 35; (refine (l04Minus_any _ _ k k _ _ (rw_ ys i) (rw_ ys J) (f - 2) _ (by exact (HL7.out.own.row i HIK.out).rd.same (fun _ _ => rfl)) (HSM.out.row i (by rw [HLEN.out]; exact HIK.out)) (by exact (HL7.out.own.row J HJK.out).rd.same (fun _ _ => rfl)) (HSM.out.row J (by rw [HLEN.out]; exact HJK.out)) (Nat.le_refl _) (by omega) (fun j hj => by have h1 := HSM.out.ent i j (by rw [HLEN.out]; exact HIK.out) hj; have h2 := HSM.out.ent J j (by rw [HLEN.out]; exact HJK.out) hj; have h3 := mulB (a := f - 2) (A := 2) (by omega) (by omega) h2.1 h2.2; unfold I64; omega)).mono ?_; rintro e w8 ⟨a8, c8, rfl, ho, hb⟩; have HE8 : Hid (Below w7.heap.size w7 w8) := Lib.hid ⟨hb.os, hb.tape, hb.output, hb.size, hb.block⟩; have HL8 := Lib.hid (HL7.out.below HL7.out.low HL7.out.sz HE8.out rfl rfl rfl rfl); have HO8 : Hid (OwnI 2 w8 w7.heap.size a8 k c8 (subM (f - 2) (rw_ ys i) (rw_ ys J))) := Lib.hid ho; have ci8 := HL8.out.cellsG i HIK.out; have hgl8 : g < w8.heap.size := Nat.lt_of_lt_of_le HGL.out (Nat.le_trans s7 HE8.out.size); have fz8 : w8.frozen? ⟨g, i, none⟩ = false := (by obtain ⟨g', eg, _, hfz, _⟩ := HL8.out.cells (by omega); obtain rfl : g = g' := (by injection eg with eg; injection eg with eg); exact hfz i); clear ho hb)))
            all_goals
              have HN := Lib.hid (HL8.out.put (Bd' := Bd * 3) HL7.out.low HL7.out.sz HO8.out rfl HIK.out (by omega) (fun j hj => by
                have h1 := HSM.out.ent i j (by rw [HLEN.out]; exact HIK.out) hj
                have h2 := HSM.out.ent J j (by rw [HLEN.out]; exact HJK.out) hj
                have h3 := mulB (a := f - 2) (A := 2) (by omega) (by omega) h2.1 h2.2
                rw [subM_el (by rw [HSM.out.row i (by rw [HLEN.out]; exact HIK.out)]; exact hj)]
                omega))
              go_wp2_with fail
              go_roundw
              case rel => exact ⟨K, Bd * 3, _, _, _, by go_num, by omega, HBP.out, by omega, HN, Lib.hid (HU.out.sub hn HLEN.out (fun t ht => HSM.out.row t (by rw [HLEN.out]; exact ht)) HIK.out HJK.out HIJ.out)⟩
              case measure => simp [intOf]
          · have d1 : (0 : Int) < (K : Int) := by omega
            have d2 : ¬ (1 : Int) < (k : Int) := by omega
            go_wp2_with fail
            go_ret
            exact ⟨ys, _, cap, rfl, HFin.out.1, HFin.out.2, HU.out, HL.out.src, HL.out.chg⟩
        · have d1 : ¬ (0 : Int) < (K : Int) := by omega
          go_wp2_with fail
          go_ret
          exact ⟨ys, _, cap, rfl, HFin.out.1, HFin.out.2, HU.out, HL.out.src, HL.out.chg⟩
end Go.Proofs.Ytcnphhcdjhmmkaa
