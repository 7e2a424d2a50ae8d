/- Draws of matrices that are rarely bent out of shape. -/
import Derived.Test.YtpkdgemnddcefaaDrM
import Derived.Test.YtpkdgemnddcefaaRowOps
import Derived.Test.YtpkdgemnddcefaaCellN
set_option linter.unusedVariables false
set_option linter.unusedSimpArgs false
namespace Go.Proofs.Ytpkdgemnddcefaa
open Go.RowKit
theorem Src.codeLt {w : World} {b : Nat} {a : Option Addr} {m c : Nat} {bs : List Int} (h : Src w b a m c bs) : 0 < m → ∀ p, a = some p → p.block < w.heap.size := fun h0 p hp => by
  obtain ⟨b', o', e, hx⟩ := h.code.rd (by rw [h.code.len]; exact h0)
  rw [hp] at e; injection e with e; subst e
  exact block_lt (p := ⟨b', o' + 0, none⟩) (hx 0 (by rw [h.code.len]; exact h0))
/-- a row replaced by a new one -/
theorem OwnR.putRow2 {T1 T2 : TypeId} {w : World} {B B1 n cap g k m' cr : Nat} {xss : List (List Int)} {A : Nat → Option Addr} {C : Nat → Nat} {ar : Option Addr} {r : List Int} (h : OwnR T1 T2 w B (some ⟨g, 0, Option.none⟩) n cap xss A C) (hk : k < n)
    (hr : OwnI T2 w B1 ar m' cr r) (hB : B ≤ B1) (hg : g < B1) (hA : ∀ i, i < n → ∀ p, A i = some p → p.block < B1) :
    OwnR T1 T2 (w.setCell ⟨g, k, Option.none⟩ (.slice ar m' cr)) B (some ⟨g, 0, Option.none⟩) n cap (rowSet xss k r) (fun i => if i = k then ar else A i) (fun i => if i = k then cr else C i) := by
  have hl := h.len
  have hrl := hr.len
  subst hrl
  have hne : ∀ i, i < n → ∀ p, A i = some p → p.block ≠ g := fun i hi p hp hx => h.apo i hi _ p rfl hp hx.symm
  have hnr : ∀ p, ar = some p → p.block ≠ g := fun p hp hx => by have := (hr.block p hp).1; omega
  refine ⟨by rw [rowSet_len, hl], ?_, fun i hi => ?_, fun i j hi hj hij => ?_, fun i hi => ?_⟩
  · have h1 := ownsRow_setCell h.own hk (.slice ar r.length cr)
    have e1 : (rowVals xss A C n).set k (.slice ar r.length cr) = rowVals (rowSet xss k r) (fun i => if i = k then ar else A i) (fun i => if i = k then cr else C i) n := by
      refine List.ext_getElem? fun i => ?_
      rw [List.getElem?_set]
      by_cases hi : i < n
      · rw [rowVals_get hi, rowVals_get hi]
        simp only [rowVals_len]
        by_cases h1 : k = i
        · subst h1
          rw [if_pos rfl, if_pos hi, if_pos rfl, if_pos rfl, rowSet_eq (by omega)]
        · rw [if_neg h1, if_neg (fun e => h1 e.symm), if_neg (fun e => h1 e.symm), rowSet_ne (by omega) (fun e => h1 e.symm)]
      · rw [if_neg (by omega), List.getElem?_eq_none (by rw [rowVals_len]; omega), List.getElem?_eq_none (by rw [rowVals_len]; omega)]
    rw [← e1]; exact h1
  · by_cases h1 : i = k
    · subst h1
      rw [rowSet_eq (by omega), if_pos rfl, if_pos rfl]
      exact (hr.mono hB).same (fun p hp => Below.heap_setCell _ _ _ _ (hnr p hp))
    · rw [rowSet_ne (by omega) h1, if_neg h1, if_neg h1]
      exact (h.row i hi).same (fun p hp => Below.heap_setCell _ _ _ _ (hne i hi p hp))
  · by_cases h1 : i = k
    · rw [if_pos h1, if_neg (by omega)]
      intro p q hp hq
      have := (hr.block p hp).1
      have := hA j hj q hq
      omega
    · rw [if_neg h1]
      by_cases h2 : j = k
      · rw [if_pos h2]
        intro p q hp hq
        have := (hr.block q hq).1
        have := hA i hi p hp
        omega
      · rw [if_neg h2]; exact h.ap i j hi hj hij
  · by_cases h1 : i = k
    · rw [if_pos h1]
      intro p q hp hq
      injection hp with hp; subst hp
      exact fun e => hnr q hq e.symm
    · rw [if_neg h1]; exact h.apo i hi
/-- a matrix that is bent: its box, the result's box, its rows, the source -/
structure BS (w wr : World) (b : Nat) (a : Option Addr) (m c : Nat) (bs : List Int) (B : Nat) (p q : Int) (ad : Option Addr) (n cap : Nat) (xs : List (List Int)) (A : Nat → Option Addr) (C : Nat → Nat) (L : Nat) : Prop where
  s0 : Src w b a m c bs
  bB : b < B
  Bw : B ≤ w.heap.size
  cB : 0 < m → ∀ p, a = some p → p.block < B
  bx : ∃ k s : Nat, BX 60 wr b #[.slice a m c, .int .i64 k, .int .i64 s] ∧ k ≤ m ∧ s < 2147483647
  chg : Chg (fun j => j = b ∨ B ≤ j) w wr
  mb : BX 26 wr w.heap.size #[.int .i64 p, .int .i64 q, .slice ad n cap]
  rb : BX 26 wr (w.heap.size + 1) #[.int .i64 0, .int .i64 0, .slice none 0 0]
  own : OwnR 52 2 wr B ad n cap xs A C
  no : ∀ p, ad = some p → p.block ≠ w.heap.size ∧ p.block ≠ w.heap.size + 1
  nr : ∀ i, i < n → ∀ p, A i = some p → p.block ≠ w.heap.size ∧ p.block ≠ w.heap.size + 1
  len : ∀ i, i < n → (rw_ xs i).length ≤ L
section
variable {w wr w2 w3 : World} {b : Nat} {a : Option Addr} {m c : Nat} {bs : List Int} {B : Nat} {p q : Int} {ad a4 : Option Addr} {n cap c4 : Nat} {xs : List (List Int)} {A : Nat → Option Addr} {C : Nat → Nat} {L : Nat}
theorem BS.src (h : BS w wr b a m c bs B p q ad n cap xs A C L) : Src wr b a m c bs := by
  have h0 := h.s0
  have hlt := h.s0.codeLt
  refine ⟨h.bx, ⟨h0.code.len, fun hb => (h0.code.rd.same (w' := wr) (fun p hp => h.chg.block _ ?_ ?_)) hb, h0.code.rng, h0.code.sm⟩, h0.ap⟩
  · exact hlt (by rw [← h0.code.len]; exact hb) p hp
  · have h1 := h0.ap (by rw [← h0.code.len]; exact hb) p hp
    have h2 := h.cB (by rw [← h0.code.len]; exact hb) p hp
    omega
theorem BS.next (h : BS w wr b a m c bs B p q ad n cap xs A C L) (hs : Src w2 b a m c bs) (hc : Chg (fun j => j = b) w3 w2) (h1 : w3.heap = wr.heap) (h2 : w3.os = wr.os) (h3 : w3.tape = wr.tape) (h4 : w3.output = wr.output) : BS w w2 b a m c bs B p q ad n cap xs A C L := by
  have lb := h.bB
  have Bw := h.Bw
  have hsz := h.chg.size
  have hh : ∀ j, j < wr.heap.size → j ≠ b → w2.heap[j]? = wr.heap[j]? := fun j hj hne => by rw [hc.block j (by rw [h1]; exact hj) hne, h1]
  refine ⟨h.s0, h.bB, h.Bw, h.cB, hs.box, ⟨(hc.os.trans h2).trans h.chg.os, (hc.tape.trans h3).trans h.chg.tape, (hc.output.trans h4).trans h.chg.output, by have := hc.size; rw [h1] at this; omega, fun j hj hn => (hh j (by omega) (fun e => hn (.inl e))).trans (h.chg.block j hj hn)⟩, (hh _ h.mb.lt (by omega)).trans h.mb, (hh _ h.rb.lt (by omega)).trans h.rb, h.own.same (fun p hp => ?_) (fun i hi p hp => ?_), h.no, h.nr, h.len⟩
  · have := ownsRow_block h.own.own p hp; exact hh _ this.2 (by omega)
  · have := (h.own.row i hi).block p hp; exact hh _ this.2 (by omega)
/-- new memory is no matter -/
theorem BS.below {B1 : Nat} (h : BS w wr b a m c bs B p q ad n cap xs A C L) (hb : Below B1 w3 w2) (hB : wr.heap.size ≤ B1) (h1 : w3.heap = wr.heap) (h2 : w3.os = wr.os) (h3 : w3.tape = wr.tape) (h4 : w3.output = wr.output) : BS w w2 b a m c bs B p q ad n cap xs A C L := by
  have hsz := h.chg.size
  have hh : ∀ j, j < wr.heap.size → w2.heap[j]? = wr.heap[j]? := fun j hj => by rw [hb.block j (by omega), h1]
  obtain ⟨k, s, k1, k2, k3⟩ := h.bx
  exact ⟨h.s0, h.bB, h.Bw, h.cB, ⟨k, s, (hh _ k1.lt).trans k1, k2, k3⟩, ⟨(hb.os.trans h2).trans h.chg.os, (hb.tape.trans h3).trans h.chg.tape, (hb.output.trans h4).trans h.chg.output, by have := hb.size; rw [h1] at this; omega, fun j hj hn => (hh j (by omega)).trans (h.chg.block j hj hn)⟩, (hh _ h.mb.lt).trans h.mb, (hh _ h.rb.lt).trans h.rb, h.own.same (fun p hp => hh _ (ownsRow_block h.own.own p hp).2) (fun i hi p hp => hh _ ((h.own.row i hi).block p hp).2), h.no, h.nr, h.len⟩
theorem BS.like (h : BS w wr b a m c bs B p q ad n cap xs A C L) (h1 : w2.heap = wr.heap) (h2 : w2.os = wr.os) (h3 : w2.tape = wr.tape) (h4 : w2.output = wr.output) : BS w w2 b a m c bs B p q ad n cap xs A C L :=
  h.below (Below.refl wr.heap.size w2) (Nat.le_refl _) h1 h2 h3 h4
theorem BS.al (h : BS w wr b a m c bs B p q ad n cap xs A C L) (o : Obj) : BS w (wr.alloc o) b a m c bs B p q ad n cap xs A C L := h.below ((Below.refl wr.heap.size wr).alloc (Nat.le_refl _) o) (Nat.le_refl _) rfl rfl rfl rfl
/-- a write into the matrix's box -/
theorem BS.box {p2 q2 : Int} (h : BS w wr b a m c bs B p q ad n cap xs A C L) (i : Nat) (v : Value) (hb : BX 26 (wr.setCell ⟨w.heap.size, i, none⟩ v) w.heap.size #[.int .i64 p2, .int .i64 q2, .slice ad n cap]) : BS w (wr.setCell ⟨w.heap.size, i, none⟩ v) b a m c bs B p2 q2 ad n cap xs A C L := by
  have lb := h.bB
  have Bw := h.Bw
  obtain ⟨k, s, k1, k2, k3⟩ := h.bx
  exact ⟨h.s0, h.bB, h.Bw, h.cB, ⟨k, s, k1.other (by simp; omega) _, k2, k3⟩, h.chg.setCell _ (.inr Bw) _, hb, h.rb.other (by simp) _, h.own.same (fun p hp => Below.heap_setCell _ _ _ _ (h.no p hp).1) (fun i hi p hp => Below.heap_setCell _ _ _ _ (h.nr i hi p hp).1), h.no, h.nr, h.len⟩
/-- where a row lies -/
theorem BS.rowAddr {i g : Nat} (h : BS w wr b a m c bs B p q (some ⟨g, 0, none⟩) n cap xs A C L) (hi : i < n) (h0 : 0 < (rw_ xs i).length) : ∃ g0, A i = some ⟨g0, 0, none⟩ ∧ (∀ j, wr.frozen? ⟨g0, j, none⟩ = false) ∧ g0 < wr.heap.size ∧ g0 ≠ w.heap.size ∧ g0 ≠ w.heap.size + 1 ∧ g ≠ g0 := by
  rcases (h.own.row i hi).cases with ⟨_, h1, _⟩ | ⟨g0, cur, h1, h2, h3, _⟩
  · omega
  · have hn := h.nr i hi _ h1
    exact ⟨g0, h1, fun j => wr_frozen h3, (Array.getElem?_eq_some_iff.1 h3).1, hn.1, hn.2, h.own.apo i hi _ _ rfl h1⟩
/-- a number is written into a row -/
theorem BS.setInt {i k g0 : Nat} {v : Int} (h : BS w wr b a m c bs B p q ad n cap xs A C L) (hi : i < n) (hA : A i = some ⟨g0, 0, none⟩) (hk : k < (rw_ xs i).length) : BS w (wr.setCell ⟨g0, k, none⟩ (.int .i64 v)) b a m c bs B p q ad n cap (rowSet xs i ((rw_ xs i).set k v)) A C L := by
  have hrow := h.own.row i hi
  rw [hA] at hrow
  have hblk := hrow.block _ rfl
  simp at hblk
  have hnr := h.nr i hi _ hA
  simp at hnr
  have lb := h.bB
  obtain ⟨k1, s, h1, h2, h3⟩ := h.bx
  have hxl := h.own.len
  refine ⟨h.s0, h.bB, h.Bw, h.cB, ⟨k1, s, h1.other (by simp; omega) _, h2, h3⟩, h.chg.setCell _ (.inr hblk.1) _, h.mb.other (by simp; omega) _, h.rb.other (by simp; omega) _, ?_, h.no, h.nr, fun j hj => ?_⟩
  · refine h.own.setRow hi (by rw [hA]; exact hrow.set hk v) ⟨rfl, rfl, rfl, by simp [World.setCell], fun j hj hn => Below.heap_setCell _ _ _ _ (fun e => hn ⟨_, hA, e.symm⟩)⟩
  · by_cases hji : j = i
    · subst hji; rw [rowSet_eq (by omega), List.length_set]; exact h.len j hj
    · rw [rowSet_ne (by omega) hji]; exact h.len j hj
theorem BS.low (h : BS w wr b a m c bs B p q ad n cap xs A C L) : Low ad n A wr.heap.size := ⟨fun p hp => (ownsRow_block h.own.own p hp).2, fun i hi p hp => ((h.own.row i hi).block p hp).2⟩
theorem BS.sz (h : BS w wr b a m c bs B p q ad n cap xs A C L) : w.heap.size + 1 + 1 ≤ wr.heap.size := h.rb.lt
/-- one more row -/
theorem BS.push {W : World} {Lb nv cv : Nat} {av : Option Addr} {v : List Int} (h0 : BS w wr b a m c bs B p q ad n cap xs A C L) (hl : Low ad n A Lb) (hL : w.heap.size + 1 + 1 ≤ Lb) (hv : OwnI 2 wr Lb av nv cv v) (hvl : nv ≤ L)
    (r4 : w2.ownsRow B 52 1 (.slice a4 (n + 1) c4) (n + 1) (rowVals xs A C n ++ [.slice av nv cv])) (q4 : a4 = ad ∨ ∃ p, a4 = some p ∧ W.heap.size ≤ p.block) (g4 : Chg (fun k => ∃ p, ad = some p ∧ p.block = k) W w2)
    (h1 : W.heap = wr.heap) (h2 : W.os = wr.os) (h3 : W.tape = wr.tape) (h4 : W.output = wr.output) :
    BS w (w2.setCell ⟨w.heap.size, 2, none⟩ (.slice a4 (n + 1) c4)) b a m c bs B p q a4 (n + 1) c4 (xs ++ [v]) (upd A n av) (upd C n cv) L ∧ BX 26 w2 w.heap.size #[.int .i64 p, .int .i64 q, .slice ad n cap] := by
  have h := h0.like (w2 := W) h1 h2 h3 h4
  have hv : OwnI 2 W Lb av nv cv v := hv.same (fun p hp => by rw [h1])
  have lb := h.bB
  have Bw := h.Bw
  have hsz := h.sz
  have hvl2 := hv.len
  subst hvl2
  have hn : ∀ j, (∃ p, ad = some p ∧ p.block = j) → B ≤ j ∧ j ≠ w.heap.size ∧ j ≠ w.heap.size + 1 := fun j hx => by
    obtain ⟨p, hp, e⟩ := hx
    have := (ownsRow_block h.own.own p hp).1
    have := h.no p hp
    omega
  obtain ⟨k1, s, k2, k3, k4⟩ := h.bx
  have hmb := h.mb.chg g4 (fun hx => (hn _ hx).2.1 rfl)
  have hown := h.own.pushed (ar := av) (cr := cv) (xs := v) (hv.mono (by omega)) (fun i hi p q hp hq e => by have h5 := hl.r i hi p hp; have h6 := (hv.block q hq).1; omega) (fun p q hp hq e => by have h5 := hl.o p hp; have h6 := (hv.block q hq).1; omega) r4 q4 g4
  have hno4 : ∀ p, a4 = some p → p.block ≠ w.heap.size ∧ p.block ≠ w.heap.size + 1 := fun p hp => by
    rcases q4 with q4 | ⟨p', q4, q5⟩
    · rw [q4] at hp; exact h.no p hp
    · rw [q4] at hp; injection hp with hp; subst hp; omega
  have hnr4 : ∀ i, i < n + 1 → ∀ p, upd A n av i = some p → p.block ≠ w.heap.size ∧ p.block ≠ w.heap.size + 1 := fun i hi p hp => by
    by_cases hin : i = n
    · subst hin; rw [upd_eq] at hp; have := (hv.block p hp).1; omega
    · rw [upd_lt (by omega)] at hp; exact h.nr i (by omega) p hp
  have hxl := h.own.len
  refine ⟨⟨h.s0, h.bB, h.Bw, h.cB, ⟨k1, s, (k2.chg g4 (fun hx => by have := (hn _ hx).1; omega)).other (by simp; omega) _, k3, k4⟩, ?_, hmb.set 2 _, (h.rb.chg g4 (fun hx => (hn _ hx).2.2 rfl)).other (by simp) _, ?_, hno4, hnr4, fun i hi => ?_⟩, hmb⟩
  · have hch : Chg (fun j => j = b ∨ B ≤ j) w w2 := h.chg.trans (g4.mono (fun k _ hx => .inr (hn k hx).1))
    exact hch.setCell _ (.inr Bw) _
  · exact hown.same (fun p hp => Below.heap_setCell _ _ _ _ (hno4 p hp).1) (fun i hi p hp => Below.heap_setCell _ _ _ _ (hnr4 i hi p hp).1)
  · by_cases hin : i = n
    · subst hin; rw [← hxl, rw_append_eq]; exact hvl
    · rw [rw_append_lt (by omega)]; exact h.len i (by omega)
theorem BS.at_ {g i : Nat} (h : BS w wr b a m c bs B p q (some ⟨g, 0, none⟩) n cap xs A C L) (hi : i < n) : wr.cell? ⟨g, i, none⟩ = some (.slice (A i) (rw_ xs i).length (C i)) ∧ wr.frozen? ⟨g, i, none⟩ = false ∧ g < wr.heap.size := by
  obtain ⟨g', e, hc, hf, _, hl⟩ := h.own.addr (by omega)
  injection e with e
  injection e with e1
  subst e1
  exact ⟨hc i hi, hf i, hl⟩
/-- a row replaced by a new one -/
theorem BS.putRow {B1 g k nv cv : Nat} {av : Option Addr} {v : List Int} (h : BS w wr b a m c bs B p q (some ⟨g, 0, none⟩) n cap xs A C L) (hk : k < n) (hv : OwnI 2 wr B1 av nv cv v) (hB1 : w.heap.size + 1 + 1 ≤ B1) (hl : Low (some ⟨g, 0, none⟩) n A B1) (hvl : nv ≤ L + 1) :
    BS w (wr.setCell ⟨g, k, none⟩ (.slice av nv cv)) b a m c bs B p q (some ⟨g, 0, none⟩) n cap (rowSet xs k v) (fun i => if i = k then av else A i) (fun i => if i = k then cv else C i) (L + 1) := by
  have lb := h.bB
  have Bw := h.Bw
  have hno := h.no _ rfl
  have hgB := (ownsRow_block h.own.own _ rfl).1
  have hgl := hl.o _ rfl
  simp at hno hgB hgl
  have hxl := h.own.len
  have hvl2 := hv.len
  obtain ⟨k1, s, k2, k3, k4⟩ := h.bx
  refine ⟨h.s0, h.bB, h.Bw, h.cB, ⟨k1, s, k2.other (by simp; omega) _, k3, k4⟩, h.chg.setCell _ (.inr (by simp; omega)) _, h.mb.other (by simp; omega) _, h.rb.other (by simp; omega) _, h.own.putRow2 hk hv (by omega) hgl hl.r, h.no, fun i hi p hp => ?_, fun i hi => ?_⟩
  · by_cases hik : i = k
    · simp only [if_pos hik] at hp; have := (hv.block p hp).1; omega
    · simp only [if_neg hik] at hp; exact h.nr i hi p hp
  · by_cases hik : i = k
    · subst hik; rw [rowSet_eq (by omega)]; omega
    · rw [rowSet_ne (by omega) hik]; exact Nat.le_trans (h.len i hi) (by omega)
/-- the result's box is written at the end -/
theorem BS.fin (h : BS w wr b a m c bs B p q ad n cap xs A C L) (u v x : Value) :
    OwnR 52 2 (((wr.setCell ⟨w.heap.size + 1, 0, none⟩ u).setCell ⟨w.heap.size + 1, 1, none⟩ v).setCell ⟨w.heap.size + 1, 2, none⟩ x) B ad n cap xs A C ∧ Src (((wr.setCell ⟨w.heap.size + 1, 0, none⟩ u).setCell ⟨w.heap.size + 1, 1, none⟩ v).setCell ⟨w.heap.size + 1, 2, none⟩ x) b a m c bs ∧ Chg (fun j => j = b ∨ B ≤ j) w (((wr.setCell ⟨w.heap.size + 1, 0, none⟩ u).setCell ⟨w.heap.size + 1, 1, none⟩ v).setCell ⟨w.heap.size + 1, 2, none⟩ x) := by
  have lb := h.bB
  have Bw := h.Bw
  have hb : ∀ j, j ≠ w.heap.size + 1 → (((wr.setCell ⟨w.heap.size + 1, 0, none⟩ u).setCell ⟨w.heap.size + 1, 1, none⟩ v).setCell ⟨w.heap.size + 1, 2, none⟩ x).heap[j]? = wr.heap[j]? := fun j hj => ((Below.heap_setCell _ _ _ _ hj).trans (Below.heap_setCell _ _ _ _ hj)).trans (Below.heap_setCell _ _ _ _ hj)
  obtain ⟨k1, s, h1, h2, h3⟩ := h.bx
  have hch : Chg (fun j => j = b ∨ B ≤ j) w (((wr.setCell ⟨w.heap.size + 1, 0, none⟩ u).setCell ⟨w.heap.size + 1, 1, none⟩ v).setCell ⟨w.heap.size + 1, 2, none⟩ x) := ((h.chg.setCell ⟨w.heap.size + 1, 0, none⟩ (.inr (by simp; omega)) _).setCell ⟨w.heap.size + 1, 1, none⟩ (.inr (by simp; omega)) _).setCell ⟨w.heap.size + 1, 2, none⟩ (.inr (by simp; omega)) _
  refine ⟨h.own.same (fun p hp => hb _ (h.no p hp).2) (fun i hi p hp => hb _ (h.nr i hi p hp).2), ⟨⟨k1, s, (hb b (by omega)).trans h1, h2, h3⟩, ?_, h.s0.ap⟩, hch⟩
  have hc := h.src.code
  refine ⟨hc.len, fun h0 => (hc.rd.same (fun p hp => hb _ ?_)) h0, hc.rng, hc.sm⟩
  have := h.cB (by rw [← hc.len]; exact h0) p hp
  omega
end
/-- what is drawn: a matrix of few rows and columns -/
def BentM (w : World) (b : Nat) (a : Option Addr) (m c : Nat) (bs : List Int) (B : Nat) (e : Ending) (w' : World) : Prop :=
  ∃ (p' q' : Int) (a' : Option Addr) (n' c' : Nat) (ys : List (List Int)), e = .returned (.agg #[.int .i64 p', .int .i64 q', .slice a' n' c']) ∧ I64 p' ∧ I64 q' ∧ MadeR 52 2 w' B a' n' c' ys ∧ n' ≤ 100 ∧ (∀ i, i < n' → (rw_ ys i).length ≤ 100) ∧ Src w' b a m c bs ∧ Chg (fun j => j = b ∨ B ≤ j) w w'
set_option maxRecDepth 20000 in
set_option maxHeartbeats 4000000 in
theorem l02Bend_any (b : Nat) (a : Option Addr) (m c : Nat) (bs : List Int) (p q : Int) (a0 : Option Addr) (n0 c0 : Nat) (xs : List (List Int)) (A : Nat → Option Addr) (C : Nat → Nat) (B : Nat) (w : World) (hs : Src w b a m c bs) (hmc : m ≤ c) (hb : b < B) (hB : B ≤ w.heap.size) (hcb : 0 < m → ∀ p, a = some p → p.block < B) (hp : 0 ≤ p ∧ p ≤ 7) (hq : 0 ≤ q ∧ q ≤ 8) (ho : OwnR 52 2 w B a0 n0 c0 xs A C) (hn : n0 ≤ 9) (hl : ∀ i, i < n0 → (rw_ xs i).length ≤ 9) :
    Calls Try.prog 45 #[.pointer (some ⟨b, 0, none⟩), .agg #[.int .i64 p, .int .i64 q, .slice a0 n0 c0]] w (BentM w b a m c bs B) := by
  have HB0 : Hid (BS w ((w.alloc (.cells #[.int .i64 p, .int .i64 q, .slice a0 n0 c0] 26)).alloc (.cells #[.int .i64 0, .int .i64 0, .slice none 0 0] 26)) b a m c bs B p q a0 n0 c0 xs A C 9) := Lib.hid (by
    obtain ⟨k, s, h1, h2, h3⟩ := hs.box
    have hno : ∀ p, a0 = some p → p.block < w.heap.size := fun p hp => (ownsRow_block ho.own p hp).2
    have hnr : ∀ i, i < n0 → ∀ p, A i = some p → p.block < w.heap.size := fun i hi p hp => ((ho.row i hi).block p hp).2
    have hal : ∀ (u : World) (o : Obj) (j : Nat), j < u.heap.size → (u.alloc o).heap[j]? = u.heap[j]? := fun u o j hj => Below.heap_alloc _ _ _ hj
    refine ⟨hs, hb, hB, hcb, ⟨k, s, (h1.alloc _).alloc _, h2, h3⟩, ((Chg.refl _ w).alloc _).alloc _, (BX.new w _ _).alloc _, ?_, ?_, fun p hp => ?_, fun i hi p hp => ?_, hl⟩
    · rw [show w.heap.size + 1 = (w.alloc (.cells #[.int .i64 p, .int .i64 q, .slice a0 n0 c0] 26)).heap.size by simp]
      exact BX.new _ _ _
    · exact (ho.keep ((Below.refl w.heap.size w).alloc (Nat.le_refl _) _) (Nat.le_refl _)).keep ((Below.refl _ _).alloc (Nat.le_refl _) _) (Nat.le_refl _)
    · have := hno p hp; omega
    · have := hnr i hi p hp; omega)
  clear hs hb hcb ho hl
  go_enter Try.func45, Try.ntmps45
  go_wp2_with fail
  refine (l01Next_any b a m c bs 40 _ (by exact HB0.out.src) (by omega) hmc).mono ?_
  rintro e w1 ⟨z, rfl, hz0, hz1, hs, hc⟩
  have HB1 := Lib.hid (HB0.out.next hs hc rfl rfl rfl rfl)
  clear hs hc HB0
  by_cases h0 : z = 0
  · --
    have e0 : (z == 0) = true := beq_iff_eq.2 h0
    clear h0 hz0 hz1
    have HLT : Hid (RdI (w1.alloc (.cells #[.int .i64 1, .int .i64 4, .int .i64 11, .int .i64 0, .int .i64 (-3)] 2)) (some ⟨w1.heap.size, 0, none⟩) [1, 4, 11, 0, -3]) := Lib.hid (lit_rd w1 _ _ _ rfl (by simp [maxLen]))
    have lw1 : b < w1.heap.size := HB1.out.src.lt
    go_wp2_with fail
    refine (l01Pick_any b a m c bs w1.heap.size 5 5 [1, 4, 11, 0, -3] _ (by exact HB1.out.src.al _) hmc (by exact HLT.out) rfl (by omega) (by omega) (by omega)).mono ?_
    rintro e w2 ⟨x, rfl, hx, hs, hc⟩
    have hx2 : -3 ≤ x ∧ x ≤ 11 := by simp at hx; omega
    have HB2 := Lib.hid ((HB1.out.al (.cells #[.int .i64 1, .int .i64 4, .int .i64 11, .int .i64 0, .int .i64 (-3)] 2)).next hs hc rfl rfl rfl rfl)
    clear hs hc hx HB1
    have y0 := HB2.out.mb.cell 0
    have y1 := HB2.out.mb.cell 1
    have y2 := HB2.out.mb.cell 2
    have lm := HB2.out.mb.lt
    have lr := HB2.out.rb.lt
    have g0 := HB2.out.mb.frz 0
    have g1 := HB2.out.mb.frz 1
    have g2 := HB2.out.mb.frz 2
    have f0 := HB2.out.rb.frz 0
    have f1 := HB2.out.rb.frz 1
    have f2 := HB2.out.rb.frz 2
    have z0 := HB2.out.rb.cell 0
    have z1 := HB2.out.rb.cell 1
    have z2 := HB2.out.rb.cell 2
    simp at y0 y1 y2 z0 z1 z2
    have HB3 := Lib.hid (HB2.out.box (p2 := x) (q2 := q) 0 (.int .i64 x) (by have := HB2.out.mb.set 0 (.int .i64 x); exact this))
    go_wp2_with fail
    have HF := Lib.hid (HB3.out.fin (.int .i64 x) (.int .i64 q) (.slice a0 n0 c0))
    have X := ((HB3.out.rb.set 0 (.int .i64 x)).set 1 (.int .i64 q)).set 2 (.slice a0 n0 c0)
    have q0 := X.cell 0
    have q1 := X.cell 1
    have q2 := X.cell 2
    simp at q0 q1 q2
    refine bodyPost_ret (v := .agg #[.int .i64 x, .int .i64 q, .slice a0 n0 c0]) (by simp [results, Try.results45, go_sem, q0, q1, q2]) rfl (by unfold BentM; exact ⟨x, q, a0, n0, c0, xs, rfl, by unfold I64; omega, by unfold I64; omega, ⟨_, _, HF.out.1⟩, by omega, fun i hi => Nat.le_trans (HB3.out.len i hi) (by omega), HF.out.2.1, HF.out.2.2⟩)
  by_cases h1 : z = 1
  · --
    have e0 : (z == 0) = false := beq_eq_false_iff_ne.2 h0
    have e1 : (z == 1) = true := beq_iff_eq.2 h1
    clear h0 h1 hz0 hz1
    have HLT : Hid (RdI (w1.alloc (.cells #[.int .i64 (-1), .int .i64 (q + 1), .int .i64 9] 2)) (some ⟨w1.heap.size, 0, none⟩) [-1, q + 1, 9]) := Lib.hid (lit_rd w1 _ _ _ rfl (by simp [maxLen]))
    have lw1 : b < w1.heap.size := HB1.out.src.lt
    have y0 := HB1.out.mb.cell 0
    have y1 := HB1.out.mb.cell 1
    have y2 := HB1.out.mb.cell 2
    have lm := HB1.out.mb.lt
    have lr := HB1.out.rb.lt
    have g0 := HB1.out.mb.frz 0
    have g1 := HB1.out.mb.frz 1
    have g2 := HB1.out.mb.frz 2
    have f0 := HB1.out.rb.frz 0
    have f1 := HB1.out.rb.frz 1
    have f2 := HB1.out.rb.frz 2
    have z0 := HB1.out.rb.cell 0
    have z1 := HB1.out.rb.cell 1
    have z2 := HB1.out.rb.cell 2
    simp at y0 y1 y2 z0 z1 z2
    go_wp2_with fail
    refine (l01Pick_any b a m c bs w1.heap.size 3 3 [-1, q + 1, 9] _ (by exact HB1.out.src.al _) hmc (by exact HLT.out) rfl (by omega) (by omega) (by omega)).mono ?_
    rintro e w2 ⟨x, rfl, hx, hs, hc⟩
    have hx2 : -1 ≤ x ∧ x ≤ 20 := by simp at hx; omega
    have HB2 := Lib.hid ((HB1.out.al (.cells #[.int .i64 (-1), .int .i64 (q + 1), .int .i64 9] 2)).next hs hc rfl rfl rfl rfl)
    clear hs hc hx HB1 y0 y1 y2 z0 z1 z2 lm lr g0 g1 g2 f0 f1 f2
    have y0 := HB2.out.mb.cell 0
    have y1 := HB2.out.mb.cell 1
    have y2 := HB2.out.mb.cell 2
    have lm := HB2.out.mb.lt
    have lr := HB2.out.rb.lt
    have g0 := HB2.out.mb.frz 0
    have g1 := HB2.out.mb.frz 1
    have g2 := HB2.out.mb.frz 2
    have f0 := HB2.out.rb.frz 0
    have f1 := HB2.out.rb.frz 1
    have f2 := HB2.out.rb.frz 2
    have z0 := HB2.out.rb.cell 0
    have z1 := HB2.out.rb.cell 1
    have z2 := HB2.out.rb.cell 2
    simp at y0 y1 y2 z0 z1 z2
    have HB3 := Lib.hid (HB2.out.box (p2 := p) (q2 := x) 1 (.int .i64 x) (by have := HB2.out.mb.set 1 (.int .i64 x); exact this))
    go_wp2_with fail
    have HF := Lib.hid (HB3.out.fin (.int .i64 p) (.int .i64 x) (.slice a0 n0 c0))
    have X := ((HB3.out.rb.set 0 (.int .i64 p)).set 1 (.int .i64 x)).set 2 (.slice a0 n0 c0)
    have q0 := X.cell 0
    have q1 := X.cell 1
    have q2 := X.cell 2
    simp at q0 q1 q2
    refine bodyPost_ret (v := .agg #[.int .i64 p, .int .i64 x, .slice a0 n0 c0]) (by simp [results, Try.results45, go_sem, q0, q1, q2]) rfl (by unfold BentM; exact ⟨p, x, a0, n0, c0, xs, rfl, by unfold I64; omega, by unfold I64; omega, ⟨_, _, HF.out.1⟩, by omega, fun i hi => Nat.le_trans (HB3.out.len i hi) (by omega), HF.out.2.1, HF.out.2.2⟩)
  have e0 : (z == 0) = false := beq_eq_false_iff_ne.2 h0
  have e1 : (z == 1) = false := beq_eq_false_iff_ne.2 h1
  clear h0 h1
  by_cases h2 : z = 2
  · --
    have e2 : (z == 2) = true := beq_iff_eq.2 h2
    clear h2 hz0 hz1
    go_wp2_with fail
    go_loopw [5] (fun i wr => ∃ (k : Nat) (ys : List (List Int)) (A : Nat → Option Addr) (C : Nat → Nat), k ≤ n0 ∧ i = .int .i64 k ∧ Hid (BS w wr b a m c bs B p q a0 n0 c0 ys A C (9 + k))) (fun i _ => n0 - (intOf i).toNat)
    case atStart => exact ⟨0, xs, A, C, Nat.zero_le _, rfl, HB1⟩
    case round =>
      obtain ⟨k, ys, A2, C2, hk, rfl, HJ⟩ := hrel
      obtain ⟨wi, rfl⟩ : ∃ x, x = wr := ⟨wr, rfl⟩
      by_cases hkn : k < n0
      · have J1 : (k : Int) < (n0 : Int) := by omega
        obtain ⟨g, rfl, hcl, hfz, hBg, hgl⟩ := HJ.out.own.addr (by omega)
        have hck := hcl k hkn
        have hfk := hfz k
        have y2 := HJ.out.mb.cell 2
        have lm := HJ.out.mb.lt
        simp at y2
        have HKN := Lib.hid hkn
        have hlk : (rw_ ys k).length ≤ 9 + k := HJ.out.len k hkn
        have HLW := Lib.hid HJ.out.low
        have HLL := Lib.hid HJ.out.sz
        have HGL := Lib.hid hgl
        have hsz : w.heap.size + 1 + 1 ≤ wi.heap.size := HJ.out.sz
        clear hcl hfz
        go_wp2_with fail
        go_region_law (first
          | (go_simp; go_at_call 82; (refine (l01Own_any _ _ _ (rw_ ys k) _ (by first | exact (HJ.out.own.row k HKN.out).rd.same (fun _ _ => rfl) | exact ((HJ.out.al (.cells #[.int .i64 0] 2)).own.row k HKN.out).rd.same (fun _ _ => rfl)) rfl (by omega)).mono ?_; rintro e w5 ⟨a5, c5, rfl, ho, hb⟩; have HO5 : Hid (OwnI 2 w5 wi.heap.size a5 (rw_ ys k).length c5 (rw_ ys k)) := Lib.hid (ho.mono (by first | exact Nat.le_refl _ | (simp; done))); have HE5 : Hid (Below wi.heap.size wi w5) := Lib.hid (by first | exact ⟨hb.os, hb.tape, hb.output, hb.size, hb.block⟩ | exact ((Below.refl wi.heap.size wi).alloc (Nat.le_refl _) (.cells #[.int .i64 0] 2)).trans (Below.mono (B' := wi.heap.size) ⟨hb.os, hb.tape, hb.output, hb.size, hb.block⟩ (by simp))); have hs5 := HE5.out.size; have HB5 : Hid (BS w w5 b a m c bs B p q (some ⟨g, 0, none⟩) n0 c0 ys A2 C2 (9 + k)) := Lib.hid (HJ.out.below HE5.out (Nat.le_refl _) rfl rfl rfl rfl); have y25 := HB5.out.mb.cell 2; have hck5 := (HE5.out.cell (p := ⟨g, k, none⟩) HGL.out).trans hck; simp at y25; have lm5 := HB5.out.mb.lt; have hgl5 : g < w5.heap.size := Nat.lt_of_lt_of_le HGL.out hs5; (first | (have HC5 : Hid (w5.cell? ⟨wi.heap.size, 0, none⟩ = some (.int .i64 0)) := Lib.hid ((Below.cell (w := wi.alloc (.cells #[.int .i64 0] 2)) (B := (wi.alloc (.cells #[.int .i64 0] 2)).heap.size) ⟨hb.os, hb.tape, hb.output, hb.size, hb.block⟩ (p := ⟨wi.heap.size, 0, none⟩) (by simp)).trans ((BX.new wi 2 #[.int .i64 0]).cell 0))) | skip); clear ho hb))
          | ((refine step_pushW rfl (.tmp 41) (.tmp 42) 52 rfl wi.heap.size 2 (.int .i64 0) 8 Try.underlying52 Try.info2 rfl (by decide) (.int .i64 0) rfl a5 (rw_ ys k).length c5 ((rw_ ys k).map (Value.int .i64)) _ rfl rfl ?_ ?_ ?_ ?_ ?_; (first | exact HC5.out | exact (BX.new w5 2 #[.int .i64 0]).cell 0); (first | exact HO5.out | exact HO5.out.alloc (.cells #[.int .i64 0] 2)); omega; (first | exact hs5 | exact Nat.le_trans hs5 (by simp)); rintro a6 c6 w6 r6 q6 g6; have hblk : ∀ j, j < wi.heap.size → ¬ (∃ p, a5 = some p ∧ p.block = j) := (fun j hj hx => by obtain ⟨p, hp, e⟩ := hx; have := (HO5.out.block p hp).1; omega); have HE6 : Hid (Below wi.heap.size wi w6) := Lib.hid (by first | exact HE5.out.trans (Chg.below (w := w5) ⟨g6.os, g6.tape, g6.output, g6.size, g6.block⟩ hs5 hblk) | exact (HE5.out.alloc hs5 (.cells #[.int .i64 0] 2)).trans (Chg.below (w := w5.alloc (.cells #[.int .i64 0] 2)) ⟨g6.os, g6.tape, g6.output, g6.size, g6.block⟩ (Nat.le_trans hs5 (by simp)) hblk)); have HB6 : Hid (BS w w6 b a m c bs B p q (some ⟨g, 0, none⟩) n0 c0 ys A2 C2 (9 + k)) := Lib.hid (HJ.out.below HE6.out (Nat.le_refl _) rfl rfl rfl rfl); have HO6 : Hid (OwnI 2 w6 wi.heap.size a6 ((rw_ ys k).length + 1) c6 (rw_ ys k ++ [0])) := Lib.hid (OwnI.pushed r6); have y26 := HB6.out.mb.cell 2; have hat6 := HB6.out.at_ HKN.out; have hck6 := hat6.1; have hfz6 := hat6.2.1; have hgl6 := hat6.2.2; simp at y26; have lm6 := HB6.out.mb.lt; clear r6 q6 g6 hblk hat6)))
        all_goals
          have HB7 := Lib.hid (HB6.out.putRow (B1 := wi.heap.size) HKN.out HO6.out HLL.out HLW.out (by omega))
          clear y26 hck6 hfz6 hgl6 y25 hck5 y2 hck hfk
          obtain ⟨w7, hw7⟩ : ∃ u, u = w6.setCell ⟨g, k, none⟩ (.slice a6 ((rw_ ys k).length + 1) c6) := ⟨_, rfl⟩
          rw [← hw7] at HB7 ⊢
          clear hw7
          go_wp2_with fail
          go_roundw
          case rel => exact ⟨k + 1, _, _, _, by omega, by go_num, HB7⟩
          case measure => simp [intOf]; omega
      · obtain rfl : k = n0 := by omega
        have J1 : ¬ (k : Int) < (k : Int) := by omega
        have y0 := HJ.out.mb.cell 0
        have y1 := HJ.out.mb.cell 1
        have y2 := HJ.out.mb.cell 2
        have lm := HJ.out.mb.lt
        have lr := HJ.out.rb.lt
        have g0 := HJ.out.mb.frz 0
        have g1 := HJ.out.mb.frz 1
        have g2 := HJ.out.mb.frz 2
        have f0 := HJ.out.rb.frz 0
        have f1 := HJ.out.rb.frz 1
        have f2 := HJ.out.rb.frz 2
        have z0 := HJ.out.rb.cell 0
        have z1 := HJ.out.rb.cell 1
        have z2 := HJ.out.rb.cell 2
        simp at y0 y1 y2 z0 z1 z2
        go_wp2_with fail
        have HF := Lib.hid (HJ.out.fin (.int .i64 p) (.int .i64 q) (.slice a0 k c0))
        have X := ((HJ.out.rb.set 0 (.int .i64 p)).set 1 (.int .i64 q)).set 2 (.slice a0 k c0)
        have q0 := X.cell 0
        have q1 := X.cell 1
        have q2 := X.cell 2
        simp at q0 q1 q2
        refine bodyPost_ret (v := .agg #[.int .i64 p, .int .i64 q, .slice a0 k c0]) (by simp [results, Try.results45, go_sem, q0, q1, q2]) rfl (by unfold BentM; exact ⟨p, q, a0, k, c0, ys, rfl, by unfold I64; omega, by unfold I64; omega, ⟨_, _, HF.out.1⟩, by omega, fun i hi => Nat.le_trans (HJ.out.len i hi) (by omega), HF.out.2.1, HF.out.2.2⟩)
  have e2 : (z == 2) = false := beq_eq_false_iff_ne.2 h2
  clear h2
  by_cases h3 : z = 3
  · --
    have e3 : (z == 3) = true := beq_iff_eq.2 h3
    clear h3 hz0 hz1
    obtain ⟨Q, rfl⟩ : ∃ Q : Nat, q = Q := ⟨q.toNat, by omega⟩
    have hQ : Q ≤ 8 := by omega
    have hmk := run_make_row' (P := Try.prog) 52 2 (.int .i64 0) 8 Try.underlying52 Try.info2 rfl .i64 .i64 Q (by omega) (by omega)
    have HMK := Lib.hid hmk
    clear hmk
    go_wp2_with fail
    go_loopw [6] (fun i wr => ∃ (k : Nat) (ad : Option Addr) (cap : Nat) (ys : List (List Int)) (A : Nat → Option Addr) (C : Nat → Nat), k ≤ 9 ∧ i = .int .i64 k ∧ Hid (BS w wr b a m c bs B p Q ad (n0 + k) cap ys A C 9)) (fun i _ => 9 - (intOf i).toNat)
    case atStart => exact ⟨0, a0, c0, xs, A, C, Nat.zero_le _, rfl, HB1⟩
    case round =>
      obtain ⟨k, ad, cap, ys, A2, C2, hk, rfl, HJ⟩ := hrel
      obtain ⟨wi, rfl⟩ : ∃ x, x = wr := ⟨wr, rfl⟩
      by_cases hk9 : k < 9
      · have J1 : (k : Int) ≤ 8 := by omega
        have hmk := HMK.out
        have y1 := HJ.out.mb.cell 1
        have y2 := HJ.out.mb.cell 2
        have g2 := HJ.out.mb.frz 2
        have lm := HJ.out.mb.lt
        simp at y1 y2
        have hmx : (if 0 < Q then (Q : Int) else 0) = (Q : Int) := by split <;> omega
        go_wp2_with fail
        have hW : ∃ W, W = (wi.alloc (.cells (madeCells #[.int .i64 0] Q) 2)).alloc (.cells #[.slice (some ⟨wi.heap.size, 0, none⟩) Q Q] 52) := ⟨_, rfl⟩
        have HJ2 : Hid (BS w ((wi.alloc (.cells (madeCells #[.int .i64 0] Q) 2)).alloc (.cells #[.slice (some ⟨wi.heap.size, 0, none⟩) Q Q] 52)) b a m c bs B p Q ad (n0 + k) cap ys A2 C2 9) := Lib.hid ((HJ.out.al _).al _)
        have HV2 : Hid (OwnI 2 ((wi.alloc (.cells (madeCells #[.int .i64 0] Q) 2)).alloc (.cells #[.slice (some ⟨wi.heap.size, 0, none⟩) Q Q] 52)) wi.heap.size (some ⟨wi.heap.size, 0, none⟩) Q Q (tab Q (fun _ => 0))) := Lib.hid ((OwnI.made wi 2 Q (by unfold maxLen; omega)).alloc _)
        have HCA : Hid (((wi.alloc (.cells (madeCells #[.int .i64 0] Q) 2)).alloc (.cells #[.slice (some ⟨wi.heap.size, 0, none⟩) Q Q] 52)).cell? ⟨wi.heap.size + 1, 0, none⟩ = some (.slice (some ⟨wi.heap.size, 0, none⟩) Q Q)) := Lib.hid (by simp)
        have HSZ : Hid (B ≤ ((wi.alloc (.cells (madeCells #[.int .i64 0] Q) 2)).alloc (.cells #[.slice (some ⟨wi.heap.size, 0, none⟩) Q Q] 52)).heap.size) := Lib.hid (by have := HJ.out.sz; simp; omega)
        have HLW := Lib.hid HJ.out.low
        have HLL := Lib.hid HJ.out.sz
        clear hW
        go_region_law (first
          | ((refine step_pushW rfl (.tmp 52) (.tmp 57) 24 rfl B 52 (.slice none 0 0) 24 Try.underlying24 Try.infoR rfl (by decide) (.slice (some ⟨wi.heap.size, 0, none⟩) Q Q) rfl ad (n0 + k) cap (rowVals ys A2 C2 (n0 + k)) (wi.heap.size + 1) rfl rfl ?_ ?_ ?_ ?_ ?_; exact HCA.out; exact HJ2.out.own.own; omega; exact HSZ.out; rintro a4 c4 w4 r4 q4 g4; have HNX := HJ2.out.push HLW.out HLL.out HV2.out (by omega) r4 q4 g4 rfl rfl rfl rfl; have HN := Lib.hid HNX.1; have X4 := Lib.hid HNX.2; clear HNX; have f4 := X4.out.frz 2; have y4 := X4.out.cell 2; have l4 := X4.out.lt; simp at y4; clear r4 q4 g4)))
        all_goals
          go_wp2_with fail
          go_roundw
          case rel => exact ⟨k + 1, a4, c4, _, _, _, by omega, by go_num, HN⟩
          case measure => simp [intOf]; omega
      · obtain rfl : k = 9 := by omega
        have J1 : ¬ ((9 : Nat) : Int) ≤ 8 := by omega
        have y0 := HJ.out.mb.cell 0
        have y1 := HJ.out.mb.cell 1
        have y2 := HJ.out.mb.cell 2
        have lm := HJ.out.mb.lt
        have lr := HJ.out.rb.lt
        have g0 := HJ.out.mb.frz 0
        have g1 := HJ.out.mb.frz 1
        have g2 := HJ.out.mb.frz 2
        have f0 := HJ.out.rb.frz 0
        have f1 := HJ.out.rb.frz 1
        have f2 := HJ.out.rb.frz 2
        have z0 := HJ.out.rb.cell 0
        have z1 := HJ.out.rb.cell 1
        have z2 := HJ.out.rb.cell 2
        simp at y0 y1 y2 z0 z1 z2
        go_wp2_with fail
        have HF := Lib.hid (HJ.out.fin (.int .i64 p) (.int .i64 Q) (.slice ad (n0 + 9) cap))
        have X := ((HJ.out.rb.set 0 (.int .i64 p)).set 1 (.int .i64 Q)).set 2 (.slice ad (n0 + 9) cap)
        have q0 := X.cell 0
        have q1 := X.cell 1
        have q2 := X.cell 2
        simp at q0 q1 q2
        refine bodyPost_ret (v := .agg #[.int .i64 p, .int .i64 Q, .slice ad (n0 + 9) cap]) (by simp [results, Try.results45, go_sem, q0, q1, q2]) rfl (by unfold BentM; exact ⟨p, Q, ad, (n0 + 9), cap, ys, rfl, by unfold I64; omega, by unfold I64; omega, ⟨_, _, HF.out.1⟩, by omega, fun i hi => Nat.le_trans (HJ.out.len i hi) (by omega), HF.out.2.1, HF.out.2.2⟩)
  have e3 : (z == 3) = false := beq_eq_false_iff_ne.2 h3
  clear h3
  by_cases h4 : z = 4
  · --
    have e4 : (z == 4) = true := beq_iff_eq.2 h4
    clear h4 hz0 hz1
    have y0 := HB1.out.mb.cell 0
    have y1 := HB1.out.mb.cell 1
    have y2 := HB1.out.mb.cell 2
    have lm := HB1.out.mb.lt
    have lr := HB1.out.rb.lt
    have g0 := HB1.out.mb.frz 0
    have g1 := HB1.out.mb.frz 1
    have g2 := HB1.out.mb.frz 2
    have f0 := HB1.out.rb.frz 0
    have f1 := HB1.out.rb.frz 1
    have f2 := HB1.out.rb.frz 2
    have z0 := HB1.out.rb.cell 0
    have z1 := HB1.out.rb.cell 1
    have z2 := HB1.out.rb.cell 2
    simp at y0 y1 y2 z0 z1 z2
    by_cases hn0 : 0 < n0
    · have d1 : (0 : Int) < (n0 : Int) := by omega
      obtain ⟨g, rfl, hcl, hfz, hBg, hgl⟩ := HB1.out.own.addr hn0
      have hc0 := hcl 0 hn0
      have hgw := HB1.out.no _ rfl
      simp at hgw
      clear hcl
      by_cases hr0 : 0 < (rw_ xs 0).length
      · have d2 : (0 : Int) < ((rw_ xs 0).length : Int) := by omega
        obtain ⟨gr, hA0, hfr, hlt0, hne0, hne1, hgg⟩ := HB1.out.rowAddr hn0 hr0
        rw [hA0] at hc0
        have HLT : Hid (RdI (w1.alloc (.cells #[.int .i64 p, .int .i64 (-1)] 2)) (some ⟨w1.heap.size, 0, none⟩) [p, -1]) := Lib.hid (lit_rd w1 _ _ _ rfl (by simp [maxLen]))
        have lw1 : b < w1.heap.size := HB1.out.src.lt
        have HA0 := Lib.hid hA0
        have HR0 := Lib.hid hr0
        have HN0 := Lib.hid hn0
        have hgg2 : gr ≠ g := fun e => hgg e.symm
        have hneq : w.heap.size ≠ gr := fun e => hne0 e.symm
        go_wp2_with fail
        go_region_held3 (fun w' => w'.cell? ⟨w.heap.size, 0, none⟩ = some (.int .i64 p) ∧ w'.cell? ⟨w.heap.size, 2, none⟩ = some (.slice (some ⟨g, 0, none⟩) n0 c0) ∧ w'.cell? ⟨g, 0, none⟩ = some (.slice (some ⟨gr, 0, none⟩) (rw_ xs 0).length (C 0))) (first | exact ⟨y0, y2, hc0⟩ | exact ⟨y02, y22, hc02⟩ | exact ⟨(cell_al lm).trans y0, (cell_al lm).trans y2, (cell_al hgl).trans hc0⟩ | exact ⟨(cell_ne hneq).trans y02, (cell_ne hneq).trans y22, (cell_ne hgg).trans hc02⟩)
          (first | (go_at_call 43; ((with_reducible refine (l01Pick_any b a m c bs w1.heap.size 2 2 [p, -1] _ ?_ hmc ?_ ?_ ?_ ?_ ?_).mono ?_); exact (HB1.out.src.al _).like rfl; exact HLT.out.same (fun _ _ => rfl); rfl; omega; omega; omega; rintro e w2 ⟨x, rfl, hx, hs, hc⟩; have hx2 : -1 ≤ x ∧ x ≤ 7 := (by simp at hx; omega); have HB2 := Lib.hid ((HB1.out.al (.cells #[.int .i64 p, .int .i64 (-1)] 2)).next hs hc rfl rfl rfl rfl); have y02 := HB2.out.mb.cell 0; have y22 := HB2.out.mb.cell 2; have l22 := HB2.out.mb.lt; obtain ⟨g', eg, hcl, hfz2, hBg2, hgl2⟩ := HB2.out.own.addr HN0.out; obtain rfl : g = g' := (by injection eg with eg; injection eg with eg); have hc02 := hcl 0 HN0.out; rw [HA0.out] at hc02; obtain ⟨gr', eg0, hfr2, hlt2, _, _, _⟩ := HB2.out.rowAddr HN0.out HR0.out; obtain rfl : gr = gr' := (by rw [HA0.out] at eg0; injection eg0 with eg0; injection eg0 with eg0); have hfr20 := hfr2 0; have hrw2 := HB2.out.own.row 0 HN0.out; rw [HA0.out] at hrw2; have hce2 := hrw2.cellAt HR0.out; clear hrw2 hfr2; simp at y02 y22; clear hs hc hx hcl eg eg0)))
        all_goals
          have HB3 := Lib.hid (HB2.out.setInt (k := 0) (v := x) HN0.out HA0.out HR0.out)
          clear y0 y1 y2 z0 z1 z2 lm lr g0 g1 g2 f0 f1 f2 y02 y22 hc02 l22
          obtain ⟨w3, hw3⟩ : ∃ u, u = w2.setCell ⟨gr, 0, none⟩ (.int .i64 x) := ⟨_, rfl⟩
          rw [← hw3] at HB3 ⊢
          clear hw3
          have y0 := HB3.out.mb.cell 0
          have y1 := HB3.out.mb.cell 1
          have y2 := HB3.out.mb.cell 2
          have lm := HB3.out.mb.lt
          have lr := HB3.out.rb.lt
          have g0 := HB3.out.mb.frz 0
          have g1 := HB3.out.mb.frz 1
          have g2 := HB3.out.mb.frz 2
          have f0 := HB3.out.rb.frz 0
          have f1 := HB3.out.rb.frz 1
          have f2 := HB3.out.rb.frz 2
          have z0 := HB3.out.rb.cell 0
          have z1 := HB3.out.rb.cell 1
          have z2 := HB3.out.rb.cell 2
          simp at y0 y1 y2 z0 z1 z2
          go_wp2_with fail
          have HF := Lib.hid (HB3.out.fin (.int .i64 p) (.int .i64 q) (.slice (some ⟨g, 0, none⟩) n0 c0))
          have X := ((HB3.out.rb.set 0 (.int .i64 p)).set 1 (.int .i64 q)).set 2 (.slice (some ⟨g, 0, none⟩) n0 c0)
          have q0 := X.cell 0
          have q1 := X.cell 1
          have q2 := X.cell 2
          simp at q0 q1 q2
          refine bodyPost_ret (v := .agg #[.int .i64 p, .int .i64 q, .slice (some ⟨g, 0, none⟩) n0 c0]) (by simp [results, Try.results45, go_sem, q0, q1, q2]) rfl (by unfold BentM; exact ⟨p, q, (some ⟨g, 0, none⟩), n0, c0, rowSet xs 0 ((rw_ xs 0).set 0 x), rfl, by unfold I64; omega, by unfold I64; omega, ⟨_, _, HF.out.1⟩, by omega, fun i hi => Nat.le_trans (HB3.out.len i hi) (by omega), HF.out.2.1, HF.out.2.2⟩)
      · have d2 : ¬ (0 : Int) < ((rw_ xs 0).length : Int) := by omega
        go_wp2_with fail
        have HF := Lib.hid (HB1.out.fin (.int .i64 p) (.int .i64 q) (.slice (some ⟨g, 0, none⟩) n0 c0))
        have X := ((HB1.out.rb.set 0 (.int .i64 p)).set 1 (.int .i64 q)).set 2 (.slice (some ⟨g, 0, none⟩) n0 c0)
        have q0 := X.cell 0
        have q1 := X.cell 1
        have q2 := X.cell 2
        simp at q0 q1 q2
        refine bodyPost_ret (v := .agg #[.int .i64 p, .int .i64 q, .slice (some ⟨g, 0, none⟩) n0 c0]) (by simp [results, Try.results45, go_sem, q0, q1, q2]) rfl (by unfold BentM; exact ⟨p, q, (some ⟨g, 0, none⟩), n0, c0, xs, rfl, by unfold I64; omega, by unfold I64; omega, ⟨_, _, HF.out.1⟩, by omega, fun i hi => Nat.le_trans (HB1.out.len i hi) (by omega), HF.out.2.1, HF.out.2.2⟩)
    · have d1 : ¬ (0 : Int) < (n0 : Int) := by omega
      go_wp2_with fail
      have HF := Lib.hid (HB1.out.fin (.int .i64 p) (.int .i64 q) (.slice a0 n0 c0))
      have X := ((HB1.out.rb.set 0 (.int .i64 p)).set 1 (.int .i64 q)).set 2 (.slice a0 n0 c0)
      have q0 := X.cell 0
      have q1 := X.cell 1
      have q2 := X.cell 2
      simp at q0 q1 q2
      refine bodyPost_ret (v := .agg #[.int .i64 p, .int .i64 q, .slice a0 n0 c0]) (by simp [results, Try.results45, go_sem, q0, q1, q2]) rfl (by unfold BentM; exact ⟨p, q, a0, n0, c0, xs, rfl, by unfold I64; omega, by unfold I64; omega, ⟨_, _, HF.out.1⟩, by omega, fun i hi => Nat.le_trans (HB1.out.len i hi) (by omega), HF.out.2.1, HF.out.2.2⟩)
  · --
    have e4 : (z == 4) = false := beq_eq_false_iff_ne.2 h4
    clear h4 hz0 hz1
    have y0 := HB1.out.mb.cell 0
    have y1 := HB1.out.mb.cell 1
    have y2 := HB1.out.mb.cell 2
    have lm := HB1.out.mb.lt
    have lr := HB1.out.rb.lt
    have g0 := HB1.out.mb.frz 0
    have g1 := HB1.out.mb.frz 1
    have g2 := HB1.out.mb.frz 2
    have f0 := HB1.out.rb.frz 0
    have f1 := HB1.out.rb.frz 1
    have f2 := HB1.out.rb.frz 2
    have z0 := HB1.out.rb.cell 0
    have z1 := HB1.out.rb.cell 1
    have z2 := HB1.out.rb.cell 2
    simp at y0 y1 y2 z0 z1 z2
    go_wp2_with fail
    have HF := Lib.hid (HB1.out.fin (.int .i64 p) (.int .i64 q) (.slice a0 n0 c0))
    have X := ((HB1.out.rb.set 0 (.int .i64 p)).set 1 (.int .i64 q)).set 2 (.slice a0 n0 c0)
    have q0 := X.cell 0
    have q1 := X.cell 1
    have q2 := X.cell 2
    simp at q0 q1 q2
    refine bodyPost_ret (v := .agg #[.int .i64 p, .int .i64 q, .slice a0 n0 c0]) (by simp [results, Try.results45, go_sem, q0, q1, q2]) rfl (by unfold BentM; exact ⟨p, q, a0, n0, c0, xs, rfl, by unfold I64; omega, by unfold I64; omega, ⟨_, _, HF.out.1⟩, by omega, fun i hi => Nat.le_trans (HB1.out.len i hi) (by omega), HF.out.2.1, HF.out.2.2⟩)
end Go.Proofs.Ytpkdgemnddcefaa
