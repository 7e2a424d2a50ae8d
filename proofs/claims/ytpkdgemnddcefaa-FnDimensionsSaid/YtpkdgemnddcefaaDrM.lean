/- Draws of matrices: whatever the code, a value of the type with few rows and few columns. -/
import Derived.Test.YtpkdgemnddcefaaDraw1
import Derived.Test.YtpkdgemnddcefaaRedS3
import Derived.Test.YtpkdgemnddcefaaWide
import Derived.Deep.RegionHeld3
import Derived.Deep.RegionLaw
import Derived.OwnWalk
set_option linter.unusedVariables false
set_option linter.unusedSimpArgs false
namespace Go.Proofs.Ytpkdgemnddcefaa
open Go.RowKit
theorem Src.al {w : World} {b : Nat} {a : Option Addr} {m c : Nat} {bs : List Int} (h : Src w b a m c bs) (o : Obj) : Src (w.alloc o) b a m c bs := h.keep ((Below.refl _ _).alloc (Nat.le_refl _) o)
theorem Src.like {w w2 : World} {b : Nat} {a : Option Addr} {m c : Nat} {bs : List Int} (h : Src w b a m c bs) (h1 : w2.heap = w.heap) : Src w2 b a m c bs := by
  obtain ⟨⟨k, s, k1, k2, k3⟩, ⟨c1, c2, c3, c4⟩, h5⟩ := h
  exact ⟨⟨k, s, by unfold BX; rw [h1]; exact k1, k2, k3⟩, ⟨c1, c2.same (fun p hp => by rw [h1]), c3, c4⟩, h5⟩
set_option maxHeartbeats 1000000 in
theorem l02DrawPrime_any (b : Nat) (a : Option Addr) (m c : Nat) (bs : List Int) (w : World) (hs : Src w b a m c bs) (hmc : m ≤ c) :
    Calls Try.prog 41 #[.pointer (some ⟨b, 0, none⟩)] w fun e w' => ∃ v : Int, e = .returned (.int .i64 v) ∧ GP v ∧ Src w' b a m c bs ∧ Chg (fun j => j = b) w w' := by
  have HS := Lib.hid hs
  have lb := hs.lt
  clear hs
  have HL : Hid (RdI (w.alloc (.cells #[.int .i64 2, .int .i64 2, .int .i64 3, .int .i64 3, .int .i64 5, .int .i64 7] 2)) (some ⟨w.heap.size, 0, none⟩) [2, 2, 3, 3, 5, 7]) := Lib.hid (lit_rd w _ _ _ rfl (by simp [maxLen]))
  go_enter Try.func41, Try.ntmps41
  go_wp2_with fail
  refine (l01Pick_any b a m c bs w.heap.size 6 6 [2, 2, 3, 3, 5, 7] _ (by exact HS.out.al _) hmc (by exact HL.out) rfl (by omega) (by omega) (by omega)).mono ?_
  rintro e w2 ⟨x, rfl, hx, hs, hc⟩
  have HX : Hid (GP x) := Lib.hid (by simp at hx; unfold GP; omega)
  have HS2 := Lib.hid hs
  have HC2 : Hid (Chg (fun j => j = b) w w2) := Lib.hid (((Chg.refl _ w).alloc _).trans hc)
  clear hs hc hx
  go_wp2_with fail
  go_ret
  exact ⟨x, rfl, HX.out, HS2.out, HC2.out⟩
/-- a vector that is drawn: the call's own numbers, the source -/
structure VS (w wr : World) (b : Nat) (a : Option Addr) (m c : Nat) (bs : List Int) (p : Int) (k : Nat) (ad : Option Addr) (cap : Nat) (xs : List Int) : Prop where
  s0 : Src w b a m c bs
  bx : ∃ k s : Nat, BX 60 wr b #[.slice a m c, .int .i64 k, .int .i64 s] ∧ k ≤ m ∧ s < 2147483647
  chg : Chg (fun j => j = b) w wr
  own : OwnI 2 wr w.heap.size ad k cap xs
  rng : ∀ j, j < k → 0 ≤ el xs j ∧ el xs j < p
section
variable {w wr w2 : World} {b : Nat} {a : Option Addr} {m c : Nat} {bs : List Int} {p : Int} {k : Nat} {ad a4 : Option Addr} {cap c4 : Nat} {xs : List Int}
theorem VS.src (h : VS w wr b a m c bs p k ad cap xs) : Src wr b a m c bs := by
  obtain ⟨k, s, h1, h2, h3⟩ := h.bx
  exact h.s0.set k s h1 h2 h3 h.chg
theorem VS.next (h : VS w wr b a m c bs p k ad cap xs) (hs : Src w2 b a m c bs) (hc : Chg (fun j => j = b) wr w2) : VS w w2 b a m c bs p k ad cap xs :=
  ⟨h.s0, hs.box, h.chg.trans hc, h.own.kept hc (fun p hp e => by have := (h.own.block p hp).1; have := h.s0.lt; omega), h.rng⟩
theorem VS.push {x : Int} (h : VS w wr b a m c bs p k ad cap xs) (hx0 : 0 ≤ x) (hx1 : x < p) (r4 : w2.ownsRow w.heap.size 2 1 (.slice a4 (k + 1) c4) (k + 1) (xs.map (Value.int .i64) ++ [.int .i64 x])) (g4 : Chg (fun k => ∃ p, ad = some p ∧ p.block = k) wr w2) : VS w w2 b a m c bs p (k + 1) a4 c4 (xs ++ [x]) := by
  have lb := h.s0.lt
  have hn : ∀ j, j < w.heap.size → ¬ ∃ p, ad = some p ∧ p.block = j := fun j hj hx => by obtain ⟨p, hp, e⟩ := hx; have := (h.own.block p hp).1; omega
  obtain ⟨k1, s, h1, h2, h3⟩ := h.bx
  refine ⟨h.s0, ⟨k1, s, h1.chg g4 (hn b lb), h2, h3⟩, ?_, OwnI.pushed r4, fun j hj => ?_⟩
  · exact ⟨g4.os.trans h.chg.os, g4.tape.trans h.chg.tape, g4.output.trans h.chg.output, Nat.le_trans h.chg.size g4.size, fun j hj hne => (g4.block j (Nat.lt_of_lt_of_le hj h.chg.size) (hn j hj)).trans (h.chg.block j hj hne)⟩
  · have hl := h.own.len
    by_cases hjk : j < k
    · rw [el_app_l (by omega)]; exact h.rng j hjk
    · obtain rfl : j = k := by omega
      rw [el_app_r (by omega), hl, Nat.sub_self]
      exact ⟨hx0, hx1⟩
end
set_option maxRecDepth 20000 in
set_option maxHeartbeats 2000000 in
theorem l02DrawVector_any (b : Nat) (a : Option Addr) (m c : Nat) (bs : List Int) (p : Int) (n : Nat) (w : World) (hs : Src w b a m c bs) (hmc : m ≤ c) (hp1 : 1 ≤ p) (hp2 : p ≤ 1000) (hn : n ≤ 1000) :
    Calls Try.prog 102 #[.pointer (some ⟨b, 0, none⟩), .int .i64 p, .int .i64 n] w fun e w' => ∃ (xs : List Int) (a' : Option Addr) (c' : Nat), e = .returned (.slice a' n c') ∧ OwnI 2 w' w.heap.size a' n c' xs ∧ (∀ j, j < n → 0 ≤ el xs j ∧ el xs j < p) ∧ Src w' b a m c bs ∧ Chg (fun j => j = b) w w' := by
  have S0 : Hid (VS w (w.alloc (.cells #[] 2)) b a m c bs p 0 (some ⟨w.heap.size, 0, none⟩) 0 []) := Lib.hid (by
    obtain ⟨k, s, h1, h2, h3⟩ := hs.box
    exact ⟨hs, ⟨k, s, h1.alloc _, h2, h3⟩, (Chg.refl _ w).alloc _, OwnI.empty w _, fun j hj => absurd hj (by omega)⟩)
  clear hs
  go_enter Try.func102, Try.ntmps102
  go_wp2_with fail
  go_loopw [8, 7] (fun i o wr => ∃ (k : Nat) (ad : Option Addr) (cap : Nat) (xs : List Int), k ≤ n ∧ i = .int .i64 k ∧ o = .slice ad k cap ∧ Hid (VS w wr b a m c bs p k ad cap xs)) (fun i _ _ => n - (intOf i).toNat)
  case atStart => exact ⟨0, _, 0, [], Nat.zero_le _, rfl, rfl, S0⟩
  case round =>
    obtain ⟨k, ad, cap, xs, hk, rfl, rfl, HJ⟩ := hrel
    obtain ⟨wi, rfl⟩ : ∃ x, x = wr := ⟨wr, rfl⟩
    clear S0
    by_cases hkn : k < n
    · have J1 : (k : Int) < (n : Int) := by omega
      go_wp2_with fail
      refine (l01Next_any b a m c bs p wi HJ.out.src (by omega) hmc).mono ?_
      rintro e w2 ⟨x, rfl, hx0, hx1, hs, hc⟩
      have HJ2 := Lib.hid (HJ.out.next hs hc)
      have hx2 : x < p := by omega
      have hsz : w.heap.size ≤ w2.heap.size := HJ2.out.chg.size
      clear hs hc hx1
      go_wp2_with (at_builtin; refine wpList_push rfl (.tmp 15) (.tmp 19) 52 rfl w.heap.size 2 (.int .i64 0) 8 Try.underlying52 Try.info2 rfl (by decide) (.int .i64 x) rfl _ _ _ _ rfl rfl (by exact HJ2.out.own) (by omega) (by exact hsz) ?_; rintro a4 c4 w4 r4 q4 g4; have HN := Lib.hid (HJ2.out.push hx0 hx2 r4 g4); clear r4 q4 g4)
      go_roundw
      case rel => exact ⟨k + 1, a4, c4, xs ++ [x], by omega, by go_num, rfl, HN⟩
      case measure => simp [intOf]; omega
    · obtain rfl : k = n := by omega
      have J1 : ¬ (k : Int) < (k : Int) := by omega
      go_wp2_with fail
      go_ret
      exact ⟨xs, ad, cap, rfl, HJ.out.own, HJ.out.rng, HJ.out.src, HJ.out.chg⟩
/-- rows that are drawn: the result's box, the matrix's box, its rows, the source -/
structure RS (w wr : World) (b : Nat) (a : Option Addr) (m c : Nat) (bs : List Int) (p : Int) (n k : Nat) (ad : Option Addr) (cap : Nat) (xs : List (List Int)) (A : Nat → Option Addr) (C : Nat → Nat) : Prop where
  s0 : Src w b a m c bs
  bx : ∃ k s : Nat, BX 60 wr b #[.slice a m c, .int .i64 k, .int .i64 s] ∧ k ≤ m ∧ s < 2147483647
  chg : Chg (fun j => j = b) w wr
  rb : BX 26 wr w.heap.size #[.int .i64 0, .int .i64 0, .slice none 0 0]
  mb : BX 26 wr (w.heap.size + 1) #[.int .i64 p, .int .i64 n, .slice ad k cap]
  own : OwnR 52 2 wr (w.heap.size + 1 + 1) ad k cap xs A C
  rws : Rws p n xs
section
variable {w wr w2 : World} {b : Nat} {a : Option Addr} {m c : Nat} {bs : List Int} {p : Int} {n k : Nat} {ad a4 : Option Addr} {cap c4 : Nat} {xs : List (List Int)} {A : Nat → Option Addr} {C : Nat → Nat}
theorem RS.src (h : RS w wr b a m c bs p n k ad cap xs A C) : Src wr b a m c bs := by
  obtain ⟨k, s, h1, h2, h3⟩ := h.bx
  exact h.s0.set k s h1 h2 h3 h.chg
theorem RS.sz (h : RS w wr b a m c bs p n k ad cap xs A C) : w.heap.size + 1 + 1 ≤ wr.heap.size := h.mb.lt
theorem RS.like (h : RS w wr b a m c bs p n k ad cap xs A C) (h1 : w2.heap = wr.heap) (h2 : w2.os = wr.os) (h3 : w2.tape = wr.tape) (h4 : w2.output = wr.output) : RS w w2 b a m c bs p n k ad cap xs A C := by
  obtain ⟨k, s, k1, k2, k3⟩ := h.bx
  exact ⟨h.s0, ⟨k, s, by unfold BX; rw [h1]; exact k1, k2, k3⟩, ⟨h2.trans h.chg.os, h3.trans h.chg.tape, h4.trans h.chg.output, by rw [h1]; exact h.chg.size, fun k hk hn => by rw [h1]; exact h.chg.block k hk hn⟩, by unfold BX; rw [h1]; exact h.rb, by unfold BX; rw [h1]; exact h.mb, h.own.same (fun p hp => by rw [h1]) (fun i hi p hp => by rw [h1]), h.rws⟩
theorem RS.next (h : RS w wr b a m c bs p n k ad cap xs A C) (hs : Src w2 b a m c bs) (hc : Chg (fun j => j = b) wr w2) : RS w w2 b a m c bs p n k ad cap xs A C := by
  have lb := h.s0.lt
  exact ⟨h.s0, hs.box, h.chg.trans hc, h.rb.chg hc (by omega), h.mb.chg hc (by omega), h.own.kept hc (fun p hp e => by have := (ownsRow_block h.own.own p hp).1; omega) (fun i hi p hp e => by have := ((h.own.row i hi).block p hp).1; omega), h.rws⟩
theorem RS.nextL {w3 : World} (h : RS w wr b a m c bs p n k ad cap xs A C) (hs : Src w2 b a m c bs) (hc : Chg (fun j => j = b) w3 w2) (h1 : w3.heap = wr.heap) (h2 : w3.os = wr.os) (h3 : w3.tape = wr.tape) (h4 : w3.output = wr.output) : RS w w2 b a m c bs p n k ad cap xs A C := (h.like h1 h2 h3 h4).next hs hc
theorem RS.belowL {w3 : World} {B : Nat} (h : RS w wr b a m c bs p n k ad cap xs A C) (hb : Below B w3 w2) (hB : wr.heap.size = B) (h1 : w3.heap = wr.heap) (h2 : w3.os = wr.os) (h3 : w3.tape = wr.tape) (h4 : w3.output = wr.output) : RS w w2 b a m c bs p n k ad cap xs A C := by
  subst hB
  have h0 := h.like h1 h2 h3 h4
  obtain ⟨k, s, k1, k2, k3⟩ := h.bx
  have hsz := h.chg.size
  have hh : ∀ j, j < wr.heap.size → w2.heap[j]? = wr.heap[j]? := fun j hj => by rw [hb.block j hj, h1]
  exact ⟨h.s0, ⟨k, s, (hh _ k1.lt).trans k1, k2, k3⟩, ⟨(hb.os.trans h2).trans h.chg.os, (hb.tape.trans h3).trans h.chg.tape, (hb.output.trans h4).trans h.chg.output, by have := hb.size; rw [h1] at this; omega, fun k hk hn => (hh k (by omega)).trans (h.chg.block k hk hn)⟩, (hh _ h.rb.lt).trans h.rb, (hh _ h.mb.lt).trans h.mb, h.own.same (fun p hp => hh _ (ownsRow_block h.own.own p hp).2) (fun i hi p hp => hh _ ((h.own.row i hi).block p hp).2), h.rws⟩
/-- what a callee has made, is no matter -/
theorem RS.below (h : RS w wr b a m c bs p n k ad cap xs A C) (hb : Below wr.heap.size wr w2) : RS w w2 b a m c bs p n k ad cap xs A C := by
  obtain ⟨k, s, k1, k2, k3⟩ := h.bx
  have hsz := h.chg.size
  exact ⟨h.s0, ⟨k, s, k1.keep hb, k2, k3⟩, ⟨hb.os.trans h.chg.os, hb.tape.trans h.chg.tape, hb.output.trans h.chg.output, Nat.le_trans h.chg.size hb.size, fun k hk hn => (hb.block k (by omega)).trans (h.chg.block k hk hn)⟩, h.rb.keep hb, h.mb.keep hb, h.own.keep hb (Nat.le_refl _), h.rws⟩
/-- where the rows lie -/
structure Low (ad : Option Addr) (k : Nat) (A : Nat → Option Addr) (L : Nat) : Prop where
  o : ∀ p, ad = some p → p.block < L
  r : ∀ i, i < k → ∀ p, A i = some p → p.block < L
theorem RS.low (h : RS w wr b a m c bs p n k ad cap xs A C) : Low ad k A wr.heap.size := ⟨fun p hp => (ownsRow_block h.own.own p hp).2, fun i hi p hp => ((h.own.row i hi).block p hp).2⟩
theorem rw_app_lt {xs : List (List Int)} {v : List Int} {i : Nat} (h : i < xs.length) : rw_ (xs ++ [v]) i = rw_ xs i := rw_append_lt h
theorem Rws.snoc {p : Int} {n : Nat} {xs : List (List Int)} {v : List Int} (h : Rws p n xs) (hl : v.length = n) (hv : ∀ j, j < n → 0 ≤ el v j ∧ el v j < p) : Rws p n (xs ++ [v]) := by
  have e : ∀ i, i < (xs ++ [v]).length → (i < xs.length ∧ rw_ (xs ++ [v]) i = rw_ xs i) ∨ rw_ (xs ++ [v]) i = v := fun i hi => by
    by_cases h1 : i < xs.length
    · exact .inl ⟨h1, rw_append_lt h1⟩
    · obtain rfl : i = xs.length := by simp at hi; omega
      exact .inr rw_append_eq
  refine ⟨fun i hi => ?_, fun i j hi hj => ?_⟩
  · rcases e i hi with ⟨h1, h2⟩ | h2
    · rw [h2]; exact h.row i h1
    · rw [h2]; exact hl
  · rcases e i hi with ⟨h1, h2⟩ | h2
    · rw [h2]; exact h.rng i j h1 hj
    · rw [h2]; exact hv j hj
theorem RS.push {L cv : Nat} {av : Option Addr} {v : List Int} (h : RS w wr b a m c bs p n k ad cap xs A C) (hl : Low ad k A L) (hL : w.heap.size + 1 + 1 ≤ L) (hv : OwnI 2 wr L av n cv v) (hvr : ∀ j, j < n → 0 ≤ el v j ∧ el v j < p)
    (r4 : w2.ownsRow (w.heap.size + 1 + 1) 52 1 (.slice a4 (k + 1) c4) (k + 1) (rowVals xs A C k ++ [.slice av n cv])) (q4 : a4 = ad ∨ ∃ p, a4 = some p ∧ wr.heap.size ≤ p.block) (g4 : Chg (fun k => ∃ p, ad = some p ∧ p.block = k) wr w2) :
    RS w (w2.setCell ⟨w.heap.size + 1, 2, none⟩ (.slice a4 (k + 1) c4)) b a m c bs p n (k + 1) a4 c4 (xs ++ [v]) (upd A k av) (upd C k cv) ∧ BX 26 w2 (w.heap.size + 1) #[.int .i64 p, .int .i64 n, .slice ad k cap] := by
  have lb := h.s0.lt
  have hn : ∀ j, j < w.heap.size + 1 + 1 → ¬ ∃ p, ad = some p ∧ p.block = j := fun j hj hx => by obtain ⟨p, hp, e⟩ := hx; have := (ownsRow_block h.own.own p hp).1; omega
  obtain ⟨k1, s, h1, h2, h3⟩ := h.bx
  have hsz := h.chg.size
  have hmb := h.mb.chg g4 (hn _ (by omega))
  have hvl := hv.len
  subst hvl
  have hown := h.own.pushed (ar := av) (cr := cv) (xs := v) (hv.mono hL) (fun i hi p q hp hq e => by have h5 := hl.r i hi p hp; have h6 := (hv.block q hq).1; omega) (fun p q hp hq e => by have h5 := hl.o p hp; have h6 := (hv.block q hq).1; omega) r4 q4 g4
  refine ⟨⟨h.s0, ⟨k1, s, (h1.chg g4 (hn b (by omega))).other (by simp; omega) _, h2, h3⟩, ?_, (h.rb.chg g4 (hn _ (by omega))).other (by simp) _, hmb.set 2 _, hown.setLow _ (by simp) _, h.rws.snoc rfl hvr⟩, hmb⟩
  refine ⟨g4.os.trans h.chg.os, g4.tape.trans h.chg.tape, g4.output.trans h.chg.output, ?_, fun j hj hne => ?_⟩
  · have := g4.size; simp [World.setCell]; omega
  · exact (Below.heap_setCell _ _ _ _ (by simp; omega)).trans ((g4.block j (by omega) (hn j (by omega))).trans (h.chg.block j hj hne))
/-- the cells of the rows -/
theorem RS.cells (h : RS w wr b a m c bs p n k ad cap xs A C) : 0 < k → ∃ g, ad = some ⟨g, 0, none⟩ ∧ ∀ i, i < k → wr.cell? ⟨g, i, none⟩ = some (.slice (A i) n (C i)) := fun h0 => by
  obtain ⟨g, hg, hc⟩ := ownsRow_cell h.own.own h0
  refine ⟨g, hg, fun i hi => ?_⟩
  rw [hc i hi, rowVals_get hi, h.rws.row i (by rw [h.own.len]; exact hi)]
end
/-- .. at a slice whose block is known -/
theorem RS.cellsG {w wr : World} {b : Nat} {a : Option Addr} {m c : Nat} {bs : List Int} {p : Int} {n k : Nat} {g cap : Nat} {xs : List (List Int)} {A : Nat → Option Addr} {C : Nat → Nat} (h : RS w wr b a m c bs p n k (some ⟨g, 0, none⟩) cap xs A C) : ∀ i, i < k → wr.cell? ⟨g, i, none⟩ = some (.slice (A i) n (C i)) := fun i hi => by
  obtain ⟨g', e, hc⟩ := h.cells (by omega)
  injection e with e
  injection e with e1
  subst e1
  exact hc i hi
/-- the result's box is written at the end -/
theorem RS.fin {w wr : World} {b : Nat} {a : Option Addr} {m c : Nat} {bs : List Int} {p : Int} {n k : Nat} {ad : Option Addr} {cap : Nat} {xs : List (List Int)} {A : Nat → Option Addr} {C : Nat → Nat} (h : RS w wr b a m c bs p n k ad cap xs A C) (u v x : Value) :
    OwnR 52 2 (((wr.setCell ⟨w.heap.size, 0, none⟩ u).setCell ⟨w.heap.size, 1, none⟩ v).setCell ⟨w.heap.size, 2, none⟩ x) w.heap.size ad k cap xs A C ∧ Src (((wr.setCell ⟨w.heap.size, 0, none⟩ u).setCell ⟨w.heap.size, 1, none⟩ v).setCell ⟨w.heap.size, 2, none⟩ x) b a m c bs ∧ Chg (fun j => j = b) w (((wr.setCell ⟨w.heap.size, 0, none⟩ u).setCell ⟨w.heap.size, 1, none⟩ v).setCell ⟨w.heap.size, 2, none⟩ x) := by
  have hb : Below w.heap.size wr (((wr.setCell ⟨w.heap.size, 0, none⟩ u).setCell ⟨w.heap.size, 1, none⟩ v).setCell ⟨w.heap.size, 2, none⟩ x) := (((Below.refl _ _).setCell (p := ⟨w.heap.size, 0, none⟩) (Nat.le_refl _) _).setCell (p := ⟨w.heap.size, 1, none⟩) (Nat.le_refl _) _).setCell (p := ⟨w.heap.size, 2, none⟩) (Nat.le_refl _) _
  have lb := h.s0.lt
  have hc : Chg (fun j => j = b) w (((wr.setCell ⟨w.heap.size, 0, none⟩ u).setCell ⟨w.heap.size, 1, none⟩ v).setCell ⟨w.heap.size, 2, none⟩ x) := ⟨hb.os.trans h.chg.os, hb.tape.trans h.chg.tape, hb.output.trans h.chg.output, Nat.le_trans h.chg.size hb.size, fun k hk hn => (hb.block k hk).trans (h.chg.block k hk hn)⟩
  obtain ⟨k1, s, h1, h2, h3⟩ := h.bx
  exact ⟨((((h.own.setLow ⟨w.heap.size, 0, none⟩ (by simp; omega) _).setLow ⟨w.heap.size, 1, none⟩ (by simp; omega) _).setLow ⟨w.heap.size, 2, none⟩ (by simp; omega) _).mono (by omega)), h.s0.set k1 s ((hb.block b lb).trans h1) h2 h3 hc, hc⟩
--ROWS
set_option maxRecDepth 20000 in
set_option maxHeartbeats 4000000 in
theorem l02DrawRows_any (b : Nat) (a : Option Addr) (m c : Nat) (bs : List Int) (p : Int) (r n : Nat) (w : World) (hs : Src w b a m c bs) (hmc : m ≤ c) (hp : GP p) (hr : r ≤ 100) (hn : n ≤ 100) :
    Calls Try.prog 81 #[.pointer (some ⟨b, 0, none⟩), .int .i64 p, .int .i64 r, .int .i64 n] w fun e w' => ∃ (xs : List (List Int)) (a' : Option Addr) (c' : Nat), e = .returned (.agg #[.int .i64 p, .int .i64 n, .slice a' r c']) ∧ MadeR 52 2 w' w.heap.size a' r c' xs ∧ Rws p n xs ∧ Src w' b a m c bs ∧ Chg (fun j => j = b) w w' := by
  have S0 : Hid (RS w ((w.alloc (.cells #[.int .i64 0, .int .i64 0, .slice none 0 0] 26)).alloc (.cells #[.int .i64 p, .int .i64 n, .slice none 0 0] 26)) b a m c bs p n 0 none 0 [] (fun _ => none) (fun _ => 0)) := Lib.hid (by
    obtain ⟨k, s, h1, h2, h3⟩ := hs.box
    refine ⟨hs, ⟨k, s, (h1.alloc _).alloc _, h2, h3⟩, ((Chg.refl _ w).alloc _).alloc _, (BX.new w _ _).alloc _, ?_, OwnR.none _ _, ⟨fun i hi => by simp at hi, fun i j hi => by simp at hi⟩⟩
    rw [show w.heap.size + 1 = (w.alloc (.cells #[.int .i64 0, .int .i64 0, .slice none 0 0] 26)).heap.size by simp]
    exact BX.new _ _ _)
  have hpb := hp.bd
  clear hs hp
  go_enter Try.func81, Try.ntmps81
  go_wp2_with fail
  go_loopw [10] (fun i wr => ∃ (k : Nat) (ad : Option Addr) (cap : Nat) (xs : List (List Int)) (A : Nat → Option Addr) (C : Nat → Nat), k ≤ r ∧ i = .int .i64 k ∧ Hid (RS w wr b a m c bs p n k ad cap xs A C)) (fun i _ => r - (intOf i).toNat)
  case atStart => exact ⟨0, none, 0, [], _, _, Nat.zero_le _, rfl, S0⟩
  case round =>
    obtain ⟨k, ad, cap, xs, A, C, hk, rfl, HJ⟩ := hrel
    obtain ⟨wi, rfl⟩ : ∃ x, x = wr := ⟨wr, rfl⟩
    clear S0
    by_cases hkr : k < r
    · have J1 : (k : Int) < (r : Int) := by omega
      go_wp2_with fail
      refine (l02DrawVector_any b a m c bs p n wi HJ.out.src hmc (by omega) (by omega) (by omega)).mono ?_
      rintro e w2 ⟨v, av, cv, rfl, ho, hvr, hs, hc⟩
      have HJ2 := Lib.hid (HJ.out.next hs hc)
      have HO2 := Lib.hid ho
      have HVR := Lib.hid hvr
      have HLW := Lib.hid HJ.out.low
      have HLL := Lib.hid HJ.out.sz
      have hbl : b < wi.heap.size := Nat.lt_of_lt_of_le HJ.out.s0.lt HJ.out.chg.size
      clear hs hc ho hvr
      by_cases hk0 : k = 0
      · have e1 : ¬ (0 : Int) < (k : Int) := by omega
        clear hk0
        have y2 := HJ2.out.mb.cell 2
        have lm := HJ2.out.mb.lt
        simp at y2
        have f2 := HJ2.out.mb.frz 2
        have hszz := HJ2.out.sz
        go_wp2_with (at_builtin; (refine wpList_push rfl (.tmp 44) (.tmp 46) 24 rfl (w.heap.size + 1 + 1) 52 (.slice none 0 0) 24 Try.underlying24 Try.infoR rfl (by decide) (.slice av n cv) rfl _ _ _ _ rfl rfl (by exact HJ2.out.own.own) (by omega) (by exact hszz) ?_; rintro a4 c4 w4 r4 q4 g4; have HNX := HJ2.out.push HLW.out HLL.out HO2.out HVR.out r4 q4 g4; have HN := Lib.hid HNX.1; have X4 := Lib.hid HNX.2; clear HNX; have f4 := X4.out.frz 2; have y4 := X4.out.cell 2; have l4 := X4.out.lt; simp at y4; clear r4 q4 g4))
        go_wp2_with fail
        go_roundw
        case rel => exact ⟨k + 1, a4, c4, _, _, _, by omega, by go_num, HN⟩
        case measure => simp [intOf]; omega
      · have e1 : (0 : Int) < (k : Int) := by omega
        go_wp2_with fail
        refine (l01Next_any b a m c bs 4 w2 HJ2.out.src (by omega) hmc).mono ?_
        rintro e w3 ⟨z, rfl, hz0, hz1, hs, hc⟩
        have HJ3 := Lib.hid (HJ2.out.next hs hc)
        have HO3 : Hid (OwnI 2 w3 wi.heap.size av n cv v) := Lib.hid (HO2.out.kept hc (fun q hq e => by have := (HO2.out.block q hq).1; omega))
        clear hs hc
        by_cases hz : z = 0
        · have e2 : (z == 0) = true := beq_iff_eq.2 hz
          clear hz hz0 hz1 HO2 HO3
          obtain ⟨g, rfl, hcl⟩ := HJ3.out.cells (by omega)
          have HS3 := Lib.hid HJ3.out.src
          have y2 := HJ3.out.mb.cell 2
          have lm := HJ3.out.mb.lt
          simp at y2
          have hll := HLL.out
          have HRL : Hid (∀ i, i < k → (rw_ xs i).length = n) := Lib.hid (fun i hi => HJ3.out.rws.row i (by rw [HJ3.out.own.len]; exact hi))
          have HRR : Hid (∀ i, i < k → ∀ j, j < n → 0 ≤ el (rw_ xs i) j ∧ el (rw_ xs i) j < p) := Lib.hid (fun i hi j hj => HJ3.out.rws.rng i j (by rw [HJ3.out.own.len]; exact hi) hj)
          go_wp2_with fail
          go_region_held3 (fun w' => w'.cell? ⟨w.heap.size + 1, 2, none⟩ = some (.slice (some ⟨g, 0, none⟩) k cap) ∧ ∀ i : Nat, i < k → w'.cell? ⟨g, i, none⟩ = some (.slice (A i) n (C i))) (first | exact ⟨y2, hcl⟩ | exact ⟨y2X, hclX⟩ | exact ⟨y2Y, hclY⟩ | exact ⟨y29, hcl9⟩)
            (first
              | (go_at_call 42; ((with_reducible refine (l01Next_any b a m c bs p _ ?_ ?_ hmc).mono ?_); (first | exact HS3.out.like rfl | exact HJY.out.src.like rfl); omega; rintro e wX ⟨x, rfl, hx0, hx1, hs, hc⟩; have HJX : Hid (RS w wX b a m c bs p n k (some ⟨g, 0, none⟩) cap xs A C) := Lib.hid (by first | exact HJ3.out.nextL hs hc rfl rfl rfl rfl | exact HJY.out.nextL hs hc rfl rfl rfl rfl); have y2X := HJX.out.mb.cell 2; have lX := HJX.out.mb.lt; have hclX := HJX.out.cellsG; simp at y2X; clear hs hc))
              | (go_at_call 42; ((with_reducible refine (l01Next_any b a m c bs k _ ?_ ?_ hmc).mono ?_); (first | exact HS3.out.like rfl | exact HJX.out.src.like rfl); omega; rintro e wY ⟨y, rfl, hy0, hy1, hs, hc⟩; obtain ⟨I, rfl⟩ : ∃ I : Nat, y = I := ⟨y.toNat, by omega⟩; have hI : I < k := (by omega); have hI2 : (I : Int) < (k : Int) := (by omega); have HJY : Hid (RS w wY b a m c bs p n k (some ⟨g, 0, none⟩) cap xs A C) := Lib.hid (by first | exact HJ3.out.nextL hs hc rfl rfl rfl rfl | exact HJX.out.nextL hs hc rfl rfl rfl rfl); have y2Y := HJY.out.mb.cell 2; have lY := HJY.out.mb.lt; have hclY := HJY.out.cellsG; simp at y2Y; clear hs hc hy0 hy1))
              | (go_at_call 85; ((with_reducible refine (l02Scale_any _ n _ (rw_ xs I) x p _ ?_ ?_ ?_ ?_ ?_ ?_ ?_ ?_).mono ?_); (first | exact (HJX.out.own.row I hI).rd.same (fun _ _ => rfl) | exact (HJY.out.own.row I hI).rd.same (fun _ _ => rfl)); exact HRL.out I hI; omega; omega; omega; omega; omega; exact HRR.out I hI; rintro e w9 ⟨ar, cr, rfl, ho, hb⟩; have hr9 : ∀ j, j < n → 0 ≤ el (scalem p x (rw_ xs I)) j ∧ el (scalem p x (rw_ xs I)) j < p := (fun j hj => by rw [el_scalem (by rw [HRL.out I hI]; exact hj)]; exact emod_bd _ _ (by omega)); have HJ9 : Hid (RS w w9 b a m c bs p n k (some ⟨g, 0, none⟩) cap xs A C) := Lib.hid (by first | exact HJX.out.belowL hb rfl rfl rfl rfl rfl | exact HJY.out.belowL hb rfl rfl rfl rfl rfl); have HV9 : Hid (∃ (L : Nat) (v9 : List Int), Low (some ⟨g, 0, none⟩) k A L ∧ w.heap.size + 1 + 1 ≤ L ∧ OwnI 2 w9 L ar n cr v9 ∧ ∀ j, j < n → 0 ≤ el v9 j ∧ el v9 j < p) := Lib.hid (by first | exact ⟨_, _, HJX.out.low, HJX.out.sz, ho, hr9⟩ | exact ⟨_, _, HJY.out.low, HJY.out.sz, ho, hr9⟩); have y29 := HJ9.out.mb.cell 2; have hcl9 := HJ9.out.cellsG; simp at y29; clear hr9 ho hb)))
          all_goals
            obtain ⟨L9, v9, lw9, ll9, ho9, hr9⟩ := HV9.out
            have HLW9 := Lib.hid lw9
            have HO9 := Lib.hid ho9
            have HR9 := Lib.hid hr9
            clear lw9 ho9 hr9 HV9 hcl y2 lm y2X lX hclX y2Y lY hclY y29 hcl9
            have y2 := HJ9.out.mb.cell 2
            have lm := HJ9.out.mb.lt
            simp at y2
            have f2 := HJ9.out.mb.frz 2
            have hszz := HJ9.out.sz
            go_wp2_with (at_builtin; (refine wpList_push rfl (.tmp 44) (.tmp 46) 24 rfl (w.heap.size + 1 + 1) 52 (.slice none 0 0) 24 Try.underlying24 Try.infoR rfl (by decide) (.slice ar n cr) rfl _ _ _ _ rfl rfl (by exact HJ9.out.own.own) (by omega) (by exact hszz) ?_; rintro a4 c4 w4 r4 q4 g4; have HNX := HJ9.out.push HLW9.out ll9 HO9.out HR9.out r4 q4 g4; have HN := Lib.hid HNX.1; have X4 := Lib.hid HNX.2; clear HNX; have f4 := X4.out.frz 2; have y4 := X4.out.cell 2; have l4 := X4.out.lt; simp at y4; clear r4 q4 g4))
            go_wp2_with fail
            go_roundw
            case rel => exact ⟨k + 1, a4, c4, _, _, _, by omega, by go_num, HN⟩
            case measure => simp [intOf]; omega
        · have e2 : (z == 0) = false := beq_eq_false_iff_ne.2 hz
          clear hz hz0 hz1 HO2 HJ2
          have y2 := HJ3.out.mb.cell 2
          have lm := HJ3.out.mb.lt
          simp at y2
          have f2 := HJ3.out.mb.frz 2
          have hszz := HJ3.out.sz
          go_wp2_with (at_builtin; (refine wpList_push rfl (.tmp 44) (.tmp 46) 24 rfl (w.heap.size + 1 + 1) 52 (.slice none 0 0) 24 Try.underlying24 Try.infoR rfl (by decide) (.slice av n cv) rfl _ _ _ _ rfl rfl (by exact HJ3.out.own.own) (by omega) (by exact hszz) ?_; rintro a4 c4 w4 r4 q4 g4; have HNX := HJ3.out.push HLW.out HLL.out HO3.out HVR.out r4 q4 g4; have HN := Lib.hid HNX.1; have X4 := Lib.hid HNX.2; clear HNX; have f4 := X4.out.frz 2; have y4 := X4.out.cell 2; have l4 := X4.out.lt; simp at y4; clear r4 q4 g4))
          go_wp2_with fail
          go_roundw
          case rel => exact ⟨k + 1, a4, c4, _, _, _, by omega, by go_num, HN⟩
          case measure => simp [intOf]; omega
    · obtain rfl : k = r := by omega
      have J1 : ¬ (k : Int) < (k : Int) := by omega
      have y0 := HJ.out.mb.cell 0
      have y1 := HJ.out.mb.cell 1
      have y2 := HJ.out.mb.cell 2
      have lm := HJ.out.mb.lt
      have lr := HJ.out.rb.lt
      have f0 := HJ.out.rb.frz 0
      have f1 := HJ.out.rb.frz 1
      have f2 := HJ.out.rb.frz 2
      have z0 := HJ.out.rb.cell 0
      have z1 := HJ.out.rb.cell 1
      have z2 := HJ.out.rb.cell 2
      simp at y0 y1 y2 z0 z1 z2
      have HF := Lib.hid (HJ.out.fin (.int .i64 p) (.int .i64 n) (.slice ad k cap))
      have X := ((HJ.out.rb.set 0 (.int .i64 p)).set 1 (.int .i64 n)).set 2 (.slice ad k cap)
      have q0 := X.cell 0
      have q1 := X.cell 1
      have q2 := X.cell 2
      simp at q0 q1 q2
      go_wp2_with fail
      refine bodyPost_ret (v := .agg #[.int .i64 p, .int .i64 n, .slice ad k cap]) (by simp [results, Try.results81, go_sem, q0, q1, q2]) rfl ⟨xs, ad, cap, rfl, ⟨A, C, HF.out.1⟩, HJ.out.rws, HF.out.2.1, HF.out.2.2⟩
--ENDROWS
end Go.Proofs.Ytpkdgemnddcefaa
