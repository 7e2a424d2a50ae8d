/- Draws of tables that are rarely something else. -/
import Derived.Test.YtcnphhcdjhmmkaaDrU
import Derived.Test.YtcnphhcdjhmmkaaHerW
set_option linter.unusedVariables false
set_option linter.unusedSimpArgs false
namespace Go.Proofs.Ytcnphhcdjhmmkaa
open Go.RowKit
/-- a table that is bent: the result's box, its own box, its rows, the source -/
structure TS (w wr : World) (b : Nat) (a : Option Addr) (m c : Nat) (bs : List Int) (tb : Nat) (q : Int) (ad : Option Addr) (n cap : Nat) (xs : List (List Int)) (A : Nat → Option Addr) (C : Nat → Nat) : Prop where
  sq : SQ w wr b a m c bs
  rb : BX 26 wr w.heap.size #[.int .i64 0, .slice none 0 0]
  mb : BX 26 wr tb #[.int .i64 q, .slice ad n cap]
  lt : w.heap.size < tb
  own : OwnR 31 2 wr (w.heap.size + 1) ad n cap xs A C
  no : ∀ p, ad = some p → p.block ≠ tb
  nr : ∀ i, i < n → ∀ p, A i = some p → p.block ≠ tb
section
variable {w wr w2 w3 : World} {b : Nat} {a : Option Addr} {m c : Nat} {bs : List Int} {tb : Nat} {q q2 : Int} {ad a4 : Option Addr} {n cap n4 c4 : Nat} {xs ys : List (List Int)} {A A4 : Nat → Option Addr} {C C4 : Nat → Nat}
theorem TS.like (h : TS w wr b a m c bs tb q ad n cap xs A C) (h1 : w2.heap = wr.heap) (h2 : w2.os = wr.os) (h3 : w2.tape = wr.tape) (h4 : w2.output = wr.output) : TS w w2 b a m c bs tb q ad n cap xs A C := by
  have hq := h.sq.chg
  obtain ⟨k, s, k1, k2, k3⟩ := h.sq.bx
  exact ⟨⟨h.sq.s0, ⟨k, s, by unfold BX; rw [h1]; exact k1, k2, k3⟩, ⟨h2.trans hq.os, h3.trans hq.tape, h4.trans hq.output, by rw [h1]; exact hq.size, fun j hj hn => by rw [h1]; exact hq.block j hj hn⟩⟩, by unfold BX; rw [h1]; exact h.rb, by unfold BX; rw [h1]; exact h.mb, h.lt, h.own.same (fun p hp => by rw [h1]) (fun i hi p hp => by rw [h1]), h.no, h.nr⟩
theorem TS.next (h : TS w wr b a m c bs tb q ad n cap xs A C) (hs : Src w2 b a m c bs) (hc : Chg (fun j => j = b) w3 w2) (h1 : w3.heap = wr.heap) (h2 : w3.os = wr.os) (h3 : w3.tape = wr.tape) (h4 : w3.output = wr.output) : TS w w2 b a m c bs tb q ad n cap xs A C := by
  have h0 := h.like h1 h2 h3 h4
  have lb := h.sq.bw
  exact ⟨h0.sq.next hs hc rfl rfl rfl rfl, h0.rb.src hc (by omega), h0.mb.src hc (by have := h.lt; omega), h.lt, h0.own.kept hc (fun p hp e => by have := (ownsRow_block h0.own.own p hp).1; omega) (fun i hi p hp e => by have := ((h0.own.row i hi).block p hp).1; omega), h.no, h.nr⟩
theorem TS.sz (h : TS w wr b a m c bs tb q ad n cap xs A C) : w.heap.size + 1 ≤ wr.heap.size := h.rb.lt
theorem TS.sz2 (h : TS w wr b a m c bs tb q ad n cap xs A C) : tb < wr.heap.size := h.mb.lt
theorem TS.al (h : TS w wr b a m c bs tb q ad n cap xs A C) (o : Obj) : TS w (wr.alloc o) b a m c bs tb q ad n cap xs A C :=
  ⟨h.sq.al o, h.rb.alloc o, h.mb.alloc o, h.lt, h.own.keep ((Below.refl wr.heap.size wr).alloc (Nat.le_refl _) o) (Nat.le_refl _), h.no, h.nr⟩
theorem TS.low (h : TS w wr b a m c bs tb q ad n cap xs A C) : LowS ad n A wr.heap.size := ⟨fun p hp => (ownsRow_block h.own.own p hp).2, fun i hi p hp => ((h.own.row i hi).block p hp).2⟩
/-- the box is written -/
theorem TS.box (h : TS w wr b a m c bs tb q ad n cap xs A C) (i : Nat) (v : Value) (hb : BX 26 (wr.setCell ⟨tb, i, none⟩ v) tb #[.int .i64 q2, .slice a4 n4 c4]) (ho : OwnR 31 2 wr (w.heap.size + 1) a4 n4 c4 ys A4 C4) (hn : ∀ p, a4 = some p → p.block ≠ tb) (hr : ∀ i, i < n4 → ∀ p, A4 i = some p → p.block ≠ tb) :
    TS w (wr.setCell ⟨tb, i, none⟩ v) b a m c bs tb q2 a4 n4 c4 ys A4 C4 :=
  ⟨h.sq.set ⟨tb, i, none⟩ (by have := h.lt; simp; omega) v, h.rb.other (by have := h.lt; simp; omega) v, hb, h.lt, ho.same (fun p hp => Below.heap_setCell _ _ _ _ (hn p hp)) (fun i hi p hp => Below.heap_setCell _ _ _ _ (hr i hi p hp)), hn, hr⟩
/-- one more row -/
theorem TS.push {W : World} {Lb nv cv : Nat} {av : Option Addr} {v : List Int} (h0 : TS w wr b a m c bs tb q ad n cap xs A C) (hl : LowS ad n A Lb) (hL : tb < Lb) (hv : OwnI 2 wr Lb av nv cv v)
    (r4 : w2.ownsRow (w.heap.size + 1) 31 1 (.slice a4 (n + 1) c4) (n + 1) (rowVals xs A C n ++ [.slice av nv cv])) (q4 : a4 = ad ∨ ∃ p, a4 = some p ∧ W.heap.size ≤ p.block) (g4 : Chg (fun k => ∃ p, ad = some p ∧ p.block = k) W w2)
    (h1 : W.heap = wr.heap) (h2 : W.os = wr.os) (h3 : W.tape = wr.tape) (h4 : W.output = wr.output) :
    TS w (w2.setCell ⟨tb, 1, none⟩ (.slice a4 (n + 1) c4)) b a m c bs tb q a4 (n + 1) c4 (xs ++ [v]) (upd A n av) (upd C n cv) ∧ BX 26 w2 tb #[.int .i64 q, .slice ad n cap] := by
  have h := h0.like (w2 := W) h1 h2 h3 h4
  have hv : OwnI 2 W Lb av nv cv v := hv.same (fun p hp => by rw [h1])
  have hlt := h.lt
  have lb := h.sq.bw
  have hsz := h.sz
  have hsz2 := h.sz2
  have hvl2 := hv.len
  subst hvl2
  have hn : ∀ j, (∃ p, ad = some p ∧ p.block = j) → w.heap.size + 1 ≤ j ∧ j ≠ tb := fun j hx => by
    obtain ⟨p, hp, e⟩ := hx
    have := (ownsRow_block h.own.own p hp).1
    have := h.no p hp
    omega
  have hmb := h.mb.chg g4 (fun hx => (hn _ hx).2 rfl)
  have hrb := h.rb.chg g4 (fun hx => by have := (hn _ hx).1; omega)
  have hown := h.own.pushed (ar := av) (cr := cv) (xs := v) (hv.mono (by omega)) (fun i hi p q hp hq e => by have h5 := hl.r i hi p hp; have h6 := (hv.block q hq).1; omega) (fun p q hp hq e => by have h5 := hl.o p hp; have h6 := (hv.block q hq).1; omega) r4 q4 g4
  have hno4 : ∀ p, a4 = some p → p.block ≠ tb := fun p hp => by
    rcases q4 with q4 | ⟨p', q4, q5⟩
    · rw [q4] at hp; exact h.no p hp
    · rw [q4] at hp; injection hp with hp; subst hp; omega
  have hnr4 : ∀ i, i < n + 1 → ∀ p, upd A n av i = some p → p.block ≠ tb := fun i hi p hp => by
    by_cases hin : i = n
    · subst hin; rw [upd_eq] at hp; have := (hv.block p hp).1; omega
    · rw [upd_lt (by omega)] at hp; exact h.nr i (by omega) p hp
  have hsq : SQ w w2 b a m c bs := h.sq.low (B := w.heap.size + 1) (g4.below (by omega) (fun k hk hx => by have := (hn _ hx).1; omega)) (by omega) rfl rfl rfl rfl
  exact ⟨⟨hsq.set ⟨tb, 1, none⟩ (by simp; omega) _, hrb.other (by simp; omega) _, hmb.set 1 _, hlt, hown.same (fun p hp => Below.heap_setCell _ _ _ _ (hno4 p hp)) (fun i hi p hp => Below.heap_setCell _ _ _ _ (hnr4 i hi p hp)), hno4, hnr4⟩, hmb⟩
theorem TS.at_ {g i : Nat} (h : TS w wr b a m c bs tb q (some ⟨g, 0, none⟩) n cap xs A C) (hi : i < n) : wr.cell? ⟨g, i, none⟩ = some (.slice (A i) (rw_ xs i).length (C i)) ∧ g < wr.heap.size := by
  obtain ⟨e1, _, e3, _⟩ := h.own.at_ hi
  exact ⟨e1, e3⟩
/-- one number of one row is written -/
theorem TS.setInt {i k g0 : Nat} {v : Int} (h : TS w wr b a m c bs tb q ad n cap xs A C) (hi : i < n) (hA : A i = some ⟨g0, 0, none⟩) (hk : k < (rw_ xs i).length) : TS w (wr.setCell ⟨g0, k, none⟩ (.int .i64 v)) b a m c bs tb q ad n cap (rowSet xs i ((rw_ xs i).set k v)) A C := by
  have hb0 := (h.own.row i hi).block _ hA
  have hne := h.nr i hi _ hA
  simp at hb0 hne
  have hc : Chg (fun j => ∃ q, A i = some q ∧ q.block = j) wr (wr.setCell ⟨g0, k, none⟩ (.int .i64 v)) := (Chg.refl _ wr).setCell ⟨g0, k, none⟩ ⟨_, hA, rfl⟩ _
  have hr := h.own.row i hi
  rw [hA] at hr
  have hr2 := hr.set hk v
  rw [← hA] at hr2
  refine ⟨h.sq.set ⟨g0, k, none⟩ (by simp; omega) _, h.rb.other (by simp; omega) _, h.mb.other (by simpa using hne) _, h.lt, h.own.setRow hi hr2 hc, h.no, h.nr⟩
/-- the result's box is written at the end -/
theorem TS.fin (h : TS w wr b a m c bs tb q ad n cap xs A C) (u v : Value) :
    OwnR 31 2 ((wr.setCell ⟨w.heap.size, 0, none⟩ u).setCell ⟨w.heap.size, 1, none⟩ v) w.heap.size ad n cap xs A C ∧ Src ((wr.setCell ⟨w.heap.size, 0, none⟩ u).setCell ⟨w.heap.size, 1, none⟩ v) b a m c bs ∧ Chg (fun j => j = b) w ((wr.setCell ⟨w.heap.size, 0, none⟩ u).setCell ⟨w.heap.size, 1, none⟩ v) := by
  have hs := (h.sq.set ⟨w.heap.size, 0, none⟩ (by simp) u).set ⟨w.heap.size, 1, none⟩ (by simp) v
  exact ⟨((h.own.setLow ⟨w.heap.size, 0, none⟩ (by simp) u).setLow ⟨w.heap.size, 1, none⟩ (by simp) v).mono (by omega), hs.src, hs.chg⟩
end
theorem lit4 {I : Nat} (h : I < 4) : ∃ x : Int, (-65 ≤ x ∧ x ≤ 65) ∧ (#[Value.int .i64 64, Value.int .i64 65, Value.int .i64 (-64), Value.int .i64 (-65)] : Array Value)[I]? = some (.int .i64 x) := by
  rcases (show I = 0 ∨ I = 1 ∨ I = 2 ∨ I = 3 by omega) with rfl | rfl | rfl | rfl
  · exact ⟨64, by omega, rfl⟩
  · exact ⟨65, by omega, rfl⟩
  · exact ⟨-64, by omega, rfl⟩
  · exact ⟨-65, by omega, rfl⟩
def DrawnT (w : World) (b : Nat) (a : Option Addr) (m c : Nat) (bs : List Int) (e : Ending) (w' : World) : Prop :=
  ∃ (q' : Int) (a' : Option Addr) (n' c' : Nat) (ys : List (List Int)), e = .returned (.agg #[.int .i64 q', .slice a' n' c']) ∧ I64 q' ∧ MadeR 31 2 w' w.heap.size a' n' c' ys ∧ n' ≤ 100 ∧ (∀ i, i < n' → (rw_ ys i).length ≤ 100) ∧ Src w' b a m c bs ∧ Chg (fun j => j = b) w w'

set_option maxRecDepth 20000 in
set_option maxHeartbeats 4000000 in
theorem l04Draw_any (b : Nat) (a : Option Addr) (m c : Nat) (bs : List Int) (w : World) (hs : Src w b a m c bs) (hmc : m ≤ c) :
    Calls Try.prog 33 #[.pointer (some ⟨b, 0, none⟩)] w (DrawnT w b a m c bs) := by
  have HC0 := Lib.hid ((SQ.start hs).al (.cells #[.int .i64 0, .slice none 0 0] 26))
  have HR0 := Lib.hid (BX.new w 26 #[.int .i64 0, .slice none 0 0])
  have lb : b < w.heap.size := hs.lt
  clear hs
  go_enter Try.func33, Try.ntmps33
  go_wp2_with fail
  refine (l04Good_any b a m c bs _ (by exact HC0.out.src) hmc).mono ?_
  rintro e w1 ⟨K, R, xs, ad, cap, rfl, hK1, hK2, hR, ⟨A, C, ho⟩, hsm, hs, hc⟩
  have HC1 := Lib.hid (HC0.out.next hs hc rfl rfl rfl rfl)
  have HR1 := Lib.hid (HR0.out.src hc (by omega))
  have HSM := Lib.hid hsm
  have HON := Lib.hid ho.len
  have HT1 : Hid (TS w (w1.alloc (.cells #[.int .i64 K, .slice ad R cap] 26)) b a m c bs w1.heap.size K ad R cap xs A C) := Lib.hid (by
    have hsz : (w.alloc (.cells #[.int .i64 0, .slice none 0 0] 26)).heap.size = w.heap.size + 1 := by simp
    rw [hsz] at ho
    exact ⟨HC1.out.al _, HR1.out.alloc _, BX.new _ _ _, HR1.out.lt, ho.keep ((Below.refl w1.heap.size w1).alloc (Nat.le_refl _) _) (Nat.le_refl _), fun p hp => by have := (ownsRow_block ho.own p hp).2; omega, fun i hi p hp => by have := ((ho.row i hi).block p hp).2; omega⟩)
  obtain ⟨tb, htb⟩ : ∃ x, x = w1.heap.size := ⟨_, rfl⟩
  rw [← htb] at HT1
  have HTB := Lib.hid htb
  clear hs hc ho hsm HC0 HR0 HC1 HR1 htb
  go_wp2_with fail
  rw [← HTB.out]
  refine (l01Next_any b a m c bs 30 _ (by exact HT1.out.sq.src) (by omega) hmc).mono ?_
  rintro e w2 ⟨z, rfl, hz0, hz1, hs, hc⟩
  have HT2 := Lib.hid (HT1.out.next hs hc rfl rfl rfl rfl)
  clear hs hc HT1 HTB
  by_cases h0 : z = 0
  · --
    have e0 : (z == 0) = true := beq_iff_eq.2 h0
    clear h0 hz0 hz1
    go_wp2_with fail
    refine (l01Next_any b a m c bs 7 _ (by exact HT2.out.sq.src) (by omega) hmc).mono ?_
    rintro e w3 ⟨x, rfl, hx0, hx1, hs, hc⟩
    have HT3 := Lib.hid (HT2.out.next hs hc rfl rfl rfl rfl)
    have W1 : IntKind.i64.wrap (x - 1) = x - 1 := IntWalk.i64_in _ (by omega)
    have hxb : -1 ≤ x - 1 ∧ x - 1 ≤ 6 := by omega
    clear hs hc hx0 hx1 HT2

    have y0 := HT3.out.mb.cell 0
    have y1 := HT3.out.mb.cell 1
    have lm := HT3.out.mb.lt
    have lr := HT3.out.rb.lt
    have g0 := HT3.out.mb.frz 0
    have g1 := HT3.out.mb.frz 1
    have f0 := HT3.out.rb.frz 0
    have f1 := HT3.out.rb.frz 1
    have z0 := HT3.out.rb.cell 0
    have z1 := HT3.out.rb.cell 1
    have lt0 := HT3.out.lt
    simp at y0 y1 z0 z1

    have HT4 := Lib.hid (HT3.out.box (q2 := x - 1) 0 (.int .i64 (x - 1)) (by have := HT3.out.mb.set 0 (.int .i64 (x - 1)); exact this) HT3.out.own HT3.out.no HT3.out.nr)
    go_wp2_with fail

    have HF := Lib.hid (HT4.out.fin (.int .i64 (x - 1)) (.slice ad R cap))
    have X := (HT4.out.rb.set 0 (.int .i64 (x - 1))).set 1 (.slice ad R cap)
    have q0 := X.cell 0
    have q1 := X.cell 1
    simp at q0 q1
    refine bodyPost_ret (v := .agg #[.int .i64 (x - 1), .slice ad R cap]) (by simp [results, Try.results33, go_sem, q0, q1]) rfl (by unfold DrawnT; exact ⟨(x - 1), ad, R, cap, xs, rfl, by unfold I64; omega, ⟨_, _, HF.out.1⟩, by omega, fun i hi => by rw [HSM.out.row i (by rw [HON.out]; exact hi)]; omega, HF.out.2.1, HF.out.2.2⟩)
  have e0 : (z == 0) = false := beq_eq_false_iff_ne.2 h0
  by_cases h1 : z = 1
  · --
    have e0 : (z == 0) = false := beq_eq_false_iff_ne.2 h0
    have e1 : (z == 1) = true := beq_iff_eq.2 h1
    clear h0 h1 hz0 hz1

    have y0 := HT2.out.mb.cell 0
    have y1 := HT2.out.mb.cell 1
    have lm := HT2.out.mb.lt
    have lr := HT2.out.rb.lt
    have g0 := HT2.out.mb.frz 0
    have g1 := HT2.out.mb.frz 1
    have f0 := HT2.out.rb.frz 0
    have f1 := HT2.out.rb.frz 1
    have z0 := HT2.out.rb.cell 0
    have z1 := HT2.out.rb.cell 1
    have lt0 := HT2.out.lt
    simp at y0 y1 z0 z1

    go_wp2_with fail
    go_region_law (first
      | (go_simp; go_at_call 18; (refine (l01Next_any b a m c bs 2 _ (by exact HT2.out.sq.src.like rfl) (by omega) hmc).mono ?_; rintro e w7 ⟨x, rfl, hx0, hx1, hs, hc⟩; have HT7 := Lib.hid (HT2.out.next hs hc rfl rfl rfl rfl); obtain ⟨M, hM⟩ : ∃ M : Nat, (M : Int) = K + x := ⟨(K + x).toNat, by omega⟩; have WM : IntKind.i64.wrap ((K : Int) + x) = (M : Int) := (by rw [hM]; exact IntWalk.i64_in _ (by omega)); have hM6 : M ≤ 6 := (by omega); have hmk := run_make_row' (P := Try.prog) 31 2 (.int .i64 0) 8 Try.underlying31 Try.info2 rfl .i64 .i64 M (by omega) (by omega); have y07 := HT7.out.mb.cell 0; have y17 := HT7.out.mb.cell 1; have lm7 := HT7.out.mb.lt; simp at y07 y17; have HLW := Lib.hid HT7.out.low; have HJ2 := Lib.hid ((HT7.out.al (.cells (madeCells #[.int .i64 0] M) 2)).al (.cells #[.slice (some ⟨w7.heap.size, 0, none⟩) M M] 31)); have HV2 : Hid (OwnI 2 ((w7.alloc (.cells (madeCells #[.int .i64 0] M) 2)).alloc (.cells #[.slice (some ⟨w7.heap.size, 0, none⟩) M M] 31)) w7.heap.size (some ⟨w7.heap.size, 0, none⟩) M M (tab M (fun _ => 0))) := Lib.hid ((OwnI.made w7 2 M (by unfold maxLen; omega)).alloc _); have HCA : Hid (((w7.alloc (.cells (madeCells #[.int .i64 0] M) 2)).alloc (.cells #[.slice (some ⟨w7.heap.size, 0, none⟩) M M] 31)).cell? ⟨w7.heap.size + 1, 0, none⟩ = some (.slice (some ⟨w7.heap.size, 0, none⟩) M M)) := Lib.hid (by simp); have HSZ : Hid (w.heap.size + 1 ≤ ((w7.alloc (.cells (madeCells #[.int .i64 0] M) 2)).alloc (.cells #[.slice (some ⟨w7.heap.size, 0, none⟩) M M] 31)).heap.size) := Lib.hid (by have := HT7.out.sz; simp; omega); clear hs hc hx0 hx1 hM))
      | (refine step_pushW rfl (.tmp 17) (.tmp 24) 24 rfl (w.heap.size + 1) 31 (.slice none 0 0) 24 Try.underlying24 Try.infoR rfl (by decide) (.slice (some ⟨w7.heap.size, 0, none⟩) M M) rfl ad R cap (rowVals xs A C R) (w7.heap.size + 1) rfl rfl ?_ ?_ ?_ ?_ ?_; exact HCA.out; exact HJ2.out.own.own; omega; exact HSZ.out; rintro a4 c4 w4 r4 q4 g4; have HNX := HJ2.out.push HLW.out HT7.out.sz2 HV2.out r4 q4 g4 rfl rfl rfl rfl; have HN := Lib.hid HNX.1; have X4 := Lib.hid HNX.2; clear HNX; have f4 := X4.out.frz 1; have y4 := X4.out.cell 1; have l4 := X4.out.lt; simp at y4; clear r4 q4 g4))
    all_goals
      obtain ⟨w5, hw5⟩ : ∃ u, u = w4.setCell ⟨tb, 1, none⟩ (.slice a4 (R + 1) c4) := ⟨_, rfl⟩
      rw [← hw5] at HN ⊢
      clear hw5 f4 y4 l4 y07 y17 lm7 y0 y1 lm lr g0 g1 f0 f1 z0 z1 lt0
      have y0 := HN.out.mb.cell 0
      have y1 := HN.out.mb.cell 1
      have lm := HN.out.mb.lt
      have lr := HN.out.rb.lt
      have g0 := HN.out.mb.frz 0
      have g1 := HN.out.mb.frz 1
      have f0 := HN.out.rb.frz 0
      have f1 := HN.out.rb.frz 1
      have z0 := HN.out.rb.cell 0
      have z1 := HN.out.rb.cell 1
      have lt0 := HN.out.lt
      simp at y0 y1 z0 z1
      go_wp2_with fail
      have HF := Lib.hid (HN.out.fin (.int .i64 K) (.slice a4 (R + 1) c4))
      have X := (HN.out.rb.set 0 (.int .i64 K)).set 1 (.slice a4 (R + 1) c4)
      have q0 := X.cell 0
      have q1 := X.cell 1
      simp at q0 q1
      refine bodyPost_ret (v := .agg #[.int .i64 K, .slice a4 (R + 1) c4]) (by simp [results, Try.results33, go_sem, q0, q1]) rfl (by unfold DrawnT; exact ⟨K, a4, (R + 1), c4, (xs ++ [tab M fun _ => 0]), rfl, by unfold I64; omega, ⟨_, _, HF.out.1⟩, by omega, fun i hi => by (by_cases h : i < R; (rw [rw_append_lt (by rw [HON.out]; exact h), HSM.out.row i (by rw [HON.out]; exact h)]; omega); (obtain rfl : i = xs.length := (by have := HON.out; omega); rw [rw_append_eq, tab_len]; omega)), HF.out.2.1, HF.out.2.2⟩)
  have e1 : (z == 1) = false := beq_eq_false_iff_ne.2 h1
  by_cases h2 : z = 2
  · --
    have e0 : (z == 0) = false := beq_eq_false_iff_ne.2 h0
    have e1 : (z == 1) = false := beq_eq_false_iff_ne.2 h1
    have e2 : (z == 2) = true := beq_iff_eq.2 h2
    clear h0 h1 h2 hz0 hz1

    have y0 := HT2.out.mb.cell 0
    have y1 := HT2.out.mb.cell 1
    have lm := HT2.out.mb.lt
    have lr := HT2.out.rb.lt
    have g0 := HT2.out.mb.frz 0
    have g1 := HT2.out.mb.frz 1
    have f0 := HT2.out.rb.frz 0
    have f1 := HT2.out.rb.frz 1
    have z0 := HT2.out.rb.cell 0
    have z1 := HT2.out.rb.cell 1
    have lt0 := HT2.out.lt
    simp at y0 y1 z0 z1

    by_cases hR0 : 0 < R
    · have d1 : (0 : Int) < (R : Int) := by omega
      obtain ⟨g, rfl, hcl, hfz, hBg, hgl⟩ := HT2.out.own.addr hR0
      have hlr := HSM.out.row 0 (by rw [HON.out]; exact hR0)
      have hc0 := hcl 0 hR0
      have hr := HT2.out.own.row 0 hR0
      rw [hlr] at hr hc0
      obtain ⟨gr, hA0⟩ := hr.addr (by omega)
      rw [hA0] at hc0 hr
      have d2 : (0 : Int) < (K : Int) := by omega
      have d3 : 0 < K := by omega
      have HA0 := Lib.hid hA0
      have HR0 := Lib.hid hR0
      have HLR := Lib.hid hlr
      have gN := HT2.out.nr 0 hR0 _ hA0
      simp at gN
      have gB := (hr.block _ rfl).1
      have gL := (hr.block _ rfl).2
      simp at gB gL
      clear hcl hfz hA0 hlr hr hR0
      go_wp2_with fail
      go_region_law (first
        | (go_simp; go_at_call 18; (refine (l01Next_any b a m c bs 4 _ (by exact (HT2.out.al (.cells #[.int .i64 64, .int .i64 65, .int .i64 (-64), .int .i64 (-65)] 2)).sq.src.like rfl) (by omega) hmc).mono ?_; rintro e w7 ⟨i, rfl, hx0, hx1, hs, hc⟩; have HT7 := Lib.hid ((HT2.out.al (.cells #[.int .i64 64, .int .i64 65, .int .i64 (-64), .int .i64 (-65)] 2)).next hs hc rfl rfl rfl rfl); obtain ⟨I, rfl⟩ : ∃ I : Nat, i = I := ⟨i.toNat, by omega⟩; have hI : I < 4 := (by omega); have hI2 : (I : Int) < 4 := (by omega); obtain ⟨x, hxb, hxi⟩ := lit4 hI; have HXI := Lib.hid hxi; have s2 := HT2.out.sz; have CL7 : w7.cell? ⟨w2.heap.size, I, none⟩ = some (.int .i64 x) := (by rw [World.cell?_of_block (w := w2.alloc (.cells #[.int .i64 64, .int .i64 65, .int .i64 (-64), .int .i64 (-65)] 2)) (a := ⟨w2.heap.size, I, none⟩) (hc.block _ (by simp) (by show ¬ (w2.heap.size = b); omega))]; exact (World.cell?_alloc_at _ _ _ _ rfl).trans HXI.out); have y17 := HT7.out.mb.cell 1; have lm7 := HT7.out.mb.lt; have hc07 := (HT7.out.at_ HR0.out).1; rw [HA0.out, HLR.out] at hc07; have hr7 := HT7.out.own.row 0 HR0.out; rw [HA0.out, HLR.out] at hr7; have fr7 := hr7.frozen 0; have ce7 := hr7.cellAt (show 0 < K by omega); have gl7 : gr < w7.heap.size := (hr7.block _ rfl).2; have gg7 := (HT7.out.at_ HR0.out).2; simp at y17; clear hs hc hx0 hx1 hr7 hxi hI s2))
        | (go_simp; go_at_call 18; (refine (l01Next_any b a m c bs 4 _ (by exact HT2.out.sq.src.like rfl) (by omega) hmc).mono ?_; rintro e w7 ⟨i, rfl, hx0, hx1, hs, hc⟩; have HT7 := Lib.hid (HT2.out.next hs hc rfl rfl rfl rfl); obtain ⟨I, rfl⟩ : ∃ I : Nat, i = I := ⟨i.toNat, by omega⟩; have hI : I < 4 := (by omega); have hI2 : (I : Int) < 4 := (by omega); obtain ⟨x, hxb, hxi⟩ := lit4 hI; have HXI := Lib.hid hxi; have s2 := HT2.out.sz; have HX0 := HXI.out; have CL8 : (w7.alloc (.cells #[.int .i64 64, .int .i64 65, .int .i64 (-64), .int .i64 (-65)] 2)).cell? ⟨w7.heap.size, I, none⟩ = some (.int .i64 x) := ((World.cell?_alloc_at _ _ _ _ rfl).trans HXI.out); have y17 := HT7.out.mb.cell 1; have lm7 := HT7.out.mb.lt; have hc07 := (HT7.out.at_ HR0.out).1; rw [HA0.out, HLR.out] at hc07; have hr7 := HT7.out.own.row 0 HR0.out; rw [HA0.out, HLR.out] at hr7; have fr7 := hr7.frozen 0; have ce7 := hr7.cellAt (show 0 < K by omega); have gl7 : gr < w7.heap.size := (hr7.block _ rfl).2; have gg7 := (HT7.out.at_ HR0.out).2; simp at y17; clear hs hc hx0 hx1 hr7 hxi hI s2)))
      all_goals
        have HT8 := Lib.hid (HT7.out.setInt (k := 0) (v := x) HR0.out HA0.out (by rw [HLR.out]; exact d3))
        clear y17 lm7 hc07 fr7 ce7 gl7 gg7 y0 y1 lm lr g0 g1 f0 f1 z0 z1 lt0
        first
          | (obtain ⟨w5, hw5⟩ : ∃ u, u = (w7.setCell ⟨gr, 0, none⟩ (.int .i64 x)).alloc (.cells #[.int .i64 64, .int .i64 65, .int .i64 (-64), .int .i64 (-65)] 2) := ⟨_, rfl⟩; have HT5 := Lib.hid (HT8.out.al (.cells #[.int .i64 64, .int .i64 65, .int .i64 (-64), .int .i64 (-65)] 2)); rw [← hw5] at HT5 ⊢; clear hw5)
          | (obtain ⟨w5, hw5⟩ : ∃ u, u = w7.setCell ⟨gr, 0, none⟩ (.int .i64 x) := ⟨_, rfl⟩; have HT5 := HT8; rw [← hw5] at HT5 ⊢; clear hw5)
        have y0 := HT5.out.mb.cell 0
        have y1 := HT5.out.mb.cell 1
        have lm := HT5.out.mb.lt
        have lr := HT5.out.rb.lt
        have g0 := HT5.out.mb.frz 0
        have g1 := HT5.out.mb.frz 1
        have f0 := HT5.out.rb.frz 0
        have f1 := HT5.out.rb.frz 1
        have z0 := HT5.out.rb.cell 0
        have z1 := HT5.out.rb.cell 1
        have lt0 := HT5.out.lt
        simp at y0 y1 z0 z1
        go_wp2_with fail
        have HF := Lib.hid (HT5.out.fin (.int .i64 K) (.slice (some ⟨g, 0, none⟩) R cap))
        have X := (HT5.out.rb.set 0 (.int .i64 K)).set 1 (.slice (some ⟨g, 0, none⟩) R cap)
        have q0 := X.cell 0
        have q1 := X.cell 1
        simp at q0 q1
        refine bodyPost_ret (v := .agg #[.int .i64 K, .slice (some ⟨g, 0, none⟩) R cap]) (by simp [results, Try.results33, go_sem, q0, q1]) rfl (by unfold DrawnT; exact ⟨K, (some ⟨g, 0, none⟩), R, cap, (rowSet xs 0 ((rw_ xs 0).set 0 x)), rfl, by unfold I64; omega, ⟨_, _, HF.out.1⟩, by omega, fun i hi => by (by_cases h : i = 0; (subst h; rw [rowSet_eq (by rw [HON.out]; exact hi), List.length_set, HSM.out.row 0 (by rw [HON.out]; exact hi)]; omega); (rw [rowSet_ne (by rw [HON.out]; exact hi) h, HSM.out.row i (by rw [HON.out]; exact hi)]; omega)), HF.out.2.1, HF.out.2.2⟩)
    · have d1 : ¬ (0 : Int) < (R : Int) := by omega
      go_wp2_with fail
      have HF := Lib.hid (HT2.out.fin (.int .i64 K) (.slice ad R cap))
      have X := (HT2.out.rb.set 0 (.int .i64 K)).set 1 (.slice ad R cap)
      have q0 := X.cell 0
      have q1 := X.cell 1
      simp at q0 q1
      refine bodyPost_ret (v := .agg #[.int .i64 K, .slice ad R cap]) (by simp [results, Try.results33, go_sem, q0, q1]) rfl (by unfold DrawnT; exact ⟨K, ad, R, cap, xs, rfl, by unfold I64; omega, ⟨_, _, HF.out.1⟩, by omega, fun i hi => by rw [HSM.out.row i (by rw [HON.out]; exact hi)]; omega, HF.out.2.1, HF.out.2.2⟩)
  have e2 : (z == 2) = false := beq_eq_false_iff_ne.2 h2
  by_cases h3 : z = 3
  · --
    have e3 : (z == 3) = true := beq_iff_eq.2 h3
    clear h0 h1 h2 h3 hz0 hz1

    have y0 := HT2.out.mb.cell 0
    have y1 := HT2.out.mb.cell 1
    have lm := HT2.out.mb.lt
    have lr := HT2.out.rb.lt
    have g0 := HT2.out.mb.frz 0
    have g1 := HT2.out.mb.frz 1
    have f0 := HT2.out.rb.frz 0
    have f1 := HT2.out.rb.frz 1
    have z0 := HT2.out.rb.cell 0
    have z1 := HT2.out.rb.cell 1
    have lt0 := HT2.out.lt
    simp at y0 y1 z0 z1

    have hmk := run_make_row' (P := Try.prog) 24 31 (.slice none 0 0) 24 Try.underlying24 Try.infoR rfl .i64 .i64 13 (by omega) (by omega)
    rw [show ((13 : Nat) : Int) = 13 from rfl] at hmk
    have HTA := Lib.hid (HT2.out.al (.cells (madeCells #[.slice none 0 0] 13) 31))
    have HNW := Lib.hid ((HO.start w2 31 2 13 (by unfold maxLen; omega)).own)
    have s2 := HT2.out.sz2
    have s22 := HT2.out.sz
    have HT4 := Lib.hid (HTA.out.box (q2 := K) 1 (.slice (some ⟨w2.heap.size, 0, none⟩) 13 13) (by have := HTA.out.mb.set 1 (.slice (some ⟨w2.heap.size, 0, none⟩) 13 13); exact this) (HNW.out.mono (by omega)) (fun p hp => by injection hp with hp; subst hp; simp; omega) (fun i hi p hp => by cases hp))
    go_wp2_with fail

    have HF := Lib.hid (HT4.out.fin (.int .i64 K) (.slice (some ⟨w2.heap.size, 0, none⟩) 13 13))
    have X := (HT4.out.rb.set 0 (.int .i64 K)).set 1 (.slice (some ⟨w2.heap.size, 0, none⟩) 13 13)
    have q0 := X.cell 0
    have q1 := X.cell 1
    have EW : ∀ (o : Obj) (v1 v2 v3 : Value), (((w2.alloc o).setCell ⟨tb, 1, none⟩ v1).setCell ⟨w.heap.size, 0, none⟩ v2).setCell ⟨w.heap.size, 1, none⟩ v3 = (((w2.setCell ⟨tb, 1, none⟩ v1).setCell ⟨w.heap.size, 0, none⟩ v2).setCell ⟨w.heap.size, 1, none⟩ v3).alloc o := fun o v1 v2 v3 => by
      rw [World.setCell_alloc_past _ _ _ _ s2, World.setCell_alloc_past _ _ _ _ (by simp [World.setCell]; omega), World.setCell_alloc_past _ _ _ _ (by simp [World.setCell]; omega)]
    rw [EW] at HF q0 q1
    replace q0 := q0.trans (show _ = some (Value.int .i64 (K : Int)) from rfl)
    replace q1 := q1.trans (show _ = some (Value.slice (some ⟨w2.heap.size, 0, none⟩) 13 13) from rfl)
    refine bodyPost_ret (v := .agg #[.int .i64 K, .slice (some ⟨w2.heap.size, 0, none⟩) 13 13]) (by simp [results, Try.results33, go_sem, q0, q1]) rfl (by unfold DrawnT; exact ⟨K, (some ⟨w2.heap.size, 0, none⟩), 13, 13, (tab 13 fun _ => []), rfl, by unfold I64; omega, ⟨_, _, HF.out.1⟩, by omega, fun i hi => by rw [rw_tab hi]; simp, HF.out.2.1, HF.out.2.2⟩)
  have e3 : (z == 3) = false := beq_eq_false_iff_ne.2 h3
  clear h0 h1 h2 h3 hz0 hz1
  have y0 := HT2.out.mb.cell 0
  have y1 := HT2.out.mb.cell 1
  have lm := HT2.out.mb.lt
  have lr := HT2.out.rb.lt
  have g0 := HT2.out.mb.frz 0
  have g1 := HT2.out.mb.frz 1
  have f0 := HT2.out.rb.frz 0
  have f1 := HT2.out.rb.frz 1
  have z0 := HT2.out.rb.cell 0
  have z1 := HT2.out.rb.cell 1
  have lt0 := HT2.out.lt
  simp at y0 y1 z0 z1

  go_wp2_with fail

  have HF := Lib.hid (HT2.out.fin (.int .i64 K) (.slice ad R cap))
  have X := (HT2.out.rb.set 0 (.int .i64 K)).set 1 (.slice ad R cap)
  have q0 := X.cell 0
  have q1 := X.cell 1
  simp at q0 q1
  refine bodyPost_ret (v := .agg #[.int .i64 K, .slice ad R cap]) (by simp [results, Try.results33, go_sem, q0, q1]) rfl (by unfold DrawnT; exact ⟨K, ad, R, cap, xs, rfl, by unfold I64; omega, ⟨_, _, HF.out.1⟩, by omega, fun i hi => by rw [HSM.out.row i (by rw [HON.out]; exact hi)]; omega, HF.out.2.1, HF.out.2.2⟩)
end Go.Proofs.Ytcnphhcdjhmmkaa
