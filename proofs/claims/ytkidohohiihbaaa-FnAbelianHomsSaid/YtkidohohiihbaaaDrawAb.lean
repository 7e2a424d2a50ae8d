/- Draws of abelian groups: whatever the code, a value of the type with few factors. -/
import Derived.Test.YtkidohohiihbaaaDraw1
import Derived.Deep.RegionHeld3
import Derived.Deep.RegionLaw
import Derived.OwnWalk
set_option linter.unusedVariables false
set_option linter.unusedSimpArgs false
namespace Go.Proofs.Ytkidohohiihbaaa
open Go.RowKit

/-- a call that draws an abelian group: the source, the result's box (still zero), the box of the group, the factors of the call's own -/
structure AbS (w wr : World) (b : Nat) (a : Option Addr) (m c : Nat) (bs : List Int) (B : Nat) (af : Option Addr) (nf cf : Nat) (xs : List Int) (r : Int) : Prop where
  s0 : Src w b a m c bs
  bx : ∃ k s : Nat, BX 137 wr b #[.slice a m c, .int .i64 k, .int .i64 s] ∧ k ≤ m ∧ s < 2147483647
  chg : Chg (fun j => j = b) w wr
  rb : BX 37 wr w.heap.size #[.slice none 0 0, .int .i64 0]
  ab : BX 37 wr B #[.slice af nf cf, .int .i64 r]
  own : OwnI 2 wr (w.heap.size + 1) af nf cf xs
  ap : ∀ p, af = some p → p.block ≠ B
  lo : w.heap.size < B
  i64 : ∀ x ∈ xs, I64 x
/-- how many factors stand in the box -/
def lenAt (w : World) (B : Nat) : Nat := match w.cell? ⟨B, 0, none⟩ with
  | some (.slice _ n _) => n
  | _ => 0
section
variable {w wr w2 w3 : World} {b : Nat} {a : Option Addr} {m c : Nat} {bs : List Int} {B : Nat} {af a4 : Option Addr} {nf cf c4 : Nat} {xs : List Int} {r : Int}
theorem AbS.bw (h : AbS w wr b a m c bs B af nf cf xs r) : b < w.heap.size := h.s0.lt
theorem AbS.src (h : AbS w wr b a m c bs B af nf cf xs r) : Src wr b a m c bs := by
  obtain ⟨k, s, h1, h2, h3⟩ := h.bx
  exact h.s0.set k s h1 h2 h3 h.chg
theorem AbS.hB (h : AbS w wr b a m c bs B af nf cf xs r) : B + 1 ≤ wr.heap.size := h.ab.lt
theorem AbS.next (h : AbS w wr b a m c bs B af nf cf xs r) (hs : Src w2 b a m c bs) (hc : Chg (fun j => j = b) wr w2) : AbS w w2 b a m c bs B af nf cf xs r :=
  ⟨h.s0, hs.box, h.chg.trans (hc.mono (fun _ _ e => e)), h.rb.chg hc (by have := h.bw; omega), h.ab.chg hc (by have := h.bw; have := h.lo; omega), h.own.kept hc (fun p hp e => by have := (h.own.block p hp).1; have := h.bw; have := h.lo; omega), h.ap, h.lo, h.i64⟩
theorem AbS.alloc (h : AbS w wr b a m c bs B af nf cf xs r) (o : Obj) : AbS w (wr.alloc o) b a m c bs B af nf cf xs r := by
  obtain ⟨k, s, h1, h2, h3⟩ := h.bx
  exact ⟨h.s0, ⟨k, s, h1.alloc o, h2, h3⟩, h.chg.alloc o, h.rb.alloc o, h.ab.alloc o, h.own.alloc o, h.ap, h.lo, h.i64⟩
/-- the box of the group and its factors anew -/
theorem AbS.put {n4 : Nat} {ys : List Int} {s : Int} (h : AbS w wr b a m c bs B af nf cf xs r) (hb : Below (w.heap.size + 1) wr w3) (hab : BX 37 w3 B #[.slice a4 n4 c4, .int .i64 s]) (hown : OwnI 2 w3 (w.heap.size + 1) a4 n4 c4 ys) (hap : ∀ p, a4 = some p → p.block ≠ B) (hy : ∀ x ∈ ys, I64 x) : AbS w w3 b a m c bs B a4 n4 c4 ys s := by
  obtain ⟨k, t, h1, h2, h3⟩ := h.bx
  have hlo := h.lo
  have hbw := h.bw
  exact ⟨h.s0, ⟨k, t, (hb.block b (by omega)).trans h1, h2, h3⟩, ⟨hb.os.trans h.chg.os, hb.tape.trans h.chg.tape, hb.output.trans h.chg.output, Nat.le_trans h.chg.size hb.size, fun k hk hn => (hb.block k (by omega)).trans (h.chg.block k hk hn)⟩, (hb.block _ (by omega)).trans h.rb, hab, hown, hap, hlo, hy⟩
/-- one more factor, appended and stored -/
theorem AbS.push {x : Int} (h : AbS w wr b a m c bs B af nf cf xs r) (hx : I64 x) (r4 : w2.ownsRow (w.heap.size + 1) 2 1 (.slice a4 (nf + 1) c4) (nf + 1) (xs.map (Value.int .i64) ++ [.int .i64 x])) (q4 : a4 = af ∨ ∃ p, a4 = some p ∧ wr.heap.size ≤ p.block) (g4 : Chg (fun k => ∃ p, af = some p ∧ p.block = k) wr w2) :
    AbS w (w2.setCell ⟨B, 0, none⟩ (.slice a4 (nf + 1) c4)) b a m c bs B a4 (nf + 1) c4 (xs ++ [x]) r := by
  have hlo := h.lo
  have hB := h.hB
  have hgb : Below (w.heap.size + 1) wr w2 := g4.below (by omega) (fun k hk hx => by obtain ⟨p, hp, e⟩ := hx; have := (h.own.block p hp).1; omega)
  have hab2 : BX 37 w2 B #[.slice af nf cf, .int .i64 r] := h.ab.chg g4 (fun hx => by obtain ⟨p, hp, e⟩ := hx; exact h.ap p hp e)
  have hap4 : ∀ p, a4 = some p → p.block ≠ B := fun p hp => by
    rcases q4 with q4 | ⟨p', q4, q5⟩
    · rw [q4] at hp; exact h.ap p hp
    · rw [q4] at hp; injection hp with hp; subst hp; omega
  refine h.put (hgb.setCell (p := ⟨B, 0, none⟩) (show w.heap.size + 1 ≤ B from hlo) _) (hab2.set 0 _) ((OwnI.pushed r4).same (fun p hp => Below.heap_setCell _ _ _ _ (hap4 p hp))) hap4 (fun y hy => ?_)
  rw [List.mem_append] at hy
  rcases hy with hy | hy
  · exact h.i64 y hy
  · simp at hy; subst hy; exact hx
/-- the result's box is written at the end -/
theorem AbS.fin (h : AbS w wr b a m c bs B af nf cf xs r) (u v : Value) : OwnI 2 ((wr.setCell ⟨w.heap.size, 0, none⟩ u).setCell ⟨w.heap.size, 1, none⟩ v) w.heap.size af nf cf xs ∧ Src ((wr.setCell ⟨w.heap.size, 0, none⟩ u).setCell ⟨w.heap.size, 1, none⟩ v) b a m c bs ∧ Chg (fun j => j = b) w ((wr.setCell ⟨w.heap.size, 0, none⟩ u).setCell ⟨w.heap.size, 1, none⟩ v) := by
  have hb : Below w.heap.size wr ((wr.setCell ⟨w.heap.size, 0, none⟩ u).setCell ⟨w.heap.size, 1, none⟩ v) := ((Below.refl _ _).setCell (p := ⟨w.heap.size, 0, none⟩) (Nat.le_refl _) _).setCell (p := ⟨w.heap.size, 1, none⟩) (Nat.le_refl _) _
  have hbw := h.bw
  have hc : Chg (fun j => j = b) w ((wr.setCell ⟨w.heap.size, 0, none⟩ u).setCell ⟨w.heap.size, 1, none⟩ v) := ⟨hb.os.trans h.chg.os, hb.tape.trans h.chg.tape, hb.output.trans h.chg.output, Nat.le_trans h.chg.size hb.size, fun k hk hn => (hb.block k hk).trans (h.chg.block k hk hn)⟩
  obtain ⟨k, t, h1, h2, h3⟩ := h.bx
  exact ⟨((h.own.setCell (p := ⟨w.heap.size, 0, none⟩) (by simp) _).setCell (p := ⟨w.heap.size, 1, none⟩) (by simp) _).mono (by omega), h.s0.set k t ((hb.block b hbw).trans h1) h2 h3 hc, hc⟩
/-- another world with the same memory -/
theorem AbS.like (h : AbS w wr b a m c bs B af nf cf xs r) (h1 : w2.heap = wr.heap) (h2 : w2.os = wr.os) (h3 : w2.tape = wr.tape) (h4 : w2.output = wr.output) : AbS w w2 b a m c bs B af nf cf xs r := by
  obtain ⟨k, s, k1, k2, k3⟩ := h.bx
  refine ⟨h.s0, ⟨k, s, by unfold BX; rw [h1]; exact k1, k2, k3⟩, ⟨h2.trans h.chg.os, h3.trans h.chg.tape, h4.trans h.chg.output, by rw [h1]; exact h.chg.size, fun k hk hn => by rw [h1]; exact h.chg.block k hk hn⟩, by unfold BX; rw [h1]; exact h.rb, by unfold BX; rw [h1]; exact h.ab, h.own.same (fun p hp => by rw [h1]), h.ap, h.lo, h.i64⟩
/-- .. the append told of a world with the same memory -/
theorem AbS.pushR {W : World} {x : Int} (h : AbS w wr b a m c bs B af nf cf xs r) (hx : I64 x) (r4 : w2.ownsRow (w.heap.size + 1) 2 1 (.slice a4 (nf + 1) c4) (nf + 1) (xs.map (Value.int .i64) ++ [.int .i64 x])) (q4 : a4 = af ∨ ∃ p, a4 = some p ∧ W.heap.size ≤ p.block) (g4 : Chg (fun k => ∃ p, af = some p ∧ p.block = k) W w2)
    (h1 : W.heap = wr.heap) (h2 : W.os = wr.os) (h3 : W.tape = wr.tape) (h4 : W.output = wr.output) : AbS w (w2.setCell ⟨B, 0, none⟩ (.slice a4 (nf + 1) c4)) b a m c bs B a4 (nf + 1) c4 (xs ++ [x]) r ∧ BX 37 w2 B #[.slice af nf cf, .int .i64 r] := by
  have hP := h.like h1 h2 h3 h4
  exact ⟨hP.push hx r4 q4 g4, hP.ab.chg g4 (fun hx => by obtain ⟨p, hp, e⟩ := hx; exact hP.ap p hp e)⟩
theorem Src.like {w w2 : World} {b : Nat} {a : Option Addr} {m c : Nat} {bs : List Int} (h : Src w b a m c bs) (h1 : w2.heap = w.heap) : Src w2 b a m c bs := by
  obtain ⟨⟨k, s, k1, k2, k3⟩, ⟨c1, c2, c3, c4⟩, h5⟩ := h
  exact ⟨⟨k, s, by unfold BX; rw [h1]; exact k1, k2, k3⟩, ⟨c1, c2.same (fun p hp => by rw [h1]), c3, c4⟩, h5⟩
theorem lenAt_bx {v : Value} (h : BX 37 wr B #[.slice af nf cf, v]) : lenAt wr B = nf := by
  have h0 := h.cell 0
  simp at h0
  unfold lenAt
  rw [h0]
end
/-- with no choice nothing is drawn -/
theorem l01Next_one (p : Option Addr) (n : Int) (w : World) (hn : n ≤ 1) (hn2 : -1000 ≤ n) :
    Calls Try.prog 77 #[.pointer p, .int .i64 n] w fun e w' => e = .returned (.int .i64 0) ∧ w = w' := by
  go_enter Try.func77, Try.ntmps77
  go_wp2
  go_ret
  exact ⟨rfl, rfl⟩
set_option maxRecDepth 20000 in
set_option maxHeartbeats 4000000 in
theorem l05Good_any (b : Nat) (a : Option Addr) (m c : Nat) (bs : List Int) (w : World) (hs : Src w b a m c bs) (hmc : m ≤ c) :
    Calls Try.prog 186 #[.pointer (some ⟨b, 0, none⟩)] w fun e w' => ∃ (xs : List Int) (r : Int) (af : Option Addr) (nf cf : Nat), e = .returned (.agg #[.slice af nf cf, .int .i64 r]) ∧ OwnI 2 w' w.heap.size af nf cf xs ∧ nf ≤ 20 ∧ (∀ x ∈ xs, I64 x) ∧ I64 r ∧ Src w' b a m c bs ∧ Chg (fun j => j = b) w w' := by
  have HS := Lib.hid hs
  have lb := hs.lt
  clear hs
  have HA0 : Hid (AbS w (((w.alloc (.cells #[.slice none 0 0, .int .i64 0] 37)).alloc (.cells #[] 2)).alloc (.cells #[.slice (some ⟨w.heap.size + 1, 0, none⟩) 0 0, .int .i64 0] 37)) b a m c bs (w.heap.size + 1 + 1) (some ⟨w.heap.size + 1, 0, none⟩) 0 0 [] 0) := by
    refine Lib.hid ⟨HS.out, ?_, (((Chg.refl _ w).alloc _).alloc _).alloc _, ((BX.new w _ _).alloc _).alloc _, ?_, ?_, fun p hp => ?_, by omega, by simp⟩
    · obtain ⟨k, s, h1, h2, h3⟩ := HS.out.box
      exact ⟨k, s, ((h1.alloc _).alloc _).alloc _, h2, h3⟩
    · rw [show w.heap.size + 1 + 1 = ((w.alloc (.cells #[.slice none 0 0, .int .i64 0] 37)).alloc (.cells #[] 2)).heap.size by simp]; exact BX.new _ _ _
    · have h := OwnI.empty (w.alloc (.cells #[.slice none 0 0, .int .i64 0] 37)) 2
      rw [show (w.alloc (.cells #[.slice none 0 0, .int .i64 0] 37)).heap.size = w.heap.size + 1 by simp] at h
      exact h.alloc _
    · injection hp with hp; subst hp; simp
  go_enter Try.func186, Try.ntmps186
  go_wp2_with fail
  refine (l01Next_any b a m c bs 4 _ (by exact HA0.out.src) (by omega) hmc).mono ?_
  rintro e w1 ⟨k, rfl, hk0, hk1, hs, hc⟩
  have HA1 := Lib.hid (HA0.out.next hs hc)
  obtain ⟨K, rfl⟩ : ∃ K : Nat, k = K := ⟨k.toNat, by omega⟩
  have hK : K ≤ 3 := by omega
  clear hs hc hk0 hk1
  go_wp2_with fail
  go_loopw [5, 4] (fun i v wr => ∃ (j d : Nat) (xs : List Int) (af : Option Addr) (nf cf : Nat), j ≤ K ∧ i = .int .i64 j ∧ v = .int .i64 d ∧ d ≤ 4 ^ (K - j) ∧ nf + j ≤ K ∧ Hid (AbS w wr b a m c bs (w.heap.size + 1 + 1) af nf cf xs 0)) (fun i _ _ => (intOf i).toNat)
  case atStart => exact ⟨K, 1, [], _, 0, 0, Nat.le_refl _, rfl, rfl, by simp, by omega, HA1⟩
  case round =>
    obtain ⟨j, d, xs, af, nf, cf, hj, rfl, rfl, hd, hnf, HJ⟩ := hrel
    obtain ⟨wi, rfl⟩ : ∃ x, x = wr := ⟨wr, rfl⟩
    have hp : 4 ^ (K - j) ≤ 64 := Nat.le_trans (Nat.pow_le_pow_right (by omega) (show K - j ≤ 3 by omega)) (by decide)
    by_cases hj0 : 0 < j
    · obtain ⟨j', rfl⟩ : ∃ j', j = j' + 1 := ⟨j - 1, by omega⟩
      have d2 : (0 : Int) < (j' : Int) + 1 := by omega
      have d1 : decide ((0 : Int) < (j' : Int) + 1) = true := decide_eq_true d2
      have HD := Lib.hid hd
      have HNF := Lib.hid hnf
      have hnf3 : nf ≤ 3 := by omega
      have HE : Hid (4 ^ (K - j') = 4 ^ (K - (j' + 1)) * 4) := Lib.hid (by rw [show K - j' = (K - (j' + 1)) + 1 by omega, Nat.pow_succ])
      have hd64 : d ≤ 64 := by omega
      clear hd hp hj0 hnf
      go_wp2_with fail
      refine (l01Next_any b a m c bs 4 wi HJ.out.src (by omega) hmc).mono ?_
      rintro e w2 ⟨y, rfl, hy0, hy1, hs, hc⟩
      obtain ⟨Y, rfl⟩ : ∃ Y : Nat, y = Y := ⟨y.toNat, by omega⟩
      have hY : Y ≤ 3 := by omega
      have HJ2 := Lib.hid (HJ.out.next hs hc)
      clear hs hc hy0 hy1
      have hmul : (d : Int) * (1 + (Y : Int)) = ((d * (1 + Y) : Nat) : Int) := by rw [Int.natCast_mul]; rfl
      have hle : d * (1 + Y) ≤ 64 * 4 := Nat.mul_le_mul hd64 (by omega)
      have HLe : Hid (d * (1 + Y) ≤ 4 ^ (K - j')) := Lib.hid (by rw [HE.out]; exact Nat.mul_le_mul HD.out (by omega))
      have x0 := HJ2.out.ab.cell 0
      simp at x0
      have f0 := HJ2.out.ab.frz 0
      have lx := HJ2.out.ab.lt
      have hsz : w.heap.size + 1 ≤ w2.heap.size := by have := HJ2.out.hB; omega
      have W1 : IntKind.i64.wrap ((d : Int) * (1 + (Y : Int))) = ((d * (1 + Y) : Nat) : Int) := by rw [hmul]; exact IntWalk.i64_in _ (by omega)
      generalize d * (1 + Y) = D at *
      by_cases hbig : 1 < D
      · have e1 : (1 : Int) < (D : Int) := by omega
        have e2 : decide ((1 : Int) < (D : Int)) = true := decide_eq_true e1
        have e3 : decide (1 < D) = true := decide_eq_true hbig
        go_wp2_with (at_builtin; refine wpList_push rfl (.tmp 22) (.tmp 24) 25 rfl (w.heap.size + 1) 2 (.int .i64 0) 8 Try.underlying25 Try.info2 rfl (by decide) (.int .i64 D) rfl _ _ _ _ rfl rfl (by exact HJ2.out.own) (by omega) (by exact hsz) ?_; rintro a4 c4 w4 r4 q4 g4; have HN := Lib.hid (HJ2.out.push (x := D) (by unfold I64; omega) r4 q4 g4); have X4 := Lib.hid (HJ2.out.ab.chg g4 (fun hx => by obtain ⟨p, hp, e⟩ := hx; exact HJ2.out.ap p hp e)); have f4 := X4.out.frz 0; have y0 := X4.out.cell 0; have l4 := X4.out.lt; clear r4 q4 g4)
        go_wp2_with fail
        go_roundw
        case rel => exact ⟨j', D, _, a4, nf + 1, c4, by omega, by go_num, rfl, HLe.out, by have := HNF.out; omega, HN⟩
        case measure => simp [intOf]
      · have e1 : ¬ ((1 : Int) < (D : Int)) := by omega
        have e2 : decide ((1 : Int) < (D : Int)) = false := decide_eq_false e1
        have e3 : decide (1 < D) = false := decide_eq_false hbig
        go_wp2_with fail
        go_roundw
        case rel => exact ⟨j', D, xs, af, nf, cf, by omega, by go_num, rfl, HLe.out, by have := HNF.out; omega, HJ2⟩
        case measure => simp [intOf]
    · obtain rfl : j = 0 := by omega
      have hnf3 : nf ≤ 3 := by omega
      clear hp hd hnf hj0
      go_wp2_with fail
      refine (l01Next_any b a m c bs 3 wi HJ.out.src (by omega) hmc).mono ?_
      rintro e w2 ⟨y, rfl, hy0, hy1, hs, hc⟩
      have HJ2 := Lib.hid (HJ.out.next hs hc)
      clear hs hc
--GOOD2
      have hsz2 : w.heap.size + 1 + 1 + 1 ≤ w2.heap.size := HJ2.out.hB
      have HZ : ∃ (wz : World) (r0 : Int), I64 r0 ∧ AbS w wz b a m c bs (w.heap.size + 1 + 1) af nf cf xs r0 := ⟨w2, 0, by unfold I64; omega, HJ2.out⟩
      clear HZ
      by_cases hy : y = 0
      · have e1 : (y == 0) = true := beq_iff_eq.2 hy
        clear hy hy0 hy1
        go_wp2_with fail
        refine (l01Next_any b a m c bs 4 w2 HJ2.out.src (by omega) hmc).mono ?_
        rintro e w3 ⟨r0, rfl, hr0, hr1, hs, hc⟩
        have HJ3 := Lib.hid (HJ2.out.next hs hc)
        have x0 := HJ3.out.ab.cell 0
        have x1 := HJ3.out.ab.cell 1
        simp at x0 x1
        have f1 := HJ3.out.ab.frz 1
        have lx := HJ3.out.ab.lt
        clear hs hc
        go_wp2_with fail
        have hzz : AbS w (w3.setCell ⟨w.heap.size + 1 + 1, 1, none⟩ (.int .i64 r0)) b a m c bs (w.heap.size + 1 + 1) af nf cf xs r0 := HJ3.out.put ((Below.refl _ _).setCell (p := ⟨w.heap.size + 1 + 1, 1, none⟩) (by simp) _) (HJ3.out.ab.set 1 _) (HJ3.out.own.same (fun p hp => Below.heap_setCell _ _ _ _ (HJ3.out.ap p hp))) HJ3.out.ap HJ3.out.i64
        obtain ⟨wz, hwz⟩ : ∃ x, x = w3.setCell ⟨w.heap.size + 1 + 1, 1, none⟩ (.int .i64 r0) := ⟨_, rfl⟩
        rw [← hwz] at hzz ⊢
        have HZ := Lib.hid hzz
        have hrr : I64 r0 := by unfold I64; omega
        clear hzz hwz x0 x1 f1 lx HJ3 hr0 hr1
        have HRR := Lib.hid hrr
        clear hrr
        refine (l01Next_any b a m c bs 16 wz HZ.out.src (by omega) hmc).mono ?_
        rintro e w5 ⟨z, rfl, hz0, hz1, hs, hc⟩
        have HZ5 := Lib.hid (HZ.out.next hs hc)
        clear hs hc
        by_cases hz : z = 0
        · have e2 : (z == 0) = true := beq_iff_eq.2 hz
          clear hz hz0 hz1
          go_wp2_with fail
          refine (l01Next_any b a m c bs 2 _ (by exact (HZ5.out.alloc _).src) (by omega) hmc).mono ?_
          rintro e w6 ⟨q, rfl, hq0, hq1, hs, hc⟩
          have HZ6 := Lib.hid ((HZ5.out.alloc (.cells #[] 2)).next hs hc)
          have hs5 := HZ5.out.hB
          have HOE : Hid (OwnI 2 w6 (w.heap.size + 1) (some ⟨w5.heap.size, 0, none⟩) 0 0 []) := Lib.hid (((OwnI.empty w5 2).mono (by omega)).kept hc (fun p hp e => by injection hp with hp; subst hp; simp at e; omega))
          have x0 := HZ6.out.ab.cell 0
          have x1 := HZ6.out.ab.cell 1
          simp at x0 x1
          have f0 := HZ6.out.ab.frz 0
          have f1 := HZ6.out.ab.frz 1
          have lx := HZ6.out.ab.lt
          have hI : I64 q := by unfold I64; omega
          have HQI := Lib.hid hI
          have HZ7 : Hid (AbS w ((w6.setCell ⟨w.heap.size + 1 + 1, 0, none⟩ (.slice (some ⟨w5.heap.size, 0, none⟩) 0 0)).setCell ⟨w.heap.size + 1 + 1, 1, none⟩ (.int .i64 q)) b a m c bs (w.heap.size + 1 + 1) (some ⟨w5.heap.size, 0, none⟩) 0 0 [] q) := by
            have hne : ∀ p, (some ⟨w5.heap.size, 0, none⟩ : Option Addr) = some p → p.block ≠ w.heap.size + 1 + 1 := fun p hp => by injection hp with hp; subst hp; simp; omega
            refine Lib.hid (HZ6.out.put (((Below.refl _ _).setCell (p := ⟨w.heap.size + 1 + 1, 0, none⟩) (by simp) _).setCell (p := ⟨w.heap.size + 1 + 1, 1, none⟩) (by simp) _) ((HZ6.out.ab.set 0 _).set 1 _) ?_ hne (by simp))
            exact (HOE.out.same (fun p hp => Below.heap_setCell _ _ _ _ (hne p hp))).same (fun p hp => Below.heap_setCell _ _ _ _ (hne p hp))
          clear hs hc hq0 hq1 hI
          go_wp2_with fail
          go_loopw [43] (fun _ wr => ∃ (ys : List Int) (ag : Option Addr) (ng cg : Nat), ng ≤ 9 ∧ Hid (AbS w wr b a m c bs (w.heap.size + 1 + 1) ag ng cg ys q)) (fun _ wr => 9 - lenAt wr (w.heap.size + 1 + 1))
          case atStart => exact ⟨[], _, 0, 0, by omega, HZ7⟩
          case round =>
            obtain ⟨ys, ag, ng, cg, hng, HL⟩ := hrel
            obtain ⟨wi, rfl⟩ : ∃ x, x = wr := ⟨wr, rfl⟩
            have hsz : w.heap.size + 1 ≤ wi.heap.size := by have := HL.out.hB; omega
            have z0 := HL.out.ab.cell 0
            have z1 := HL.out.ab.cell 1
            simp at z0 z1
            have g0 := HL.out.ab.frz 0
            have lg := HL.out.ab.lt
            have lg2 : w.heap.size + 1 + 1 < wi.heap.size + 1 := by omega
            have lg3 : w.heap.size + 1 + 1 < wi.heap.size + 1 + 1 := by omega
            by_cases hn9 : ng < 9
            · have e5 : (ng : Int) < 9 := by omega
              have e6 : decide ((ng : Int) < 9) = true := decide_eq_true e5
              have HCA : Hid (((wi.alloc (.cells #[.int .i64 2, .int .i64 997, .int .i64 1000000] 2)).alloc (.cells #[.int .i64 2] 2)).cell? ⟨wi.heap.size + 1, 0, none⟩ = some (.int .i64 2)) := Lib.hid (by rw [show wi.heap.size + 1 = (wi.alloc (.cells #[.int .i64 2, .int .i64 997, .int .i64 1000000] 2)).heap.size by simp]; exact (BX.new _ _ _).cell 0)
              have HA2 : Hid (AbS w ((wi.alloc (.cells #[.int .i64 2, .int .i64 997, .int .i64 1000000] 2)).alloc (.cells #[.int .i64 2] 2)) b a m c bs (w.heap.size + 1 + 1) ag ng cg ys q) := Lib.hid ((HL.out.alloc _).alloc _)
              have HSA : Hid (w.heap.size + 1 ≤ ((wi.alloc (.cells #[.int .i64 2, .int .i64 997, .int .i64 1000000] 2)).alloc (.cells #[.int .i64 2] 2)).heap.size) := Lib.hid (by simp; omega)
              have HL0 := Lib.hid (lenAt_bx HL.out.ab)
              go_wp2_with fail
              go_region_law (first
                  | (go_simp; go_at_call 77; (with_reducible refine (l01Next_one _ 1 _ (by omega) (by omega)).mono ?_); rintro e _ ⟨rfl, rfl⟩)
                  | (refine step_pushW rfl (.tmp 45) (.tmp 51) 25 rfl (w.heap.size + 1) 2 (.int .i64 0) 8 Try.underlying25 Try.info2 rfl (by decide) (.int .i64 2) rfl ag ng cg (ys.map (Value.int .i64)) (wi.heap.size + 1) rfl rfl ?_ ?_ ?_ ?_ ?_; (exact HCA.out); (exact HA2.out.own); omega; (exact HSA.out); rintro a4 c4 w7 r4 q4 g4; have HNX := HA2.out.pushR (x := 2) (by unfold I64; omega) r4 q4 g4 rfl rfl rfl rfl; have HN := Lib.hid HNX.1; have X4 := Lib.hid HNX.2; clear HNX; have f4 := X4.out.frz 0; have y0 := X4.out.cell 0; have l4 := X4.out.lt; clear r4 q4 g4))
              go_wp2_with fail
              all_goals
                have HLn := Lib.hid (lenAt_bx HN.out.ab)
                go_roundw
                case rel => exact ⟨_, a4, ng + 1, c4, by omega, HN⟩
                case measure => rw [HLn.out, HL0.out]; omega
            · obtain rfl : ng = 9 := by omega
              have hz9 : w.heap.size < wi.heap.size := by have := HL.out.hB; omega
              have R9 := HL.out.rb
              have fr0 := R9.frz 0
              have fr1 := R9.frz 1
              have zz0 := R9.cell 0
              have zz1 := R9.cell 1
              simp at zz0 zz1
              have Z9 := (R9.set 0 (.slice ag 9 cg)).set 1 (.int .i64 q)
              have u0 := Z9.cell 0
              have u1 := Z9.cell 1
              simp at u0 u1
              have b0 := HL.out.ab.cell 0
              have b1 := HL.out.ab.cell 1
              simp at b0 b1
              have lb9 := HL.out.ab.lt
              clear R9 Z9
              go_wp2_with fail
              refine bodyPost_ret (v := .agg #[.slice ag 9 cg, .int .i64 q]) (by simp [results, Try.results186, go_sem, u0, u1]) rfl ⟨ys, q, ag, 9, cg, rfl, HL.out.fin _ _ |>.1, by omega, HL.out.i64, HQI.out, HL.out.fin _ _ |>.2.1, HL.out.fin _ _ |>.2.2⟩
        · have e2 : (z == 0) = false := beq_eq_false_iff_ne.2 hz
          clear hz hz0 hz1
          have hz9 : w.heap.size < w5.heap.size := by have := HZ5.out.hB; omega
          have R9 := HZ5.out.rb
          have fr0 := R9.frz 0
          have fr1 := R9.frz 1
          have zz0 := R9.cell 0
          have zz1 := R9.cell 1
          simp at zz0 zz1
          have Z9 := (R9.set 0 (.slice af nf cf)).set 1 (.int .i64 r0)
          have u0 := Z9.cell 0
          have u1 := Z9.cell 1
          simp at u0 u1
          have b0 := HZ5.out.ab.cell 0
          have b1 := HZ5.out.ab.cell 1
          simp at b0 b1
          have lb9 := HZ5.out.ab.lt
          clear R9 Z9
          go_wp2_with fail
          refine bodyPost_ret (v := .agg #[.slice af nf cf, .int .i64 r0]) (by simp [results, Try.results186, go_sem, u0, u1]) rfl ⟨xs, r0, af, nf, cf, rfl, HZ5.out.fin _ _ |>.1, by omega, HZ5.out.i64, HRR.out, HZ5.out.fin _ _ |>.2.1, HZ5.out.fin _ _ |>.2.2⟩
      · have e1 : (y == 0) = false := beq_eq_false_iff_ne.2 hy
        clear hy hy0 hy1
        go_wp2_with fail
        obtain ⟨wz, rfl⟩ : ∃ x, x = w2 := ⟨w2, rfl⟩
        obtain ⟨r0, hr0⟩ : ∃ r0 : Int, r0 = 0 := ⟨0, rfl⟩
        have HZ : Hid (AbS w wz b a m c bs (w.heap.size + 1 + 1) af nf cf xs r0) := Lib.hid (by rw [hr0]; exact HJ2.out)
        have hrr : I64 r0 := by rw [hr0]; unfold I64; omega
        clear hr0
        have HRR := Lib.hid hrr
        clear hrr
        refine (l01Next_any b a m c bs 16 wz HZ.out.src (by omega) hmc).mono ?_
        rintro e w5 ⟨z, rfl, hz0, hz1, hs, hc⟩
        have HZ5 := Lib.hid (HZ.out.next hs hc)
        clear hs hc
        by_cases hz : z = 0
        · have e2 : (z == 0) = true := beq_iff_eq.2 hz
          clear hz hz0 hz1
          go_wp2_with fail
          refine (l01Next_any b a m c bs 2 _ (by exact (HZ5.out.alloc _).src) (by omega) hmc).mono ?_
          rintro e w6 ⟨q, rfl, hq0, hq1, hs, hc⟩
          have HZ6 := Lib.hid ((HZ5.out.alloc (.cells #[] 2)).next hs hc)
          have hs5 := HZ5.out.hB
          have HOE : Hid (OwnI 2 w6 (w.heap.size + 1) (some ⟨w5.heap.size, 0, none⟩) 0 0 []) := Lib.hid (((OwnI.empty w5 2).mono (by omega)).kept hc (fun p hp e => by injection hp with hp; subst hp; simp at e; omega))
          have x0 := HZ6.out.ab.cell 0
          have x1 := HZ6.out.ab.cell 1
          simp at x0 x1
          have f0 := HZ6.out.ab.frz 0
          have f1 := HZ6.out.ab.frz 1
          have lx := HZ6.out.ab.lt
          have hI : I64 q := by unfold I64; omega
          have HQI := Lib.hid hI
          have HZ7 : Hid (AbS w ((w6.setCell ⟨w.heap.size + 1 + 1, 0, none⟩ (.slice (some ⟨w5.heap.size, 0, none⟩) 0 0)).setCell ⟨w.heap.size + 1 + 1, 1, none⟩ (.int .i64 q)) b a m c bs (w.heap.size + 1 + 1) (some ⟨w5.heap.size, 0, none⟩) 0 0 [] q) := by
            have hne : ∀ p, (some ⟨w5.heap.size, 0, none⟩ : Option Addr) = some p → p.block ≠ w.heap.size + 1 + 1 := fun p hp => by injection hp with hp; subst hp; simp; omega
            refine Lib.hid (HZ6.out.put (((Below.refl _ _).setCell (p := ⟨w.heap.size + 1 + 1, 0, none⟩) (by simp) _).setCell (p := ⟨w.heap.size + 1 + 1, 1, none⟩) (by simp) _) ((HZ6.out.ab.set 0 _).set 1 _) ?_ hne (by simp))
            exact (HOE.out.same (fun p hp => Below.heap_setCell _ _ _ _ (hne p hp))).same (fun p hp => Below.heap_setCell _ _ _ _ (hne p hp))
          clear hs hc hq0 hq1 hI
          go_wp2_with fail
          go_loopw [43] (fun _ wr => ∃ (ys : List Int) (ag : Option Addr) (ng cg : Nat), ng ≤ 9 ∧ Hid (AbS w wr b a m c bs (w.heap.size + 1 + 1) ag ng cg ys q)) (fun _ wr => 9 - lenAt wr (w.heap.size + 1 + 1))
          case atStart => exact ⟨[], _, 0, 0, by omega, HZ7⟩
          case round =>
            obtain ⟨ys, ag, ng, cg, hng, HL⟩ := hrel
            obtain ⟨wi, rfl⟩ : ∃ x, x = wr := ⟨wr, rfl⟩
            have hsz : w.heap.size + 1 ≤ wi.heap.size := by have := HL.out.hB; omega
            have z0 := HL.out.ab.cell 0
            have z1 := HL.out.ab.cell 1
            simp at z0 z1
            have g0 := HL.out.ab.frz 0
            have lg := HL.out.ab.lt
            have lg2 : w.heap.size + 1 + 1 < wi.heap.size + 1 := by omega
            have lg3 : w.heap.size + 1 + 1 < wi.heap.size + 1 + 1 := by omega
            by_cases hn9 : ng < 9
            · have e5 : (ng : Int) < 9 := by omega
              have e6 : decide ((ng : Int) < 9) = true := decide_eq_true e5
              have HCA : Hid (((wi.alloc (.cells #[.int .i64 2, .int .i64 997, .int .i64 1000000] 2)).alloc (.cells #[.int .i64 2] 2)).cell? ⟨wi.heap.size + 1, 0, none⟩ = some (.int .i64 2)) := Lib.hid (by rw [show wi.heap.size + 1 = (wi.alloc (.cells #[.int .i64 2, .int .i64 997, .int .i64 1000000] 2)).heap.size by simp]; exact (BX.new _ _ _).cell 0)
              have HA2 : Hid (AbS w ((wi.alloc (.cells #[.int .i64 2, .int .i64 997, .int .i64 1000000] 2)).alloc (.cells #[.int .i64 2] 2)) b a m c bs (w.heap.size + 1 + 1) ag ng cg ys q) := Lib.hid ((HL.out.alloc _).alloc _)
              have HSA : Hid (w.heap.size + 1 ≤ ((wi.alloc (.cells #[.int .i64 2, .int .i64 997, .int .i64 1000000] 2)).alloc (.cells #[.int .i64 2] 2)).heap.size) := Lib.hid (by simp; omega)
              have HL0 := Lib.hid (lenAt_bx HL.out.ab)
              go_wp2_with fail
              go_region_law (first
                  | (go_simp; go_at_call 77; (with_reducible refine (l01Next_one _ 1 _ (by omega) (by omega)).mono ?_); rintro e _ ⟨rfl, rfl⟩)
                  | (refine step_pushW rfl (.tmp 45) (.tmp 51) 25 rfl (w.heap.size + 1) 2 (.int .i64 0) 8 Try.underlying25 Try.info2 rfl (by decide) (.int .i64 2) rfl ag ng cg (ys.map (Value.int .i64)) (wi.heap.size + 1) rfl rfl ?_ ?_ ?_ ?_ ?_; (exact HCA.out); (exact HA2.out.own); omega; (exact HSA.out); rintro a4 c4 w7 r4 q4 g4; have HNX := HA2.out.pushR (x := 2) (by unfold I64; omega) r4 q4 g4 rfl rfl rfl rfl; have HN := Lib.hid HNX.1; have X4 := Lib.hid HNX.2; clear HNX; have f4 := X4.out.frz 0; have y0 := X4.out.cell 0; have l4 := X4.out.lt; clear r4 q4 g4))
              go_wp2_with fail
              all_goals
                have HLn := Lib.hid (lenAt_bx HN.out.ab)
                go_roundw
                case rel => exact ⟨_, a4, ng + 1, c4, by omega, HN⟩
                case measure => rw [HLn.out, HL0.out]; omega
            · obtain rfl : ng = 9 := by omega
              have hz9 : w.heap.size < wi.heap.size := by have := HL.out.hB; omega
              have R9 := HL.out.rb
              have fr0 := R9.frz 0
              have fr1 := R9.frz 1
              have zz0 := R9.cell 0
              have zz1 := R9.cell 1
              simp at zz0 zz1
              have Z9 := (R9.set 0 (.slice ag 9 cg)).set 1 (.int .i64 q)
              have u0 := Z9.cell 0
              have u1 := Z9.cell 1
              simp at u0 u1
              have b0 := HL.out.ab.cell 0
              have b1 := HL.out.ab.cell 1
              simp at b0 b1
              have lb9 := HL.out.ab.lt
              clear R9 Z9
              go_wp2_with fail
              refine bodyPost_ret (v := .agg #[.slice ag 9 cg, .int .i64 q]) (by simp [results, Try.results186, go_sem, u0, u1]) rfl ⟨ys, q, ag, 9, cg, rfl, HL.out.fin _ _ |>.1, by omega, HL.out.i64, HQI.out, HL.out.fin _ _ |>.2.1, HL.out.fin _ _ |>.2.2⟩
        · have e2 : (z == 0) = false := beq_eq_false_iff_ne.2 hz
          clear hz hz0 hz1
          have hz9 : w.heap.size < w5.heap.size := by have := HZ5.out.hB; omega
          have R9 := HZ5.out.rb
          have fr0 := R9.frz 0
          have fr1 := R9.frz 1
          have zz0 := R9.cell 0
          have zz1 := R9.cell 1
          simp at zz0 zz1
          have Z9 := (R9.set 0 (.slice af nf cf)).set 1 (.int .i64 r0)
          have u0 := Z9.cell 0
          have u1 := Z9.cell 1
          simp at u0 u1
          have b0 := HZ5.out.ab.cell 0
          have b1 := HZ5.out.ab.cell 1
          simp at b0 b1
          have lb9 := HZ5.out.ab.lt
          clear R9 Z9
          go_wp2_with fail
          refine bodyPost_ret (v := .agg #[.slice af nf cf, .int .i64 r0]) (by simp [results, Try.results186, go_sem, u0, u1]) rfl ⟨xs, r0, af, nf, cf, rfl, HZ5.out.fin _ _ |>.1, by omega, HZ5.out.i64, HRR.out, HZ5.out.fin _ _ |>.2.1, HZ5.out.fin _ _ |>.2.2⟩
--GOOD2END
end Go.Proofs.Ytkidohohiihbaaa
