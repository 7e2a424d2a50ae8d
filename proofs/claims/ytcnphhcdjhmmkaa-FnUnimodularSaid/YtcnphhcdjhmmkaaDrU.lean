/- Draws of tables: whatever the code, a value of the type with few rows and few columns. -/
import Derived.Test.YtcnphhcdjhmmkaaDrS
set_option linter.unusedVariables false
set_option linter.unusedSimpArgs false
namespace Go.Proofs.Ytcnphhcdjhmmkaa
open Go.RowKit
/-- the source, wherever a call's own memory lies -/
structure SQ (w wr : World) (b : Nat) (a : Option Addr) (m c : Nat) (bs : List Int) : Prop where
  s0 : Src w b a m c bs
  bx : ∃ k s : Nat, BX 52 wr b #[.slice a m c, .int .i64 k, .int .i64 s] ∧ k ≤ m ∧ s < 2147483647
  chg : Chg (fun j => j = b) w wr
section
variable {w wr w2 w3 : World} {b : Nat} {a : Option Addr} {m c : Nat} {bs : List Int}
theorem SQ.start (h : Src w b a m c bs) : SQ w w b a m c bs := ⟨h, h.box, Chg.refl _ _⟩
theorem SQ.src (h : SQ w wr b a m c bs) : Src wr b a m c bs := by
  obtain ⟨k, s, h1, h2, h3⟩ := h.bx
  exact h.s0.set k s h1 h2 h3 h.chg
theorem SQ.sz (h : SQ w wr b a m c bs) : w.heap.size ≤ wr.heap.size := h.chg.size
theorem SQ.bw (h : SQ w wr b a m c bs) : b < w.heap.size := h.s0.lt
theorem SQ.next (h : SQ w wr b a m c bs) (hs : Src w2 b a m c bs) (hc : Chg (fun j => j = b) w3 w2) (h1 : w3.heap = wr.heap) (h2 : w3.os = wr.os) (h3 : w3.tape = wr.tape) (h4 : w3.output = wr.output) : SQ w w2 b a m c bs := by
  have hsz := h.chg.size
  exact ⟨h.s0, hs.box, (hc.os.trans h2).trans h.chg.os, (hc.tape.trans h3).trans h.chg.tape, (hc.output.trans h4).trans h.chg.output, by have := hc.size; rw [h1] at this; omega, fun j hj hn => by rw [hc.block j (by rw [h1]; omega) hn, h1]; exact h.chg.block j hj hn⟩
theorem SQ.low {B : Nat} (h : SQ w wr b a m c bs) (hb : Below B w3 w2) (hB : w.heap.size ≤ B) (h1 : w3.heap = wr.heap) (h2 : w3.os = wr.os) (h3 : w3.tape = wr.tape) (h4 : w3.output = wr.output) : SQ w w2 b a m c bs := by
  have hsz := h.chg.size
  have lb := h.s0.lt
  obtain ⟨k, s, k1, k2, k3⟩ := h.bx
  have hh : ∀ j, j < w.heap.size → w2.heap[j]? = wr.heap[j]? := fun j hj => by rw [hb.block j (by omega), h1]
  exact ⟨h.s0, ⟨k, s, (hh _ lb).trans k1, k2, k3⟩, (hb.os.trans h2).trans h.chg.os, (hb.tape.trans h3).trans h.chg.tape, (hb.output.trans h4).trans h.chg.output, by have := hb.size; rw [h1] at this; omega, fun j hj hn => (hh j hj).trans (h.chg.block j hj hn)⟩
theorem SQ.al (h : SQ w wr b a m c bs) (o : Obj) : SQ w (wr.alloc o) b a m c bs := h.low ((Below.refl wr.heap.size wr).alloc (Nat.le_refl _) o) h.sz rfl rfl rfl rfl
theorem SQ.set (h : SQ w wr b a m c bs) (p : Addr) (hp : w.heap.size ≤ p.block) (v : Value) : SQ w (wr.setCell p v) b a m c bs := h.low ((Below.refl w.heap.size wr).setCell hp v) (Nat.le_refl _) rfl rfl rfl rfl
end
theorem BX.src {T : TypeId} {w w2 : World} {j b : Nat} {vs : Array Value} (h : BX T w j vs) (hc : Chg (fun j => j = b) w w2) (hne : j ≠ b) : BX T w2 j vs := h.chg hc hne
theorem MadeR.keptS {T1 T2 : TypeId} {S : Nat → Prop} {w w2 : World} {B : Nat} {a : Option Addr} {n cap : Nat} {xs : List (List Int)} (h : MadeR T1 T2 w B a n cap xs) (hc : Chg S w w2) (hs : ∀ k, B ≤ k → ¬ S k) : MadeR T1 T2 w2 B a n cap xs := by
  obtain ⟨A, C, h⟩ := h
  exact ⟨A, C, h.kept hc (fun p hp => hs _ (ownsRow_block h.own p hp).1) (fun i hi p hp => hs _ ((h.row i hi).block p hp).1)⟩
set_option maxRecDepth 20000 in
set_option maxHeartbeats 4000000 in
theorem l04Rows_any (b : Nat) (a : Option Addr) (m c : Nat) (bs : List Int) (r n : Nat) (w : World) (hs : Src w b a m c bs) (hmc : m ≤ c) (hr : r ≤ 20) (hn : n ≤ 20) :
    Calls Try.prog 34 #[.pointer (some ⟨b, 0, none⟩), .int .i64 r, .int .i64 n] w fun e w' => ∃ (xs : List (List Int)) (a' : Option Addr) (c' : Nat), e = .returned (.slice a' r c') ∧ MadeR 31 2 w' w.heap.size a' r c' xs ∧ Sm 64 n xs ∧ Src w' b a m c bs ∧ Chg (fun j => j = b) w w' := by
  have S0 : Hid (SS w (w.alloc (.cells #[] 31)) b a m c bs 64 n 0 (some ⟨w.heap.size, 0, none⟩) 0 [] (fun _ => none) (fun _ => 0)) := Lib.hid (by
    obtain ⟨k, s, h1, h2, h3⟩ := hs.box
    exact ⟨hs, ⟨k, s, h1.alloc _, h2, h3⟩, (Chg.refl _ w).alloc _, OwnR.empty w _ _ _ _, ⟨fun i hi => by simp at hi, fun i j hi => by simp at hi⟩⟩)
  have lb : b < w.heap.size := hs.lt
  clear hs
  obtain ⟨w1, hw1⟩ : ∃ x, x = w.alloc (.cells #[] 31) := ⟨_, rfl⟩
  have esz : w1.heap.size = w.heap.size + 1 := by rw [hw1]; simp
  have HLT : Hid (RdI (w1.alloc (.cells #[.int .i64 2, .int .i64 4, .int .i64 9, .int .i64 13, .int .i64 129] 2)) (some ⟨w1.heap.size, 0, none⟩) [2, 4, 9, 13, 129]) := Lib.hid (lit_rd w1 _ _ _ rfl (by simp [maxLen]))
  have HS1 := Lib.hid (S0.out.al (.cells #[.int .i64 2, .int .i64 4, .int .i64 9, .int .i64 13, .int .i64 129] 2))
  rw [← hw1] at HS1
  rw [hw1] at HLT
  go_enter Try.func34, Try.ntmps34
  go_wp2_with fail
  rw [← hw1] at HLT ⊢
  refine (l01Next_any b a m c bs 5 _ (by exact HS1.out.src) (by omega) hmc).mono ?_
  rintro e w2 ⟨I, rfl, hI0, hI1, hs, hc⟩
  obtain ⟨I, rfl⟩ : ∃ I' : Nat, I = I' := ⟨I.toNat, by omega⟩
  have hI : I < 5 := by omega
  have J0 : (I : Int) < 5 := by omega
  have HS2 := Lib.hid (HS1.out.next hs hc rfl rfl rfl rfl)
  have HL2 : Hid (RdI w2 (some ⟨w1.heap.size, 0, none⟩) [2, 4, 9, 13, 129]) := Lib.hid (HLT.out.same (fun p hp => by injection hp with hp; subst hp; exact hc.block _ (by simp) (by simp; omega)))
  obtain ⟨_, _, e, hcl⟩ := HL2.out (by simp)
  injection e with e; injection e with e1 e2; subst e1; subst e2
  have ce := hcl I (by simpa using hI)
  rw [esz, Nat.zero_add] at ce
  obtain ⟨sz, hsz⟩ : ∃ x, x = el [2, 4, 9, 13, 129] I := ⟨_, rfl⟩
  rw [← hsz] at ce
  have hsb : 2 ≤ sz ∧ sz ≤ 129 := by
    rcases (show I = 0 ∨ I = 1 ∨ I = 2 ∨ I = 3 ∨ I = 4 by omega) with rfl | rfl | rfl | rfl | rfl <;> (subst hsz; decide)
  clear hs hc hI0 hI1 hI hcl hsz HLT S0 HS1 HL2
  go_wp2_with fail
  go_loopw [9, 7] (fun i o wr => ∃ (k : Nat) (ad : Option Addr) (cap : Nat) (xs : List (List Int)) (A : Nat → Option Addr) (C : Nat → Nat), k ≤ r ∧ i = .int .i64 k ∧ o = .slice ad k cap ∧ Hid (SS w wr b a m c bs 64 n k ad cap xs A C)) (fun i _ _ => r - (intOf i).toNat)
  case atStart => exact ⟨0, _, 0, [], _, _, Nat.zero_le _, rfl, rfl, HS2⟩
  case round =>
    obtain ⟨k, ad, cap, xs, A, C, hk, rfl, rfl, HJ⟩ := hrel
    obtain ⟨wi, rfl⟩ : ∃ x, x = wr := ⟨wr, rfl⟩
    clear HS2 ce
    by_cases hkr : k < r
    · have J1 : (k : Int) < (r : Int) := by omega
      have HLW := Lib.hid HJ.out.low
      have hsw := HJ.out.sz
      have HI0 : Hid (SS w (wi.alloc (.cells #[] 2)) b a m c bs 64 n k ad cap xs A C ∧ OwnI 2 (wi.alloc (.cells #[] 2)) wi.heap.size (some ⟨wi.heap.size, 0, none⟩) 0 0 [] ∧ wi.heap.size ≤ (wi.alloc (.cells #[] 2)).heap.size ∧ ∀ i, i < 0 → -64 ≤ el ([] : List Int) i ∧ el ([] : List Int) i ≤ 64) := Lib.hid ⟨HJ.out.al _, OwnI.empty wi _, by simp, fun i hi => absurd hi (by omega)⟩
      obtain ⟨Lw, hLw⟩ : ∃ x, x = wi.heap.size := ⟨_, rfl⟩
      rw [← hLw] at HLW hsw HI0
      have HLw := Lib.hid hLw
      clear HJ hLw
      go_wp2_with fail
      rw [← HLw.out]
      clear HLw
      go_loopw [11, 10] (fun i o wr => ∃ (j : Nat) (av : Option Addr) (cv : Nat) (v : List Int), j ≤ n ∧ i = .int .i64 j ∧ o = .slice av j cv ∧ Hid (SS w wr b a m c bs 64 n k ad cap xs A C ∧ OwnI 2 wr Lw av j cv v ∧ Lw ≤ wr.heap.size ∧ ∀ i, i < j → -64 ≤ el v i ∧ el v i ≤ 64)) (fun i _ _ => n - (intOf i).toNat)
      case atStart => exact ⟨0, _, 0, [], Nat.zero_le _, rfl, rfl, HI0⟩
      case round =>
        obtain ⟨j, av, cv, v, hj, rfl, rfl, HI⟩ := hrel
        obtain ⟨wj, rfl⟩ : ∃ x, x = wr := ⟨wr, rfl⟩
        clear HI0
        by_cases hjn : j < n
        · have J2 : (j : Int) < (n : Int) := by omega
          go_wp2_with fail
          refine (l01Next_any b a m c bs sz wj HI.out.1.src (by omega) hmc).mono ?_
          rintro e w5 ⟨x, rfl, hx0, hx1, hs, hc⟩
          have hbL : b < Lw := Nat.lt_of_lt_of_le lb hsw
          have HJ5 := Lib.hid (HI.out.1.next hs hc rfl rfl rfl rfl)
          have HO5 := Lib.hid (HI.out.2.1.kept hc (fun q hq e => by have := (HI.out.2.1.block q hq).1; omega))
          have HR5 := Lib.hid HI.out.2.2.2
          have s5 : Lw ≤ w5.heap.size := Nat.le_trans HI.out.2.2.1 hc.size
          have W1 : IntKind.i64.wrap (sz.tdiv 2) = sz / 2 := by
            rw [Int.tdiv_eq_ediv_of_nonneg (by omega)]; exact IntWalk.i64_in _ (by omega)
          have W2 : IntKind.i64.wrap (x - sz / 2) = x - sz / 2 := IntWalk.i64_in _ (by omega)
          have hxb : -64 ≤ x - sz / 2 ∧ x - sz / 2 ≤ 64 := by omega
          have hvl := HI.out.2.1.len
          clear hs hc hx0 hx1 HI
          have HNR : Hid (∀ i, i < j + 1 → -64 ≤ el (v ++ [x - sz / 2]) i ∧ el (v ++ [x - sz / 2]) i ≤ 64) := Lib.hid (fun i hi => by
            by_cases h : i < j
            · rw [el_append_lt (by omega)]; exact HR5.out i h
            · obtain rfl : i = j := by omega
              rw [el_append_ge (by omega), hvl, Nat.sub_self]
              exact hxb)
          clear hvl
          go_wp2_with (at_builtin; (refine wpList_push rfl (.tmp 29) (.tmp 36) 31 rfl Lw 2 (.int .i64 0) 8 Try.underlying31 Try.info2 rfl (by decide) (.int .i64 (x - sz / 2)) rfl _ _ _ _ rfl rfl (by exact HO5.out) (by omega) (by exact s5) ?_; rintro a4 c4 w6 r4 q4 g4; have HN := Lib.hid (OwnI.pushed r4); have HJ6 := Lib.hid (HJ5.out.below HLW.out hsw (g4.below s5 (fun k hk hx => by obtain ⟨p, hp, e⟩ := hx; have := (HO5.out.block p hp).1; omega)) rfl rfl rfl rfl); have s6 : Lw ≤ w6.heap.size := (Nat.le_trans s5 g4.size); clear r4 q4 g4))
          go_roundw
          case rel => exact ⟨j + 1, a4, c4, _, by omega, by go_num, rfl, Lib.hid ⟨HJ6.out, HN.out, s6, HNR.out⟩⟩
          case measure => simp [intOf]; omega
        · obtain rfl : n = j := by omega
          have J2 : ¬ (n : Int) < (n : Int) := by omega
          have HOv := Lib.hid HI.out.2.1
          have HJv := Lib.hid HI.out.1
          have HRv := Lib.hid HI.out.2.2.2
          have sv : w.heap.size ≤ wj.heap.size := HJv.out.sz
          clear HI
          go_wp2_with (at_builtin; (refine wpList_push rfl (.tmp 38) (.tmp 40) 24 rfl w.heap.size 31 (.slice none 0 0) 24 Try.underlying24 Try.infoR rfl (by decide) (.slice av n cv) rfl _ _ _ _ rfl rfl (by exact HJv.out.own.own) (by omega) (by exact sv) ?_; rintro a4 c4 w6 r4 q4 g4; have HN := Lib.hid (HJv.out.push HLW.out hsw HOv.out rfl HRv.out r4 q4 g4); clear r4 q4 g4))
          go_wp2_with fail
          go_roundw
          case rel => exact ⟨k + 1, a4, c4, _, _, _, by omega, by go_num, rfl, HN⟩
          case measure => simp [intOf]; omega
    · obtain rfl : k = r := by omega
      have J1 : ¬ (k : Int) < (k : Int) := by omega
      go_wp2_with fail
      go_ret
      exact ⟨xs, ad, cap, rfl, ⟨A, C, HJ.out.own⟩, HJ.out.sm, HJ.out.src, HJ.out.chg⟩
theorem SQ.rows {w wr w2 w3 : World} {b : Nat} {a : Option Addr} {m c : Nat} {bs : List Int} (h : SQ w wr b a m c bs) (hs : Src w2 b a m c bs) (hc : Chg (fun j => j = b) w3 w2) (h1 : w3.heap = wr.heap) (h2 : w3.os = wr.os) (h3 : w3.tape = wr.tape) (h4 : w3.output = wr.output) : SQ w w2 b a m c bs := h.next hs hc h1 h2 h3 h4
theorem l04Rows_at (b : Nat) (a : Option Addr) (m c : Nat) (bs : List Int) (ri : Int) (r n : Nat) (w : World) (he : ri = r) (hs : Src w b a m c bs) (hmc : m ≤ c) (hr : r ≤ 20) (hn : n ≤ 20) :
    Calls Try.prog 34 #[.pointer (some ⟨b, 0, none⟩), .int .i64 ri, .int .i64 n] w fun e w' => ∃ (xs : List (List Int)) (a' : Option Addr) (c' : Nat), e = .returned (.slice a' r c') ∧ MadeR 31 2 w' w.heap.size a' r c' xs ∧ Sm 64 n xs ∧ Src w' b a m c bs ∧ Chg (fun j => j = b) w w' := by
  subst he; exact l04Rows_any b a m c bs r n w hs hmc hr hn
set_option maxRecDepth 20000 in
set_option maxHeartbeats 4000000 in
theorem l04Good_any (b : Nat) (a : Option Addr) (m c : Nat) (bs : List Int) (w : World) (hs : Src w b a m c bs) (hmc : m ≤ c) :
    Calls Try.prog 43 #[.pointer (some ⟨b, 0, none⟩)] w fun e w' => ∃ (k r : Nat) (xs : List (List Int)) (a' : Option Addr) (c' : Nat), e = .returned (.agg #[.int .i64 k, .slice a' r c']) ∧ 1 ≤ k ∧ k ≤ 4 ∧ r ≤ 12 ∧ MadeR 31 2 w' w.heap.size a' r c' xs ∧ Sm 64 k xs ∧ Src w' b a m c bs ∧ Chg (fun j => j = b) w w' := by
  have HC0 := Lib.hid ((SQ.start hs).al (.cells #[.int .i64 0, .slice none 0 0] 26))
  have HR0 := Lib.hid (BX.new w 26 #[.int .i64 0, .slice none 0 0])
  have lb : b < w.heap.size := hs.lt
  clear hs
  go_enter Try.func43, Try.ntmps43
  go_wp2_with fail
  refine (l01Next_any b a m c bs 4 _ (by exact HC0.out.src) (by omega) hmc).mono ?_
  rintro e w1 ⟨x, rfl, hx0, hx1, hs, hc⟩
  have HC1 := Lib.hid (HC0.out.next hs hc rfl rfl rfl rfl)
  have HR1 := Lib.hid (HR0.out.src hc (by omega))
  obtain ⟨K, hK⟩ : ∃ K : Nat, (K : Int) = 1 + x := ⟨(1 + x).toNat, by omega⟩
  have hxw : IntKind.i64.wrap (1 + x) = (K : Int) := by rw [hK]; exact IntWalk.i64_in _ (by omega)
  have hK1 : 1 ≤ K ∧ K ≤ 4 := by omega
  clear hs hc hx0 hx1 HC0 HR0 hK
  go_wp2_with fail
  refine (l01Next_any b a m c bs 6 _ (by exact HC1.out.src) (by omega) hmc).mono ?_
  rintro e w2 ⟨R, rfl, hx0, hx1, hs, hc⟩
  have HC2 := Lib.hid (HC1.out.next hs hc rfl rfl rfl rfl)
  have HR2 := Lib.hid (HR1.out.src hc (by omega))
  obtain ⟨R, rfl⟩ : ∃ R' : Nat, R = R' := ⟨R.toNat, by omega⟩
  have hR1 : R ≤ 12 := by omega
  clear hs hc hx0 hx1 HC1 HR1
  go_wp2_with fail
  refine (l01Next_any b a m c bs 12 _ (by exact HC2.out.src) (by omega) hmc).mono ?_
  rintro e w3 ⟨z, rfl, hx0, hx1, hs, hc⟩
  have HC3 := Lib.hid (HC2.out.next hs hc rfl rfl rfl rfl)
  have HR3 := Lib.hid (HR2.out.src hc (by omega))
  have hz2 : I64 z := by unfold I64; omega
  clear hs hc hx0 hx1 HC2 HR2
  by_cases hz : z = 0
  · have e1 : (z == 0) = true := beq_iff_eq.2 hz
    clear hz
    go_wp2_with fail
    refine (l04Rows_at b a m c bs 12 12 K _ (by omega) (by exact HC3.out.src) hmc (by omega) (by omega)).mono ?_
    rintro e w4 ⟨xs, a', c', rfl, ho, hsm, hs, hc⟩
    have HC4 := Lib.hid (HC3.out.next hs hc rfl rfl rfl rfl)
    have HR4 := Lib.hid (HR3.out.src hc (by omega))
    have HO4 := Lib.hid ho
    have HSM := Lib.hid hsm
    have s3 := HC3.out.sz
    have l3 := HR3.out.lt
    have f0 := HR4.out.frz 0
    have f1 := HR4.out.frz 1
    have z0 := HR4.out.cell 0
    have z1 := HR4.out.cell 1
    have lr := HR4.out.lt
    simp at z0 z1
    clear hs hc ho hsm
    have HF : Hid (SQ w ((w4.setCell ⟨w.heap.size, 0, none⟩ (.int .i64 K)).setCell ⟨w.heap.size, 1, none⟩ (.slice a' 12 c')) b a m c bs ∧ MadeR 31 2 ((w4.setCell ⟨w.heap.size, 0, none⟩ (.int .i64 K)).setCell ⟨w.heap.size, 1, none⟩ (.slice a' 12 c')) w.heap.size a' 12 c' xs) := Lib.hid ⟨(HC4.out.set ⟨w.heap.size, 0, none⟩ (by simp) _).set ⟨w.heap.size, 1, none⟩ (by simp) _, by
      obtain ⟨A, C, h⟩ := HO4.out
      exact ⟨A, C, ((h.setLow ⟨w.heap.size, 0, none⟩ (by simp; omega) _).setLow ⟨w.heap.size, 1, none⟩ (by simp; omega) _).mono (by omega)⟩⟩
    have X := (HR4.out.set 0 (.int .i64 K)).set 1 (.slice a' 12 c')
    have q0 := X.cell 0
    have q1 := X.cell 1
    simp at q0 q1
    go_wp2_with fail
    refine bodyPost_ret (v := .agg #[.int .i64 K, .slice a' 12 c']) (by simp [results, Try.results43, go_sem, q0, q1]) rfl ⟨K, 12, xs, a', c', rfl, by omega, by omega, by omega, HF.out.2, HSM.out, HF.out.1.src, HF.out.1.chg⟩
  · have e1 : (z == 0) = false := beq_eq_false_iff_ne.2 hz
    clear hz
    go_wp2_with fail
    refine (l04Rows_at b a m c bs R R K _ rfl (by exact HC3.out.src) hmc (by omega) (by omega)).mono ?_
    rintro e w4 ⟨xs, a', c', rfl, ho, hsm, hs, hc⟩
    have HC4 := Lib.hid (HC3.out.next hs hc rfl rfl rfl rfl)
    have HR4 := Lib.hid (HR3.out.src hc (by omega))
    have HO4 := Lib.hid ho
    have HSM := Lib.hid hsm
    have s3 := HC3.out.sz
    have l3 := HR3.out.lt
    have f0 := HR4.out.frz 0
    have f1 := HR4.out.frz 1
    have z0 := HR4.out.cell 0
    have z1 := HR4.out.cell 1
    have lr := HR4.out.lt
    simp at z0 z1
    clear hs hc ho hsm
    have HF : Hid (SQ w ((w4.setCell ⟨w.heap.size, 0, none⟩ (.int .i64 K)).setCell ⟨w.heap.size, 1, none⟩ (.slice a' R c')) b a m c bs ∧ MadeR 31 2 ((w4.setCell ⟨w.heap.size, 0, none⟩ (.int .i64 K)).setCell ⟨w.heap.size, 1, none⟩ (.slice a' R c')) w.heap.size a' R c' xs) := Lib.hid ⟨(HC4.out.set ⟨w.heap.size, 0, none⟩ (by simp) _).set ⟨w.heap.size, 1, none⟩ (by simp) _, by
      obtain ⟨A, C, h⟩ := HO4.out
      exact ⟨A, C, ((h.setLow ⟨w.heap.size, 0, none⟩ (by simp; omega) _).setLow ⟨w.heap.size, 1, none⟩ (by simp; omega) _).mono (by omega)⟩⟩
    have X := (HR4.out.set 0 (.int .i64 K)).set 1 (.slice a' R c')
    have q0 := X.cell 0
    have q1 := X.cell 1
    simp at q0 q1
    go_wp2_with fail
    refine bodyPost_ret (v := .agg #[.int .i64 K, .slice a' R c']) (by simp [results, Try.results43, go_sem, q0, q1]) rfl ⟨K, R, xs, a', c', rfl, by omega, by omega, by omega, HF.out.2, HSM.out, HF.out.1.src, HF.out.1.chg⟩
end Go.Proofs.Ytcnphhcdjhmmkaa
