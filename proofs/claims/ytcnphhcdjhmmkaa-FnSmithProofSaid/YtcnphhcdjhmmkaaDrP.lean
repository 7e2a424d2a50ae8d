/- The draw of a Smith proof: whatever the code, three small tables and a few numbers. -/
import Derived.Test.YtcnphhcdjhmmkaaDrL
import Derived.StillTailTactics
set_option linter.unusedVariables false
set_option linter.unusedSimpArgs false
namespace Go.Proofs.Ytcnphhcdjhmmkaa
open Go.RowKit
/-- a call that draws, its own memory being no matter -/
structure SQ (w wr : World) (b : Nat) (a : Option Addr) (m c : Nat) (bs : List Int) : Prop where
  s0 : Src w b a m c bs
  bx : ∃ k s : Nat, BX 52 wr b #[.slice a m c, .int .i64 k, .int .i64 s] ∧ k ≤ m ∧ s < 2147483647
  chg : Chg (fun j => j = b) w wr
section
variable {w wr w2 w3 : World} {b : Nat} {a : Option Addr} {m c : Nat} {bs : List Int}
theorem SQ.start (h : Src w b a m c bs) : SQ w w b a m c bs := ⟨h, h.box, Chg.refl _ _⟩
theorem SQ.src (h : SQ w wr b a m c bs) : Src wr b a m c bs := by
  obtain ⟨k, s, h1, h2, h3⟩ := h.bx
  exact h.s0.set k s h1 h2 h3 h.chg
theorem SQ.sz (h : SQ w wr b a m c bs) : w.heap.size ≤ wr.heap.size := h.chg.size
theorem SQ.bw (h : SQ w wr b a m c bs) : b < w.heap.size := h.s0.lt
theorem SQ.next (h : SQ w wr b a m c bs) (hs : Src w2 b a m c bs) (hc : Chg (fun j => j = b) w3 w2) (h1 : w3.heap = wr.heap) (h2 : w3.os = wr.os) (h3 : w3.tape = wr.tape) (h4 : w3.output = wr.output) : SQ w w2 b a m c bs := by
  have hsz := h.chg.size
  exact ⟨h.s0, hs.box, (hc.os.trans h2).trans h.chg.os, (hc.tape.trans h3).trans h.chg.tape, (hc.output.trans h4).trans h.chg.output, by have := hc.size; rw [h1] at this; omega, fun j hj hn => by rw [hc.block j (by rw [h1]; omega) hn, h1]; exact h.chg.block j hj hn⟩
theorem SQ.low {B : Nat} (h : SQ w wr b a m c bs) (hb : Below B w3 w2) (hB : w.heap.size ≤ B) (h1 : w3.heap = wr.heap) (h2 : w3.os = wr.os) (h3 : w3.tape = wr.tape) (h4 : w3.output = wr.output) : SQ w w2 b a m c bs := by
  have hsz := h.chg.size
  have lb := h.s0.lt
  obtain ⟨k, s, k1, k2, k3⟩ := h.bx
  have hh : ∀ j, j < w.heap.size → w2.heap[j]? = wr.heap[j]? := fun j hj => by rw [hb.block j (by omega), h1]
  exact ⟨h.s0, ⟨k, s, (hh _ lb).trans k1, k2, k3⟩, (hb.os.trans h2).trans h.chg.os, (hb.tape.trans h3).trans h.chg.tape, (hb.output.trans h4).trans h.chg.output, by have := hb.size; rw [h1] at this; omega, fun j hj hn => (hh j hj).trans (h.chg.block j hj hn)⟩
theorem SQ.al (h : SQ w wr b a m c bs) (o : Obj) : SQ w (wr.alloc o) b a m c bs := h.low ((Below.refl wr.heap.size wr).alloc (Nat.le_refl _) o) h.sz rfl rfl rfl rfl
theorem SQ.set (h : SQ w wr b a m c bs) (p : Addr) (hp : w.heap.size ≤ p.block) (v : Value) : SQ w (wr.setCell p v) b a m c bs := h.low ((Below.refl w.heap.size wr).setCell hp v) (Nat.le_refl _) rfl rfl rfl rfl
end
theorem BX.src {T : TypeId} {w w2 : World} {j b : Nat} {vs : Array Value} (h : BX T w j vs) (hc : Chg (fun j => j = b) w w2) (hne : j ≠ b) : BX T w2 j vs := h.chg hc hne
theorem MadeR.keptS {T1 T2 : TypeId} {S : Nat → Prop} {w w2 : World} {B : Nat} {a : Option Addr} {n cap : Nat} {xs : List (List Int)} (h : MadeR T1 T2 w B a n cap xs) (hc : Chg S w w2) (hs : ∀ k, B ≤ k → ¬ S k) : MadeR T1 T2 w2 B a n cap xs := by
  obtain ⟨A, C, h⟩ := h
  exact ⟨A, C, h.kept hc (fun p hp => hs _ (ownsRow_block h.own p hp).1) (fun i hi p hp => hs _ ((h.row i hi).block p hp).1)⟩
theorem dB_three {k : Nat} (h : k ≤ 3) : dB k ≤ 1572864 := by
  match k, h with
  | 0, _ => decide
  | 1, _ => decide
  | 2, _ => decide
  | 3, _ => decide
theorem dB_two {k : Nat} (h : k ≤ 2) : dB k ≤ 8192 := by
  match k, h with
  | 0, _ => decide
  | 1, _ => decide
  | 2, _ => decide
/-- a table that is read -/
structure SmT (w : World) (q : Int) (a : Option Addr) (n c : Nat) (xs : List (List Int)) : Prop where
  iq : I64 q
  rd : RdR w a xs
  len : xs.length = n
  cap : n ≤ c
  nl : n ≤ 100
  xl : ∀ i, i < n → (rw_ xs i).length ≤ 100
theorem SmT.keep {B : Nat} {w w2 : World} {q : Int} {a : Option Addr} {n c : Nat} {xs : List (List Int)} (h : SmT w q a n c xs) (hb : Below B w w2) (hB : w.heap.size ≤ B) : SmT w2 q a n c xs := ⟨h.iq, h.rd.keep hb hB, h.len, h.cap, h.nl, h.xl⟩
theorem first_prok {N M : Nat} {A B : List (List Int)} (hN : N ≤ 4) (hM : M ≤ 3) (hN1 : 1 ≤ N) (hA : Sm (dB (N - 1)) N A) (lA : A.length = N) (hB : Sm 8 M B) (lB : B.length = N) : PrOk N N M 1572864 8 A B := by
  have hb := dB_three (show N - 1 ≤ 3 by omega)
  exact ⟨lA, lB, fun i hi => hA.row i (by omega), fun k hk => hB.row k (by omega), fun i k hi hk => by have := hA.ent i k (by omega) hk; omega, fun k j hk hj => hB.ent k j (by omega) hj, by omega, by omega, by omega, by omega, by omega⟩
theorem second_prok {N M : Nat} {A B V : List (List Int)} (hN : N ≤ 4) (hM : M ≤ 3) (hM1 : 1 ≤ M) (hp : PrOk N N M 1572864 8 A B) (hV : Sm (dB (M - 1)) M V) (lV : V.length = M) : PrOk N M M 50331648 8192 (timesI M A B) V := by
  have hb := dB_two (show M - 1 ≤ 2 by omega)
  have lA := hp.lenA
  have lB := hp.lenB
  refine ⟨by rw [timesI_len, lA], lV, fun i hi => by rw [timesI_row (by omega), psum_len], fun k hk => hV.row k (by omega), fun i k hi hk => ?_, fun k j hk hj => by have := hV.ent k j (by omega) hj; omega, by omega, by omega, by omega, by omega, by omega⟩
  rw [timesI_row (by omega), psum_el hk]
  have h1 := hp.psum_bd hi hk (show B.length ≤ N by omega)
  have h2 : (N : Int) * (1572864 * 8) ≤ 4 * (1572864 * 8) := Int.mul_le_mul_of_nonneg_right (by omega) (by omega)
  omega
def DrawnSmith (w : World) (e : Ending) (w' : World) : Prop :=
  ∃ (q : Int) (a : Option Addr) (n c : Nat) (xs : List (List Int)) (q1 : Int) (a1 : Option Addr) (n1 c1 : Nat) (us : List (List Int)) (q2 : Int) (a2 : Option Addr) (n2 c2 : Nat) (vs : List (List Int)) (a3 : Option Addr) (n3 c3 : Nat) (ds : List Int),
    e = .returned (.tuple #[.agg #[.int .i64 q, .slice a n c], .agg #[.int .i64 q1, .slice a1 n1 c1], .agg #[.int .i64 q2, .slice a2 n2 c2], .slice a3 n3 c3]) ∧ SmT w' q a n c xs ∧ SmT w' q1 a1 n1 c1 us ∧ SmT w' q2 a2 n2 c2 vs ∧ RdI w' a3 ds ∧ ds.length = n3 ∧ n3 ≤ 100 ∧ (∀ x ∈ ds, I64 x) ∧ Below w.heap.size w w'
set_option maxRecDepth 20000 in
set_option maxHeartbeats 16000000 in
theorem DrawIsSmithProof_any (a : Option Addr) (m c : Nat) (bs : List Int) (w : World) (hs : Code0 w a m bs) (hmc : m ≤ c) :
    Calls Try.prog 12 #[.slice a m c] w (DrawnSmith w) := by
  have HS := Lib.hid hs
  clear hs
  go_enter Try.func12, Try.ntmps12
  go_wp2_with fail
  obtain ⟨W, hW⟩ : ∃ W, W = ((w.alloc (.cells #[.int .i64 0, .slice none 0 0] 26)).alloc (.cells #[.int .i64 0, .slice none 0 0] 26)).alloc (.cells #[.int .i64 0, .slice none 0 0] 26) := ⟨_, rfl⟩
  rw [← hW]
  have hb3 := box3 w 26 #[.int .i64 0, .slice none 0 0] #[.int .i64 0, .slice none 0 0] #[.int .i64 0, .slice none 0 0]
  have HX0 : Hid (BX 26 W w.heap.size #[.int .i64 0, .slice none 0 0]) := Lib.hid (by rw [hW]; exact hb3.1)
  have HY0 : Hid (BX 26 W (w.heap.size + 1) #[.int .i64 0, .slice none 0 0]) := Lib.hid (by rw [hW]; exact hb3.2.1)
  have HZ0 : Hid (BX 26 W (w.heap.size + 1 + 1) #[.int .i64 0, .slice none 0 0]) := Lib.hid (by rw [hW]; exact hb3.2.2)
  have HB0 : Hid (Below w.heap.size w W) := Lib.hid (by rw [hW]; exact (((Below.refl _ _).alloc (Nat.le_refl _) _).alloc (by simp) _).alloc (by simp; omega) _)
  have sW : W.heap.size = w.heap.size + 3 := by rw [hW]; simp
  clear hW hb3
  refine (l01From_any a m c bs W (by exact ⟨HS.out.len, HS.out.rd.keep HB0.out (Nat.le_refl _), HS.out.rng, HS.out.sm⟩) hmc).mono ?_
  rintro e w1 ⟨rfl, hs, hb⟩
  rw [sW] at hs
  obtain ⟨b, hbe⟩ : ∃ b, b = w.heap.size + 3 := ⟨_, rfl⟩
  rw [← hbe] at hs
  have HX1 := Lib.hid (HX0.out.keep hb)
  have HY1 := Lib.hid (HY0.out.keep hb)
  have HZ1 := Lib.hid (HZ0.out.keep hb)
  have HB1 : Hid (Below w.heap.size w w1) := Lib.hid (HB0.out.trans (hb.mono HB0.out.size))
  have s1 := hs.lt
  have HC1 := Lib.hid (SQ.start hs)
  rw [sW, ← hbe]
  have HBE := Lib.hid hbe
  clear hbe hs hb HX0 HY0 HZ0 HB0 sW
  have hb1 : w.heap.size + 3 ≤ w1.heap.size := by have := HBE.out; omega
  go_wp2_with fail
  refine (l01Next_any b a m c bs 4 w1 HC1.out.src (by omega) hmc).mono ?_
  rintro e w2 ⟨N0, rfl, hn0, hn1, hs, hc⟩
  obtain ⟨N, hN⟩ : ∃ N : Nat, (N : Int) = 1 + N0 := ⟨(1 + N0).toNat, by omega⟩
  have hN1 : 1 ≤ N := by omega
  have hN4 : N ≤ 4 := by omega
  have WN : IntKind.i64.wrap (1 + N0) = (N : Int) := by rw [IntWalk.i64_in _ (by omega), hN]
  have HC2 := Lib.hid (HC1.out.next hs hc rfl rfl rfl rfl)
  clear hs hc hn0 hn1 hN HC1
  go_wp2_with fail
  refine (l01Next_any b a m c bs 3 w2 HC2.out.src (by omega) hmc).mono ?_
  rintro e w3 ⟨M0, rfl, hn0, hn1, hs, hc⟩
  obtain ⟨M, hM⟩ : ∃ M : Nat, (M : Int) = 1 + M0 := ⟨(1 + M0).toNat, by omega⟩
  have hM1 : 1 ≤ M := by omega
  have hM3 : M ≤ 3 := by omega
  have WM : IntKind.i64.wrap (1 + M0) = (M : Int) := by rw [IntWalk.i64_in _ (by omega), hM]
  have HC3 := Lib.hid (HC2.out.next hs hc rfl rfl rfl rfl)
  have s3 := HC3.out.sz
  clear hs hc hn0 hn1 hM HC2
  rcases Nat.lt_or_ge M N with hNM | hNM
  · have hNM2 : ¬ (N : Int) ≤ (M : Int) := by omega
    have hNM3 : (M : Int) < (N : Int) := by omega
    have WK : IntKind.i64.wrap ((M : Int) + 1) = (M : Int) + 1 := IntWalk.i64_in _ (by omega)
    go_wp2_with fail
    refine (l01Next_any b a m c bs (M + 1) _ (by exact (HC3.out.al _).src) (by omega) hmc).mono ?_
    rintro e w4 ⟨K, rfl, hk0, hk1, hs, hc⟩
    have HK : Hid (∃ MN, MN ≤ N ∧ MN ≤ M ∧ K ≤ MN) := Lib.hid ⟨M, by omega, by omega, by omega⟩
    obtain ⟨K, rfl⟩ : ∃ K' : Nat, K = K' := ⟨K.toNat, by omega⟩
    obtain ⟨MN, hMN1, hMN2, hMK⟩ := HK.out
    have HC4 := Lib.hid ((HC3.out.al (.cells #[] 2)).next hs hc rfl rfl rfl rfl)
    have HD4 : Hid (OwnI 2 w4 w1.heap.size (some ⟨w3.heap.size, 0, none⟩) 0 0 []) := Lib.hid (((OwnI.empty w3 2).mono s3).kept hc (fun p hp e => by injection hp with hp; subst hp; simp at e; omega))
    clear hs hc hk0 hk1 HK HC3 WK WN WM
    have hMK2 : (K : Nat) ≤ MN := by omega
    clear hMK
    go_wp2_with fail
    go_loopw [11, 10, 9] (fun k x d wr => ∃ (k1 dn xx : Nat) (ad : Option Addr) (cap : Nat) (ds : List Int), k1 + dn ≤ MN ∧ k = .int .i64 k1 ∧ x = .int .i64 xx ∧ 1 ≤ xx ∧ xx ≤ 2 ^ dn ∧ d = .slice ad dn cap ∧ Hid (SQ w1 wr b a m c bs) ∧ Hid (OwnI 2 wr w1.heap.size ad dn cap ds) ∧ Hid (∀ y ∈ ds, 1 ≤ y ∧ y ≤ 8)) (fun k _ _ _ => (intOf k).toNat)
    case atStart => exact ⟨K, 0, 1, _, 0, [], by omega, rfl, rfl, by omega, by simp, rfl, HC4, HD4, Lib.hid (by simp)⟩
    case round =>
      obtain ⟨k1, dn, xx, ad, cap, ds, hkd, rfl, rfl, hx1, hx2, rfl, HC, HD, HDB⟩ := hrel
      obtain ⟨wi, rfl⟩ : ∃ x, x = wr := ⟨wr, rfl⟩
      clear HC4 HD4
      have hp8 : 2 ^ dn ≤ 8 := Nat.le_trans (Nat.pow_le_pow_right (by omega) (show dn ≤ 3 by omega)) (by decide)
      by_cases hk0 : 0 < k1
      · obtain ⟨k2, rfl⟩ : ∃ k2, k1 = k2 + 1 := ⟨k1 - 1, by omega⟩
        have d1 : (0 : Int) < (k2 : Int) + 1 := by omega
        have hp4 : 2 ^ dn ≤ 4 := Nat.le_trans (Nat.pow_le_pow_right (by omega) (show dn ≤ 2 by omega)) (by decide)
        have HPW : Hid (2 ^ (dn + 1) = 2 ^ dn * 2) := Lib.hid (Nat.pow_succ _ _)
        have HX2 := Lib.hid hx2
        have hxx : xx ≤ 4 := by omega
        clear hp8 hp4 hx2 hk0
        go_wp2_with fail
        refine (l01Next_any b a m c bs 2 wi HC.out.src (by omega) hmc).mono ?_
        rintro e w5 ⟨f, rfl, hf0, hf1, hs, hc⟩
        obtain ⟨F, rfl⟩ : ∃ F : Nat, f = F := ⟨f.toNat, by omega⟩
        have hF : F ≤ 1 := by omega
        have HC5 := Lib.hid (HC.out.next hs hc rfl rfl rfl rfl)
        have HD5 := Lib.hid (HD.out.kept hc (fun p hp e => by have := (HD.out.block p hp).1; omega))
        have s5 := HC5.out.sz
        clear hs hc hf0 hf1
        have hmul : (xx : Int) * (1 + (F : Int)) = ((xx * (1 + F) : Nat) : Int) := by rw [Int.natCast_mul]; rfl
        have hle : xx * (1 + F) ≤ 4 * 2 := Nat.mul_le_mul hxx (by omega)
        have hge : 1 ≤ xx * (1 + F) := Nat.mul_pos (by omega) (by omega)
        have HLe : Hid (xx * (1 + F) ≤ 2 ^ (dn + 1)) := Lib.hid (by rw [HPW.out]; exact Nat.mul_le_mul HX2.out (by omega))
        have W1 : IntKind.i64.wrap ((xx : Int) * (1 + (F : Int))) = ((xx * (1 + F) : Nat) : Int) := by rw [hmul]; exact IntWalk.i64_in _ (by omega)
        generalize xx * (1 + F) = Y at *
        go_wp2_with (at_builtin; go_loud (refine wpList_push rfl (.tmp 41) (.tmp 43) 31 rfl w1.heap.size 2 (.int .i64 0) 8 Try.underlying31 Try.info2 rfl (by decide) (.int .i64 Y) rfl _ _ _ _ rfl rfl (by exact HD5.out) (by omega) (by exact s5) ?_; rintro a4 c4 w6 r4 q4 g4; have HN := Lib.hid (OwnI.pushed r4); have HC6 := Lib.hid (HC5.out.low (g4.below s5 (fun k hk hx => by obtain ⟨p, hp, e⟩ := hx; have := (HD5.out.block p hp).1; omega)) (Nat.le_refl _) rfl rfl rfl rfl); clear r4 q4 g4))
        have HNB : Hid (∀ y ∈ ds ++ [(Y : Int)], 1 ≤ y ∧ y ≤ 8) := Lib.hid (fun y hy => by
          rcases List.mem_append.1 hy with h | h
          · exact HDB.out y h
          · simp at h; omega)
        go_wp2_with fail
        go_roundw
        case rel => exact ⟨k2, dn + 1, Y, a4, c4, _, by omega, by go_num, rfl, by omega, HLe.out, rfl, HC6, HN, HNB⟩
        case measure => simp [intOf]
      · have d1 : ¬ (0 : Int) < (k1 : Int) := by omega
        have hdn : dn ≤ MN := by omega
        clear hp8 hx1 hx2 hkd hk0
        go_wp2_with fail
        obtain ⟨wL, hwL⟩ : ∃ x, x = wi := ⟨wi, rfl⟩
        have HOR0 : Hid (OwnR 31 2 (wi.alloc (.cells #[] 31)) wi.heap.size (some ⟨wi.heap.size, 0, none⟩) 0 0 [] (fun _ => none) (fun _ => 0) ∧ Sm 8 M [] ∧ Below wi.heap.size wi (wi.alloc (.cells #[] 31))) := Lib.hid ⟨OwnR.empty wi _ _ _ _, ⟨fun i hi => by simp at hi, fun i j hi => by simp at hi⟩, (Below.refl _ _).alloc (Nat.le_refl _) _⟩
        rw [← hwL] at HOR0 HC HD
        have HWL := Lib.hid hwL
        have HMK := Lib.hid (run_make_row' (P := Try.prog) 31 2 (.int .i64 0) 8 Try.underlying31 Try.info2 rfl .i64 .i64 M (by omega) (by omega))
        have hlds := HD.out.len
        have HLDS := Lib.hid hlds
        clear hwL hlds
        go_loopw [13, 12] (fun i o wr => ∃ (i1 : Nat) (a2 : Option Addr) (cap2 : Nat) (xs : List (List Int)) (A : Nat → Option Addr) (C : Nat → Nat), i1 ≤ N ∧ i = .int .i64 i1 ∧ o = .slice a2 i1 cap2 ∧ Hid (OwnR 31 2 wr wL.heap.size a2 i1 cap2 xs A C ∧ Sm 8 M xs ∧ Below wL.heap.size wL wr)) (fun i _ _ => N - (intOf i).toNat)
        case atStart => exact ⟨0, _, 0, [], _, _, Nat.zero_le _, rfl, rfl, by first | exact HOR0 | (rw [← HWL.out]; exact HOR0)⟩
        case round =>
          obtain ⟨i1, a2, cap2, xs, A, C, hi1, rfl, rfl, HI⟩ := hrel
          obtain ⟨wj, rfl⟩ : ∃ x, x = wr := ⟨wr, rfl⟩
          clear HOR0
          by_cases hiN : i1 < N
          · have J1 : (i1 : Int) < (N : Int) := by omega
            have hmk := HMK.out
            have sj := HI.out.2.2.size
            by_cases hid : i1 < dn
            · have J2 : (i1 : Int) < (dn : Int) := by omega
              have hiM : i1 < M := by omega
              have J3 : (i1 : Int) < (M : Int) := by omega
              obtain ⟨gd, rfl⟩ := HD.out.addr (show 0 < dn by omega)
              have cd := (HD.out.keep HI.out.2.2 (Nat.le_refl _)).cellAt hid
              have gdl : gd < wj.heap.size := ((HD.out.keep HI.out.2.2 (Nat.le_refl _)).block _ rfl).2
              obtain ⟨v, hv⟩ : ∃ v, v = el ds i1 := ⟨_, rfl⟩
              have hvb : 1 ≤ v ∧ v ≤ 8 := HDB.out v (by rw [hv]; exact el_mem (by rw [HLDS.out]; exact hid))
              rw [← hv] at cd
              have HO := (OwnI.made wj 2 M (by unfold maxLen; omega)).set hiM v
              rw [World.setCell_alloc_at _ _ _ _ _ rfl] at HO
              have HO1 := Lib.hid HO
              have HVR : Hid (∀ j, j < M → -8 ≤ el ((tab M (fun _ => (0 : Int))).set i1 v) j ∧ el ((tab M (fun _ => (0 : Int))).set i1 v) j ≤ 8) := Lib.hid (fun j hj => by
                by_cases hjk : i1 = j
                · subst hjk; simp [el, tab, hiM]; omega
                · simp [el, tab, hjk, hj])
              have HVL : Hid (((tab M (fun _ => (0 : Int))).set i1 v).length = M) := Lib.hid (by simp [tab])
              have HE1 : Hid (Below wj.heap.size wj (wj.alloc (.cells ((madeCells #[.int .i64 0] M).setIfInBounds i1 (.int .i64 v)) 2))) := Lib.hid ((Below.refl _ _).alloc (Nat.le_refl _) _)
              have HR1 := Lib.hid (HI.out.1.keep HE1.out (Nat.le_refl _))
              have SJE : Hid (wj.heap.size + 1 = (wj.alloc (.cells ((madeCells #[.int .i64 0] M).setIfInBounds i1 (.int .i64 v)) 2)).heap.size) := Lib.hid (by simp)
              have sj2 : wL.heap.size ≤ (wj.alloc (.cells ((madeCells #[.int .i64 0] M).setIfInBounds i1 (.int .i64 v)) 2)).heap.size := by simp; omega
              have e1 := (OwnI.made wj 2 M (by unfold maxLen; omega)).cellAt hiM
              rw [el_tab hiM] at e1
              have e2 := (OwnI.made wj 2 M (by unfold maxLen; omega)).frozen i1
              clear HO hv hid
              go_wp2_with (at_builtin; go_loud (refine wpList_pushB rfl (.tmp 64) (.tmp 66) 24 rfl wL.heap.size 31 (.slice none 0 0) 24 Try.underlying24 Try.infoR rfl (by decide) (.slice (some ⟨wj.heap.size, 0, none⟩) M M) rfl _ _ _ _ _ rfl rfl (by simp) (by exact HR1.out.own) (by omega) (by exact sj2) ?_; rintro a4 c4 w6 r4 q4 g4; have HN := Lib.hid (HI.out.1.pushNew2 sj HE1.out HO1.out (Nat.le_refl _) r4 q4 g4); clear r4 q4 g4))
              have HNS := Lib.hid (HI.out.2.1.snoc HVL.out HVR.out)
              go_wp2_with fail
              go_roundw
              case rel => exact ⟨i1 + 1, a4, c4, _, _, _, by omega, by go_num, rfl, Lib.hid ⟨HN.out.1, HNS.out, HI.out.2.2.trans HN.out.2⟩⟩
              case measure => simp [intOf]; omega
            · have J2 : ¬ (i1 : Int) < (dn : Int) := by omega
              have HO1 := Lib.hid (OwnI.made wj 2 M (by unfold maxLen; omega))
              have HVR : Hid (∀ j, j < M → -8 ≤ el (tab M (fun _ => (0 : Int))) j ∧ el (tab M (fun _ => (0 : Int))) j ≤ 8) := Lib.hid (fun j hj => by rw [el_tab hj]; omega)
              have HE1 : Hid (Below wj.heap.size wj (wj.alloc (.cells (madeCells #[.int .i64 0] M) 2))) := Lib.hid ((Below.refl _ _).alloc (Nat.le_refl _) _)
              have HR1 := Lib.hid (HI.out.1.keep HE1.out (Nat.le_refl _))
              have SJE : Hid (wj.heap.size + 1 = (wj.alloc (.cells (madeCells #[.int .i64 0] M) 2)).heap.size) := Lib.hid (by simp)
              have sj2 : wL.heap.size ≤ (wj.alloc (.cells (madeCells #[.int .i64 0] M) 2)).heap.size := by simp; omega
              clear hid
              go_wp2_with (at_builtin; go_loud (refine wpList_pushB rfl (.tmp 64) (.tmp 66) 24 rfl wL.heap.size 31 (.slice none 0 0) 24 Try.underlying24 Try.infoR rfl (by decide) (.slice (some ⟨wj.heap.size, 0, none⟩) M M) rfl _ _ _ _ _ rfl rfl (by simp) (by exact HR1.out.own) (by omega) (by exact sj2) ?_; rintro a4 c4 w6 r4 q4 g4; have HN := Lib.hid (HI.out.1.pushNew2 sj HE1.out HO1.out (Nat.le_refl _) r4 q4 g4); clear r4 q4 g4))
              have HNS := Lib.hid (HI.out.2.1.snoc (tab_len _ _) HVR.out)
              go_wp2_with fail
              go_roundw
              case rel => exact ⟨i1 + 1, a4, c4, _, _, _, by omega, by go_num, rfl, Lib.hid ⟨HN.out.1, HNS.out, HI.out.2.2.trans HN.out.2⟩⟩
              case measure => simp [intOf]; omega
          · obtain rfl : i1 = N := by omega
            have J1 : ¬ (i1 : Int) < (i1 : Int) := by omega
            have sj := HI.out.2.2.size
            have sL := HC.out.sz
            have HC6 := Lib.hid (HC.out.low HI.out.2.2 sL rfl rfl rfl rfl)
            have HD6 := Lib.hid (HD.out.keep HI.out.2.2 (Nat.le_refl _))
            have HT6 : Hid (MadeR 31 2 wj w1.heap.size a2 i1 cap2 xs) := Lib.hid ⟨A, C, HI.out.1.mono sL⟩
            have HTS := Lib.hid HI.out.2.1
            have hdl : dn ≤ 4 := by omega
            clear HC HD HI HMK HWL
            go_wp2_with fail
            refine (l04Shears_any b a m c bs i1 wj HC6.out.src hmc (by omega) (by omega)).mono ?_
            rintro e w7 ⟨U, au, cu, rfl, hm, hsm, hun, hs, hc⟩
            have HC7 := Lib.hid (HC6.out.next hs hc rfl rfl rfl rfl)
            have HD7 := Lib.hid (HD6.out.kept hc (fun p hp e => by have := (HD6.out.block p hp).1; omega))
            have HT7 := Lib.hid (HT6.out.keptS hc (fun k hk e => by omega))
            have HU7 := Lib.hid hm.low
            have s67 := hc.size
            have s16 := HC6.out.sz
            have HDL : Hid (∀ p, ad = some p → p.block < wj.heap.size) := Lib.hid (fun p hp => (HD6.out.block p hp).2)
            have HUS := Lib.hid hsm
            have HUN := Lib.hid hun
            clear hs hc hm hsm hun HC6 HD6 HT6
            go_wp2_with fail
            refine (l04Shears_any b a m c bs M w7 HC7.out.src hmc (by omega) (by omega)).mono ?_
            rintro e w8 ⟨V, av, cv, rfl, hm, hsm, hun, hs, hc⟩
            have HC8 := Lib.hid (HC7.out.next hs hc rfl rfl rfl rfl)
            have HD8 := Lib.hid (HD7.out.kept hc (fun p hp e => by have := (HD7.out.block p hp).1; omega))
            have HT8 := Lib.hid (HT7.out.keptS hc (fun k hk e => by omega))
            have HU8 := Lib.hid (HU7.out.keptS hc (fun k hk hl e => by omega))
            have HV8 := Lib.hid hm.low
            have s78 := hc.size
            have HVS := Lib.hid hsm
            have HVN := Lib.hid hun
            clear hs hc hm hsm hun HC7 HD7 HT7 HU7
            have HUQ := Lib.hid ((HUS.out.mono (show (27 : Int) ≤ 64 by omega)).sq HU8.out.len)
            have HVQ := Lib.hid ((HVS.out.mono (show (27 : Int) ≤ 64 by omega)).sq HV8.out.len)
            have HUD : Hid (detN i1 U = 1 ∨ detN i1 U = -1) := Lib.hid (by rw [dN_det HU8.out.len HUQ.out.row]; exact HUN.out)
            have HVD : Hid (detN M V = 1 ∨ detN M V = -1) := Lib.hid (by rw [dN_det HV8.out.len HVQ.out.row]; exact HVN.out)
            go_wp2_with fail
            refine (l04Inverse_any au i1 cu U w8 HU8.out.rd HU8.out.len HUQ.out HUD.out (by omega) (by omega) HU8.out.capl).mono ?_
            rintro e w9 ⟨UI, ai, ci, rfl, hm, hsm, hb⟩
            have HC9 := Lib.hid (HC8.out.low hb HC8.out.sz rfl rfl rfl rfl)
            have s89 := hb.size
            have HD9 := Lib.hid (HD8.out.keep hb (Nat.le_refl _))
            have HT9 := Lib.hid (HT8.out.keep hb (Nat.le_refl _))
            have HU9 := Lib.hid (HU8.out.keep hb (Nat.le_refl _))
            have HV9 := Lib.hid (HV8.out.keep hb (Nat.le_refl _))
            have HPR := Lib.hid (first_prok (show i1 ≤ 4 by omega) hM3 (by omega) hsm hm.len HTS.out HT8.out.len)
            have HI9 := Lib.hid hm.rd
            clear hm hsm hb HC8 HD8 HT8 HU8 HV8
            go_wp2_with fail
            refine (l04Times_any ai a2 i1 i1 ci cap2 M 1572864 8 UI xs w9 HI9.out HT9.out.rd HPR.out (by omega) (by omega)).mono ?_
            rintro e w10 ⟨a10, c10, rfl, hm, hb⟩
            have HC10 := Lib.hid (HC9.out.low hb HC9.out.sz rfl rfl rfl rfl)
            have s910 := hb.size
            have HD10 := Lib.hid (HD9.out.keep hb (Nat.le_refl _))
            have HU10 := Lib.hid (HU9.out.keep hb (Nat.le_refl _))
            have HV10 := Lib.hid (HV9.out.keep hb (Nat.le_refl _))
            have HP10 := Lib.hid hm.rd
            clear hm hb HC9 HD9 HT9 HU9 HV9 HI9
            go_wp2_with fail
            refine (l04Inverse_any av M cv V w10 HV10.out.rd HV10.out.len HVQ.out HVD.out (by omega) (by omega) HV10.out.capl).mono ?_
            rintro e w11 ⟨VI, aj, cj, rfl, hm, hsm, hb⟩
            have HC11 := Lib.hid (HC10.out.low hb HC10.out.sz rfl rfl rfl rfl)
            have s1011 := hb.size
            have HD11 := Lib.hid (HD10.out.keep hb (Nat.le_refl _))
            have HU11 := Lib.hid (HU10.out.keep hb (Nat.le_refl _))
            have HV11 := Lib.hid (HV10.out.keep hb (Nat.le_refl _))
            have HP11 := Lib.hid (HP10.out.keep hb (Nat.le_refl _))
            have HQR := Lib.hid (second_prok (show i1 ≤ 4 by omega) hM3 hM1 HPR.out hsm hm.len)
            have HJ11 := Lib.hid hm.rd
            clear hm hsm hb HC10 HD10 HU10 HV10 HP10
            go_wp2_with fail
            refine (l04Times_any a10 aj i1 M c10 cj M 50331648 8192 (timesI M UI xs) VI w11 HP11.out HJ11.out HQR.out (by omega) (by omega)).mono ?_
            rintro e w12 ⟨a12, c12, rfl, hm, hb⟩
            have HC12 := Lib.hid (HC11.out.low hb HC11.out.sz rfl rfl rfl rfl)
            have HD12 := Lib.hid (HD11.out.keep hb (Nat.le_refl _))
            have HU12 := Lib.hid (HU11.out.keep hb (Nat.le_refl _))
            have HV12 := Lib.hid (HV11.out.keep hb (Nat.le_refl _))
            have HP12 := Lib.hid hm.low
            have s1112 := hb.size
            have HTL : Hid (∀ i, i < i1 → (rw_ (timesI M (timesI M UI xs) VI) i).length = M) := Lib.hid (fun i hi => by rw [timesI_row (by rw [timesI_len, HPR.out.lenA]; exact hi), psum_len])
            obtain ⟨X, hX⟩ : ∃ X, X = timesI M (timesI M UI xs) VI := ⟨_, rfl⟩
            rw [← hX] at HP12 HTL
            clear hm hb HC11 HD11 HU11 HV11 HP11 HJ11 HPR HQR hX
            go_wp2_with fail
            refine (l01Next_any b a m c bs 12 w12 HC12.out.src (by omega) hmc).mono ?_
            rintro e w13 ⟨z, rfl, hz0, hz1, hs, hc⟩
            have HC13 := Lib.hid (HC12.out.next hs hc rfl rfl rfl rfl)
            have HD13 := Lib.hid (HD12.out.kept hc (fun p hp e => by have := (HD12.out.block p hp).1; omega))
            have HU13 := Lib.hid (HU12.out.keptS hc (fun k hk hl e => by omega))
            have HV13 := Lib.hid (HV12.out.keptS hc (fun k hk hl e => by omega))
            have HP13 := Lib.hid (HP12.out.keptS hc (fun k hk hl e => by omega))
            have HUL : Hid (∀ i, i < i1 → (rw_ U i).length ≤ 100) := Lib.hid (fun i hi => by rw [HUQ.out.row i hi]; omega)
            have HVL : Hid (∀ i, i < M → (rw_ V i).length ≤ 100) := Lib.hid (fun i hi => by rw [HVQ.out.row i hi]; omega)
            have HXL : Hid (∀ i, i < i1 → (rw_ X i).length ≤ 100) := Lib.hid (fun i hi => by rw [HTL.out i hi]; omega)
            have HDI : Hid (∀ x ∈ ds, I64 x) := Lib.hid (fun x hx => by have := HDB.out x hx; unfold I64; omega)
            have s13 := HC13.out.sz
            clear hs hc HC12 HD12 HU12 HV12 HP12 HUS HVS HUN HVN HUD HVD HTS HDB HLDS
            by_cases hz_0 : z = 0
            · subst hz_0
              clear hz0 hz1
              go_wp2_with (at_builtin; go_loud (refine wpList_push rfl (.tmp 87) (.tmp 88) 31 rfl w1.heap.size 2 (.int .i64 0) 8 Try.underlying31 Try.info2 rfl (by decide) (.int .i64 1) rfl _ _ _ _ rfl rfl (by exact HD13.out) (by omega) (by exact s13) ?_; rintro a4 c4 w14 r4 q4 g4; have HN := Lib.hid (OwnI.pushed r4); have HC14 := Lib.hid (HC13.out.low (g4.below s13 (fun k hk hx => by obtain ⟨p, hp, e⟩ := hx; have := (HD13.out.block p hp).1; omega)) (Nat.le_refl _) rfl rfl rfl rfl); have HUE := Lib.hid (HU13.out.keptS (S := fun k => ∃ p, ad = some p ∧ p.block = k) g4 (fun k h1 h2 hx => by obtain ⟨p, hp, e⟩ := hx; have := HDL.out p hp; omega)); have HVE := Lib.hid (HV13.out.keptS (S := fun k => ∃ p, ad = some p ∧ p.block = k) g4 (fun k h1 h2 hx => by obtain ⟨p, hp, e⟩ := hx; have := HDL.out p hp; omega)); have HPE := Lib.hid (HP13.out.keptS (S := fun k => ∃ p, ad = some p ∧ p.block = k) g4 (fun k h1 h2 hx => by obtain ⟨p, hp, e⟩ := hx; have := HDL.out p hp; omega)); have s14 := HC14.out.sz; clear r4 q4 g4; have hbe := HBE.out; have BXZ := HX1.out.chg HC14.out.chg (by omega); have BYZ := HY1.out.chg HC14.out.chg (by omega); have BZZ := HZ1.out.chg HC14.out.chg (by omega); have x0 := BXZ.cell 0; have x1 := BXZ.cell 1; have x2 := BYZ.cell 0; have x3 := BYZ.cell 1; have x4 := BZZ.cell 0; have x5 := BZZ.cell 1; have f0 := BXZ.frz 0; have f1 := BXZ.frz 1; have f2 := BYZ.frz 0; have f3 := BYZ.frz 1; have f4 := BZZ.frz 0; have f5 := BZZ.frz 1; have l0 := BXZ.lt; have l1 := BYZ.lt; have l2 := BZZ.lt; simp at x0 x1 x2 x3 x4 x5; have A0 := ((((((BXZ.set 0 (.int .i64 M)).set 1 (.slice a12 i1 c12)).other (p := ⟨w.heap.size + 1, 0, none⟩) (by simp; try omega) (.int .i64 i1)).other (p := ⟨w.heap.size + 1, 1, none⟩) (by simp; try omega) (.slice au i1 cu)).other (p := ⟨w.heap.size + 1 + 1, 0, none⟩) (by simp; try omega) (.int .i64 M)).other (p := ⟨w.heap.size + 1 + 1, 1, none⟩) (by simp; try omega) (.slice av M cv)); have B0 := ((((((BYZ.other (p := ⟨w.heap.size, 0, none⟩) (by simp; try omega) (.int .i64 M)).other (p := ⟨w.heap.size, 1, none⟩) (by simp; try omega) (.slice a12 i1 c12)).set 0 (.int .i64 i1)).set 1 (.slice au i1 cu)).other (p := ⟨w.heap.size + 1 + 1, 0, none⟩) (by simp; try omega) (.int .i64 M)).other (p := ⟨w.heap.size + 1 + 1, 1, none⟩) (by simp; try omega) (.slice av M cv)); have C0 := ((((((BZZ.other (p := ⟨w.heap.size, 0, none⟩) (by simp; try omega) (.int .i64 M)).other (p := ⟨w.heap.size, 1, none⟩) (by simp; try omega) (.slice a12 i1 c12)).other (p := ⟨w.heap.size + 1, 0, none⟩) (by simp; try omega) (.int .i64 i1)).other (p := ⟨w.heap.size + 1, 1, none⟩) (by simp; try omega) (.slice au i1 cu)).set 0 (.int .i64 M)).set 1 (.slice av M cv)); have u0 := A0.cell 0; have u1 := A0.cell 1; have u2 := B0.cell 0; have u3 := B0.cell 1; have u4 := C0.cell 0; have u5 := C0.cell 1; simp at u0 u1 u2 u3 u4 u5; have HBZ : Hid (Below w.heap.size w ((((((w14.setCell ⟨w.heap.size, 0, none⟩ (.int .i64 M)).setCell ⟨w.heap.size, 1, none⟩ (.slice a12 i1 c12)).setCell ⟨w.heap.size + 1, 0, none⟩ (.int .i64 i1)).setCell ⟨w.heap.size + 1, 1, none⟩ (.slice au i1 cu)).setCell ⟨w.heap.size + 1 + 1, 0, none⟩ (.int .i64 M)).setCell ⟨w.heap.size + 1 + 1, 1, none⟩ (.slice av M cv))) := Lib.hid (HB1.out.trans ((((((((HC14.out.chg.up (by omega) (by omega)).setCell (p := ⟨w.heap.size, 0, none⟩) (show w.heap.size ≤ w.heap.size by omega) (.int .i64 M)).setCell (p := ⟨w.heap.size, 1, none⟩) (show w.heap.size ≤ w.heap.size by omega) (.slice a12 i1 c12)).setCell (p := ⟨w.heap.size + 1, 0, none⟩) (show w.heap.size ≤ w.heap.size + 1 by omega) (.int .i64 i1)).setCell (p := ⟨w.heap.size + 1, 1, none⟩) (show w.heap.size ≤ w.heap.size + 1 by omega) (.slice au i1 cu)).setCell (p := ⟨w.heap.size + 1 + 1, 0, none⟩) (show w.heap.size ≤ w.heap.size + 1 + 1 by omega) (.int .i64 M)).setCell (p := ⟨w.heap.size + 1 + 1, 1, none⟩) (show w.heap.size ≤ w.heap.size + 1 + 1 by omega) (.slice av M cv)))); have HUZ := Lib.hid ((((((HUE.out.setAway ⟨w.heap.size, 0, none⟩ (.inl (show w.heap.size < _ by omega)) (.int .i64 M)).setAway ⟨w.heap.size, 1, none⟩ (.inl (show w.heap.size < _ by omega)) (.slice a12 i1 c12)).setAway ⟨w.heap.size + 1, 0, none⟩ (.inl (show w.heap.size + 1 < _ by omega)) (.int .i64 i1)).setAway ⟨w.heap.size + 1, 1, none⟩ (.inl (show w.heap.size + 1 < _ by omega)) (.slice au i1 cu)).setAway ⟨w.heap.size + 1 + 1, 0, none⟩ (.inl (show w.heap.size + 1 + 1 < _ by omega)) (.int .i64 M)).setAway ⟨w.heap.size + 1 + 1, 1, none⟩ (.inl (show w.heap.size + 1 + 1 < _ by omega)) (.slice av M cv)); have HVZ := Lib.hid ((((((HVE.out.setAway ⟨w.heap.size, 0, none⟩ (.inl (show w.heap.size < _ by omega)) (.int .i64 M)).setAway ⟨w.heap.size, 1, none⟩ (.inl (show w.heap.size < _ by omega)) (.slice a12 i1 c12)).setAway ⟨w.heap.size + 1, 0, none⟩ (.inl (show w.heap.size + 1 < _ by omega)) (.int .i64 i1)).setAway ⟨w.heap.size + 1, 1, none⟩ (.inl (show w.heap.size + 1 < _ by omega)) (.slice au i1 cu)).setAway ⟨w.heap.size + 1 + 1, 0, none⟩ (.inl (show w.heap.size + 1 + 1 < _ by omega)) (.int .i64 M)).setAway ⟨w.heap.size + 1 + 1, 1, none⟩ (.inl (show w.heap.size + 1 + 1 < _ by omega)) (.slice av M cv)); have HPZ := Lib.hid ((((((HPE.out.setAway ⟨w.heap.size, 0, none⟩ (.inl (show w.heap.size < _ by omega)) (.int .i64 M)).setAway ⟨w.heap.size, 1, none⟩ (.inl (show w.heap.size < _ by omega)) (.slice a12 i1 c12)).setAway ⟨w.heap.size + 1, 0, none⟩ (.inl (show w.heap.size + 1 < _ by omega)) (.int .i64 i1)).setAway ⟨w.heap.size + 1, 1, none⟩ (.inl (show w.heap.size + 1 < _ by omega)) (.slice au i1 cu)).setAway ⟨w.heap.size + 1 + 1, 0, none⟩ (.inl (show w.heap.size + 1 + 1 < _ by omega)) (.int .i64 M)).setAway ⟨w.heap.size + 1 + 1, 1, none⟩ (.inl (show w.heap.size + 1 + 1 < _ by omega)) (.slice av M cv)); have HDZ := Lib.hid ((((((HN.out.setCell (p := ⟨w.heap.size, 0, none⟩) (show w.heap.size < _ by omega) (.int .i64 M)).setCell (p := ⟨w.heap.size, 1, none⟩) (show w.heap.size < _ by omega) (.slice a12 i1 c12)).setCell (p := ⟨w.heap.size + 1, 0, none⟩) (show w.heap.size + 1 < _ by omega) (.int .i64 i1)).setCell (p := ⟨w.heap.size + 1, 1, none⟩) (show w.heap.size + 1 < _ by omega) (.slice au i1 cu)).setCell (p := ⟨w.heap.size + 1 + 1, 0, none⟩) (show w.heap.size + 1 + 1 < _ by omega) (.int .i64 M)).setCell (p := ⟨w.heap.size + 1 + 1, 1, none⟩) (show w.heap.size + 1 + 1 < _ by omega) (.slice av M cv)); clear A0 B0 C0 BXZ BYZ BZZ hbe))
              have HDI2 : Hid (∀ x ∈ ds ++ [1], I64 x) := Lib.hid (fun x hx => by
                rcases List.mem_append.1 hx with h | h
                · exact HDI.out x h
                · simp at h; subst h; unfold I64; omega)
              go_wp2_with fail
              refine bodyPost_ret (v := .tuple #[.agg #[.int .i64 M, .slice a12 i1 c12], .agg #[.int .i64 i1, .slice au i1 cu], .agg #[.int .i64 M, .slice av M cv], .slice a4 (dn + 1) c4]) (by simp [results, Try.results12, go_sem, u0, u1, u2, u3, u4, u5]) rfl (by unfold DrawnSmith; exact ⟨M, a12, i1, c12, X, i1, au, i1, cu, U, M, av, M, cv, V, a4, (dn + 1), c4, (ds ++ [1]), rfl, ⟨by unfold I64; omega, HPZ.out.rd, HPZ.out.len, HPZ.out.capl, by omega, HXL.out⟩, ⟨by unfold I64; omega, HUZ.out.rd, HUZ.out.len, HUZ.out.capl, by omega, HUL.out⟩, ⟨by unfold I64; omega, HVZ.out.rd, HVZ.out.len, HVZ.out.capl, by omega, HVL.out⟩, HDZ.out.rd, HDZ.out.len, by omega, HDI2.out, HBZ.out⟩)
            · have e0 : (z == 0) = false := beq_eq_false_iff_ne.2 hz_0
              by_cases hz_1 : z = 1
              · subst hz_1
                clear hz0 hz1
                obtain ⟨g, gr, cr, eA, hc0, hc1, hfr, hB0, hL0, hg0, hg1, hset⟩ := HU13.out.first (show 0 < i1 by omega) (by rw [HUQ.out.row 0 (by omega)]; omega)
                subst eA
                rw [HUQ.out.row 0 (by omega)] at hc0
                have HSE := Lib.hid hset
                clear hset
                have HCB : Hid (SQ w1 (w13.setCell ⟨gr, 0, none⟩ (.int .i64 (wrap64 (el (rw_ U 0) 0 + 1)))) b a m c bs) := Lib.hid (HC13.out.set ⟨gr, 0, none⟩ (show w1.heap.size ≤ gr by omega) _)
                have HDB2 : Hid (OwnI 2 (w13.setCell ⟨gr, 0, none⟩ (.int .i64 (wrap64 (el (rw_ U 0) 0 + 1)))) w1.heap.size ad dn cap ds) := Lib.hid (HD13.out.kept ((Chg.refl (fun j => j = gr) w13).setCell ⟨gr, 0, none⟩ rfl _) (fun p hp e => by have := HDL.out p hp; omega))
                have HUB := Lib.hid (HSE.out (wrap64 (el (rw_ U 0) 0 + 1)))
                have HVE := Lib.hid (HV13.out.setAway ⟨gr, 0, none⟩ (.inl (show gr < _ by omega)) (.int .i64 (wrap64 (el (rw_ U 0) 0 + 1))))
                have HPB := Lib.hid (HP13.out.setAway ⟨gr, 0, none⟩ (.inl (show gr < _ by omega)) (.int .i64 (wrap64 (el (rw_ U 0) 0 + 1))))
                have hbe := HBE.out
                have BXZ := HX1.out.chg HCB.out.chg (by omega)
                have BYZ := HY1.out.chg HCB.out.chg (by omega)
                have BZZ := HZ1.out.chg HCB.out.chg (by omega)
                have x0 := BXZ.cell 0
                have x1 := BXZ.cell 1
                have x2 := BYZ.cell 0
                have x3 := BYZ.cell 1
                have x4 := BZZ.cell 0
                have x5 := BZZ.cell 1
                have f0 := BXZ.frz 0
                have f1 := BXZ.frz 1
                have f2 := BYZ.frz 0
                have f3 := BYZ.frz 1
                have f4 := BZZ.frz 0
                have f5 := BZZ.frz 1
                have l0 := BXZ.lt
                have l1 := BYZ.lt
                have l2 := BZZ.lt
                simp at x0 x1 x2 x3 x4 x5
                have A0 := ((((((BXZ.set 0 (.int .i64 M)).set 1 (.slice a12 i1 c12)).other (p := ⟨w.heap.size + 1, 0, none⟩) (by simp; try omega) (.int .i64 i1)).other (p := ⟨w.heap.size + 1, 1, none⟩) (by simp; try omega) (.slice (some ⟨g, 0, none⟩) i1 cu)).other (p := ⟨w.heap.size + 1 + 1, 0, none⟩) (by simp; try omega) (.int .i64 M)).other (p := ⟨w.heap.size + 1 + 1, 1, none⟩) (by simp; try omega) (.slice av M cv))
                have B0 := ((((((BYZ.other (p := ⟨w.heap.size, 0, none⟩) (by simp; try omega) (.int .i64 M)).other (p := ⟨w.heap.size, 1, none⟩) (by simp; try omega) (.slice a12 i1 c12)).set 0 (.int .i64 i1)).set 1 (.slice (some ⟨g, 0, none⟩) i1 cu)).other (p := ⟨w.heap.size + 1 + 1, 0, none⟩) (by simp; try omega) (.int .i64 M)).other (p := ⟨w.heap.size + 1 + 1, 1, none⟩) (by simp; try omega) (.slice av M cv))
                have C0 := ((((((BZZ.other (p := ⟨w.heap.size, 0, none⟩) (by simp; try omega) (.int .i64 M)).other (p := ⟨w.heap.size, 1, none⟩) (by simp; try omega) (.slice a12 i1 c12)).other (p := ⟨w.heap.size + 1, 0, none⟩) (by simp; try omega) (.int .i64 i1)).other (p := ⟨w.heap.size + 1, 1, none⟩) (by simp; try omega) (.slice (some ⟨g, 0, none⟩) i1 cu)).set 0 (.int .i64 M)).set 1 (.slice av M cv))
                have u0 := A0.cell 0
                have u1 := A0.cell 1
                have u2 := B0.cell 0
                have u3 := B0.cell 1
                have u4 := C0.cell 0
                have u5 := C0.cell 1
                simp at u0 u1 u2 u3 u4 u5
                have u0 : (((((((w13.setCell ⟨gr, 0, none⟩ (.int .i64 (wrap64 (el (rw_ U 0) 0 + 1)))).setCell ⟨w.heap.size, 0, none⟩ (.int .i64 M)).setCell ⟨w.heap.size, 1, none⟩ (.slice a12 i1 c12)).setCell ⟨w.heap.size + 1, 0, none⟩ (.int .i64 i1)).setCell ⟨w.heap.size + 1, 1, none⟩ (.slice (some ⟨g, 0, none⟩) i1 cu)).setCell ⟨w.heap.size + 1 + 1, 0, none⟩ (.int .i64 M)).setCell ⟨w.heap.size + 1 + 1, 1, none⟩ (.slice av M cv)).drew.cell? ⟨w.heap.size, 0, none⟩ = some (.int .i64 M) := (cell_drew _ _).trans u0
                have u1 : (((((((w13.setCell ⟨gr, 0, none⟩ (.int .i64 (wrap64 (el (rw_ U 0) 0 + 1)))).setCell ⟨w.heap.size, 0, none⟩ (.int .i64 M)).setCell ⟨w.heap.size, 1, none⟩ (.slice a12 i1 c12)).setCell ⟨w.heap.size + 1, 0, none⟩ (.int .i64 i1)).setCell ⟨w.heap.size + 1, 1, none⟩ (.slice (some ⟨g, 0, none⟩) i1 cu)).setCell ⟨w.heap.size + 1 + 1, 0, none⟩ (.int .i64 M)).setCell ⟨w.heap.size + 1 + 1, 1, none⟩ (.slice av M cv)).drew.cell? ⟨w.heap.size, 1, none⟩ = some (.slice a12 i1 c12) := (cell_drew _ _).trans u1
                have u2 : (((((((w13.setCell ⟨gr, 0, none⟩ (.int .i64 (wrap64 (el (rw_ U 0) 0 + 1)))).setCell ⟨w.heap.size, 0, none⟩ (.int .i64 M)).setCell ⟨w.heap.size, 1, none⟩ (.slice a12 i1 c12)).setCell ⟨w.heap.size + 1, 0, none⟩ (.int .i64 i1)).setCell ⟨w.heap.size + 1, 1, none⟩ (.slice (some ⟨g, 0, none⟩) i1 cu)).setCell ⟨w.heap.size + 1 + 1, 0, none⟩ (.int .i64 M)).setCell ⟨w.heap.size + 1 + 1, 1, none⟩ (.slice av M cv)).drew.cell? ⟨w.heap.size + 1, 0, none⟩ = some (.int .i64 i1) := (cell_drew _ _).trans u2
                have u3 : (((((((w13.setCell ⟨gr, 0, none⟩ (.int .i64 (wrap64 (el (rw_ U 0) 0 + 1)))).setCell ⟨w.heap.size, 0, none⟩ (.int .i64 M)).setCell ⟨w.heap.size, 1, none⟩ (.slice a12 i1 c12)).setCell ⟨w.heap.size + 1, 0, none⟩ (.int .i64 i1)).setCell ⟨w.heap.size + 1, 1, none⟩ (.slice (some ⟨g, 0, none⟩) i1 cu)).setCell ⟨w.heap.size + 1 + 1, 0, none⟩ (.int .i64 M)).setCell ⟨w.heap.size + 1 + 1, 1, none⟩ (.slice av M cv)).drew.cell? ⟨w.heap.size + 1, 1, none⟩ = some (.slice (some ⟨g, 0, none⟩) i1 cu) := (cell_drew _ _).trans u3
                have u4 : (((((((w13.setCell ⟨gr, 0, none⟩ (.int .i64 (wrap64 (el (rw_ U 0) 0 + 1)))).setCell ⟨w.heap.size, 0, none⟩ (.int .i64 M)).setCell ⟨w.heap.size, 1, none⟩ (.slice a12 i1 c12)).setCell ⟨w.heap.size + 1, 0, none⟩ (.int .i64 i1)).setCell ⟨w.heap.size + 1, 1, none⟩ (.slice (some ⟨g, 0, none⟩) i1 cu)).setCell ⟨w.heap.size + 1 + 1, 0, none⟩ (.int .i64 M)).setCell ⟨w.heap.size + 1 + 1, 1, none⟩ (.slice av M cv)).drew.cell? ⟨w.heap.size + 1 + 1, 0, none⟩ = some (.int .i64 M) := (cell_drew _ _).trans u4
                have u5 : (((((((w13.setCell ⟨gr, 0, none⟩ (.int .i64 (wrap64 (el (rw_ U 0) 0 + 1)))).setCell ⟨w.heap.size, 0, none⟩ (.int .i64 M)).setCell ⟨w.heap.size, 1, none⟩ (.slice a12 i1 c12)).setCell ⟨w.heap.size + 1, 0, none⟩ (.int .i64 i1)).setCell ⟨w.heap.size + 1, 1, none⟩ (.slice (some ⟨g, 0, none⟩) i1 cu)).setCell ⟨w.heap.size + 1 + 1, 0, none⟩ (.int .i64 M)).setCell ⟨w.heap.size + 1 + 1, 1, none⟩ (.slice av M cv)).drew.cell? ⟨w.heap.size + 1 + 1, 1, none⟩ = some (.slice av M cv) := (cell_drew _ _).trans u5
                have HBZ : Hid (Below w.heap.size w (((((((w13.setCell ⟨gr, 0, none⟩ (.int .i64 (wrap64 (el (rw_ U 0) 0 + 1)))).setCell ⟨w.heap.size, 0, none⟩ (.int .i64 M)).setCell ⟨w.heap.size, 1, none⟩ (.slice a12 i1 c12)).setCell ⟨w.heap.size + 1, 0, none⟩ (.int .i64 i1)).setCell ⟨w.heap.size + 1, 1, none⟩ (.slice (some ⟨g, 0, none⟩) i1 cu)).setCell ⟨w.heap.size + 1 + 1, 0, none⟩ (.int .i64 M)).setCell ⟨w.heap.size + 1 + 1, 1, none⟩ (.slice av M cv))) := Lib.hid (HB1.out.trans ((((((((HCB.out.chg.up (by omega) (by omega)).setCell (p := ⟨w.heap.size, 0, none⟩) (show w.heap.size ≤ w.heap.size by omega) (.int .i64 M)).setCell (p := ⟨w.heap.size, 1, none⟩) (show w.heap.size ≤ w.heap.size by omega) (.slice a12 i1 c12)).setCell (p := ⟨w.heap.size + 1, 0, none⟩) (show w.heap.size ≤ w.heap.size + 1 by omega) (.int .i64 i1)).setCell (p := ⟨w.heap.size + 1, 1, none⟩) (show w.heap.size ≤ w.heap.size + 1 by omega) (.slice (some ⟨g, 0, none⟩) i1 cu)).setCell (p := ⟨w.heap.size + 1 + 1, 0, none⟩) (show w.heap.size ≤ w.heap.size + 1 + 1 by omega) (.int .i64 M)).setCell (p := ⟨w.heap.size + 1 + 1, 1, none⟩) (show w.heap.size ≤ w.heap.size + 1 + 1 by omega) (.slice av M cv))))
                have HUZ := Lib.hid ((((((HUB.out.setAway ⟨w.heap.size, 0, none⟩ (.inl (show w.heap.size < _ by omega)) (.int .i64 M)).setAway ⟨w.heap.size, 1, none⟩ (.inl (show w.heap.size < _ by omega)) (.slice a12 i1 c12)).setAway ⟨w.heap.size + 1, 0, none⟩ (.inl (show w.heap.size + 1 < _ by omega)) (.int .i64 i1)).setAway ⟨w.heap.size + 1, 1, none⟩ (.inl (show w.heap.size + 1 < _ by omega)) (.slice (some ⟨g, 0, none⟩) i1 cu)).setAway ⟨w.heap.size + 1 + 1, 0, none⟩ (.inl (show w.heap.size + 1 + 1 < _ by omega)) (.int .i64 M)).setAway ⟨w.heap.size + 1 + 1, 1, none⟩ (.inl (show w.heap.size + 1 + 1 < _ by omega)) (.slice av M cv))
                have HVZ := Lib.hid ((((((HVE.out.setAway ⟨w.heap.size, 0, none⟩ (.inl (show w.heap.size < _ by omega)) (.int .i64 M)).setAway ⟨w.heap.size, 1, none⟩ (.inl (show w.heap.size < _ by omega)) (.slice a12 i1 c12)).setAway ⟨w.heap.size + 1, 0, none⟩ (.inl (show w.heap.size + 1 < _ by omega)) (.int .i64 i1)).setAway ⟨w.heap.size + 1, 1, none⟩ (.inl (show w.heap.size + 1 < _ by omega)) (.slice (some ⟨g, 0, none⟩) i1 cu)).setAway ⟨w.heap.size + 1 + 1, 0, none⟩ (.inl (show w.heap.size + 1 + 1 < _ by omega)) (.int .i64 M)).setAway ⟨w.heap.size + 1 + 1, 1, none⟩ (.inl (show w.heap.size + 1 + 1 < _ by omega)) (.slice av M cv))
                have HPZ := Lib.hid ((((((HPB.out.setAway ⟨w.heap.size, 0, none⟩ (.inl (show w.heap.size < _ by omega)) (.int .i64 M)).setAway ⟨w.heap.size, 1, none⟩ (.inl (show w.heap.size < _ by omega)) (.slice a12 i1 c12)).setAway ⟨w.heap.size + 1, 0, none⟩ (.inl (show w.heap.size + 1 < _ by omega)) (.int .i64 i1)).setAway ⟨w.heap.size + 1, 1, none⟩ (.inl (show w.heap.size + 1 < _ by omega)) (.slice (some ⟨g, 0, none⟩) i1 cu)).setAway ⟨w.heap.size + 1 + 1, 0, none⟩ (.inl (show w.heap.size + 1 + 1 < _ by omega)) (.int .i64 M)).setAway ⟨w.heap.size + 1 + 1, 1, none⟩ (.inl (show w.heap.size + 1 + 1 < _ by omega)) (.slice av M cv))
                have HDZ := Lib.hid ((((((HDB2.out.setCell (p := ⟨w.heap.size, 0, none⟩) (show w.heap.size < _ by omega) (.int .i64 M)).setCell (p := ⟨w.heap.size, 1, none⟩) (show w.heap.size < _ by omega) (.slice a12 i1 c12)).setCell (p := ⟨w.heap.size + 1, 0, none⟩) (show w.heap.size + 1 < _ by omega) (.int .i64 i1)).setCell (p := ⟨w.heap.size + 1, 1, none⟩) (show w.heap.size + 1 < _ by omega) (.slice (some ⟨g, 0, none⟩) i1 cu)).setCell (p := ⟨w.heap.size + 1 + 1, 0, none⟩) (show w.heap.size + 1 + 1 < _ by omega) (.int .i64 M)).setCell (p := ⟨w.heap.size + 1 + 1, 1, none⟩) (show w.heap.size + 1 + 1 < _ by omega) (.slice av M cv))
                clear A0 B0 C0 BXZ BYZ BZZ hbe
                have d1 : (0 : Int) < (i1 : Int) := by omega
                have d3 : 0 < i1 := by omega
                have d4 : 0 < i1 := by omega
                have d2 : (0 : Int) < (i1 : Int) := by omega
                go_wp2_with fail
                go_still_tail 10, (by kernel_rfl)
                change wpList _ _ _ _ _ w13.drew
                go_wp2_with fail
                refine bodyPost_ret (v := .tuple #[.agg #[.int .i64 M, .slice a12 i1 c12], .agg #[.int .i64 i1, .slice (some ⟨g, 0, none⟩) i1 cu], .agg #[.int .i64 M, .slice av M cv], .slice ad dn cap]) (by simp [results, Try.results12, go_sem, u0, u1, u2, u3, u4, u5]) rfl (by unfold DrawnSmith; exact ⟨M, a12, i1, c12, X, i1, (some ⟨g, 0, none⟩), i1, cu, _, M, av, M, cv, V, ad, dn, cap, ds, rfl, ⟨by unfold I64; omega, HPZ.out.rd.keep (Below.drew _) (Nat.le_refl _), HPZ.out.len, HPZ.out.capl, by omega, HXL.out⟩, ⟨by unfold I64; omega, HUZ.out.rd.keep (Below.drew _) (Nat.le_refl _), HUZ.out.len, HUZ.out.capl, by omega, rowSet_lens HUL.out HU13.out.len⟩, ⟨by unfold I64; omega, HVZ.out.rd.keep (Below.drew _) (Nat.le_refl _), HVZ.out.len, HVZ.out.capl, by omega, HVL.out⟩, HDZ.out.rd.keep (Below.drew _) (Nat.le_refl _), HDZ.out.len, by omega, HDI.out, below_drewR HBZ.out⟩)
              · have e1 : (z == 1) = false := beq_eq_false_iff_ne.2 hz_1
                by_cases hz_2 : z = 2
                · subst hz_2
                  clear hz0 hz1
                  obtain ⟨g, gr, cr, eA, hc0, hc1, hfr, hB0, hL0, hg0, hg1, hset⟩ := HP13.out.first (show 0 < i1 by omega) (by rw [HTL.out 0 (by omega)]; omega)
                  subst eA
                  rw [HTL.out 0 (by omega)] at hc0
                  have HSE := Lib.hid hset
                  clear hset
                  have HCB : Hid (SQ w1 (w13.setCell ⟨gr, 0, none⟩ (.int .i64 (wrap64 (el (rw_ X 0) 0 + 1)))) b a m c bs) := Lib.hid (HC13.out.set ⟨gr, 0, none⟩ (show w1.heap.size ≤ gr by omega) _)
                  have HDB2 : Hid (OwnI 2 (w13.setCell ⟨gr, 0, none⟩ (.int .i64 (wrap64 (el (rw_ X 0) 0 + 1)))) w1.heap.size ad dn cap ds) := Lib.hid (HD13.out.kept ((Chg.refl (fun j => j = gr) w13).setCell ⟨gr, 0, none⟩ rfl _) (fun p hp e => by have := HDL.out p hp; omega))
                  have HUB := Lib.hid (HU13.out.setAway ⟨gr, 0, none⟩ (.inr (show _ ≤ gr by omega)) (.int .i64 (wrap64 (el (rw_ X 0) 0 + 1))))
                  have HVE := Lib.hid (HV13.out.setAway ⟨gr, 0, none⟩ (.inr (show _ ≤ gr by omega)) (.int .i64 (wrap64 (el (rw_ X 0) 0 + 1))))
                  have HPB := Lib.hid (HSE.out (wrap64 (el (rw_ X 0) 0 + 1)))
                  have hbe := HBE.out
                  have BXZ := HX1.out.chg HCB.out.chg (by omega)
                  have BYZ := HY1.out.chg HCB.out.chg (by omega)
                  have BZZ := HZ1.out.chg HCB.out.chg (by omega)
                  have x0 := BXZ.cell 0
                  have x1 := BXZ.cell 1
                  have x2 := BYZ.cell 0
                  have x3 := BYZ.cell 1
                  have x4 := BZZ.cell 0
                  have x5 := BZZ.cell 1
                  have f0 := BXZ.frz 0
                  have f1 := BXZ.frz 1
                  have f2 := BYZ.frz 0
                  have f3 := BYZ.frz 1
                  have f4 := BZZ.frz 0
                  have f5 := BZZ.frz 1
                  have l0 := BXZ.lt
                  have l1 := BYZ.lt
                  have l2 := BZZ.lt
                  simp at x0 x1 x2 x3 x4 x5
                  have A0 := ((((((BXZ.set 0 (.int .i64 M)).set 1 (.slice (some ⟨g, 0, none⟩) i1 c12)).other (p := ⟨w.heap.size + 1, 0, none⟩) (by simp; try omega) (.int .i64 i1)).other (p := ⟨w.heap.size + 1, 1, none⟩) (by simp; try omega) (.slice au i1 cu)).other (p := ⟨w.heap.size + 1 + 1, 0, none⟩) (by simp; try omega) (.int .i64 M)).other (p := ⟨w.heap.size + 1 + 1, 1, none⟩) (by simp; try omega) (.slice av M cv))
                  have B0 := ((((((BYZ.other (p := ⟨w.heap.size, 0, none⟩) (by simp; try omega) (.int .i64 M)).other (p := ⟨w.heap.size, 1, none⟩) (by simp; try omega) (.slice (some ⟨g, 0, none⟩) i1 c12)).set 0 (.int .i64 i1)).set 1 (.slice au i1 cu)).other (p := ⟨w.heap.size + 1 + 1, 0, none⟩) (by simp; try omega) (.int .i64 M)).other (p := ⟨w.heap.size + 1 + 1, 1, none⟩) (by simp; try omega) (.slice av M cv))
                  have C0 := ((((((BZZ.other (p := ⟨w.heap.size, 0, none⟩) (by simp; try omega) (.int .i64 M)).other (p := ⟨w.heap.size, 1, none⟩) (by simp; try omega) (.slice (some ⟨g, 0, none⟩) i1 c12)).other (p := ⟨w.heap.size + 1, 0, none⟩) (by simp; try omega) (.int .i64 i1)).other (p := ⟨w.heap.size + 1, 1, none⟩) (by simp; try omega) (.slice au i1 cu)).set 0 (.int .i64 M)).set 1 (.slice av M cv))
                  have u0 := A0.cell 0
                  have u1 := A0.cell 1
                  have u2 := B0.cell 0
                  have u3 := B0.cell 1
                  have u4 := C0.cell 0
                  have u5 := C0.cell 1
                  simp at u0 u1 u2 u3 u4 u5
                  have u0 : (((((((w13.setCell ⟨gr, 0, none⟩ (.int .i64 (wrap64 (el (rw_ X 0) 0 + 1)))).setCell ⟨w.heap.size, 0, none⟩ (.int .i64 M)).setCell ⟨w.heap.size, 1, none⟩ (.slice (some ⟨g, 0, none⟩) i1 c12)).setCell ⟨w.heap.size + 1, 0, none⟩ (.int .i64 i1)).setCell ⟨w.heap.size + 1, 1, none⟩ (.slice au i1 cu)).setCell ⟨w.heap.size + 1 + 1, 0, none⟩ (.int .i64 M)).setCell ⟨w.heap.size + 1 + 1, 1, none⟩ (.slice av M cv)).drew.cell? ⟨w.heap.size, 0, none⟩ = some (.int .i64 M) := (cell_drew _ _).trans u0
                  have u1 : (((((((w13.setCell ⟨gr, 0, none⟩ (.int .i64 (wrap64 (el (rw_ X 0) 0 + 1)))).setCell ⟨w.heap.size, 0, none⟩ (.int .i64 M)).setCell ⟨w.heap.size, 1, none⟩ (.slice (some ⟨g, 0, none⟩) i1 c12)).setCell ⟨w.heap.size + 1, 0, none⟩ (.int .i64 i1)).setCell ⟨w.heap.size + 1, 1, none⟩ (.slice au i1 cu)).setCell ⟨w.heap.size + 1 + 1, 0, none⟩ (.int .i64 M)).setCell ⟨w.heap.size + 1 + 1, 1, none⟩ (.slice av M cv)).drew.cell? ⟨w.heap.size, 1, none⟩ = some (.slice (some ⟨g, 0, none⟩) i1 c12) := (cell_drew _ _).trans u1
                  have u2 : (((((((w13.setCell ⟨gr, 0, none⟩ (.int .i64 (wrap64 (el (rw_ X 0) 0 + 1)))).setCell ⟨w.heap.size, 0, none⟩ (.int .i64 M)).setCell ⟨w.heap.size, 1, none⟩ (.slice (some ⟨g, 0, none⟩) i1 c12)).setCell ⟨w.heap.size + 1, 0, none⟩ (.int .i64 i1)).setCell ⟨w.heap.size + 1, 1, none⟩ (.slice au i1 cu)).setCell ⟨w.heap.size + 1 + 1, 0, none⟩ (.int .i64 M)).setCell ⟨w.heap.size + 1 + 1, 1, none⟩ (.slice av M cv)).drew.cell? ⟨w.heap.size + 1, 0, none⟩ = some (.int .i64 i1) := (cell_drew _ _).trans u2
                  have u3 : (((((((w13.setCell ⟨gr, 0, none⟩ (.int .i64 (wrap64 (el (rw_ X 0) 0 + 1)))).setCell ⟨w.heap.size, 0, none⟩ (.int .i64 M)).setCell ⟨w.heap.size, 1, none⟩ (.slice (some ⟨g, 0, none⟩) i1 c12)).setCell ⟨w.heap.size + 1, 0, none⟩ (.int .i64 i1)).setCell ⟨w.heap.size + 1, 1, none⟩ (.slice au i1 cu)).setCell ⟨w.heap.size + 1 + 1, 0, none⟩ (.int .i64 M)).setCell ⟨w.heap.size + 1 + 1, 1, none⟩ (.slice av M cv)).drew.cell? ⟨w.heap.size + 1, 1, none⟩ = some (.slice au i1 cu) := (cell_drew _ _).trans u3
                  have u4 : (((((((w13.setCell ⟨gr, 0, none⟩ (.int .i64 (wrap64 (el (rw_ X 0) 0 + 1)))).setCell ⟨w.heap.size, 0, none⟩ (.int .i64 M)).setCell ⟨w.heap.size, 1, none⟩ (.slice (some ⟨g, 0, none⟩) i1 c12)).setCell ⟨w.heap.size + 1, 0, none⟩ (.int .i64 i1)).setCell ⟨w.heap.size + 1, 1, none⟩ (.slice au i1 cu)).setCell ⟨w.heap.size + 1 + 1, 0, none⟩ (.int .i64 M)).setCell ⟨w.heap.size + 1 + 1, 1, none⟩ (.slice av M cv)).drew.cell? ⟨w.heap.size + 1 + 1, 0, none⟩ = some (.int .i64 M) := (cell_drew _ _).trans u4
                  have u5 : (((((((w13.setCell ⟨gr, 0, none⟩ (.int .i64 (wrap64 (el (rw_ X 0) 0 + 1)))).setCell ⟨w.heap.size, 0, none⟩ (.int .i64 M)).setCell ⟨w.heap.size, 1, none⟩ (.slice (some ⟨g, 0, none⟩) i1 c12)).setCell ⟨w.heap.size + 1, 0, none⟩ (.int .i64 i1)).setCell ⟨w.heap.size + 1, 1, none⟩ (.slice au i1 cu)).setCell ⟨w.heap.size + 1 + 1, 0, none⟩ (.int .i64 M)).setCell ⟨w.heap.size + 1 + 1, 1, none⟩ (.slice av M cv)).drew.cell? ⟨w.heap.size + 1 + 1, 1, none⟩ = some (.slice av M cv) := (cell_drew _ _).trans u5
                  have HBZ : Hid (Below w.heap.size w (((((((w13.setCell ⟨gr, 0, none⟩ (.int .i64 (wrap64 (el (rw_ X 0) 0 + 1)))).setCell ⟨w.heap.size, 0, none⟩ (.int .i64 M)).setCell ⟨w.heap.size, 1, none⟩ (.slice (some ⟨g, 0, none⟩) i1 c12)).setCell ⟨w.heap.size + 1, 0, none⟩ (.int .i64 i1)).setCell ⟨w.heap.size + 1, 1, none⟩ (.slice au i1 cu)).setCell ⟨w.heap.size + 1 + 1, 0, none⟩ (.int .i64 M)).setCell ⟨w.heap.size + 1 + 1, 1, none⟩ (.slice av M cv))) := Lib.hid (HB1.out.trans ((((((((HCB.out.chg.up (by omega) (by omega)).setCell (p := ⟨w.heap.size, 0, none⟩) (show w.heap.size ≤ w.heap.size by omega) (.int .i64 M)).setCell (p := ⟨w.heap.size, 1, none⟩) (show w.heap.size ≤ w.heap.size by omega) (.slice (some ⟨g, 0, none⟩) i1 c12)).setCell (p := ⟨w.heap.size + 1, 0, none⟩) (show w.heap.size ≤ w.heap.size + 1 by omega) (.int .i64 i1)).setCell (p := ⟨w.heap.size + 1, 1, none⟩) (show w.heap.size ≤ w.heap.size + 1 by omega) (.slice au i1 cu)).setCell (p := ⟨w.heap.size + 1 + 1, 0, none⟩) (show w.heap.size ≤ w.heap.size + 1 + 1 by omega) (.int .i64 M)).setCell (p := ⟨w.heap.size + 1 + 1, 1, none⟩) (show w.heap.size ≤ w.heap.size + 1 + 1 by omega) (.slice av M cv))))
                  have HUZ := Lib.hid ((((((HUB.out.setAway ⟨w.heap.size, 0, none⟩ (.inl (show w.heap.size < _ by omega)) (.int .i64 M)).setAway ⟨w.heap.size, 1, none⟩ (.inl (show w.heap.size < _ by omega)) (.slice (some ⟨g, 0, none⟩) i1 c12)).setAway ⟨w.heap.size + 1, 0, none⟩ (.inl (show w.heap.size + 1 < _ by omega)) (.int .i64 i1)).setAway ⟨w.heap.size + 1, 1, none⟩ (.inl (show w.heap.size + 1 < _ by omega)) (.slice au i1 cu)).setAway ⟨w.heap.size + 1 + 1, 0, none⟩ (.inl (show w.heap.size + 1 + 1 < _ by omega)) (.int .i64 M)).setAway ⟨w.heap.size + 1 + 1, 1, none⟩ (.inl (show w.heap.size + 1 + 1 < _ by omega)) (.slice av M cv))
                  have HVZ := Lib.hid ((((((HVE.out.setAway ⟨w.heap.size, 0, none⟩ (.inl (show w.heap.size < _ by omega)) (.int .i64 M)).setAway ⟨w.heap.size, 1, none⟩ (.inl (show w.heap.size < _ by omega)) (.slice (some ⟨g, 0, none⟩) i1 c12)).setAway ⟨w.heap.size + 1, 0, none⟩ (.inl (show w.heap.size + 1 < _ by omega)) (.int .i64 i1)).setAway ⟨w.heap.size + 1, 1, none⟩ (.inl (show w.heap.size + 1 < _ by omega)) (.slice au i1 cu)).setAway ⟨w.heap.size + 1 + 1, 0, none⟩ (.inl (show w.heap.size + 1 + 1 < _ by omega)) (.int .i64 M)).setAway ⟨w.heap.size + 1 + 1, 1, none⟩ (.inl (show w.heap.size + 1 + 1 < _ by omega)) (.slice av M cv))
                  have HPZ := Lib.hid ((((((HPB.out.setAway ⟨w.heap.size, 0, none⟩ (.inl (show w.heap.size < _ by omega)) (.int .i64 M)).setAway ⟨w.heap.size, 1, none⟩ (.inl (show w.heap.size < _ by omega)) (.slice (some ⟨g, 0, none⟩) i1 c12)).setAway ⟨w.heap.size + 1, 0, none⟩ (.inl (show w.heap.size + 1 < _ by omega)) (.int .i64 i1)).setAway ⟨w.heap.size + 1, 1, none⟩ (.inl (show w.heap.size + 1 < _ by omega)) (.slice au i1 cu)).setAway ⟨w.heap.size + 1 + 1, 0, none⟩ (.inl (show w.heap.size + 1 + 1 < _ by omega)) (.int .i64 M)).setAway ⟨w.heap.size + 1 + 1, 1, none⟩ (.inl (show w.heap.size + 1 + 1 < _ by omega)) (.slice av M cv))
                  have HDZ := Lib.hid ((((((HDB2.out.setCell (p := ⟨w.heap.size, 0, none⟩) (show w.heap.size < _ by omega) (.int .i64 M)).setCell (p := ⟨w.heap.size, 1, none⟩) (show w.heap.size < _ by omega) (.slice (some ⟨g, 0, none⟩) i1 c12)).setCell (p := ⟨w.heap.size + 1, 0, none⟩) (show w.heap.size + 1 < _ by omega) (.int .i64 i1)).setCell (p := ⟨w.heap.size + 1, 1, none⟩) (show w.heap.size + 1 < _ by omega) (.slice au i1 cu)).setCell (p := ⟨w.heap.size + 1 + 1, 0, none⟩) (show w.heap.size + 1 + 1 < _ by omega) (.int .i64 M)).setCell (p := ⟨w.heap.size + 1 + 1, 1, none⟩) (show w.heap.size + 1 + 1 < _ by omega) (.slice av M cv))
                  clear A0 B0 C0 BXZ BYZ BZZ hbe
                  have d1 : (0 : Int) < (M : Int) := by omega
                  have d3 : 0 < M := by omega
                  have d4 : 0 < i1 := by omega
                  have d2 : (0 : Int) < (i1 : Int) := by omega
                  go_wp2_with fail
                  go_still_tail 10, (by kernel_rfl)
                  change wpList _ _ _ _ _ w13.drew
                  go_wp2_with fail
                  refine bodyPost_ret (v := .tuple #[.agg #[.int .i64 M, .slice (some ⟨g, 0, none⟩) i1 c12], .agg #[.int .i64 i1, .slice au i1 cu], .agg #[.int .i64 M, .slice av M cv], .slice ad dn cap]) (by simp [results, Try.results12, go_sem, u0, u1, u2, u3, u4, u5]) rfl (by unfold DrawnSmith; exact ⟨M, (some ⟨g, 0, none⟩), i1, c12, _, i1, au, i1, cu, U, M, av, M, cv, V, ad, dn, cap, ds, rfl, ⟨by unfold I64; omega, HPZ.out.rd.keep (Below.drew _) (Nat.le_refl _), HPZ.out.len, HPZ.out.capl, by omega, rowSet_lens HXL.out HP13.out.len⟩, ⟨by unfold I64; omega, HUZ.out.rd.keep (Below.drew _) (Nat.le_refl _), HUZ.out.len, HUZ.out.capl, by omega, HUL.out⟩, ⟨by unfold I64; omega, HVZ.out.rd.keep (Below.drew _) (Nat.le_refl _), HVZ.out.len, HVZ.out.capl, by omega, HVL.out⟩, HDZ.out.rd.keep (Below.drew _) (Nat.le_refl _), HDZ.out.len, by omega, HDI.out, below_drewR HBZ.out⟩)
                · have e2 : (z == 2) = false := beq_eq_false_iff_ne.2 hz_2
                  by_cases hz_3 : z = 3
                  · subst hz_3
                    clear hz0 hz1
                    have HLT : Hid (OwnI 2 (w13.alloc (.cells #[.int .i64 (-1)] 2)) w13.heap.size (some ⟨w13.heap.size, 0, none⟩) 1 1 [-1]) := Lib.hid (OwnI.lit w13 _ [-1] _ rfl (by simp [maxLen]))
                    go_wp2_with (at_builtin; go_loud (refine wpList_appS rfl (.tmp 116) (.tmp 117) 31 rfl w13.heap.size 2 (.int .i64 0) 8 Try.underlying31 Try.info2 rfl (by decide) _ _ _ _ rfl _ _ _ rfl (by exact HLT.out) (ds.map (Value.int .i64)) (by rw [List.length_map]; exact HD13.out.len) (by exact (HD13.out.rd.alloc _).vals) (map_one _) (by omega) (by simp) ?_; rintro a4 c4 w14 r4 q4 g4; have RB := Lib.hid (app_own (xs := [(-1 : Int)]) HLT.out ((Below.refl _ _).alloc (Nat.le_refl _) _) (by simp) r4 g4); have HC14 := Lib.hid (HC13.out.low RB.out.2 s13 rfl rfl rfl rfl); have HN := Lib.hid (RB.out.1.mono s13); have HUE := Lib.hid (HU13.out.keep RB.out.2 (Nat.le_refl _)); have HVE := Lib.hid (HV13.out.keep RB.out.2 (Nat.le_refl _)); have HPE := Lib.hid (HP13.out.keep RB.out.2 (Nat.le_refl _)); have s14 := HC14.out.sz; clear r4 q4 g4 RB; have hbe := HBE.out; have BXZ := HX1.out.chg HC14.out.chg (by omega); have BYZ := HY1.out.chg HC14.out.chg (by omega); have BZZ := HZ1.out.chg HC14.out.chg (by omega); have x0 := BXZ.cell 0; have x1 := BXZ.cell 1; have x2 := BYZ.cell 0; have x3 := BYZ.cell 1; have x4 := BZZ.cell 0; have x5 := BZZ.cell 1; have f0 := BXZ.frz 0; have f1 := BXZ.frz 1; have f2 := BYZ.frz 0; have f3 := BYZ.frz 1; have f4 := BZZ.frz 0; have f5 := BZZ.frz 1; have l0 := BXZ.lt; have l1 := BYZ.lt; have l2 := BZZ.lt; simp at x0 x1 x2 x3 x4 x5; have A0 := ((((((BXZ.set 0 (.int .i64 M)).set 1 (.slice a12 i1 c12)).other (p := ⟨w.heap.size + 1, 0, none⟩) (by simp; try omega) (.int .i64 i1)).other (p := ⟨w.heap.size + 1, 1, none⟩) (by simp; try omega) (.slice au i1 cu)).other (p := ⟨w.heap.size + 1 + 1, 0, none⟩) (by simp; try omega) (.int .i64 M)).other (p := ⟨w.heap.size + 1 + 1, 1, none⟩) (by simp; try omega) (.slice av M cv)); have B0 := ((((((BYZ.other (p := ⟨w.heap.size, 0, none⟩) (by simp; try omega) (.int .i64 M)).other (p := ⟨w.heap.size, 1, none⟩) (by simp; try omega) (.slice a12 i1 c12)).set 0 (.int .i64 i1)).set 1 (.slice au i1 cu)).other (p := ⟨w.heap.size + 1 + 1, 0, none⟩) (by simp; try omega) (.int .i64 M)).other (p := ⟨w.heap.size + 1 + 1, 1, none⟩) (by simp; try omega) (.slice av M cv)); have C0 := ((((((BZZ.other (p := ⟨w.heap.size, 0, none⟩) (by simp; try omega) (.int .i64 M)).other (p := ⟨w.heap.size, 1, none⟩) (by simp; try omega) (.slice a12 i1 c12)).other (p := ⟨w.heap.size + 1, 0, none⟩) (by simp; try omega) (.int .i64 i1)).other (p := ⟨w.heap.size + 1, 1, none⟩) (by simp; try omega) (.slice au i1 cu)).set 0 (.int .i64 M)).set 1 (.slice av M cv)); have u0 := A0.cell 0; have u1 := A0.cell 1; have u2 := B0.cell 0; have u3 := B0.cell 1; have u4 := C0.cell 0; have u5 := C0.cell 1; simp at u0 u1 u2 u3 u4 u5; have HBZ : Hid (Below w.heap.size w ((((((w14.setCell ⟨w.heap.size, 0, none⟩ (.int .i64 M)).setCell ⟨w.heap.size, 1, none⟩ (.slice a12 i1 c12)).setCell ⟨w.heap.size + 1, 0, none⟩ (.int .i64 i1)).setCell ⟨w.heap.size + 1, 1, none⟩ (.slice au i1 cu)).setCell ⟨w.heap.size + 1 + 1, 0, none⟩ (.int .i64 M)).setCell ⟨w.heap.size + 1 + 1, 1, none⟩ (.slice av M cv))) := Lib.hid (HB1.out.trans ((((((((HC14.out.chg.up (by omega) (by omega)).setCell (p := ⟨w.heap.size, 0, none⟩) (show w.heap.size ≤ w.heap.size by omega) (.int .i64 M)).setCell (p := ⟨w.heap.size, 1, none⟩) (show w.heap.size ≤ w.heap.size by omega) (.slice a12 i1 c12)).setCell (p := ⟨w.heap.size + 1, 0, none⟩) (show w.heap.size ≤ w.heap.size + 1 by omega) (.int .i64 i1)).setCell (p := ⟨w.heap.size + 1, 1, none⟩) (show w.heap.size ≤ w.heap.size + 1 by omega) (.slice au i1 cu)).setCell (p := ⟨w.heap.size + 1 + 1, 0, none⟩) (show w.heap.size ≤ w.heap.size + 1 + 1 by omega) (.int .i64 M)).setCell (p := ⟨w.heap.size + 1 + 1, 1, none⟩) (show w.heap.size ≤ w.heap.size + 1 + 1 by omega) (.slice av M cv)))); have HUZ := Lib.hid ((((((HUE.out.setAway ⟨w.heap.size, 0, none⟩ (.inl (show w.heap.size < _ by omega)) (.int .i64 M)).setAway ⟨w.heap.size, 1, none⟩ (.inl (show w.heap.size < _ by omega)) (.slice a12 i1 c12)).setAway ⟨w.heap.size + 1, 0, none⟩ (.inl (show w.heap.size + 1 < _ by omega)) (.int .i64 i1)).setAway ⟨w.heap.size + 1, 1, none⟩ (.inl (show w.heap.size + 1 < _ by omega)) (.slice au i1 cu)).setAway ⟨w.heap.size + 1 + 1, 0, none⟩ (.inl (show w.heap.size + 1 + 1 < _ by omega)) (.int .i64 M)).setAway ⟨w.heap.size + 1 + 1, 1, none⟩ (.inl (show w.heap.size + 1 + 1 < _ by omega)) (.slice av M cv)); have HVZ := Lib.hid ((((((HVE.out.setAway ⟨w.heap.size, 0, none⟩ (.inl (show w.heap.size < _ by omega)) (.int .i64 M)).setAway ⟨w.heap.size, 1, none⟩ (.inl (show w.heap.size < _ by omega)) (.slice a12 i1 c12)).setAway ⟨w.heap.size + 1, 0, none⟩ (.inl (show w.heap.size + 1 < _ by omega)) (.int .i64 i1)).setAway ⟨w.heap.size + 1, 1, none⟩ (.inl (show w.heap.size + 1 < _ by omega)) (.slice au i1 cu)).setAway ⟨w.heap.size + 1 + 1, 0, none⟩ (.inl (show w.heap.size + 1 + 1 < _ by omega)) (.int .i64 M)).setAway ⟨w.heap.size + 1 + 1, 1, none⟩ (.inl (show w.heap.size + 1 + 1 < _ by omega)) (.slice av M cv)); have HPZ := Lib.hid ((((((HPE.out.setAway ⟨w.heap.size, 0, none⟩ (.inl (show w.heap.size < _ by omega)) (.int .i64 M)).setAway ⟨w.heap.size, 1, none⟩ (.inl (show w.heap.size < _ by omega)) (.slice a12 i1 c12)).setAway ⟨w.heap.size + 1, 0, none⟩ (.inl (show w.heap.size + 1 < _ by omega)) (.int .i64 i1)).setAway ⟨w.heap.size + 1, 1, none⟩ (.inl (show w.heap.size + 1 < _ by omega)) (.slice au i1 cu)).setAway ⟨w.heap.size + 1 + 1, 0, none⟩ (.inl (show w.heap.size + 1 + 1 < _ by omega)) (.int .i64 M)).setAway ⟨w.heap.size + 1 + 1, 1, none⟩ (.inl (show w.heap.size + 1 + 1 < _ by omega)) (.slice av M cv)); have HDZ := Lib.hid ((((((HN.out.setCell (p := ⟨w.heap.size, 0, none⟩) (show w.heap.size < _ by omega) (.int .i64 M)).setCell (p := ⟨w.heap.size, 1, none⟩) (show w.heap.size < _ by omega) (.slice a12 i1 c12)).setCell (p := ⟨w.heap.size + 1, 0, none⟩) (show w.heap.size + 1 < _ by omega) (.int .i64 i1)).setCell (p := ⟨w.heap.size + 1, 1, none⟩) (show w.heap.size + 1 < _ by omega) (.slice au i1 cu)).setCell (p := ⟨w.heap.size + 1 + 1, 0, none⟩) (show w.heap.size + 1 + 1 < _ by omega) (.int .i64 M)).setCell (p := ⟨w.heap.size + 1 + 1, 1, none⟩) (show w.heap.size + 1 + 1 < _ by omega) (.slice av M cv)); clear A0 B0 C0 BXZ BYZ BZZ hbe))
                    have HDI2 : Hid (∀ x ∈ [-1] ++ ds, I64 x) := Lib.hid (fun x hx => by
                      rcases List.mem_append.1 hx with h | h
                      · simp at h; subst h; unfold I64; omega
                      · exact HDI.out x h)
                    go_wp2_with fail
                    refine bodyPost_ret (v := .tuple #[.agg #[.int .i64 M, .slice a12 i1 c12], .agg #[.int .i64 i1, .slice au i1 cu], .agg #[.int .i64 M, .slice av M cv], .slice a4 (1 + dn) c4]) (by simp [results, Try.results12, go_sem, u0, u1, u2, u3, u4, u5]) rfl (by unfold DrawnSmith; exact ⟨M, a12, i1, c12, X, i1, au, i1, cu, U, M, av, M, cv, V, a4, (1 + dn), c4, ([-1] ++ ds), rfl, ⟨by unfold I64; omega, HPZ.out.rd, HPZ.out.len, HPZ.out.capl, by omega, HXL.out⟩, ⟨by unfold I64; omega, HUZ.out.rd, HUZ.out.len, HUZ.out.capl, by omega, HUL.out⟩, ⟨by unfold I64; omega, HVZ.out.rd, HVZ.out.len, HVZ.out.capl, by omega, HVL.out⟩, HDZ.out.rd, HDZ.out.len, by omega, HDI2.out, HBZ.out⟩)
                  · have e3 : (z == 3) = false := beq_eq_false_iff_ne.2 hz_3
                    clear hz0 hz1 hz_0 hz_1 hz_2 hz_3
                    have HVE := HV13
                    have hbe := HBE.out
                    have BXZ := HX1.out.chg HC13.out.chg (by omega)
                    have BYZ := HY1.out.chg HC13.out.chg (by omega)
                    have BZZ := HZ1.out.chg HC13.out.chg (by omega)
                    have x0 := BXZ.cell 0
                    have x1 := BXZ.cell 1
                    have x2 := BYZ.cell 0
                    have x3 := BYZ.cell 1
                    have x4 := BZZ.cell 0
                    have x5 := BZZ.cell 1
                    have f0 := BXZ.frz 0
                    have f1 := BXZ.frz 1
                    have f2 := BYZ.frz 0
                    have f3 := BYZ.frz 1
                    have f4 := BZZ.frz 0
                    have f5 := BZZ.frz 1
                    have l0 := BXZ.lt
                    have l1 := BYZ.lt
                    have l2 := BZZ.lt
                    simp at x0 x1 x2 x3 x4 x5
                    have A0 := ((((((BXZ.set 0 (.int .i64 M)).set 1 (.slice a12 i1 c12)).other (p := ⟨w.heap.size + 1, 0, none⟩) (by simp; try omega) (.int .i64 i1)).other (p := ⟨w.heap.size + 1, 1, none⟩) (by simp; try omega) (.slice au i1 cu)).other (p := ⟨w.heap.size + 1 + 1, 0, none⟩) (by simp; try omega) (.int .i64 M)).other (p := ⟨w.heap.size + 1 + 1, 1, none⟩) (by simp; try omega) (.slice av M cv))
                    have B0 := ((((((BYZ.other (p := ⟨w.heap.size, 0, none⟩) (by simp; try omega) (.int .i64 M)).other (p := ⟨w.heap.size, 1, none⟩) (by simp; try omega) (.slice a12 i1 c12)).set 0 (.int .i64 i1)).set 1 (.slice au i1 cu)).other (p := ⟨w.heap.size + 1 + 1, 0, none⟩) (by simp; try omega) (.int .i64 M)).other (p := ⟨w.heap.size + 1 + 1, 1, none⟩) (by simp; try omega) (.slice av M cv))
                    have C0 := ((((((BZZ.other (p := ⟨w.heap.size, 0, none⟩) (by simp; try omega) (.int .i64 M)).other (p := ⟨w.heap.size, 1, none⟩) (by simp; try omega) (.slice a12 i1 c12)).other (p := ⟨w.heap.size + 1, 0, none⟩) (by simp; try omega) (.int .i64 i1)).other (p := ⟨w.heap.size + 1, 1, none⟩) (by simp; try omega) (.slice au i1 cu)).set 0 (.int .i64 M)).set 1 (.slice av M cv))
                    have u0 := A0.cell 0
                    have u1 := A0.cell 1
                    have u2 := B0.cell 0
                    have u3 := B0.cell 1
                    have u4 := C0.cell 0
                    have u5 := C0.cell 1
                    simp at u0 u1 u2 u3 u4 u5
                    have HBZ : Hid (Below w.heap.size w ((((((w13.setCell ⟨w.heap.size, 0, none⟩ (.int .i64 M)).setCell ⟨w.heap.size, 1, none⟩ (.slice a12 i1 c12)).setCell ⟨w.heap.size + 1, 0, none⟩ (.int .i64 i1)).setCell ⟨w.heap.size + 1, 1, none⟩ (.slice au i1 cu)).setCell ⟨w.heap.size + 1 + 1, 0, none⟩ (.int .i64 M)).setCell ⟨w.heap.size + 1 + 1, 1, none⟩ (.slice av M cv))) := Lib.hid (HB1.out.trans ((((((((HC13.out.chg.up (by omega) (by omega)).setCell (p := ⟨w.heap.size, 0, none⟩) (show w.heap.size ≤ w.heap.size by omega) (.int .i64 M)).setCell (p := ⟨w.heap.size, 1, none⟩) (show w.heap.size ≤ w.heap.size by omega) (.slice a12 i1 c12)).setCell (p := ⟨w.heap.size + 1, 0, none⟩) (show w.heap.size ≤ w.heap.size + 1 by omega) (.int .i64 i1)).setCell (p := ⟨w.heap.size + 1, 1, none⟩) (show w.heap.size ≤ w.heap.size + 1 by omega) (.slice au i1 cu)).setCell (p := ⟨w.heap.size + 1 + 1, 0, none⟩) (show w.heap.size ≤ w.heap.size + 1 + 1 by omega) (.int .i64 M)).setCell (p := ⟨w.heap.size + 1 + 1, 1, none⟩) (show w.heap.size ≤ w.heap.size + 1 + 1 by omega) (.slice av M cv))))
                    have HUZ := Lib.hid ((((((HU13.out.setAway ⟨w.heap.size, 0, none⟩ (.inl (show w.heap.size < _ by omega)) (.int .i64 M)).setAway ⟨w.heap.size, 1, none⟩ (.inl (show w.heap.size < _ by omega)) (.slice a12 i1 c12)).setAway ⟨w.heap.size + 1, 0, none⟩ (.inl (show w.heap.size + 1 < _ by omega)) (.int .i64 i1)).setAway ⟨w.heap.size + 1, 1, none⟩ (.inl (show w.heap.size + 1 < _ by omega)) (.slice au i1 cu)).setAway ⟨w.heap.size + 1 + 1, 0, none⟩ (.inl (show w.heap.size + 1 + 1 < _ by omega)) (.int .i64 M)).setAway ⟨w.heap.size + 1 + 1, 1, none⟩ (.inl (show w.heap.size + 1 + 1 < _ by omega)) (.slice av M cv))
                    have HVZ := Lib.hid ((((((HVE.out.setAway ⟨w.heap.size, 0, none⟩ (.inl (show w.heap.size < _ by omega)) (.int .i64 M)).setAway ⟨w.heap.size, 1, none⟩ (.inl (show w.heap.size < _ by omega)) (.slice a12 i1 c12)).setAway ⟨w.heap.size + 1, 0, none⟩ (.inl (show w.heap.size + 1 < _ by omega)) (.int .i64 i1)).setAway ⟨w.heap.size + 1, 1, none⟩ (.inl (show w.heap.size + 1 < _ by omega)) (.slice au i1 cu)).setAway ⟨w.heap.size + 1 + 1, 0, none⟩ (.inl (show w.heap.size + 1 + 1 < _ by omega)) (.int .i64 M)).setAway ⟨w.heap.size + 1 + 1, 1, none⟩ (.inl (show w.heap.size + 1 + 1 < _ by omega)) (.slice av M cv))
                    have HPZ := Lib.hid ((((((HP13.out.setAway ⟨w.heap.size, 0, none⟩ (.inl (show w.heap.size < _ by omega)) (.int .i64 M)).setAway ⟨w.heap.size, 1, none⟩ (.inl (show w.heap.size < _ by omega)) (.slice a12 i1 c12)).setAway ⟨w.heap.size + 1, 0, none⟩ (.inl (show w.heap.size + 1 < _ by omega)) (.int .i64 i1)).setAway ⟨w.heap.size + 1, 1, none⟩ (.inl (show w.heap.size + 1 < _ by omega)) (.slice au i1 cu)).setAway ⟨w.heap.size + 1 + 1, 0, none⟩ (.inl (show w.heap.size + 1 + 1 < _ by omega)) (.int .i64 M)).setAway ⟨w.heap.size + 1 + 1, 1, none⟩ (.inl (show w.heap.size + 1 + 1 < _ by omega)) (.slice av M cv))
                    have HDZ := Lib.hid ((((((HD13.out.setCell (p := ⟨w.heap.size, 0, none⟩) (show w.heap.size < _ by omega) (.int .i64 M)).setCell (p := ⟨w.heap.size, 1, none⟩) (show w.heap.size < _ by omega) (.slice a12 i1 c12)).setCell (p := ⟨w.heap.size + 1, 0, none⟩) (show w.heap.size + 1 < _ by omega) (.int .i64 i1)).setCell (p := ⟨w.heap.size + 1, 1, none⟩) (show w.heap.size + 1 < _ by omega) (.slice au i1 cu)).setCell (p := ⟨w.heap.size + 1 + 1, 0, none⟩) (show w.heap.size + 1 + 1 < _ by omega) (.int .i64 M)).setCell (p := ⟨w.heap.size + 1 + 1, 1, none⟩) (show w.heap.size + 1 + 1 < _ by omega) (.slice av M cv))
                    clear A0 B0 C0 BXZ BYZ BZZ hbe
                    go_wp2_with fail
                    refine bodyPost_ret (v := .tuple #[.agg #[.int .i64 M, .slice a12 i1 c12], .agg #[.int .i64 i1, .slice au i1 cu], .agg #[.int .i64 M, .slice av M cv], .slice ad dn cap]) (by simp [results, Try.results12, go_sem, u0, u1, u2, u3, u4, u5]) rfl (by unfold DrawnSmith; exact ⟨M, a12, i1, c12, X, i1, au, i1, cu, U, M, av, M, cv, V, ad, dn, cap, ds, rfl, ⟨by unfold I64; omega, HPZ.out.rd, HPZ.out.len, HPZ.out.capl, by omega, HXL.out⟩, ⟨by unfold I64; omega, HUZ.out.rd, HUZ.out.len, HUZ.out.capl, by omega, HUL.out⟩, ⟨by unfold I64; omega, HVZ.out.rd, HVZ.out.len, HVZ.out.capl, by omega, HVL.out⟩, HDZ.out.rd, HDZ.out.len, by omega, HDI.out, HBZ.out⟩)
  · have hNM2 : (N : Int) ≤ (M : Int) := by omega
    have hNM3 : ¬ (M : Int) < (N : Int) := by omega
    have WK : IntKind.i64.wrap ((N : Int) + 1) = (N : Int) + 1 := IntWalk.i64_in _ (by omega)
    go_wp2_with fail
    refine (l01Next_any b a m c bs (N + 1) _ (by exact (HC3.out.al _).src) (by omega) hmc).mono ?_
    rintro e w4 ⟨K, rfl, hk0, hk1, hs, hc⟩
    have HK : Hid (∃ MN, MN ≤ N ∧ MN ≤ M ∧ K ≤ MN) := Lib.hid ⟨N, by omega, by omega, by omega⟩
    obtain ⟨K, rfl⟩ : ∃ K' : Nat, K = K' := ⟨K.toNat, by omega⟩
    obtain ⟨MN, hMN1, hMN2, hMK⟩ := HK.out
    have HC4 := Lib.hid ((HC3.out.al (.cells #[] 2)).next hs hc rfl rfl rfl rfl)
    have HD4 : Hid (OwnI 2 w4 w1.heap.size (some ⟨w3.heap.size, 0, none⟩) 0 0 []) := Lib.hid (((OwnI.empty w3 2).mono s3).kept hc (fun p hp e => by injection hp with hp; subst hp; simp at e; omega))
    clear hs hc hk0 hk1 HK HC3 WK WN WM
    have hMK2 : (K : Nat) ≤ MN := by omega
    clear hMK
    go_wp2_with fail
    go_loopw [11, 10, 9] (fun k x d wr => ∃ (k1 dn xx : Nat) (ad : Option Addr) (cap : Nat) (ds : List Int), k1 + dn ≤ MN ∧ k = .int .i64 k1 ∧ x = .int .i64 xx ∧ 1 ≤ xx ∧ xx ≤ 2 ^ dn ∧ d = .slice ad dn cap ∧ Hid (SQ w1 wr b a m c bs) ∧ Hid (OwnI 2 wr w1.heap.size ad dn cap ds) ∧ Hid (∀ y ∈ ds, 1 ≤ y ∧ y ≤ 8)) (fun k _ _ _ => (intOf k).toNat)
    case atStart => exact ⟨K, 0, 1, _, 0, [], by omega, rfl, rfl, by omega, by simp, rfl, HC4, HD4, Lib.hid (by simp)⟩
    case round =>
      obtain ⟨k1, dn, xx, ad, cap, ds, hkd, rfl, rfl, hx1, hx2, rfl, HC, HD, HDB⟩ := hrel
      obtain ⟨wi, rfl⟩ : ∃ x, x = wr := ⟨wr, rfl⟩
      clear HC4 HD4
      have hp8 : 2 ^ dn ≤ 8 := Nat.le_trans (Nat.pow_le_pow_right (by omega) (show dn ≤ 3 by omega)) (by decide)
      by_cases hk0 : 0 < k1
      · obtain ⟨k2, rfl⟩ : ∃ k2, k1 = k2 + 1 := ⟨k1 - 1, by omega⟩
        have d1 : (0 : Int) < (k2 : Int) + 1 := by omega
        have hp4 : 2 ^ dn ≤ 4 := Nat.le_trans (Nat.pow_le_pow_right (by omega) (show dn ≤ 2 by omega)) (by decide)
        have HPW : Hid (2 ^ (dn + 1) = 2 ^ dn * 2) := Lib.hid (Nat.pow_succ _ _)
        have HX2 := Lib.hid hx2
        have hxx : xx ≤ 4 := by omega
        clear hp8 hp4 hx2 hk0
        go_wp2_with fail
        refine (l01Next_any b a m c bs 2 wi HC.out.src (by omega) hmc).mono ?_
        rintro e w5 ⟨f, rfl, hf0, hf1, hs, hc⟩
        obtain ⟨F, rfl⟩ : ∃ F : Nat, f = F := ⟨f.toNat, by omega⟩
        have hF : F ≤ 1 := by omega
        have HC5 := Lib.hid (HC.out.next hs hc rfl rfl rfl rfl)
        have HD5 := Lib.hid (HD.out.kept hc (fun p hp e => by have := (HD.out.block p hp).1; omega))
        have s5 := HC5.out.sz
        clear hs hc hf0 hf1
        have hmul : (xx : Int) * (1 + (F : Int)) = ((xx * (1 + F) : Nat) : Int) := by rw [Int.natCast_mul]; rfl
        have hle : xx * (1 + F) ≤ 4 * 2 := Nat.mul_le_mul hxx (by omega)
        have hge : 1 ≤ xx * (1 + F) := Nat.mul_pos (by omega) (by omega)
        have HLe : Hid (xx * (1 + F) ≤ 2 ^ (dn + 1)) := Lib.hid (by rw [HPW.out]; exact Nat.mul_le_mul HX2.out (by omega))
        have W1 : IntKind.i64.wrap ((xx : Int) * (1 + (F : Int))) = ((xx * (1 + F) : Nat) : Int) := by rw [hmul]; exact IntWalk.i64_in _ (by omega)
        generalize xx * (1 + F) = Y at *
        go_wp2_with (at_builtin; go_loud (refine wpList_push rfl (.tmp 41) (.tmp 43) 31 rfl w1.heap.size 2 (.int .i64 0) 8 Try.underlying31 Try.info2 rfl (by decide) (.int .i64 Y) rfl _ _ _ _ rfl rfl (by exact HD5.out) (by omega) (by exact s5) ?_; rintro a4 c4 w6 r4 q4 g4; have HN := Lib.hid (OwnI.pushed r4); have HC6 := Lib.hid (HC5.out.low (g4.below s5 (fun k hk hx => by obtain ⟨p, hp, e⟩ := hx; have := (HD5.out.block p hp).1; omega)) (Nat.le_refl _) rfl rfl rfl rfl); clear r4 q4 g4))
        have HNB : Hid (∀ y ∈ ds ++ [(Y : Int)], 1 ≤ y ∧ y ≤ 8) := Lib.hid (fun y hy => by
          rcases List.mem_append.1 hy with h | h
          · exact HDB.out y h
          · simp at h; omega)
        go_wp2_with fail
        go_roundw
        case rel => exact ⟨k2, dn + 1, Y, a4, c4, _, by omega, by go_num, rfl, by omega, HLe.out, rfl, HC6, HN, HNB⟩
        case measure => simp [intOf]
      · have d1 : ¬ (0 : Int) < (k1 : Int) := by omega
        have hdn : dn ≤ MN := by omega
        clear hp8 hx1 hx2 hkd hk0
        go_wp2_with fail
        obtain ⟨wL, hwL⟩ : ∃ x, x = wi := ⟨wi, rfl⟩
        have HOR0 : Hid (OwnR 31 2 (wi.alloc (.cells #[] 31)) wi.heap.size (some ⟨wi.heap.size, 0, none⟩) 0 0 [] (fun _ => none) (fun _ => 0) ∧ Sm 8 M [] ∧ Below wi.heap.size wi (wi.alloc (.cells #[] 31))) := Lib.hid ⟨OwnR.empty wi _ _ _ _, ⟨fun i hi => by simp at hi, fun i j hi => by simp at hi⟩, (Below.refl _ _).alloc (Nat.le_refl _) _⟩
        rw [← hwL] at HOR0 HC HD
        have HWL := Lib.hid hwL
        have HMK := Lib.hid (run_make_row' (P := Try.prog) 31 2 (.int .i64 0) 8 Try.underlying31 Try.info2 rfl .i64 .i64 M (by omega) (by omega))
        have hlds := HD.out.len
        have HLDS := Lib.hid hlds
        clear hwL hlds
        go_loopw [13, 12] (fun i o wr => ∃ (i1 : Nat) (a2 : Option Addr) (cap2 : Nat) (xs : List (List Int)) (A : Nat → Option Addr) (C : Nat → Nat), i1 ≤ N ∧ i = .int .i64 i1 ∧ o = .slice a2 i1 cap2 ∧ Hid (OwnR 31 2 wr wL.heap.size a2 i1 cap2 xs A C ∧ Sm 8 M xs ∧ Below wL.heap.size wL wr)) (fun i _ _ => N - (intOf i).toNat)
        case atStart => exact ⟨0, _, 0, [], _, _, Nat.zero_le _, rfl, rfl, by first | exact HOR0 | (rw [← HWL.out]; exact HOR0)⟩
        case round =>
          obtain ⟨i1, a2, cap2, xs, A, C, hi1, rfl, rfl, HI⟩ := hrel
          obtain ⟨wj, rfl⟩ : ∃ x, x = wr := ⟨wr, rfl⟩
          clear HOR0
          by_cases hiN : i1 < N
          · have J1 : (i1 : Int) < (N : Int) := by omega
            have hmk := HMK.out
            have sj := HI.out.2.2.size
            by_cases hid : i1 < dn
            · have J2 : (i1 : Int) < (dn : Int) := by omega
              have hiM : i1 < M := by omega
              have J3 : (i1 : Int) < (M : Int) := by omega
              obtain ⟨gd, rfl⟩ := HD.out.addr (show 0 < dn by omega)
              have cd := (HD.out.keep HI.out.2.2 (Nat.le_refl _)).cellAt hid
              have gdl : gd < wj.heap.size := ((HD.out.keep HI.out.2.2 (Nat.le_refl _)).block _ rfl).2
              obtain ⟨v, hv⟩ : ∃ v, v = el ds i1 := ⟨_, rfl⟩
              have hvb : 1 ≤ v ∧ v ≤ 8 := HDB.out v (by rw [hv]; exact el_mem (by rw [HLDS.out]; exact hid))
              rw [← hv] at cd
              have HO := (OwnI.made wj 2 M (by unfold maxLen; omega)).set hiM v
              rw [World.setCell_alloc_at _ _ _ _ _ rfl] at HO
              have HO1 := Lib.hid HO
              have HVR : Hid (∀ j, j < M → -8 ≤ el ((tab M (fun _ => (0 : Int))).set i1 v) j ∧ el ((tab M (fun _ => (0 : Int))).set i1 v) j ≤ 8) := Lib.hid (fun j hj => by
                by_cases hjk : i1 = j
                · subst hjk; simp [el, tab, hiM]; omega
                · simp [el, tab, hjk, hj])
              have HVL : Hid (((tab M (fun _ => (0 : Int))).set i1 v).length = M) := Lib.hid (by simp [tab])
              have HE1 : Hid (Below wj.heap.size wj (wj.alloc (.cells ((madeCells #[.int .i64 0] M).setIfInBounds i1 (.int .i64 v)) 2))) := Lib.hid ((Below.refl _ _).alloc (Nat.le_refl _) _)
              have HR1 := Lib.hid (HI.out.1.keep HE1.out (Nat.le_refl _))
              have SJE : Hid (wj.heap.size + 1 = (wj.alloc (.cells ((madeCells #[.int .i64 0] M).setIfInBounds i1 (.int .i64 v)) 2)).heap.size) := Lib.hid (by simp)
              have sj2 : wL.heap.size ≤ (wj.alloc (.cells ((madeCells #[.int .i64 0] M).setIfInBounds i1 (.int .i64 v)) 2)).heap.size := by simp; omega
              have e1 := (OwnI.made wj 2 M (by unfold maxLen; omega)).cellAt hiM
              rw [el_tab hiM] at e1
              have e2 := (OwnI.made wj 2 M (by unfold maxLen; omega)).frozen i1
              clear HO hv hid
              go_wp2_with (at_builtin; go_loud (refine wpList_pushB rfl (.tmp 64) (.tmp 66) 24 rfl wL.heap.size 31 (.slice none 0 0) 24 Try.underlying24 Try.infoR rfl (by decide) (.slice (some ⟨wj.heap.size, 0, none⟩) M M) rfl _ _ _ _ _ rfl rfl (by simp) (by exact HR1.out.own) (by omega) (by exact sj2) ?_; rintro a4 c4 w6 r4 q4 g4; have HN := Lib.hid (HI.out.1.pushNew2 sj HE1.out HO1.out (Nat.le_refl _) r4 q4 g4); clear r4 q4 g4))
              have HNS := Lib.hid (HI.out.2.1.snoc HVL.out HVR.out)
              go_wp2_with fail
              go_roundw
              case rel => exact ⟨i1 + 1, a4, c4, _, _, _, by omega, by go_num, rfl, Lib.hid ⟨HN.out.1, HNS.out, HI.out.2.2.trans HN.out.2⟩⟩
              case measure => simp [intOf]; omega
            · have J2 : ¬ (i1 : Int) < (dn : Int) := by omega
              have HO1 := Lib.hid (OwnI.made wj 2 M (by unfold maxLen; omega))
              have HVR : Hid (∀ j, j < M → -8 ≤ el (tab M (fun _ => (0 : Int))) j ∧ el (tab M (fun _ => (0 : Int))) j ≤ 8) := Lib.hid (fun j hj => by rw [el_tab hj]; omega)
              have HE1 : Hid (Below wj.heap.size wj (wj.alloc (.cells (madeCells #[.int .i64 0] M) 2))) := Lib.hid ((Below.refl _ _).alloc (Nat.le_refl _) _)
              have HR1 := Lib.hid (HI.out.1.keep HE1.out (Nat.le_refl _))
              have SJE : Hid (wj.heap.size + 1 = (wj.alloc (.cells (madeCells #[.int .i64 0] M) 2)).heap.size) := Lib.hid (by simp)
              have sj2 : wL.heap.size ≤ (wj.alloc (.cells (madeCells #[.int .i64 0] M) 2)).heap.size := by simp; omega
              clear hid
              go_wp2_with (at_builtin; go_loud (refine wpList_pushB rfl (.tmp 64) (.tmp 66) 24 rfl wL.heap.size 31 (.slice none 0 0) 24 Try.underlying24 Try.infoR rfl (by decide) (.slice (some ⟨wj.heap.size, 0, none⟩) M M) rfl _ _ _ _ _ rfl rfl (by simp) (by exact HR1.out.own) (by omega) (by exact sj2) ?_; rintro a4 c4 w6 r4 q4 g4; have HN := Lib.hid (HI.out.1.pushNew2 sj HE1.out HO1.out (Nat.le_refl _) r4 q4 g4); clear r4 q4 g4))
              have HNS := Lib.hid (HI.out.2.1.snoc (tab_len _ _) HVR.out)
              go_wp2_with fail
              go_roundw
              case rel => exact ⟨i1 + 1, a4, c4, _, _, _, by omega, by go_num, rfl, Lib.hid ⟨HN.out.1, HNS.out, HI.out.2.2.trans HN.out.2⟩⟩
              case measure => simp [intOf]; omega
          · obtain rfl : i1 = N := by omega
            have J1 : ¬ (i1 : Int) < (i1 : Int) := by omega
            have sj := HI.out.2.2.size
            have sL := HC.out.sz
            have HC6 := Lib.hid (HC.out.low HI.out.2.2 sL rfl rfl rfl rfl)
            have HD6 := Lib.hid (HD.out.keep HI.out.2.2 (Nat.le_refl _))
            have HT6 : Hid (MadeR 31 2 wj w1.heap.size a2 i1 cap2 xs) := Lib.hid ⟨A, C, HI.out.1.mono sL⟩
            have HTS := Lib.hid HI.out.2.1
            have hdl : dn ≤ 4 := by omega
            clear HC HD HI HMK HWL
            go_wp2_with fail
            refine (l04Shears_any b a m c bs i1 wj HC6.out.src hmc (by omega) (by omega)).mono ?_
            rintro e w7 ⟨U, au, cu, rfl, hm, hsm, hun, hs, hc⟩
            have HC7 := Lib.hid (HC6.out.next hs hc rfl rfl rfl rfl)
            have HD7 := Lib.hid (HD6.out.kept hc (fun p hp e => by have := (HD6.out.block p hp).1; omega))
            have HT7 := Lib.hid (HT6.out.keptS hc (fun k hk e => by omega))
            have HU7 := Lib.hid hm.low
            have s67 := hc.size
            have s16 := HC6.out.sz
            have HDL : Hid (∀ p, ad = some p → p.block < wj.heap.size) := Lib.hid (fun p hp => (HD6.out.block p hp).2)
            have HUS := Lib.hid hsm
            have HUN := Lib.hid hun
            clear hs hc hm hsm hun HC6 HD6 HT6
            go_wp2_with fail
            refine (l04Shears_any b a m c bs M w7 HC7.out.src hmc (by omega) (by omega)).mono ?_
            rintro e w8 ⟨V, av, cv, rfl, hm, hsm, hun, hs, hc⟩
            have HC8 := Lib.hid (HC7.out.next hs hc rfl rfl rfl rfl)
            have HD8 := Lib.hid (HD7.out.kept hc (fun p hp e => by have := (HD7.out.block p hp).1; omega))
            have HT8 := Lib.hid (HT7.out.keptS hc (fun k hk e => by omega))
            have HU8 := Lib.hid (HU7.out.keptS hc (fun k hk hl e => by omega))
            have HV8 := Lib.hid hm.low
            have s78 := hc.size
            have HVS := Lib.hid hsm
            have HVN := Lib.hid hun
            clear hs hc hm hsm hun HC7 HD7 HT7 HU7
            have HUQ := Lib.hid ((HUS.out.mono (show (27 : Int) ≤ 64 by omega)).sq HU8.out.len)
            have HVQ := Lib.hid ((HVS.out.mono (show (27 : Int) ≤ 64 by omega)).sq HV8.out.len)
            have HUD : Hid (detN i1 U = 1 ∨ detN i1 U = -1) := Lib.hid (by rw [dN_det HU8.out.len HUQ.out.row]; exact HUN.out)
            have HVD : Hid (detN M V = 1 ∨ detN M V = -1) := Lib.hid (by rw [dN_det HV8.out.len HVQ.out.row]; exact HVN.out)
            go_wp2_with fail
            refine (l04Inverse_any au i1 cu U w8 HU8.out.rd HU8.out.len HUQ.out HUD.out (by omega) (by omega) HU8.out.capl).mono ?_
            rintro e w9 ⟨UI, ai, ci, rfl, hm, hsm, hb⟩
            have HC9 := Lib.hid (HC8.out.low hb HC8.out.sz rfl rfl rfl rfl)
            have s89 := hb.size
            have HD9 := Lib.hid (HD8.out.keep hb (Nat.le_refl _))
            have HT9 := Lib.hid (HT8.out.keep hb (Nat.le_refl _))
            have HU9 := Lib.hid (HU8.out.keep hb (Nat.le_refl _))
            have HV9 := Lib.hid (HV8.out.keep hb (Nat.le_refl _))
            have HPR := Lib.hid (first_prok (show i1 ≤ 4 by omega) hM3 (by omega) hsm hm.len HTS.out HT8.out.len)
            have HI9 := Lib.hid hm.rd
            clear hm hsm hb HC8 HD8 HT8 HU8 HV8
            go_wp2_with fail
            refine (l04Times_any ai a2 i1 i1 ci cap2 M 1572864 8 UI xs w9 HI9.out HT9.out.rd HPR.out (by omega) (by omega)).mono ?_
            rintro e w10 ⟨a10, c10, rfl, hm, hb⟩
            have HC10 := Lib.hid (HC9.out.low hb HC9.out.sz rfl rfl rfl rfl)
            have s910 := hb.size
            have HD10 := Lib.hid (HD9.out.keep hb (Nat.le_refl _))
            have HU10 := Lib.hid (HU9.out.keep hb (Nat.le_refl _))
            have HV10 := Lib.hid (HV9.out.keep hb (Nat.le_refl _))
            have HP10 := Lib.hid hm.rd
            clear hm hb HC9 HD9 HT9 HU9 HV9 HI9
            go_wp2_with fail
            refine (l04Inverse_any av M cv V w10 HV10.out.rd HV10.out.len HVQ.out HVD.out (by omega) (by omega) HV10.out.capl).mono ?_
            rintro e w11 ⟨VI, aj, cj, rfl, hm, hsm, hb⟩
            have HC11 := Lib.hid (HC10.out.low hb HC10.out.sz rfl rfl rfl rfl)
            have s1011 := hb.size
            have HD11 := Lib.hid (HD10.out.keep hb (Nat.le_refl _))
            have HU11 := Lib.hid (HU10.out.keep hb (Nat.le_refl _))
            have HV11 := Lib.hid (HV10.out.keep hb (Nat.le_refl _))
            have HP11 := Lib.hid (HP10.out.keep hb (Nat.le_refl _))
            have HQR := Lib.hid (second_prok (show i1 ≤ 4 by omega) hM3 hM1 HPR.out hsm hm.len)
            have HJ11 := Lib.hid hm.rd
            clear hm hsm hb HC10 HD10 HU10 HV10 HP10
            go_wp2_with fail
            refine (l04Times_any a10 aj i1 M c10 cj M 50331648 8192 (timesI M UI xs) VI w11 HP11.out HJ11.out HQR.out (by omega) (by omega)).mono ?_
            rintro e w12 ⟨a12, c12, rfl, hm, hb⟩
            have HC12 := Lib.hid (HC11.out.low hb HC11.out.sz rfl rfl rfl rfl)
            have HD12 := Lib.hid (HD11.out.keep hb (Nat.le_refl _))
            have HU12 := Lib.hid (HU11.out.keep hb (Nat.le_refl _))
            have HV12 := Lib.hid (HV11.out.keep hb (Nat.le_refl _))
            have HP12 := Lib.hid hm.low
            have s1112 := hb.size
            have HTL : Hid (∀ i, i < i1 → (rw_ (timesI M (timesI M UI xs) VI) i).length = M) := Lib.hid (fun i hi => by rw [timesI_row (by rw [timesI_len, HPR.out.lenA]; exact hi), psum_len])
            obtain ⟨X, hX⟩ : ∃ X, X = timesI M (timesI M UI xs) VI := ⟨_, rfl⟩
            rw [← hX] at HP12 HTL
            clear hm hb HC11 HD11 HU11 HV11 HP11 HJ11 HPR HQR hX
            go_wp2_with fail
            refine (l01Next_any b a m c bs 12 w12 HC12.out.src (by omega) hmc).mono ?_
            rintro e w13 ⟨z, rfl, hz0, hz1, hs, hc⟩
            have HC13 := Lib.hid (HC12.out.next hs hc rfl rfl rfl rfl)
            have HD13 := Lib.hid (HD12.out.kept hc (fun p hp e => by have := (HD12.out.block p hp).1; omega))
            have HU13 := Lib.hid (HU12.out.keptS hc (fun k hk hl e => by omega))
            have HV13 := Lib.hid (HV12.out.keptS hc (fun k hk hl e => by omega))
            have HP13 := Lib.hid (HP12.out.keptS hc (fun k hk hl e => by omega))
            have HUL : Hid (∀ i, i < i1 → (rw_ U i).length ≤ 100) := Lib.hid (fun i hi => by rw [HUQ.out.row i hi]; omega)
            have HVL : Hid (∀ i, i < M → (rw_ V i).length ≤ 100) := Lib.hid (fun i hi => by rw [HVQ.out.row i hi]; omega)
            have HXL : Hid (∀ i, i < i1 → (rw_ X i).length ≤ 100) := Lib.hid (fun i hi => by rw [HTL.out i hi]; omega)
            have HDI : Hid (∀ x ∈ ds, I64 x) := Lib.hid (fun x hx => by have := HDB.out x hx; unfold I64; omega)
            have s13 := HC13.out.sz
            clear hs hc HC12 HD12 HU12 HV12 HP12 HUS HVS HUN HVN HUD HVD HTS HDB HLDS
            by_cases hz_0 : z = 0
            · subst hz_0
              clear hz0 hz1
              go_wp2_with (at_builtin; go_loud (refine wpList_push rfl (.tmp 87) (.tmp 88) 31 rfl w1.heap.size 2 (.int .i64 0) 8 Try.underlying31 Try.info2 rfl (by decide) (.int .i64 1) rfl _ _ _ _ rfl rfl (by exact HD13.out) (by omega) (by exact s13) ?_; rintro a4 c4 w14 r4 q4 g4; have HN := Lib.hid (OwnI.pushed r4); have HC14 := Lib.hid (HC13.out.low (g4.below s13 (fun k hk hx => by obtain ⟨p, hp, e⟩ := hx; have := (HD13.out.block p hp).1; omega)) (Nat.le_refl _) rfl rfl rfl rfl); have HUE := Lib.hid (HU13.out.keptS (S := fun k => ∃ p, ad = some p ∧ p.block = k) g4 (fun k h1 h2 hx => by obtain ⟨p, hp, e⟩ := hx; have := HDL.out p hp; omega)); have HVE := Lib.hid (HV13.out.keptS (S := fun k => ∃ p, ad = some p ∧ p.block = k) g4 (fun k h1 h2 hx => by obtain ⟨p, hp, e⟩ := hx; have := HDL.out p hp; omega)); have HPE := Lib.hid (HP13.out.keptS (S := fun k => ∃ p, ad = some p ∧ p.block = k) g4 (fun k h1 h2 hx => by obtain ⟨p, hp, e⟩ := hx; have := HDL.out p hp; omega)); have s14 := HC14.out.sz; clear r4 q4 g4; have hbe := HBE.out; have BXZ := HX1.out.chg HC14.out.chg (by omega); have BYZ := HY1.out.chg HC14.out.chg (by omega); have BZZ := HZ1.out.chg HC14.out.chg (by omega); have x0 := BXZ.cell 0; have x1 := BXZ.cell 1; have x2 := BYZ.cell 0; have x3 := BYZ.cell 1; have x4 := BZZ.cell 0; have x5 := BZZ.cell 1; have f0 := BXZ.frz 0; have f1 := BXZ.frz 1; have f2 := BYZ.frz 0; have f3 := BYZ.frz 1; have f4 := BZZ.frz 0; have f5 := BZZ.frz 1; have l0 := BXZ.lt; have l1 := BYZ.lt; have l2 := BZZ.lt; simp at x0 x1 x2 x3 x4 x5; have A0 := ((((((BXZ.set 0 (.int .i64 M)).set 1 (.slice a12 i1 c12)).other (p := ⟨w.heap.size + 1, 0, none⟩) (by simp; try omega) (.int .i64 i1)).other (p := ⟨w.heap.size + 1, 1, none⟩) (by simp; try omega) (.slice au i1 cu)).other (p := ⟨w.heap.size + 1 + 1, 0, none⟩) (by simp; try omega) (.int .i64 M)).other (p := ⟨w.heap.size + 1 + 1, 1, none⟩) (by simp; try omega) (.slice av M cv)); have B0 := ((((((BYZ.other (p := ⟨w.heap.size, 0, none⟩) (by simp; try omega) (.int .i64 M)).other (p := ⟨w.heap.size, 1, none⟩) (by simp; try omega) (.slice a12 i1 c12)).set 0 (.int .i64 i1)).set 1 (.slice au i1 cu)).other (p := ⟨w.heap.size + 1 + 1, 0, none⟩) (by simp; try omega) (.int .i64 M)).other (p := ⟨w.heap.size + 1 + 1, 1, none⟩) (by simp; try omega) (.slice av M cv)); have C0 := ((((((BZZ.other (p := ⟨w.heap.size, 0, none⟩) (by simp; try omega) (.int .i64 M)).other (p := ⟨w.heap.size, 1, none⟩) (by simp; try omega) (.slice a12 i1 c12)).other (p := ⟨w.heap.size + 1, 0, none⟩) (by simp; try omega) (.int .i64 i1)).other (p := ⟨w.heap.size + 1, 1, none⟩) (by simp; try omega) (.slice au i1 cu)).set 0 (.int .i64 M)).set 1 (.slice av M cv)); have u0 := A0.cell 0; have u1 := A0.cell 1; have u2 := B0.cell 0; have u3 := B0.cell 1; have u4 := C0.cell 0; have u5 := C0.cell 1; simp at u0 u1 u2 u3 u4 u5; have HBZ : Hid (Below w.heap.size w ((((((w14.setCell ⟨w.heap.size, 0, none⟩ (.int .i64 M)).setCell ⟨w.heap.size, 1, none⟩ (.slice a12 i1 c12)).setCell ⟨w.heap.size + 1, 0, none⟩ (.int .i64 i1)).setCell ⟨w.heap.size + 1, 1, none⟩ (.slice au i1 cu)).setCell ⟨w.heap.size + 1 + 1, 0, none⟩ (.int .i64 M)).setCell ⟨w.heap.size + 1 + 1, 1, none⟩ (.slice av M cv))) := Lib.hid (HB1.out.trans ((((((((HC14.out.chg.up (by omega) (by omega)).setCell (p := ⟨w.heap.size, 0, none⟩) (show w.heap.size ≤ w.heap.size by omega) (.int .i64 M)).setCell (p := ⟨w.heap.size, 1, none⟩) (show w.heap.size ≤ w.heap.size by omega) (.slice a12 i1 c12)).setCell (p := ⟨w.heap.size + 1, 0, none⟩) (show w.heap.size ≤ w.heap.size + 1 by omega) (.int .i64 i1)).setCell (p := ⟨w.heap.size + 1, 1, none⟩) (show w.heap.size ≤ w.heap.size + 1 by omega) (.slice au i1 cu)).setCell (p := ⟨w.heap.size + 1 + 1, 0, none⟩) (show w.heap.size ≤ w.heap.size + 1 + 1 by omega) (.int .i64 M)).setCell (p := ⟨w.heap.size + 1 + 1, 1, none⟩) (show w.heap.size ≤ w.heap.size + 1 + 1 by omega) (.slice av M cv)))); have HUZ := Lib.hid ((((((HUE.out.setAway ⟨w.heap.size, 0, none⟩ (.inl (show w.heap.size < _ by omega)) (.int .i64 M)).setAway ⟨w.heap.size, 1, none⟩ (.inl (show w.heap.size < _ by omega)) (.slice a12 i1 c12)).setAway ⟨w.heap.size + 1, 0, none⟩ (.inl (show w.heap.size + 1 < _ by omega)) (.int .i64 i1)).setAway ⟨w.heap.size + 1, 1, none⟩ (.inl (show w.heap.size + 1 < _ by omega)) (.slice au i1 cu)).setAway ⟨w.heap.size + 1 + 1, 0, none⟩ (.inl (show w.heap.size + 1 + 1 < _ by omega)) (.int .i64 M)).setAway ⟨w.heap.size + 1 + 1, 1, none⟩ (.inl (show w.heap.size + 1 + 1 < _ by omega)) (.slice av M cv)); have HVZ := Lib.hid ((((((HVE.out.setAway ⟨w.heap.size, 0, none⟩ (.inl (show w.heap.size < _ by omega)) (.int .i64 M)).setAway ⟨w.heap.size, 1, none⟩ (.inl (show w.heap.size < _ by omega)) (.slice a12 i1 c12)).setAway ⟨w.heap.size + 1, 0, none⟩ (.inl (show w.heap.size + 1 < _ by omega)) (.int .i64 i1)).setAway ⟨w.heap.size + 1, 1, none⟩ (.inl (show w.heap.size + 1 < _ by omega)) (.slice au i1 cu)).setAway ⟨w.heap.size + 1 + 1, 0, none⟩ (.inl (show w.heap.size + 1 + 1 < _ by omega)) (.int .i64 M)).setAway ⟨w.heap.size + 1 + 1, 1, none⟩ (.inl (show w.heap.size + 1 + 1 < _ by omega)) (.slice av M cv)); have HPZ := Lib.hid ((((((HPE.out.setAway ⟨w.heap.size, 0, none⟩ (.inl (show w.heap.size < _ by omega)) (.int .i64 M)).setAway ⟨w.heap.size, 1, none⟩ (.inl (show w.heap.size < _ by omega)) (.slice a12 i1 c12)).setAway ⟨w.heap.size + 1, 0, none⟩ (.inl (show w.heap.size + 1 < _ by omega)) (.int .i64 i1)).setAway ⟨w.heap.size + 1, 1, none⟩ (.inl (show w.heap.size + 1 < _ by omega)) (.slice au i1 cu)).setAway ⟨w.heap.size + 1 + 1, 0, none⟩ (.inl (show w.heap.size + 1 + 1 < _ by omega)) (.int .i64 M)).setAway ⟨w.heap.size + 1 + 1, 1, none⟩ (.inl (show w.heap.size + 1 + 1 < _ by omega)) (.slice av M cv)); have HDZ := Lib.hid ((((((HN.out.setCell (p := ⟨w.heap.size, 0, none⟩) (show w.heap.size < _ by omega) (.int .i64 M)).setCell (p := ⟨w.heap.size, 1, none⟩) (show w.heap.size < _ by omega) (.slice a12 i1 c12)).setCell (p := ⟨w.heap.size + 1, 0, none⟩) (show w.heap.size + 1 < _ by omega) (.int .i64 i1)).setCell (p := ⟨w.heap.size + 1, 1, none⟩) (show w.heap.size + 1 < _ by omega) (.slice au i1 cu)).setCell (p := ⟨w.heap.size + 1 + 1, 0, none⟩) (show w.heap.size + 1 + 1 < _ by omega) (.int .i64 M)).setCell (p := ⟨w.heap.size + 1 + 1, 1, none⟩) (show w.heap.size + 1 + 1 < _ by omega) (.slice av M cv)); clear A0 B0 C0 BXZ BYZ BZZ hbe))
              have HDI2 : Hid (∀ x ∈ ds ++ [1], I64 x) := Lib.hid (fun x hx => by
                rcases List.mem_append.1 hx with h | h
                · exact HDI.out x h
                · simp at h; subst h; unfold I64; omega)
              go_wp2_with fail
              refine bodyPost_ret (v := .tuple #[.agg #[.int .i64 M, .slice a12 i1 c12], .agg #[.int .i64 i1, .slice au i1 cu], .agg #[.int .i64 M, .slice av M cv], .slice a4 (dn + 1) c4]) (by simp [results, Try.results12, go_sem, u0, u1, u2, u3, u4, u5]) rfl (by unfold DrawnSmith; exact ⟨M, a12, i1, c12, X, i1, au, i1, cu, U, M, av, M, cv, V, a4, (dn + 1), c4, (ds ++ [1]), rfl, ⟨by unfold I64; omega, HPZ.out.rd, HPZ.out.len, HPZ.out.capl, by omega, HXL.out⟩, ⟨by unfold I64; omega, HUZ.out.rd, HUZ.out.len, HUZ.out.capl, by omega, HUL.out⟩, ⟨by unfold I64; omega, HVZ.out.rd, HVZ.out.len, HVZ.out.capl, by omega, HVL.out⟩, HDZ.out.rd, HDZ.out.len, by omega, HDI2.out, HBZ.out⟩)
            · have e0 : (z == 0) = false := beq_eq_false_iff_ne.2 hz_0
              by_cases hz_1 : z = 1
              · subst hz_1
                clear hz0 hz1
                obtain ⟨g, gr, cr, eA, hc0, hc1, hfr, hB0, hL0, hg0, hg1, hset⟩ := HU13.out.first (show 0 < i1 by omega) (by rw [HUQ.out.row 0 (by omega)]; omega)
                subst eA
                rw [HUQ.out.row 0 (by omega)] at hc0
                have HSE := Lib.hid hset
                clear hset
                have HCB : Hid (SQ w1 (w13.setCell ⟨gr, 0, none⟩ (.int .i64 (wrap64 (el (rw_ U 0) 0 + 1)))) b a m c bs) := Lib.hid (HC13.out.set ⟨gr, 0, none⟩ (show w1.heap.size ≤ gr by omega) _)
                have HDB2 : Hid (OwnI 2 (w13.setCell ⟨gr, 0, none⟩ (.int .i64 (wrap64 (el (rw_ U 0) 0 + 1)))) w1.heap.size ad dn cap ds) := Lib.hid (HD13.out.kept ((Chg.refl (fun j => j = gr) w13).setCell ⟨gr, 0, none⟩ rfl _) (fun p hp e => by have := HDL.out p hp; omega))
                have HUB := Lib.hid (HSE.out (wrap64 (el (rw_ U 0) 0 + 1)))
                have HVE := Lib.hid (HV13.out.setAway ⟨gr, 0, none⟩ (.inl (show gr < _ by omega)) (.int .i64 (wrap64 (el (rw_ U 0) 0 + 1))))
                have HPB := Lib.hid (HP13.out.setAway ⟨gr, 0, none⟩ (.inl (show gr < _ by omega)) (.int .i64 (wrap64 (el (rw_ U 0) 0 + 1))))
                have hbe := HBE.out
                have BXZ := HX1.out.chg HCB.out.chg (by omega)
                have BYZ := HY1.out.chg HCB.out.chg (by omega)
                have BZZ := HZ1.out.chg HCB.out.chg (by omega)
                have x0 := BXZ.cell 0
                have x1 := BXZ.cell 1
                have x2 := BYZ.cell 0
                have x3 := BYZ.cell 1
                have x4 := BZZ.cell 0
                have x5 := BZZ.cell 1
                have f0 := BXZ.frz 0
                have f1 := BXZ.frz 1
                have f2 := BYZ.frz 0
                have f3 := BYZ.frz 1
                have f4 := BZZ.frz 0
                have f5 := BZZ.frz 1
                have l0 := BXZ.lt
                have l1 := BYZ.lt
                have l2 := BZZ.lt
                simp at x0 x1 x2 x3 x4 x5
                have A0 := ((((((BXZ.set 0 (.int .i64 M)).set 1 (.slice a12 i1 c12)).other (p := ⟨w.heap.size + 1, 0, none⟩) (by simp; try omega) (.int .i64 i1)).other (p := ⟨w.heap.size + 1, 1, none⟩) (by simp; try omega) (.slice (some ⟨g, 0, none⟩) i1 cu)).other (p := ⟨w.heap.size + 1 + 1, 0, none⟩) (by simp; try omega) (.int .i64 M)).other (p := ⟨w.heap.size + 1 + 1, 1, none⟩) (by simp; try omega) (.slice av M cv))
                have B0 := ((((((BYZ.other (p := ⟨w.heap.size, 0, none⟩) (by simp; try omega) (.int .i64 M)).other (p := ⟨w.heap.size, 1, none⟩) (by simp; try omega) (.slice a12 i1 c12)).set 0 (.int .i64 i1)).set 1 (.slice (some ⟨g, 0, none⟩) i1 cu)).other (p := ⟨w.heap.size + 1 + 1, 0, none⟩) (by simp; try omega) (.int .i64 M)).other (p := ⟨w.heap.size + 1 + 1, 1, none⟩) (by simp; try omega) (.slice av M cv))
                have C0 := ((((((BZZ.other (p := ⟨w.heap.size, 0, none⟩) (by simp; try omega) (.int .i64 M)).other (p := ⟨w.heap.size, 1, none⟩) (by simp; try omega) (.slice a12 i1 c12)).other (p := ⟨w.heap.size + 1, 0, none⟩) (by simp; try omega) (.int .i64 i1)).other (p := ⟨w.heap.size + 1, 1, none⟩) (by simp; try omega) (.slice (some ⟨g, 0, none⟩) i1 cu)).set 0 (.int .i64 M)).set 1 (.slice av M cv))
                have u0 := A0.cell 0
                have u1 := A0.cell 1
                have u2 := B0.cell 0
                have u3 := B0.cell 1
                have u4 := C0.cell 0
                have u5 := C0.cell 1
                simp at u0 u1 u2 u3 u4 u5
                have u0 : (((((((w13.setCell ⟨gr, 0, none⟩ (.int .i64 (wrap64 (el (rw_ U 0) 0 + 1)))).setCell ⟨w.heap.size, 0, none⟩ (.int .i64 M)).setCell ⟨w.heap.size, 1, none⟩ (.slice a12 i1 c12)).setCell ⟨w.heap.size + 1, 0, none⟩ (.int .i64 i1)).setCell ⟨w.heap.size + 1, 1, none⟩ (.slice (some ⟨g, 0, none⟩) i1 cu)).setCell ⟨w.heap.size + 1 + 1, 0, none⟩ (.int .i64 M)).setCell ⟨w.heap.size + 1 + 1, 1, none⟩ (.slice av M cv)).drew.cell? ⟨w.heap.size, 0, none⟩ = some (.int .i64 M) := (cell_drew _ _).trans u0
                have u1 : (((((((w13.setCell ⟨gr, 0, none⟩ (.int .i64 (wrap64 (el (rw_ U 0) 0 + 1)))).setCell ⟨w.heap.size, 0, none⟩ (.int .i64 M)).setCell ⟨w.heap.size, 1, none⟩ (.slice a12 i1 c12)).setCell ⟨w.heap.size + 1, 0, none⟩ (.int .i64 i1)).setCell ⟨w.heap.size + 1, 1, none⟩ (.slice (some ⟨g, 0, none⟩) i1 cu)).setCell ⟨w.heap.size + 1 + 1, 0, none⟩ (.int .i64 M)).setCell ⟨w.heap.size + 1 + 1, 1, none⟩ (.slice av M cv)).drew.cell? ⟨w.heap.size, 1, none⟩ = some (.slice a12 i1 c12) := (cell_drew _ _).trans u1
                have u2 : (((((((w13.setCell ⟨gr, 0, none⟩ (.int .i64 (wrap64 (el (rw_ U 0) 0 + 1)))).setCell ⟨w.heap.size, 0, none⟩ (.int .i64 M)).setCell ⟨w.heap.size, 1, none⟩ (.slice a12 i1 c12)).setCell ⟨w.heap.size + 1, 0, none⟩ (.int .i64 i1)).setCell ⟨w.heap.size + 1, 1, none⟩ (.slice (some ⟨g, 0, none⟩) i1 cu)).setCell ⟨w.heap.size + 1 + 1, 0, none⟩ (.int .i64 M)).setCell ⟨w.heap.size + 1 + 1, 1, none⟩ (.slice av M cv)).drew.cell? ⟨w.heap.size + 1, 0, none⟩ = some (.int .i64 i1) := (cell_drew _ _).trans u2
                have u3 : (((((((w13.setCell ⟨gr, 0, none⟩ (.int .i64 (wrap64 (el (rw_ U 0) 0 + 1)))).setCell ⟨w.heap.size, 0, none⟩ (.int .i64 M)).setCell ⟨w.heap.size, 1, none⟩ (.slice a12 i1 c12)).setCell ⟨w.heap.size + 1, 0, none⟩ (.int .i64 i1)).setCell ⟨w.heap.size + 1, 1, none⟩ (.slice (some ⟨g, 0, none⟩) i1 cu)).setCell ⟨w.heap.size + 1 + 1, 0, none⟩ (.int .i64 M)).setCell ⟨w.heap.size + 1 + 1, 1, none⟩ (.slice av M cv)).drew.cell? ⟨w.heap.size + 1, 1, none⟩ = some (.slice (some ⟨g, 0, none⟩) i1 cu) := (cell_drew _ _).trans u3
                have u4 : (((((((w13.setCell ⟨gr, 0, none⟩ (.int .i64 (wrap64 (el (rw_ U 0) 0 + 1)))).setCell ⟨w.heap.size, 0, none⟩ (.int .i64 M)).setCell ⟨w.heap.size, 1, none⟩ (.slice a12 i1 c12)).setCell ⟨w.heap.size + 1, 0, none⟩ (.int .i64 i1)).setCell ⟨w.heap.size + 1, 1, none⟩ (.slice (some ⟨g, 0, none⟩) i1 cu)).setCell ⟨w.heap.size + 1 + 1, 0, none⟩ (.int .i64 M)).setCell ⟨w.heap.size + 1 + 1, 1, none⟩ (.slice av M cv)).drew.cell? ⟨w.heap.size + 1 + 1, 0, none⟩ = some (.int .i64 M) := (cell_drew _ _).trans u4
                have u5 : (((((((w13.setCell ⟨gr, 0, none⟩ (.int .i64 (wrap64 (el (rw_ U 0) 0 + 1)))).setCell ⟨w.heap.size, 0, none⟩ (.int .i64 M)).setCell ⟨w.heap.size, 1, none⟩ (.slice a12 i1 c12)).setCell ⟨w.heap.size + 1, 0, none⟩ (.int .i64 i1)).setCell ⟨w.heap.size + 1, 1, none⟩ (.slice (some ⟨g, 0, none⟩) i1 cu)).setCell ⟨w.heap.size + 1 + 1, 0, none⟩ (.int .i64 M)).setCell ⟨w.heap.size + 1 + 1, 1, none⟩ (.slice av M cv)).drew.cell? ⟨w.heap.size + 1 + 1, 1, none⟩ = some (.slice av M cv) := (cell_drew _ _).trans u5
                have HBZ : Hid (Below w.heap.size w (((((((w13.setCell ⟨gr, 0, none⟩ (.int .i64 (wrap64 (el (rw_ U 0) 0 + 1)))).setCell ⟨w.heap.size, 0, none⟩ (.int .i64 M)).setCell ⟨w.heap.size, 1, none⟩ (.slice a12 i1 c12)).setCell ⟨w.heap.size + 1, 0, none⟩ (.int .i64 i1)).setCell ⟨w.heap.size + 1, 1, none⟩ (.slice (some ⟨g, 0, none⟩) i1 cu)).setCell ⟨w.heap.size + 1 + 1, 0, none⟩ (.int .i64 M)).setCell ⟨w.heap.size + 1 + 1, 1, none⟩ (.slice av M cv))) := Lib.hid (HB1.out.trans ((((((((HCB.out.chg.up (by omega) (by omega)).setCell (p := ⟨w.heap.size, 0, none⟩) (show w.heap.size ≤ w.heap.size by omega) (.int .i64 M)).setCell (p := ⟨w.heap.size, 1, none⟩) (show w.heap.size ≤ w.heap.size by omega) (.slice a12 i1 c12)).setCell (p := ⟨w.heap.size + 1, 0, none⟩) (show w.heap.size ≤ w.heap.size + 1 by omega) (.int .i64 i1)).setCell (p := ⟨w.heap.size + 1, 1, none⟩) (show w.heap.size ≤ w.heap.size + 1 by omega) (.slice (some ⟨g, 0, none⟩) i1 cu)).setCell (p := ⟨w.heap.size + 1 + 1, 0, none⟩) (show w.heap.size ≤ w.heap.size + 1 + 1 by omega) (.int .i64 M)).setCell (p := ⟨w.heap.size + 1 + 1, 1, none⟩) (show w.heap.size ≤ w.heap.size + 1 + 1 by omega) (.slice av M cv))))
                have HUZ := Lib.hid ((((((HUB.out.setAway ⟨w.heap.size, 0, none⟩ (.inl (show w.heap.size < _ by omega)) (.int .i64 M)).setAway ⟨w.heap.size, 1, none⟩ (.inl (show w.heap.size < _ by omega)) (.slice a12 i1 c12)).setAway ⟨w.heap.size + 1, 0, none⟩ (.inl (show w.heap.size + 1 < _ by omega)) (.int .i64 i1)).setAway ⟨w.heap.size + 1, 1, none⟩ (.inl (show w.heap.size + 1 < _ by omega)) (.slice (some ⟨g, 0, none⟩) i1 cu)).setAway ⟨w.heap.size + 1 + 1, 0, none⟩ (.inl (show w.heap.size + 1 + 1 < _ by omega)) (.int .i64 M)).setAway ⟨w.heap.size + 1 + 1, 1, none⟩ (.inl (show w.heap.size + 1 + 1 < _ by omega)) (.slice av M cv))
                have HVZ := Lib.hid ((((((HVE.out.setAway ⟨w.heap.size, 0, none⟩ (.inl (show w.heap.size < _ by omega)) (.int .i64 M)).setAway ⟨w.heap.size, 1, none⟩ (.inl (show w.heap.size < _ by omega)) (.slice a12 i1 c12)).setAway ⟨w.heap.size + 1, 0, none⟩ (.inl (show w.heap.size + 1 < _ by omega)) (.int .i64 i1)).setAway ⟨w.heap.size + 1, 1, none⟩ (.inl (show w.heap.size + 1 < _ by omega)) (.slice (some ⟨g, 0, none⟩) i1 cu)).setAway ⟨w.heap.size + 1 + 1, 0, none⟩ (.inl (show w.heap.size + 1 + 1 < _ by omega)) (.int .i64 M)).setAway ⟨w.heap.size + 1 + 1, 1, none⟩ (.inl (show w.heap.size + 1 + 1 < _ by omega)) (.slice av M cv))
                have HPZ := Lib.hid ((((((HPB.out.setAway ⟨w.heap.size, 0, none⟩ (.inl (show w.heap.size < _ by omega)) (.int .i64 M)).setAway ⟨w.heap.size, 1, none⟩ (.inl (show w.heap.size < _ by omega)) (.slice a12 i1 c12)).setAway ⟨w.heap.size + 1, 0, none⟩ (.inl (show w.heap.size + 1 < _ by omega)) (.int .i64 i1)).setAway ⟨w.heap.size + 1, 1, none⟩ (.inl (show w.heap.size + 1 < _ by omega)) (.slice (some ⟨g, 0, none⟩) i1 cu)).setAway ⟨w.heap.size + 1 + 1, 0, none⟩ (.inl (show w.heap.size + 1 + 1 < _ by omega)) (.int .i64 M)).setAway ⟨w.heap.size + 1 + 1, 1, none⟩ (.inl (show w.heap.size + 1 + 1 < _ by omega)) (.slice av M cv))
                have HDZ := Lib.hid ((((((HDB2.out.setCell (p := ⟨w.heap.size, 0, none⟩) (show w.heap.size < _ by omega) (.int .i64 M)).setCell (p := ⟨w.heap.size, 1, none⟩) (show w.heap.size < _ by omega) (.slice a12 i1 c12)).setCell (p := ⟨w.heap.size + 1, 0, none⟩) (show w.heap.size + 1 < _ by omega) (.int .i64 i1)).setCell (p := ⟨w.heap.size + 1, 1, none⟩) (show w.heap.size + 1 < _ by omega) (.slice (some ⟨g, 0, none⟩) i1 cu)).setCell (p := ⟨w.heap.size + 1 + 1, 0, none⟩) (show w.heap.size + 1 + 1 < _ by omega) (.int .i64 M)).setCell (p := ⟨w.heap.size + 1 + 1, 1, none⟩) (show w.heap.size + 1 + 1 < _ by omega) (.slice av M cv))
                clear A0 B0 C0 BXZ BYZ BZZ hbe
                have d1 : (0 : Int) < (i1 : Int) := by omega
                have d3 : 0 < i1 := by omega
                have d4 : 0 < i1 := by omega
                have d2 : (0 : Int) < (i1 : Int) := by omega
                go_wp2_with fail
                go_still_tail 10, (by kernel_rfl)
                change wpList _ _ _ _ _ w13.drew
                go_wp2_with fail
                refine bodyPost_ret (v := .tuple #[.agg #[.int .i64 M, .slice a12 i1 c12], .agg #[.int .i64 i1, .slice (some ⟨g, 0, none⟩) i1 cu], .agg #[.int .i64 M, .slice av M cv], .slice ad dn cap]) (by simp [results, Try.results12, go_sem, u0, u1, u2, u3, u4, u5]) rfl (by unfold DrawnSmith; exact ⟨M, a12, i1, c12, X, i1, (some ⟨g, 0, none⟩), i1, cu, _, M, av, M, cv, V, ad, dn, cap, ds, rfl, ⟨by unfold I64; omega, HPZ.out.rd.keep (Below.drew _) (Nat.le_refl _), HPZ.out.len, HPZ.out.capl, by omega, HXL.out⟩, ⟨by unfold I64; omega, HUZ.out.rd.keep (Below.drew _) (Nat.le_refl _), HUZ.out.len, HUZ.out.capl, by omega, rowSet_lens HUL.out HU13.out.len⟩, ⟨by unfold I64; omega, HVZ.out.rd.keep (Below.drew _) (Nat.le_refl _), HVZ.out.len, HVZ.out.capl, by omega, HVL.out⟩, HDZ.out.rd.keep (Below.drew _) (Nat.le_refl _), HDZ.out.len, by omega, HDI.out, below_drewR HBZ.out⟩)
              · have e1 : (z == 1) = false := beq_eq_false_iff_ne.2 hz_1
                by_cases hz_2 : z = 2
                · subst hz_2
                  clear hz0 hz1
                  obtain ⟨g, gr, cr, eA, hc0, hc1, hfr, hB0, hL0, hg0, hg1, hset⟩ := HP13.out.first (show 0 < i1 by omega) (by rw [HTL.out 0 (by omega)]; omega)
                  subst eA
                  rw [HTL.out 0 (by omega)] at hc0
                  have HSE := Lib.hid hset
                  clear hset
                  have HCB : Hid (SQ w1 (w13.setCell ⟨gr, 0, none⟩ (.int .i64 (wrap64 (el (rw_ X 0) 0 + 1)))) b a m c bs) := Lib.hid (HC13.out.set ⟨gr, 0, none⟩ (show w1.heap.size ≤ gr by omega) _)
                  have HDB2 : Hid (OwnI 2 (w13.setCell ⟨gr, 0, none⟩ (.int .i64 (wrap64 (el (rw_ X 0) 0 + 1)))) w1.heap.size ad dn cap ds) := Lib.hid (HD13.out.kept ((Chg.refl (fun j => j = gr) w13).setCell ⟨gr, 0, none⟩ rfl _) (fun p hp e => by have := HDL.out p hp; omega))
                  have HUB := Lib.hid (HU13.out.setAway ⟨gr, 0, none⟩ (.inr (show _ ≤ gr by omega)) (.int .i64 (wrap64 (el (rw_ X 0) 0 + 1))))
                  have HVE := Lib.hid (HV13.out.setAway ⟨gr, 0, none⟩ (.inr (show _ ≤ gr by omega)) (.int .i64 (wrap64 (el (rw_ X 0) 0 + 1))))
                  have HPB := Lib.hid (HSE.out (wrap64 (el (rw_ X 0) 0 + 1)))
                  have hbe := HBE.out
                  have BXZ := HX1.out.chg HCB.out.chg (by omega)
                  have BYZ := HY1.out.chg HCB.out.chg (by omega)
                  have BZZ := HZ1.out.chg HCB.out.chg (by omega)
                  have x0 := BXZ.cell 0
                  have x1 := BXZ.cell 1
                  have x2 := BYZ.cell 0
                  have x3 := BYZ.cell 1
                  have x4 := BZZ.cell 0
                  have x5 := BZZ.cell 1
                  have f0 := BXZ.frz 0
                  have f1 := BXZ.frz 1
                  have f2 := BYZ.frz 0
                  have f3 := BYZ.frz 1
                  have f4 := BZZ.frz 0
                  have f5 := BZZ.frz 1
                  have l0 := BXZ.lt
                  have l1 := BYZ.lt
                  have l2 := BZZ.lt
                  simp at x0 x1 x2 x3 x4 x5
                  have A0 := ((((((BXZ.set 0 (.int .i64 M)).set 1 (.slice (some ⟨g, 0, none⟩) i1 c12)).other (p := ⟨w.heap.size + 1, 0, none⟩) (by simp; try omega) (.int .i64 i1)).other (p := ⟨w.heap.size + 1, 1, none⟩) (by simp; try omega) (.slice au i1 cu)).other (p := ⟨w.heap.size + 1 + 1, 0, none⟩) (by simp; try omega) (.int .i64 M)).other (p := ⟨w.heap.size + 1 + 1, 1, none⟩) (by simp; try omega) (.slice av M cv))
                  have B0 := ((((((BYZ.other (p := ⟨w.heap.size, 0, none⟩) (by simp; try omega) (.int .i64 M)).other (p := ⟨w.heap.size, 1, none⟩) (by simp; try omega) (.slice (some ⟨g, 0, none⟩) i1 c12)).set 0 (.int .i64 i1)).set 1 (.slice au i1 cu)).other (p := ⟨w.heap.size + 1 + 1, 0, none⟩) (by simp; try omega) (.int .i64 M)).other (p := ⟨w.heap.size + 1 + 1, 1, none⟩) (by simp; try omega) (.slice av M cv))
                  have C0 := ((((((BZZ.other (p := ⟨w.heap.size, 0, none⟩) (by simp; try omega) (.int .i64 M)).other (p := ⟨w.heap.size, 1, none⟩) (by simp; try omega) (.slice (some ⟨g, 0, none⟩) i1 c12)).other (p := ⟨w.heap.size + 1, 0, none⟩) (by simp; try omega) (.int .i64 i1)).other (p := ⟨w.heap.size + 1, 1, none⟩) (by simp; try omega) (.slice au i1 cu)).set 0 (.int .i64 M)).set 1 (.slice av M cv))
                  have u0 := A0.cell 0
                  have u1 := A0.cell 1
                  have u2 := B0.cell 0
                  have u3 := B0.cell 1
                  have u4 := C0.cell 0
                  have u5 := C0.cell 1
                  simp at u0 u1 u2 u3 u4 u5
                  have u0 : (((((((w13.setCell ⟨gr, 0, none⟩ (.int .i64 (wrap64 (el (rw_ X 0) 0 + 1)))).setCell ⟨w.heap.size, 0, none⟩ (.int .i64 M)).setCell ⟨w.heap.size, 1, none⟩ (.slice (some ⟨g, 0, none⟩) i1 c12)).setCell ⟨w.heap.size + 1, 0, none⟩ (.int .i64 i1)).setCell ⟨w.heap.size + 1, 1, none⟩ (.slice au i1 cu)).setCell ⟨w.heap.size + 1 + 1, 0, none⟩ (.int .i64 M)).setCell ⟨w.heap.size + 1 + 1, 1, none⟩ (.slice av M cv)).drew.cell? ⟨w.heap.size, 0, none⟩ = some (.int .i64 M) := (cell_drew _ _).trans u0
                  have u1 : (((((((w13.setCell ⟨gr, 0, none⟩ (.int .i64 (wrap64 (el (rw_ X 0) 0 + 1)))).setCell ⟨w.heap.size, 0, none⟩ (.int .i64 M)).setCell ⟨w.heap.size, 1, none⟩ (.slice (some ⟨g, 0, none⟩) i1 c12)).setCell ⟨w.heap.size + 1, 0, none⟩ (.int .i64 i1)).setCell ⟨w.heap.size + 1, 1, none⟩ (.slice au i1 cu)).setCell ⟨w.heap.size + 1 + 1, 0, none⟩ (.int .i64 M)).setCell ⟨w.heap.size + 1 + 1, 1, none⟩ (.slice av M cv)).drew.cell? ⟨w.heap.size, 1, none⟩ = some (.slice (some ⟨g, 0, none⟩) i1 c12) := (cell_drew _ _).trans u1
                  have u2 : (((((((w13.setCell ⟨gr, 0, none⟩ (.int .i64 (wrap64 (el (rw_ X 0) 0 + 1)))).setCell ⟨w.heap.size, 0, none⟩ (.int .i64 M)).setCell ⟨w.heap.size, 1, none⟩ (.slice (some ⟨g, 0, none⟩) i1 c12)).setCell ⟨w.heap.size + 1, 0, none⟩ (.int .i64 i1)).setCell ⟨w.heap.size + 1, 1, none⟩ (.slice au i1 cu)).setCell ⟨w.heap.size + 1 + 1, 0, none⟩ (.int .i64 M)).setCell ⟨w.heap.size + 1 + 1, 1, none⟩ (.slice av M cv)).drew.cell? ⟨w.heap.size + 1, 0, none⟩ = some (.int .i64 i1) := (cell_drew _ _).trans u2
                  have u3 : (((((((w13.setCell ⟨gr, 0, none⟩ (.int .i64 (wrap64 (el (rw_ X 0) 0 + 1)))).setCell ⟨w.heap.size, 0, none⟩ (.int .i64 M)).setCell ⟨w.heap.size, 1, none⟩ (.slice (some ⟨g, 0, none⟩) i1 c12)).setCell ⟨w.heap.size + 1, 0, none⟩ (.int .i64 i1)).setCell ⟨w.heap.size + 1, 1, none⟩ (.slice au i1 cu)).setCell ⟨w.heap.size + 1 + 1, 0, none⟩ (.int .i64 M)).setCell ⟨w.heap.size + 1 + 1, 1, none⟩ (.slice av M cv)).drew.cell? ⟨w.heap.size + 1, 1, none⟩ = some (.slice au i1 cu) := (cell_drew _ _).trans u3
                  have u4 : (((((((w13.setCell ⟨gr, 0, none⟩ (.int .i64 (wrap64 (el (rw_ X 0) 0 + 1)))).setCell ⟨w.heap.size, 0, none⟩ (.int .i64 M)).setCell ⟨w.heap.size, 1, none⟩ (.slice (some ⟨g, 0, none⟩) i1 c12)).setCell ⟨w.heap.size + 1, 0, none⟩ (.int .i64 i1)).setCell ⟨w.heap.size + 1, 1, none⟩ (.slice au i1 cu)).setCell ⟨w.heap.size + 1 + 1, 0, none⟩ (.int .i64 M)).setCell ⟨w.heap.size + 1 + 1, 1, none⟩ (.slice av M cv)).drew.cell? ⟨w.heap.size + 1 + 1, 0, none⟩ = some (.int .i64 M) := (cell_drew _ _).trans u4
                  have u5 : (((((((w13.setCell ⟨gr, 0, none⟩ (.int .i64 (wrap64 (el (rw_ X 0) 0 + 1)))).setCell ⟨w.heap.size, 0, none⟩ (.int .i64 M)).setCell ⟨w.heap.size, 1, none⟩ (.slice (some ⟨g, 0, none⟩) i1 c12)).setCell ⟨w.heap.size + 1, 0, none⟩ (.int .i64 i1)).setCell ⟨w.heap.size + 1, 1, none⟩ (.slice au i1 cu)).setCell ⟨w.heap.size + 1 + 1, 0, none⟩ (.int .i64 M)).setCell ⟨w.heap.size + 1 + 1, 1, none⟩ (.slice av M cv)).drew.cell? ⟨w.heap.size + 1 + 1, 1, none⟩ = some (.slice av M cv) := (cell_drew _ _).trans u5
                  have HBZ : Hid (Below w.heap.size w (((((((w13.setCell ⟨gr, 0, none⟩ (.int .i64 (wrap64 (el (rw_ X 0) 0 + 1)))).setCell ⟨w.heap.size, 0, none⟩ (.int .i64 M)).setCell ⟨w.heap.size, 1, none⟩ (.slice (some ⟨g, 0, none⟩) i1 c12)).setCell ⟨w.heap.size + 1, 0, none⟩ (.int .i64 i1)).setCell ⟨w.heap.size + 1, 1, none⟩ (.slice au i1 cu)).setCell ⟨w.heap.size + 1 + 1, 0, none⟩ (.int .i64 M)).setCell ⟨w.heap.size + 1 + 1, 1, none⟩ (.slice av M cv))) := Lib.hid (HB1.out.trans ((((((((HCB.out.chg.up (by omega) (by omega)).setCell (p := ⟨w.heap.size, 0, none⟩) (show w.heap.size ≤ w.heap.size by omega) (.int .i64 M)).setCell (p := ⟨w.heap.size, 1, none⟩) (show w.heap.size ≤ w.heap.size by omega) (.slice (some ⟨g, 0, none⟩) i1 c12)).setCell (p := ⟨w.heap.size + 1, 0, none⟩) (show w.heap.size ≤ w.heap.size + 1 by omega) (.int .i64 i1)).setCell (p := ⟨w.heap.size + 1, 1, none⟩) (show w.heap.size ≤ w.heap.size + 1 by omega) (.slice au i1 cu)).setCell (p := ⟨w.heap.size + 1 + 1, 0, none⟩) (show w.heap.size ≤ w.heap.size + 1 + 1 by omega) (.int .i64 M)).setCell (p := ⟨w.heap.size + 1 + 1, 1, none⟩) (show w.heap.size ≤ w.heap.size + 1 + 1 by omega) (.slice av M cv))))
                  have HUZ := Lib.hid ((((((HUB.out.setAway ⟨w.heap.size, 0, none⟩ (.inl (show w.heap.size < _ by omega)) (.int .i64 M)).setAway ⟨w.heap.size, 1, none⟩ (.inl (show w.heap.size < _ by omega)) (.slice (some ⟨g, 0, none⟩) i1 c12)).setAway ⟨w.heap.size + 1, 0, none⟩ (.inl (show w.heap.size + 1 < _ by omega)) (.int .i64 i1)).setAway ⟨w.heap.size + 1, 1, none⟩ (.inl (show w.heap.size + 1 < _ by omega)) (.slice au i1 cu)).setAway ⟨w.heap.size + 1 + 1, 0, none⟩ (.inl (show w.heap.size + 1 + 1 < _ by omega)) (.int .i64 M)).setAway ⟨w.heap.size + 1 + 1, 1, none⟩ (.inl (show w.heap.size + 1 + 1 < _ by omega)) (.slice av M cv))
                  have HVZ := Lib.hid ((((((HVE.out.setAway ⟨w.heap.size, 0, none⟩ (.inl (show w.heap.size < _ by omega)) (.int .i64 M)).setAway ⟨w.heap.size, 1, none⟩ (.inl (show w.heap.size < _ by omega)) (.slice (some ⟨g, 0, none⟩) i1 c12)).setAway ⟨w.heap.size + 1, 0, none⟩ (.inl (show w.heap.size + 1 < _ by omega)) (.int .i64 i1)).setAway ⟨w.heap.size + 1, 1, none⟩ (.inl (show w.heap.size + 1 < _ by omega)) (.slice au i1 cu)).setAway ⟨w.heap.size + 1 + 1, 0, none⟩ (.inl (show w.heap.size + 1 + 1 < _ by omega)) (.int .i64 M)).setAway ⟨w.heap.size + 1 + 1, 1, none⟩ (.inl (show w.heap.size + 1 + 1 < _ by omega)) (.slice av M cv))
                  have HPZ := Lib.hid ((((((HPB.out.setAway ⟨w.heap.size, 0, none⟩ (.inl (show w.heap.size < _ by omega)) (.int .i64 M)).setAway ⟨w.heap.size, 1, none⟩ (.inl (show w.heap.size < _ by omega)) (.slice (some ⟨g, 0, none⟩) i1 c12)).setAway ⟨w.heap.size + 1, 0, none⟩ (.inl (show w.heap.size + 1 < _ by omega)) (.int .i64 i1)).setAway ⟨w.heap.size + 1, 1, none⟩ (.inl (show w.heap.size + 1 < _ by omega)) (.slice au i1 cu)).setAway ⟨w.heap.size + 1 + 1, 0, none⟩ (.inl (show w.heap.size + 1 + 1 < _ by omega)) (.int .i64 M)).setAway ⟨w.heap.size + 1 + 1, 1, none⟩ (.inl (show w.heap.size + 1 + 1 < _ by omega)) (.slice av M cv))
                  have HDZ := Lib.hid ((((((HDB2.out.setCell (p := ⟨w.heap.size, 0, none⟩) (show w.heap.size < _ by omega) (.int .i64 M)).setCell (p := ⟨w.heap.size, 1, none⟩) (show w.heap.size < _ by omega) (.slice (some ⟨g, 0, none⟩) i1 c12)).setCell (p := ⟨w.heap.size + 1, 0, none⟩) (show w.heap.size + 1 < _ by omega) (.int .i64 i1)).setCell (p := ⟨w.heap.size + 1, 1, none⟩) (show w.heap.size + 1 < _ by omega) (.slice au i1 cu)).setCell (p := ⟨w.heap.size + 1 + 1, 0, none⟩) (show w.heap.size + 1 + 1 < _ by omega) (.int .i64 M)).setCell (p := ⟨w.heap.size + 1 + 1, 1, none⟩) (show w.heap.size + 1 + 1 < _ by omega) (.slice av M cv))
                  clear A0 B0 C0 BXZ BYZ BZZ hbe
                  have d1 : (0 : Int) < (M : Int) := by omega
                  have d3 : 0 < M := by omega
                  have d4 : 0 < i1 := by omega
                  have d2 : (0 : Int) < (i1 : Int) := by omega
                  go_wp2_with fail
                  go_still_tail 10, (by kernel_rfl)
                  change wpList _ _ _ _ _ w13.drew
                  go_wp2_with fail
                  refine bodyPost_ret (v := .tuple #[.agg #[.int .i64 M, .slice (some ⟨g, 0, none⟩) i1 c12], .agg #[.int .i64 i1, .slice au i1 cu], .agg #[.int .i64 M, .slice av M cv], .slice ad dn cap]) (by simp [results, Try.results12, go_sem, u0, u1, u2, u3, u4, u5]) rfl (by unfold DrawnSmith; exact ⟨M, (some ⟨g, 0, none⟩), i1, c12, _, i1, au, i1, cu, U, M, av, M, cv, V, ad, dn, cap, ds, rfl, ⟨by unfold I64; omega, HPZ.out.rd.keep (Below.drew _) (Nat.le_refl _), HPZ.out.len, HPZ.out.capl, by omega, rowSet_lens HXL.out HP13.out.len⟩, ⟨by unfold I64; omega, HUZ.out.rd.keep (Below.drew _) (Nat.le_refl _), HUZ.out.len, HUZ.out.capl, by omega, HUL.out⟩, ⟨by unfold I64; omega, HVZ.out.rd.keep (Below.drew _) (Nat.le_refl _), HVZ.out.len, HVZ.out.capl, by omega, HVL.out⟩, HDZ.out.rd.keep (Below.drew _) (Nat.le_refl _), HDZ.out.len, by omega, HDI.out, below_drewR HBZ.out⟩)
                · have e2 : (z == 2) = false := beq_eq_false_iff_ne.2 hz_2
                  by_cases hz_3 : z = 3
                  · subst hz_3
                    clear hz0 hz1
                    have HLT : Hid (OwnI 2 (w13.alloc (.cells #[.int .i64 (-1)] 2)) w13.heap.size (some ⟨w13.heap.size, 0, none⟩) 1 1 [-1]) := Lib.hid (OwnI.lit w13 _ [-1] _ rfl (by simp [maxLen]))
                    go_wp2_with (at_builtin; go_loud (refine wpList_appS rfl (.tmp 116) (.tmp 117) 31 rfl w13.heap.size 2 (.int .i64 0) 8 Try.underlying31 Try.info2 rfl (by decide) _ _ _ _ rfl _ _ _ rfl (by exact HLT.out) (ds.map (Value.int .i64)) (by rw [List.length_map]; exact HD13.out.len) (by exact (HD13.out.rd.alloc _).vals) (map_one _) (by omega) (by simp) ?_; rintro a4 c4 w14 r4 q4 g4; have RB := Lib.hid (app_own (xs := [(-1 : Int)]) HLT.out ((Below.refl _ _).alloc (Nat.le_refl _) _) (by simp) r4 g4); have HC14 := Lib.hid (HC13.out.low RB.out.2 s13 rfl rfl rfl rfl); have HN := Lib.hid (RB.out.1.mono s13); have HUE := Lib.hid (HU13.out.keep RB.out.2 (Nat.le_refl _)); have HVE := Lib.hid (HV13.out.keep RB.out.2 (Nat.le_refl _)); have HPE := Lib.hid (HP13.out.keep RB.out.2 (Nat.le_refl _)); have s14 := HC14.out.sz; clear r4 q4 g4 RB; have hbe := HBE.out; have BXZ := HX1.out.chg HC14.out.chg (by omega); have BYZ := HY1.out.chg HC14.out.chg (by omega); have BZZ := HZ1.out.chg HC14.out.chg (by omega); have x0 := BXZ.cell 0; have x1 := BXZ.cell 1; have x2 := BYZ.cell 0; have x3 := BYZ.cell 1; have x4 := BZZ.cell 0; have x5 := BZZ.cell 1; have f0 := BXZ.frz 0; have f1 := BXZ.frz 1; have f2 := BYZ.frz 0; have f3 := BYZ.frz 1; have f4 := BZZ.frz 0; have f5 := BZZ.frz 1; have l0 := BXZ.lt; have l1 := BYZ.lt; have l2 := BZZ.lt; simp at x0 x1 x2 x3 x4 x5; have A0 := ((((((BXZ.set 0 (.int .i64 M)).set 1 (.slice a12 i1 c12)).other (p := ⟨w.heap.size + 1, 0, none⟩) (by simp; try omega) (.int .i64 i1)).other (p := ⟨w.heap.size + 1, 1, none⟩) (by simp; try omega) (.slice au i1 cu)).other (p := ⟨w.heap.size + 1 + 1, 0, none⟩) (by simp; try omega) (.int .i64 M)).other (p := ⟨w.heap.size + 1 + 1, 1, none⟩) (by simp; try omega) (.slice av M cv)); have B0 := ((((((BYZ.other (p := ⟨w.heap.size, 0, none⟩) (by simp; try omega) (.int .i64 M)).other (p := ⟨w.heap.size, 1, none⟩) (by simp; try omega) (.slice a12 i1 c12)).set 0 (.int .i64 i1)).set 1 (.slice au i1 cu)).other (p := ⟨w.heap.size + 1 + 1, 0, none⟩) (by simp; try omega) (.int .i64 M)).other (p := ⟨w.heap.size + 1 + 1, 1, none⟩) (by simp; try omega) (.slice av M cv)); have C0 := ((((((BZZ.other (p := ⟨w.heap.size, 0, none⟩) (by simp; try omega) (.int .i64 M)).other (p := ⟨w.heap.size, 1, none⟩) (by simp; try omega) (.slice a12 i1 c12)).other (p := ⟨w.heap.size + 1, 0, none⟩) (by simp; try omega) (.int .i64 i1)).other (p := ⟨w.heap.size + 1, 1, none⟩) (by simp; try omega) (.slice au i1 cu)).set 0 (.int .i64 M)).set 1 (.slice av M cv)); have u0 := A0.cell 0; have u1 := A0.cell 1; have u2 := B0.cell 0; have u3 := B0.cell 1; have u4 := C0.cell 0; have u5 := C0.cell 1; simp at u0 u1 u2 u3 u4 u5; have HBZ : Hid (Below w.heap.size w ((((((w14.setCell ⟨w.heap.size, 0, none⟩ (.int .i64 M)).setCell ⟨w.heap.size, 1, none⟩ (.slice a12 i1 c12)).setCell ⟨w.heap.size + 1, 0, none⟩ (.int .i64 i1)).setCell ⟨w.heap.size + 1, 1, none⟩ (.slice au i1 cu)).setCell ⟨w.heap.size + 1 + 1, 0, none⟩ (.int .i64 M)).setCell ⟨w.heap.size + 1 + 1, 1, none⟩ (.slice av M cv))) := Lib.hid (HB1.out.trans ((((((((HC14.out.chg.up (by omega) (by omega)).setCell (p := ⟨w.heap.size, 0, none⟩) (show w.heap.size ≤ w.heap.size by omega) (.int .i64 M)).setCell (p := ⟨w.heap.size, 1, none⟩) (show w.heap.size ≤ w.heap.size by omega) (.slice a12 i1 c12)).setCell (p := ⟨w.heap.size + 1, 0, none⟩) (show w.heap.size ≤ w.heap.size + 1 by omega) (.int .i64 i1)).setCell (p := ⟨w.heap.size + 1, 1, none⟩) (show w.heap.size ≤ w.heap.size + 1 by omega) (.slice au i1 cu)).setCell (p := ⟨w.heap.size + 1 + 1, 0, none⟩) (show w.heap.size ≤ w.heap.size + 1 + 1 by omega) (.int .i64 M)).setCell (p := ⟨w.heap.size + 1 + 1, 1, none⟩) (show w.heap.size ≤ w.heap.size + 1 + 1 by omega) (.slice av M cv)))); have HUZ := Lib.hid ((((((HUE.out.setAway ⟨w.heap.size, 0, none⟩ (.inl (show w.heap.size < _ by omega)) (.int .i64 M)).setAway ⟨w.heap.size, 1, none⟩ (.inl (show w.heap.size < _ by omega)) (.slice a12 i1 c12)).setAway ⟨w.heap.size + 1, 0, none⟩ (.inl (show w.heap.size + 1 < _ by omega)) (.int .i64 i1)).setAway ⟨w.heap.size + 1, 1, none⟩ (.inl (show w.heap.size + 1 < _ by omega)) (.slice au i1 cu)).setAway ⟨w.heap.size + 1 + 1, 0, none⟩ (.inl (show w.heap.size + 1 + 1 < _ by omega)) (.int .i64 M)).setAway ⟨w.heap.size + 1 + 1, 1, none⟩ (.inl (show w.heap.size + 1 + 1 < _ by omega)) (.slice av M cv)); have HVZ := Lib.hid ((((((HVE.out.setAway ⟨w.heap.size, 0, none⟩ (.inl (show w.heap.size < _ by omega)) (.int .i64 M)).setAway ⟨w.heap.size, 1, none⟩ (.inl (show w.heap.size < _ by omega)) (.slice a12 i1 c12)).setAway ⟨w.heap.size + 1, 0, none⟩ (.inl (show w.heap.size + 1 < _ by omega)) (.int .i64 i1)).setAway ⟨w.heap.size + 1, 1, none⟩ (.inl (show w.heap.size + 1 < _ by omega)) (.slice au i1 cu)).setAway ⟨w.heap.size + 1 + 1, 0, none⟩ (.inl (show w.heap.size + 1 + 1 < _ by omega)) (.int .i64 M)).setAway ⟨w.heap.size + 1 + 1, 1, none⟩ (.inl (show w.heap.size + 1 + 1 < _ by omega)) (.slice av M cv)); have HPZ := Lib.hid ((((((HPE.out.setAway ⟨w.heap.size, 0, none⟩ (.inl (show w.heap.size < _ by omega)) (.int .i64 M)).setAway ⟨w.heap.size, 1, none⟩ (.inl (show w.heap.size < _ by omega)) (.slice a12 i1 c12)).setAway ⟨w.heap.size + 1, 0, none⟩ (.inl (show w.heap.size + 1 < _ by omega)) (.int .i64 i1)).setAway ⟨w.heap.size + 1, 1, none⟩ (.inl (show w.heap.size + 1 < _ by omega)) (.slice au i1 cu)).setAway ⟨w.heap.size + 1 + 1, 0, none⟩ (.inl (show w.heap.size + 1 + 1 < _ by omega)) (.int .i64 M)).setAway ⟨w.heap.size + 1 + 1, 1, none⟩ (.inl (show w.heap.size + 1 + 1 < _ by omega)) (.slice av M cv)); have HDZ := Lib.hid ((((((HN.out.setCell (p := ⟨w.heap.size, 0, none⟩) (show w.heap.size < _ by omega) (.int .i64 M)).setCell (p := ⟨w.heap.size, 1, none⟩) (show w.heap.size < _ by omega) (.slice a12 i1 c12)).setCell (p := ⟨w.heap.size + 1, 0, none⟩) (show w.heap.size + 1 < _ by omega) (.int .i64 i1)).setCell (p := ⟨w.heap.size + 1, 1, none⟩) (show w.heap.size + 1 < _ by omega) (.slice au i1 cu)).setCell (p := ⟨w.heap.size + 1 + 1, 0, none⟩) (show w.heap.size + 1 + 1 < _ by omega) (.int .i64 M)).setCell (p := ⟨w.heap.size + 1 + 1, 1, none⟩) (show w.heap.size + 1 + 1 < _ by omega) (.slice av M cv)); clear A0 B0 C0 BXZ BYZ BZZ hbe))
                    have HDI2 : Hid (∀ x ∈ [-1] ++ ds, I64 x) := Lib.hid (fun x hx => by
                      rcases List.mem_append.1 hx with h | h
                      · simp at h; subst h; unfold I64; omega
                      · exact HDI.out x h)
                    go_wp2_with fail
                    refine bodyPost_ret (v := .tuple #[.agg #[.int .i64 M, .slice a12 i1 c12], .agg #[.int .i64 i1, .slice au i1 cu], .agg #[.int .i64 M, .slice av M cv], .slice a4 (1 + dn) c4]) (by simp [results, Try.results12, go_sem, u0, u1, u2, u3, u4, u5]) rfl (by unfold DrawnSmith; exact ⟨M, a12, i1, c12, X, i1, au, i1, cu, U, M, av, M, cv, V, a4, (1 + dn), c4, ([-1] ++ ds), rfl, ⟨by unfold I64; omega, HPZ.out.rd, HPZ.out.len, HPZ.out.capl, by omega, HXL.out⟩, ⟨by unfold I64; omega, HUZ.out.rd, HUZ.out.len, HUZ.out.capl, by omega, HUL.out⟩, ⟨by unfold I64; omega, HVZ.out.rd, HVZ.out.len, HVZ.out.capl, by omega, HVL.out⟩, HDZ.out.rd, HDZ.out.len, by omega, HDI2.out, HBZ.out⟩)
                  · have e3 : (z == 3) = false := beq_eq_false_iff_ne.2 hz_3
                    clear hz0 hz1 hz_0 hz_1 hz_2 hz_3
                    have HVE := HV13
                    have hbe := HBE.out
                    have BXZ := HX1.out.chg HC13.out.chg (by omega)
                    have BYZ := HY1.out.chg HC13.out.chg (by omega)
                    have BZZ := HZ1.out.chg HC13.out.chg (by omega)
                    have x0 := BXZ.cell 0
                    have x1 := BXZ.cell 1
                    have x2 := BYZ.cell 0
                    have x3 := BYZ.cell 1
                    have x4 := BZZ.cell 0
                    have x5 := BZZ.cell 1
                    have f0 := BXZ.frz 0
                    have f1 := BXZ.frz 1
                    have f2 := BYZ.frz 0
                    have f3 := BYZ.frz 1
                    have f4 := BZZ.frz 0
                    have f5 := BZZ.frz 1
                    have l0 := BXZ.lt
                    have l1 := BYZ.lt
                    have l2 := BZZ.lt
                    simp at x0 x1 x2 x3 x4 x5
                    have A0 := ((((((BXZ.set 0 (.int .i64 M)).set 1 (.slice a12 i1 c12)).other (p := ⟨w.heap.size + 1, 0, none⟩) (by simp; try omega) (.int .i64 i1)).other (p := ⟨w.heap.size + 1, 1, none⟩) (by simp; try omega) (.slice au i1 cu)).other (p := ⟨w.heap.size + 1 + 1, 0, none⟩) (by simp; try omega) (.int .i64 M)).other (p := ⟨w.heap.size + 1 + 1, 1, none⟩) (by simp; try omega) (.slice av M cv))
                    have B0 := ((((((BYZ.other (p := ⟨w.heap.size, 0, none⟩) (by simp; try omega) (.int .i64 M)).other (p := ⟨w.heap.size, 1, none⟩) (by simp; try omega) (.slice a12 i1 c12)).set 0 (.int .i64 i1)).set 1 (.slice au i1 cu)).other (p := ⟨w.heap.size + 1 + 1, 0, none⟩) (by simp; try omega) (.int .i64 M)).other (p := ⟨w.heap.size + 1 + 1, 1, none⟩) (by simp; try omega) (.slice av M cv))
                    have C0 := ((((((BZZ.other (p := ⟨w.heap.size, 0, none⟩) (by simp; try omega) (.int .i64 M)).other (p := ⟨w.heap.size, 1, none⟩) (by simp; try omega) (.slice a12 i1 c12)).other (p := ⟨w.heap.size + 1, 0, none⟩) (by simp; try omega) (.int .i64 i1)).other (p := ⟨w.heap.size + 1, 1, none⟩) (by simp; try omega) (.slice au i1 cu)).set 0 (.int .i64 M)).set 1 (.slice av M cv))
                    have u0 := A0.cell 0
                    have u1 := A0.cell 1
                    have u2 := B0.cell 0
                    have u3 := B0.cell 1
                    have u4 := C0.cell 0
                    have u5 := C0.cell 1
                    simp at u0 u1 u2 u3 u4 u5
                    have HBZ : Hid (Below w.heap.size w ((((((w13.setCell ⟨w.heap.size, 0, none⟩ (.int .i64 M)).setCell ⟨w.heap.size, 1, none⟩ (.slice a12 i1 c12)).setCell ⟨w.heap.size + 1, 0, none⟩ (.int .i64 i1)).setCell ⟨w.heap.size + 1, 1, none⟩ (.slice au i1 cu)).setCell ⟨w.heap.size + 1 + 1, 0, none⟩ (.int .i64 M)).setCell ⟨w.heap.size + 1 + 1, 1, none⟩ (.slice av M cv))) := Lib.hid (HB1.out.trans ((((((((HC13.out.chg.up (by omega) (by omega)).setCell (p := ⟨w.heap.size, 0, none⟩) (show w.heap.size ≤ w.heap.size by omega) (.int .i64 M)).setCell (p := ⟨w.heap.size, 1, none⟩) (show w.heap.size ≤ w.heap.size by omega) (.slice a12 i1 c12)).setCell (p := ⟨w.heap.size + 1, 0, none⟩) (show w.heap.size ≤ w.heap.size + 1 by omega) (.int .i64 i1)).setCell (p := ⟨w.heap.size + 1, 1, none⟩) (show w.heap.size ≤ w.heap.size + 1 by omega) (.slice au i1 cu)).setCell (p := ⟨w.heap.size + 1 + 1, 0, none⟩) (show w.heap.size ≤ w.heap.size + 1 + 1 by omega) (.int .i64 M)).setCell (p := ⟨w.heap.size + 1 + 1, 1, none⟩) (show w.heap.size ≤ w.heap.size + 1 + 1 by omega) (.slice av M cv))))
                    have HUZ := Lib.hid ((((((HU13.out.setAway ⟨w.heap.size, 0, none⟩ (.inl (show w.heap.size < _ by omega)) (.int .i64 M)).setAway ⟨w.heap.size, 1, none⟩ (.inl (show w.heap.size < _ by omega)) (.slice a12 i1 c12)).setAway ⟨w.heap.size + 1, 0, none⟩ (.inl (show w.heap.size + 1 < _ by omega)) (.int .i64 i1)).setAway ⟨w.heap.size + 1, 1, none⟩ (.inl (show w.heap.size + 1 < _ by omega)) (.slice au i1 cu)).setAway ⟨w.heap.size + 1 + 1, 0, none⟩ (.inl (show w.heap.size + 1 + 1 < _ by omega)) (.int .i64 M)).setAway ⟨w.heap.size + 1 + 1, 1, none⟩ (.inl (show w.heap.size + 1 + 1 < _ by omega)) (.slice av M cv))
                    have HVZ := Lib.hid ((((((HVE.out.setAway ⟨w.heap.size, 0, none⟩ (.inl (show w.heap.size < _ by omega)) (.int .i64 M)).setAway ⟨w.heap.size, 1, none⟩ (.inl (show w.heap.size < _ by omega)) (.slice a12 i1 c12)).setAway ⟨w.heap.size + 1, 0, none⟩ (.inl (show w.heap.size + 1 < _ by omega)) (.int .i64 i1)).setAway ⟨w.heap.size + 1, 1, none⟩ (.inl (show w.heap.size + 1 < _ by omega)) (.slice au i1 cu)).setAway ⟨w.heap.size + 1 + 1, 0, none⟩ (.inl (show w.heap.size + 1 + 1 < _ by omega)) (.int .i64 M)).setAway ⟨w.heap.size + 1 + 1, 1, none⟩ (.inl (show w.heap.size + 1 + 1 < _ by omega)) (.slice av M cv))
                    have HPZ := Lib.hid ((((((HP13.out.setAway ⟨w.heap.size, 0, none⟩ (.inl (show w.heap.size < _ by omega)) (.int .i64 M)).setAway ⟨w.heap.size, 1, none⟩ (.inl (show w.heap.size < _ by omega)) (.slice a12 i1 c12)).setAway ⟨w.heap.size + 1, 0, none⟩ (.inl (show w.heap.size + 1 < _ by omega)) (.int .i64 i1)).setAway ⟨w.heap.size + 1, 1, none⟩ (.inl (show w.heap.size + 1 < _ by omega)) (.slice au i1 cu)).setAway ⟨w.heap.size + 1 + 1, 0, none⟩ (.inl (show w.heap.size + 1 + 1 < _ by omega)) (.int .i64 M)).setAway ⟨w.heap.size + 1 + 1, 1, none⟩ (.inl (show w.heap.size + 1 + 1 < _ by omega)) (.slice av M cv))
                    have HDZ := Lib.hid ((((((HD13.out.setCell (p := ⟨w.heap.size, 0, none⟩) (show w.heap.size < _ by omega) (.int .i64 M)).setCell (p := ⟨w.heap.size, 1, none⟩) (show w.heap.size < _ by omega) (.slice a12 i1 c12)).setCell (p := ⟨w.heap.size + 1, 0, none⟩) (show w.heap.size + 1 < _ by omega) (.int .i64 i1)).setCell (p := ⟨w.heap.size + 1, 1, none⟩) (show w.heap.size + 1 < _ by omega) (.slice au i1 cu)).setCell (p := ⟨w.heap.size + 1 + 1, 0, none⟩) (show w.heap.size + 1 + 1 < _ by omega) (.int .i64 M)).setCell (p := ⟨w.heap.size + 1 + 1, 1, none⟩) (show w.heap.size + 1 + 1 < _ by omega) (.slice av M cv))
                    clear A0 B0 C0 BXZ BYZ BZZ hbe
                    go_wp2_with fail
                    refine bodyPost_ret (v := .tuple #[.agg #[.int .i64 M, .slice a12 i1 c12], .agg #[.int .i64 i1, .slice au i1 cu], .agg #[.int .i64 M, .slice av M cv], .slice ad dn cap]) (by simp [results, Try.results12, go_sem, u0, u1, u2, u3, u4, u5]) rfl (by unfold DrawnSmith; exact ⟨M, a12, i1, c12, X, i1, au, i1, cu, U, M, av, M, cv, V, ad, dn, cap, ds, rfl, ⟨by unfold I64; omega, HPZ.out.rd, HPZ.out.len, HPZ.out.capl, by omega, HXL.out⟩, ⟨by unfold I64; omega, HUZ.out.rd, HUZ.out.len, HUZ.out.capl, by omega, HUL.out⟩, ⟨by unfold I64; omega, HVZ.out.rd, HVZ.out.len, HVZ.out.capl, by omega, HVL.out⟩, HDZ.out.rd, HDZ.out.len, by omega, HDI.out, HBZ.out⟩)
end Go.Proofs.Ytcnphhcdjhmmkaa
