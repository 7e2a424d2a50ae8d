/- The law on factorizations, from a code. -/
import Derived.Test.YtkidohohiihbaaaLawRes
import Derived.Test.YtkidohohiihbaaaFacP
set_option linter.unusedVariables false
set_option linter.unusedSimpArgs false
namespace Go.Proofs.Ytkidohohiihbaaa
open Go.RowKit

set_option maxHeartbeats 400000 in
theorem likeInts_t (a b : Option Addr) (n m ca cb : Nat) (xs : List Int) (w : World) (ha : RdI w a xs) (hb : RdI w b xs) (hn : xs.length = n) (hm : xs.length = m) (hl : n ≤ 1000000000000) :
    Calls Try.prog 18 #[.slice a n ca, .slice b m cb] w fun e w' => e = .returned (.bool true) ∧ Below w.heap.size w w' := by
  subst hn
  obtain rfl := hm
  have HA := Lib.hid ha
  have HB := Lib.hid hb
  clear ha hb
  go_enter Try.func18, Try.ntmps18
  go_wp2
  go_loopw [5] (fun i wr => ∃ k : Nat, k ≤ xs.length ∧ i = .int .i64 k ∧ ∃ n, wr = w.drewN n) (fun i _ => xs.length - (intOf i).toNat)
  case atStart => exact ⟨0, Nat.zero_le _, rfl, 0, rfl⟩
  case round =>
    obtain ⟨k, hk, rfl, n, rfl⟩ := hrel
    by_cases hlt : k < xs.length
    · obtain ⟨b1, o1, rfl, h1⟩ := HA.out (by omega)
      obtain ⟨b2, o2, rfl, h2⟩ := HB.out (by omega)
      have c1 := h1 k hlt
      have c2 := h2 k hlt
      clear h1 h2
      have hi : (k : Int) < xs.length := by omega
      go_wp2
      go_quiet (fail)
      go_wp2
      go_roundw
      case rel => exact ⟨k + 1, by omega, by go_num, n + nq, by simp⟩
      case measure => simp [intOf]; omega
    · go_wp2
      go_ret
      exact ⟨rfl, Below.ofDrew ⟨n, rfl⟩⟩
/-- entry i of a list of prime powers -/
def entL (L : List (Int × Int)) (i : Nat) : Int × Int := L[i]?.getD (0, 0)
theorem entL_get {L : List (Int × Int)} {i : Nat} (h : i < L.length) : L[i]? = some (entL L i) := by simp [entL, h]
theorem entL_mem {L : List (Int × Int)} {i : Nat} (h : i < L.length) : entL L i ∈ L := List.mem_of_getElem? (entL_get h)
theorem take_ent {L : List (Int × Int)} {i : Nat} (h : i < L.length) : L.take (i + 1) = L.take i ++ [entL L i] := by
  rw [List.take_add_one, entL_get h]; rfl
theorem el_fst {L : List (Int × Int)} {i : Nat} (h : i < L.length) : el (L.map Prod.fst) i = (entL L i).1 := by simp [el, entL, h]
theorem el_snd {L : List (Int × Int)} {i : Nat} (h : i < L.length) : el (L.map Prod.snd) i = (entL L i).2 := by simp [el, entL, h]
theorem prod_le {p : Int} (A B : List (Int × Int)) (h : ∀ x ∈ A ++ B, p ≤ x.1 ∧ Prm x.1 ∧ 1 ≤ x.2) : 1 ≤ prodL A ∧ prodL A ≤ prodL (A ++ B) := by
  have h1 := prodL_pos (p := p) A (fun x hx => h x (List.mem_append_left _ hx))
  have h2 := prodL_pos (p := p) B (fun x hx => h x (List.mem_append_right _ hx))
  refine ⟨h1, ?_⟩
  rw [prodL_app]
  have := Int.mul_le_mul_of_nonneg_left h2 (show 0 ≤ prodL A by omega)
  omega
theorem ent_bd {n : Int} (h1 : 1 ≤ n) (h2 : n ≤ 1000000) {i : Nat} (hi : i < (facL n).length) :
    2 ≤ (entL (facL n) i).1 ∧ (entL (facL n) i).1 ≤ 1000000 ∧ 1 ≤ (entL (facL n) i).2 ∧ (entL (facL n) i).2 ≤ 20 ∧ 1 ≤ (entL (facL n) i).1 ^ (entL (facL n) i).2.toNat ∧ (entL (facL n) i).1 ^ (entL (facL n) i).2.toNat ≤ 1000000 ∧
      1 ≤ prodL ((facL n).take i) ∧ prodL ((facL n).take (i + 1)) = prodL ((facL n).take i) * (entL (facL n) i).1 ^ (entL (facL n) i).2.toNat ∧ prodL ((facL n).take (i + 1)) ≤ 1000000 := by
  obtain ⟨s1, s2⟩ := facL_spec h1 h2
  have he := s2.ent _ (entL_mem hi)
  have hsplit : (facL n) = (facL n).take (i + 1) ++ (facL n).drop (i + 1) := (List.take_append_drop _ _).symm
  have hA := prod_le (p := 2) ((facL n).take (i + 1)) ((facL n).drop (i + 1)) (by rw [← hsplit]; exact s2.ent)
  rw [← hsplit, s1] at hA
  have hB := prod_le (p := 2) ((facL n).take i) [entL (facL n) i] (by rw [← take_ent hi]; exact fun x hx => s2.ent x (List.mem_of_mem_take hx))
  have hC : prodL ((facL n).take (i + 1)) = prodL ((facL n).take i) * (entL (facL n) i).1 ^ (entL (facL n) i).2.toNat := by
    rw [take_ent hi, prodL_app]; simp [prodL]
  have hp := pow_pos' (show 1 ≤ (entL (facL n) i).1 by have := he.2.1.1; omega) (entL (facL n) i).2.toNat
  have hle : (entL (facL n) i).1 ^ (entL (facL n) i).2.toNat ≤ 1000000 := by
    have := Int.mul_le_mul_of_nonneg_right hB.1 (show 0 ≤ (entL (facL n) i).1 ^ (entL (facL n) i).2.toNat by omega)
    omega
  have hex := exp_bd he.2.1.1 hle
  have hq : (entL (facL n) i).1 ≤ (entL (facL n) i).1 ^ (entL (facL n) i).2.toNat := by
    obtain ⟨k, hk⟩ : ∃ k, (entL (facL n) i).2.toNat = k + 1 := ⟨(entL (facL n) i).2.toNat - 1, by have := he.2.2; omega⟩
    rw [hk, Int.pow_succ]
    have h8 := pow_pos' (show 1 ≤ (entL (facL n) i).1 by have := he.2.1.1; omega) k
    have := Int.mul_le_mul_of_nonneg_right h8 (show 0 ≤ (entL (facL n) i).1 by have := he.2.1.1; omega)
    omega
  exact ⟨he.2.1.1, by omega, he.2.2, by omega, hp, hle, hB.1, hC, by omega⟩
def gp4 : List Int := [2, 3, 5, 7]
theorem gp4_gp {k : Nat} (h : k < 4) : GP (el gp4 k) := by
  rcases (show k = 0 ∨ k = 1 ∨ k = 2 ∨ k = 3 by omega) with h | h | h | h <;> subst h <;> simp [el, gp4, GP]
/-- the parts when k of them are as the list M says, and the others as L says -/
def parr (L M : List (Int × Int)) (k : Nat) : Array Value :=
  #[.int .i64 (if 0 < k then partOf M 2 else partOf L 2), .int .i64 (if 1 < k then partOf M 3 else partOf L 3), .int .i64 (if 2 < k then partOf M 5 else partOf L 5), .int .i64 (if 3 < k then partOf M 7 else partOf L 7)]
theorem parr_set {L : List (Int × Int)} {x : Int × Int} {k : Nat} (h : k < 4) (he : el gp4 k = x.1) : (parr L (L ++ [x]) k).setIfInBounds k (.int .i64 (x.1 ^ x.2.toNat)) = parr L (L ++ [x]) (k + 1) := by
  rcases (show k = 0 ∨ k = 1 ∨ k = 2 ∨ k = 3 by omega) with h | h | h | h <;> subst h <;> simp [el, gp4] at he <;> simp [parr, partOf_snoc, ← he]
theorem parr_skip {L : List (Int × Int)} {x : Int × Int} {k : Nat} (h : k < 4) (he : el gp4 k ≠ x.1) : parr L (L ++ [x]) k = parr L (L ++ [x]) (k + 1) := by
  rcases (show k = 0 ∨ k = 1 ∨ k = 2 ∨ k = 3 by omega) with h | h | h | h <;> subst h <;> simp [el, gp4] at he <;> simp [parr, partOf_snoc, he]
theorem parr_all (L M : List (Int × Int)) : parr L M 4 = parr M M 0 := by simp [parr]
theorem parr_self (L : List (Int × Int)) (x : Int × Int) : parr L L 0 = parr L (L ++ [x]) 0 := by simp [parr]
theorem parr_get {L : List (Int × Int)} {k : Nat} (h : k < 4) : (parr L L 0)[k]? = some (.int .i64 (partOf L (el gp4 k))) := by
  rcases (show k = 0 ∨ k = 1 ∨ k = 2 ∨ k = 3 by omega) with h | h | h | h <;> subst h <;> simp [parr, el, gp4]
theorem parr_some {L M : List (Int × Int)} {k j : Nat} (h : k < 4) : ∃ v, (parr L M j)[k]? = some v := by
  rcases (show k = 0 ∨ k = 1 ∨ k = 2 ∨ k = 3 by omega) with h | h | h | h <;> subst h <;> exact ⟨_, rfl⟩
set_option maxRecDepth 20000 in
set_option maxHeartbeats 4000000 in
theorem law_Factors (a0 : Option Addr) (n0 c0 : Nat) (bs : List Int) (w : World) (hl : bs.length = n0) (hx : RdB w a0 bs) (hw : ∀ x ∈ bs, 0 ≤ x ∧ x ≤ 255) (hc : n0 ≤ c0) (hm : n0 ≤ maxLen) :
    Calls Try.prog 3 #[.slice a0 n0 c0] w fun e w' => e = .returned (.bool true) ∧ Below w.heap.size w w' := by
  by_cases hbig : 4096 < n0
  · clear hx hw
    go_enter Try.func3, Try.ntmps3
    go_wp2_with (go_at_call 14; refine (big_t _ _ _ _ hbig hm).mono ?_; rintro e w' ⟨rfl, rfl⟩)
    go_ret
    exact ⟨rfl, Below.refl _ _⟩
  · have hs : n0 ≤ 4096 := by omega
    have HS := Lib.hid (Code0.of hl hx hw hs)
    clear hl hx hw hm hbig
    go_enter Try.func3, Try.ntmps3
    go_wp2_with (go_at_call 14; refine (big_f _ _ _ _ hs).mono ?_; rintro e w' ⟨rfl, rfl⟩)
    refine (DrawFactorize_any a0 n0 c0 bs w HS.out hc).mono ?_
    rintro e w1 ⟨n, rfl, hn, hb⟩
    have HB1 := Lib.hid hb
    clear hb
    go_wp2_with fail
    refine (impl_Factorize_any n w1).mono ?_
    rintro e w2 ⟨p1, l1, k1, p2, l2, k2, rfl, ho1, ho2, _, hb⟩
    have HO1 := Lib.hid ho1
    have HO2 := Lib.hid ho2
    have HB2 : Hid (Below w.heap.size w w2) := Lib.hid (HB1.out.trans (hb.mono HB1.out.size))
    clear ho1 ho2 hb
    go_wp2_with fail
    refine (spec_Factorize_any n w2).mono ?_
    rintro e w3 ⟨q1, m1, j1, q2, m2, j2, rfl, ho1, ho2, _, hb⟩
    have HQ1 := Lib.hid ho1
    have HQ2 := Lib.hid ho2
    have HR1 := Lib.hid (HO1.out.rd.keep hb (Nat.le_refl _))
    have HR2 := Lib.hid (HO2.out.rd.keep hb (Nat.le_refl _))
    have HB3 : Hid (Below w.heap.size w w3) := Lib.hid (HB2.out.trans (hb.mono HB2.out.size))
    have HL1 := Lib.hid HO1.out.len
    have HL2 := Lib.hid HO2.out.len
    have HM1 := Lib.hid HQ1.out.len
    have HM2 := Lib.hid HQ2.out.len
    have hl1 : l1 ≤ 1002 := by rw [← HO1.out.len]; exact facP_len n
    have hl2 : l2 ≤ 1002 := by rw [← HO2.out.len]; exact facE_len n
    clear ho1 ho2 hb
    have hcc : (facC n != facC n) = false := by simp
    go_wp2_with fail
    refine (likeInts_t _ _ _ _ _ _ (facP n) w3 HR1.out HQ1.out.rd HL1.out HM1.out (by omega)).mono ?_
    rintro e w4 ⟨rfl, hb⟩
    have HR2b := Lib.hid (HR2.out.keep hb (Nat.le_refl _))
    have HQ1b := Lib.hid (HQ1.out.rd.keep hb (Nat.le_refl _))
    have HQ2b := Lib.hid (HQ2.out.rd.keep hb (Nat.le_refl _))
    have HB4 : Hid (Below w.heap.size w w4) := Lib.hid (HB3.out.trans (hb.mono HB3.out.size))
    clear hb HR1 HR2 HQ1 HQ2 HO1 HO2
    go_wp2_with fail
    refine (likeInts_t _ _ _ _ _ _ (facE n) w4 HR2b.out HQ2b.out HL2.out HM2.out (by omega)).mono ?_
    rintro e w5 ⟨rfl, hb⟩
    have HP := Lib.hid (HQ1b.out.keep hb (Nat.le_refl _))
    have HE := Lib.hid (HQ2b.out.keep hb (Nat.le_refl _))
    have HB5 : Hid (Below w.heap.size w w5) := Lib.hid (HB4.out.trans (hb.mono HB4.out.size))
    clear hb HR2b HQ1b HQ2b HL1 HL2
    by_cases hok : facOk n
    · have hC : facC n = 0 := if_pos hok
      have hP : facP n = (facL n).map Prod.fst := if_pos hok
      have hE : facE n = (facL n).map Prod.snd := if_pos hok
      obtain ⟨h1, h2⟩ := hok
      rw [hP] at HP HM1
      rw [hE] at HE HM2
      have HLn : Hid (m1 = (facL n).length) := Lib.hid (by have := HM1.out; simpa using this.symm)
      have HLn2 : Hid (m2 = (facL n).length) := Lib.hid (by have := HM2.out; simpa using this.symm)
      have hlen : m2 = m1 := by rw [HLn.out, HLn2.out]
      subst hlen
      have hm1 : m2 ≤ 1002 := by have := HLn.out; have := facs_len 1001 n 2; unfold facL at *; omega
      rw [hC]
      clear hC hP hE
      go_wp2_with fail
      obtain ⟨W, hW⟩ : ∃ W, W = (w5.alloc (.cells #[.int .i64 1, .int .i64 1, .int .i64 1, .int .i64 1] 2)).alloc (.cells #[.int .i64 2, .int .i64 3, .int .i64 5, .int .i64 7] 2) := ⟨_, rfl⟩
      rw [← hW]
      have HX0 : Hid (BX 2 W w5.heap.size (parr [] [] 0)) := Lib.hid (by rw [hW]; exact (BX.new w5 _ _).alloc _)
      have HG : Hid (RdI W (some ⟨w5.heap.size + 1, 0, none⟩) gp4) := Lib.hid (by rw [hW, show w5.heap.size + 1 = (w5.alloc (.cells #[.int .i64 1, .int .i64 1, .int .i64 1, .int .i64 1] 2)).heap.size by simp]; exact lit_rd _ _ _ _ rfl (by simp [maxLen, gp4]))
      have HPW : Hid (RdI W q1 ((facL n).map Prod.fst)) := Lib.hid (by rw [hW]; exact (HP.out.alloc _).alloc _)
      have HEW : Hid (RdI W q2 ((facL n).map Prod.snd)) := Lib.hid (by rw [hW]; exact (HE.out.alloc _).alloc _)
      have HBW : Hid (Below w.heap.size w W) := Lib.hid (by rw [hW]; exact (HB5.out.alloc HB5.out.size _).alloc (by simp; have := HB5.out.size; omega) _)
      have sW : W.heap.size = w5.heap.size + 1 + 1 := by rw [hW]; simp
      have hne1 : ∀ p, q1 = some p → 0 < m2 → p.block ≠ w5.heap.size := fun p hp h0 e => by
        obtain ⟨b', o', e', hx⟩ := HP.out (by rw [HM1.out]; exact h0)
        rw [hp] at e'; injection e' with e'; subst e'
        have := block_lt (hx 0 (by rw [HM1.out]; exact h0))
        simp at this e; omega
      have hne2 : ∀ p, q2 = some p → 0 < m2 → p.block ≠ w5.heap.size := fun p hp h0 e => by
        obtain ⟨b', o', e', hx⟩ := HE.out (by rw [HM2.out]; exact h0)
        rw [hp] at e'; injection e' with e'; subst e'
        have := block_lt (hx 0 (by rw [HM2.out]; exact h0))
        simp at this e; omega
      have HN1 := Lib.hid hne1
      have HN2 := Lib.hid hne2
      clear hW hne1 hne2 HP HE
      -- what a round may lean on, whatever it has written into the parts
      have HAll : Hid (∀ wr, Chg (fun k => k = w5.heap.size) W wr → (∀ i, i < m2 → (∃ b o, q1 = some ⟨b, o, none⟩ ∧ wr.cell? ⟨b, o + i, none⟩ = some (.int .i64 (entL (facL n) i).1)) ∧ (∃ b o, q2 = some ⟨b, o, none⟩ ∧ wr.cell? ⟨b, o + i, none⟩ = some (.int .i64 (entL (facL n) i).2))) ∧ (∀ k, k < 4 → wr.cell? ⟨w5.heap.size + 1, k, none⟩ = some (.int .i64 (el gp4 k))) ∧ Below w.heap.size w wr) := by
        refine Lib.hid fun wr hc => ⟨fun i hi => ⟨?_, ?_⟩, fun k hk => ?_, ?_⟩
        · obtain ⟨b, o, e, hx⟩ := HPW.out.same (w' := wr) (fun p hp => hc.block _ (by obtain ⟨b', o', e', hx⟩ := HPW.out (by rw [HM1.out]; omega); rw [hp] at e'; injection e' with e'; subst e'; exact block_lt (p := ⟨b', o' + 0, none⟩) (hx 0 (by rw [HM1.out]; omega))) (HN1.out p hp (by omega))) (by rw [HM1.out]; omega)
          refine ⟨b, o, e, ?_⟩
          rw [hx i (by rw [HM1.out]; exact hi), el_fst (by rw [← HLn.out]; exact hi)]
        · obtain ⟨b, o, e, hx⟩ := HEW.out.same (w' := wr) (fun p hp => hc.block _ (by obtain ⟨b', o', e', hx⟩ := HEW.out (by rw [HM2.out]; omega); rw [hp] at e'; injection e' with e'; subst e'; exact block_lt (p := ⟨b', o' + 0, none⟩) (hx 0 (by rw [HM2.out]; omega))) (HN2.out p hp (by omega))) (by rw [HM2.out]; omega)
          refine ⟨b, o, e, ?_⟩
          rw [hx i (by rw [HM2.out]; exact hi), el_snd (by rw [← HLn.out]; exact hi)]
        · obtain ⟨b, o, e, hx⟩ := HG.out (by simp [gp4])
          injection e with e
          injection e with e1 e2
          subst e1; subst e2
          have hxk := hx k (by simpa [gp4] using hk)
          rw [Nat.zero_add] at hxk
          rw [World.cell?_of_block (w := W) (a := ⟨w5.heap.size + 1, k, none⟩) (hc.block _ (block_lt hxk) (by simp))]
          exact hxk
        · exact HBW.out.trans (hc.below HBW.out.size (fun k hk e => by have := HB5.out.size; omega))
      go_loopw [13, 10] (fun i pr wr => ∃ I : Nat, I ≤ m2 ∧ i = .int .i64 I ∧ pr = .int .i64 (prodL ((facL n).take I)) ∧ Hid (BX 2 wr w5.heap.size (parr ((facL n).take I) ((facL n).take I) 0) ∧ Chg (fun k => k = w5.heap.size) W wr)) (fun i _ _ => m2 - (intOf i).toNat)
      case atStart => exact ⟨0, Nat.zero_le _, rfl, by simp [prodL], Lib.hid ⟨by simpa using HX0.out, Chg.refl _ _⟩⟩
      case round =>
        clear HX0
        obtain ⟨I, hI, rfl, rfl, HI⟩ := hrel
        obtain ⟨wi, rfl⟩ : ∃ x, x = wr := ⟨wr, rfl⟩
        by_cases hIt : I < m2
        · obtain ⟨⟨bp, op, rfl, dp⟩, ⟨be, oe, rfl, de⟩⟩ := (HAll.out wi HI.out.2).1 I hIt
          obtain ⟨b1, b2, b3, b4, b5, b6, b7, b8, b9⟩ := ent_bd h1 h2 (show I < (facL n).length by rw [← HLn.out]; exact hIt)
          have HT := Lib.hid (take_ent (L := facL n) (show I < (facL n).length by rw [← HLn.out]; exact hIt))
          have HPc : Hid (∀ wr, Chg (fun k => k = w5.heap.size) W wr → wr.cell? ⟨bp, op + I, none⟩ = some (.int .i64 (entL (facL n) I).1) ∧ (∀ k, k < 4 → wr.cell? ⟨w5.heap.size + 1, k, none⟩ = some (.int .i64 (el gp4 k)))) := Lib.hid fun wr hc => by
            obtain ⟨⟨b, o, e, d⟩, _⟩ := (HAll.out wr hc).1 I hIt
            injection e with e
            injection e with e1 e2
            subst e1; subst e2
            exact ⟨d, (HAll.out wr hc).2.1⟩
          obtain ⟨x, hxe⟩ : ∃ x, x = entL (facL n) I := ⟨_, rfl⟩
          rw [← hxe] at dp de b1 b2 b3 b4 b5 b6 b8 HT HPc
          clear hxe
          obtain ⟨q, ex⟩ := x
          simp only at dp de b1 b2 b3 b4 b5 b6 b8 HPc
          obtain ⟨E, rfl⟩ : ∃ E : Nat, ex = E := ⟨ex.toNat, by omega⟩
          rw [Int.toNat_natCast] at b5 b6 b8
          have HMp : Hid (∀ w, Calls Try.prog 19 #[.int .i64 q, .int .i64 E, .int .i64 1000000] w fun r w' => r = .returned (.tuple #[.int .i64 (q ^ E % 1000000), .int .i64 0]) ∧ w = w') := Lib.hid fun w => impl_ModPower_ok q E 1000000 w (by omega) (by omega) (by omega) (by omega) (by omega)
          have HSet : Hid (∀ k, k < 4 → el gp4 k = q → (parr ((facL n).take I) ((facL n).take (I + 1)) k).setIfInBounds k (.int .i64 (q ^ E)) = parr ((facL n).take I) ((facL n).take (I + 1)) (k + 1)) := Lib.hid fun k hk he => by
            have h := parr_set (L := (facL n).take I) (x := (q, (E : Int))) hk he
            rw [HT.out]
            simpa using h
          have HSkip : Hid (∀ k, k < 4 → el gp4 k ≠ q → parr ((facL n).take I) ((facL n).take (I + 1)) k = parr ((facL n).take I) ((facL n).take (I + 1)) (k + 1)) := Lib.hid fun k hk he => by
            rw [HT.out]
            exact parr_skip (L := (facL n).take I) (x := (q, (E : Int))) hk he
          have HSt : Hid (parr ((facL n).take I) ((facL n).take I) 0 = parr ((facL n).take I) ((facL n).take (I + 1)) 0) := Lib.hid (by rw [HT.out]; exact parr_self _ _)
          have HB8 := Lib.hid b8
          have J1 : (I : Int) < (m2 : Int) := by omega
          have hpz : q ^ E % 1000000 = 0 ∧ q ^ E = 1000000 ∨ q ^ E % 1000000 = q ^ E ∧ q ^ E ≠ 0 := by omega
          have S9 : prodL ((facL n).take I) * q ^ E = prodL ((facL n).take (I + 1)) := b8.symm
          have bS0 : 1 ≤ prodL ((facL n).take (I + 1)) := by rw [b8]; have := Int.mul_le_mul b7 b5 (by omega) (by omega); omega
          have W1 : IntKind.i64.wrap (prodL ((facL n).take I) * q ^ E) = prodL ((facL n).take (I + 1)) := by rw [S9]; exact IntWalk.i64_in _ (by omega)
          clear b8
          generalize q ^ E = PW at *
          rcases hpz with ⟨z1, z2⟩ | ⟨z1, z2⟩
          · subst z2
            go_wp2_with fail
            go_quiet ((go_at_call 19; exact quiet_eq (HMp.out _)))
            go_wp2_with fail
            go_loopw [16] (fun i wr => ∃ k : Nat, k ≤ 4 ∧ i = .int .i64 k ∧ Hid (BX 2 wr w5.heap.size (parr ((facL n).take I) ((facL n).take (I + 1)) k) ∧ Chg (fun k => k = w5.heap.size) W wr)) (fun i _ => 4 - (intOf i).toNat)
            case atStart => exact ⟨0, Nat.zero_le _, rfl, Lib.hid ⟨by rw [← HSt.out]; exact HI.out.1, HI.out.2.drewN _⟩⟩
            case round =>
              obtain ⟨k, hk, rfl, HK⟩ := hrel
              obtain ⟨wj, rfl⟩ : ∃ x, x = wr := ⟨wr, rfl⟩
              by_cases hkt : k < 4
              · have J2 : (k : Int) < 4 := by omega
                obtain ⟨dq, hgr⟩ := HPc.out wj HK.out.2
                have dg := hgr k hkt
                obtain ⟨v, hv⟩ := parr_some (L := (facL n).take I) (M := (facL n).take (I + 1)) (j := k) hkt
                have dv : wj.cell? ⟨w5.heap.size, k, none⟩ = some v := (HK.out.1.cell k).trans hv
                have fv := HK.out.1.frz k
                have lv := HK.out.1.lt
                clear hgr hv
                by_cases heq : el gp4 k = q
                · have e1 : (el gp4 k == q) = true := beq_iff_eq.2 heq
                  have HHs := Lib.hid (HSet.out k hkt heq)
                  clear heq
                  go_wp2_with fail
                  go_quiet (fail)
                  go_wp2_with fail
                  go_roundw
                  case rel => exact ⟨k + 1, by omega, by go_num, Lib.hid ⟨by have h := (show BX 2 (wj.drewN nq) w5.heap.size (parr ((facL n).take I) ((facL n).take (I + 1)) k) from HK.out.1).set k (.int .i64 1000000); rw [HHs.out] at h; exact h, (HK.out.2.drewN nq).setCell ⟨w5.heap.size, k, none⟩ rfl _⟩⟩
                  case measure => simp [intOf]; omega
                · have e1 : (el gp4 k == q) = false := beq_eq_false_iff_ne.2 heq
                  have HHs := Lib.hid (HSkip.out k hkt heq)
                  clear heq
                  go_wp2_with fail
                  go_quiet (fail)
                  go_wp2_with fail
                  go_roundw
                  case rel => exact ⟨k + 1, by omega, by go_num, Lib.hid ⟨by have h := (show BX 2 (wj.drewN nq) w5.heap.size (parr ((facL n).take I) ((facL n).take (I + 1)) k) from HK.out.1); rw [HHs.out] at h; exact h, HK.out.2.drewN nq⟩⟩
                  case measure => simp [intOf]; omega
              · obtain rfl : k = 4 := by omega
                have HN : Hid (BX 2 wj w5.heap.size (parr ((facL n).take (I + 1)) ((facL n).take (I + 1)) 0) ∧ Chg (fun k => k = w5.heap.size) W wj) := Lib.hid ⟨by rw [← parr_all ((facL n).take I)]; exact HK.out.1, HK.out.2⟩
                go_wp2_with fail
                go_roundw
                case rel => exact ⟨I + 1, by omega, by go_num, by first | rfl | rw [S9], HN⟩
                case measure => simp [intOf]; omega
          · have z3 : (PW == 0) = false := beq_eq_false_iff_ne.2 z2
            clear z2
            go_wp2_with fail
            go_quiet ((go_at_call 19; exact quiet_eq (HMp.out _)))
            rw [z1]
            go_wp2_with fail
            go_loopw [16] (fun i wr => ∃ k : Nat, k ≤ 4 ∧ i = .int .i64 k ∧ Hid (BX 2 wr w5.heap.size (parr ((facL n).take I) ((facL n).take (I + 1)) k) ∧ Chg (fun k => k = w5.heap.size) W wr)) (fun i _ => 4 - (intOf i).toNat)
            case atStart => exact ⟨0, Nat.zero_le _, rfl, Lib.hid ⟨by rw [← HSt.out]; exact HI.out.1, HI.out.2.drewN _⟩⟩
            case round =>
              obtain ⟨k, hk, rfl, HK⟩ := hrel
              obtain ⟨wj, rfl⟩ : ∃ x, x = wr := ⟨wr, rfl⟩
              by_cases hkt : k < 4
              · have J2 : (k : Int) < 4 := by omega
                obtain ⟨dq, hgr⟩ := HPc.out wj HK.out.2
                have dg := hgr k hkt
                obtain ⟨v, hv⟩ := parr_some (L := (facL n).take I) (M := (facL n).take (I + 1)) (j := k) hkt
                have dv : wj.cell? ⟨w5.heap.size, k, none⟩ = some v := (HK.out.1.cell k).trans hv
                have fv := HK.out.1.frz k
                have lv := HK.out.1.lt
                clear hgr hv
                by_cases heq : el gp4 k = q
                · have e1 : (el gp4 k == q) = true := beq_iff_eq.2 heq
                  have HHs := Lib.hid (HSet.out k hkt heq)
                  clear heq
                  go_wp2_with fail
                  go_quiet (fail)
                  go_wp2_with fail
                  go_roundw
                  case rel => exact ⟨k + 1, by omega, by go_num, Lib.hid ⟨by have h := (show BX 2 (wj.drewN nq) w5.heap.size (parr ((facL n).take I) ((facL n).take (I + 1)) k) from HK.out.1).set k (.int .i64 PW); rw [HHs.out] at h; exact h, (HK.out.2.drewN nq).setCell ⟨w5.heap.size, k, none⟩ rfl _⟩⟩
                  case measure => simp [intOf]; omega
                · have e1 : (el gp4 k == q) = false := beq_eq_false_iff_ne.2 heq
                  have HHs := Lib.hid (HSkip.out k hkt heq)
                  clear heq
                  go_wp2_with fail
                  go_quiet (fail)
                  go_wp2_with fail
                  go_roundw
                  case rel => exact ⟨k + 1, by omega, by go_num, Lib.hid ⟨by have h := (show BX 2 (wj.drewN nq) w5.heap.size (parr ((facL n).take I) ((facL n).take (I + 1)) k) from HK.out.1); rw [HHs.out] at h; exact h, HK.out.2.drewN nq⟩⟩
                  case measure => simp [intOf]; omega
              · obtain rfl : k = 4 := by omega
                have HN : Hid (BX 2 wj w5.heap.size (parr ((facL n).take (I + 1)) ((facL n).take (I + 1)) 0) ∧ Chg (fun k => k = w5.heap.size) W wj) := Lib.hid ⟨by rw [← parr_all ((facL n).take I)]; exact HK.out.1, HK.out.2⟩
                go_wp2_with fail
                go_roundw
                case rel => exact ⟨I + 1, by omega, by go_num, by first | rfl | rw [S9], HN⟩
                case measure => simp [intOf]; omega
        · obtain rfl : I = m2 := by omega
          have HF : Hid ((facL n).take I = facL n) := Lib.hid (List.take_of_length_le (by rw [← HLn.out]; omega))
          have HPn : prodL ((facL n).take I) = n := by rw [HF.out]; exact (facL_spec h1 h2).1
          have HBn : Hid (Below w.heap.size w wi) := Lib.hid (HAll.out wi HI.out.2).2.2
          have HXn : Hid (BX 2 wi w5.heap.size (parr (facL n) (facL n) 0)) := Lib.hid (by have h := HI.out.1; rw [HF.out] at h; exact h)
          have HGn := Lib.hid (HAll.out wi HI.out.2).2.1
          rw [HPn]
          clear HPn
          go_wp2_with fail
          go_loopw [17] (fun i wr => ∃ k : Nat, k ≤ 4 ∧ i = .int .i64 k ∧ wr = wi) (fun i _ => 4 - (intOf i).toNat)
          case atStart => exact ⟨0, Nat.zero_le _, rfl, rfl⟩
          case round =>
            obtain ⟨k, hk, rfl, rfl⟩ := hrel
            by_cases hkt : k < 4
            · have J2 : (k : Int) < 4 := by omega
              have HGp := Lib.hid (gp4_gp hkt)
              have dg := HGn.out k hkt
              have dv := (HXn.out.cell k).trans (parr_get hkt)
              rw [part_ppart h1 h2 HGp.out.prm] at dv
              go_wp2_with (first | (go_at_call 20; refine (impl_PrimePart_ok n (el gp4 k) _ h1 h2 HGp.out).mono ?_; rintro e w' ⟨rfl, rfl⟩) | (go_at_call 21; refine (IsGroupPrime_t _ _ HGp.out).mono ?_; rintro e w' ⟨rfl, rfl⟩))
              go_roundw
              case rel => exact ⟨k + 1, by omega, by go_num, by first | rfl | trivial⟩
              case measure => simp [intOf]; omega
            · obtain rfl : k = 4 := by omega
              go_wp2_with fail
              go_ret
              exact ⟨by simp, HBn.out⟩
    · have hC : facC n = 2 := if_neg hok
      rw [hC]
      go_wp2_with fail
      go_ret
      exact ⟨rfl, HB5.out⟩
end Go.Proofs.Ytkidohohiihbaaa
