/- Products of small integer matrices: the program's and the reference's. -/
import Derived.Test.YtcnphhcdjhmmkaaSubM
import Derived.Test.YtcnphhcdjhmmkaaMin
import Derived.Deep.RegionHeld3
set_option linter.unusedVariables false
set_option linter.unusedSimpArgs false
namespace Go.Proofs.Ytcnphhcdjhmmkaa
open Go.RowKit

/-- row i of the product, the first k terms -/
def psum (A B : List (List Int)) (Q i k : Nat) : List Int := tab Q fun j => sm (fun t => el (rw_ A i) t * el (rw_ B t) j) k
def timesI (Q : Nat) (A B : List (List Int)) : List (List Int) := tab A.length fun i => psum A B Q i B.length
theorem psum_len (A B : List (List Int)) (Q i k : Nat) : (psum A B Q i k).length = Q := tab_len _ _
theorem psum_el {A B : List (List Int)} {Q i k j : Nat} (h : j < Q) : el (psum A B Q i k) j = sm (fun t => el (rw_ A i) t * el (rw_ B t) j) k := el_tab h
theorem psum_step {A B : List (List Int)} {Q i k : Nat} {x : Int} (hx : x = el (rw_ A i) k) : subM (-x) (psum A B Q i k) (rw_ B k) = psum A B Q i (k + 1) := by
  refine list_ext (by rw [subM_len, psum_len, psum_len]) fun j hj => ?_
  rw [subM_len, psum_len] at hj
  rw [subM_el (by rw [psum_len]; exact hj), psum_el hj, psum_el hj]
  simp only [sm]
  rw [hx, Int.neg_mul]
  omega
theorem timesI_len (Q : Nat) (A B : List (List Int)) : (timesI Q A B).length = A.length := tab_len _ _
theorem timesI_row {Q i : Nat} {A B : List (List Int)} (h : i < A.length) : rw_ (timesI Q A B) i = psum A B Q i B.length := rw_tab h
/-- two matrices that fit, with small entries -/
structure PrOk (n m Q : Nat) (X Y : Int) (A B : List (List Int)) : Prop where
  lenA : A.length = n
  lenB : B.length = m
  rowA : ∀ i, i < n → (rw_ A i).length = m
  rowB : ∀ k, k < m → (rw_ B k).length = Q
  bdA : ∀ i k, i < n → k < m → -X ≤ el (rw_ A i) k ∧ el (rw_ A i) k ≤ X
  bdB : ∀ k j, k < m → j < Q → -Y ≤ el (rw_ B k) j ∧ el (rw_ B k) j ≤ Y
  X0 : 0 ≤ X
  Y0 : 0 ≤ Y
  XY : X * Y ≤ 1000000000000
  m4 : m ≤ 12
  X1 : X ≤ 1000000000000
theorem PrOk.psum_bd {n m Q : Nat} {X Y : Int} {A B : List (List Int)} (h : PrOk n m Q X Y A B) {i j k : Nat} (hi : i < n) (hj : j < Q) (hk : k ≤ m) : -(m * (X * Y)) ≤ sm (fun t => el (rw_ A i) t * el (rw_ B t) j) k ∧ sm (fun t => el (rw_ A i) t * el (rw_ B t) j) k ≤ m * (X * Y) := by
  have hb := sm_bd (f := fun t => el (rw_ A i) t * el (rw_ B t) j) (B := X * Y) (n := k) (fun t ht => by
    have h1 := h.bdA i t hi (by omega)
    have h2 := h.bdB t j (by omega) hj
    exact mulB h1.1 h1.2 h2.1 h2.2)
  have h0 : 0 ≤ X * Y := Int.mul_nonneg h.X0 h.Y0
  have h1 : (k : Int) * (X * Y) ≤ m * (X * Y) := Int.mul_le_mul_of_nonneg_right (by omega) h0
  omega
theorem PrOk.fits {n m Q : Nat} {X Y : Int} {A B : List (List Int)} (h : PrOk n m Q X Y A B) {i j k : Nat} (hi : i < n) (hj : j < Q) (hk : k < m) : I64 (el (psum A B Q i k) j - (-(el (rw_ A i) k)) * el (rw_ B k) j) := by
  have h1 := h.psum_bd hi hj (show k + 1 ≤ m by omega)
  have h2 := h.XY
  have h3 : (m : Int) * (X * Y) ≤ 12 * (X * Y) := Int.mul_le_mul_of_nonneg_right (by have := h.m4; omega) (Int.mul_nonneg h.X0 h.Y0)
  rw [psum_el hj]
  simp only [sm] at h1
  rw [Int.neg_mul]
  unfold I64
  omega
set_option maxRecDepth 20000 in
set_option maxHeartbeats 2000000 in
theorem integerProduct_any (a1 a2 : Option Addr) (n m c1 c2 Q : Nat) (X Y : Int) (A B : List (List Int)) (w : World) (h1 : RdR w a1 A) (h2 : RdR w a2 B) (hp : PrOk n m Q X Y A B) (hn : n ≤ 1048576) (hm : 1 ≤ m) (hQ1 : 1 ≤ Q) (hQ : Q ≤ 1048576) :
    Calls Try.prog 30 #[.slice a1 n c1, .slice a2 m c2] w fun e w' => ∃ (a' : Option Addr) (c' : Nat), e = .returned (.slice a' n c') ∧ MadeR 31 2 w' w.heap.size a' n c' (timesI Q A B) ∧ Below w.heap.size w w' := by
  have HA := Lib.hid h1
  have HB := Lib.hid h2
  have HP := Lib.hid hp
  have hm12 := hp.m4
  obtain ⟨b0, o0, z0, k0, rfl, d0, _, _⟩ := rdR_at h2 (show 0 < B.length by rw [hp.lenB]; omega)
  rw [hp.rowB 0 (by omega), Nat.add_zero] at d0
  have D0 := Lib.hid d0
  clear h1 h2 hp d0
  go_enter Try.func30, Try.ntmps30
  go_wp2
  go_loopw [13, 5] (fun i v wr => ∃ (I : Nat) (a3 : Option Addr) (c3 : Nat) (A3 : Nat → Option Addr) (C3 : Nat → Nat), I ≤ n ∧ i = .int .i64 I ∧ v = .slice a3 I c3 ∧ Hid (OwnR 31 2 wr w.heap.size a3 I c3 ((timesI Q A B).take I) A3 C3 ∧ Below w.heap.size w wr)) (fun i _ _ => n - (intOf i).toNat)
  case atStart => exact ⟨0, none, 0, fun _ => none, fun _ => 0, Nat.zero_le _, rfl, rfl, Lib.hid ⟨by simpa using OwnR.none _ _, Below.refl _ _⟩⟩
  case round =>
    obtain ⟨I, a3, c3, A3, C3, hI, rfl, rfl, HI⟩ := hrel
    obtain ⟨wo, rfl⟩ : ∃ x, x = wr := ⟨wr, rfl⟩
    by_cases hIt : I < n
    · obtain ⟨bA, oA, aI, cI, rfl, dI, rI, kI⟩ := rdR_at (HA.out.keep HI.out.2 (Nat.le_refl _)) (show I < A.length by rw [HP.out.lenA]; exact hIt)
      rw [HP.out.rowA I hIt] at dI kI
      have RI := Lib.hid rI
      have d0 := cell_below D0.out HI.out.2
      have hszo := HI.out.2.size
      have hmk := run_make_row' (P := Try.prog) 31 2 (.int .i64 0) 8 Try.underlying31 Try.info2 rfl .i64 .i64 Q (by omega) (by omega)
      clear rI
      go_wp2
      clear hmk
      go_loopw [24] (fun i wr => ∃ K : Nat, K ≤ m ∧ i = .int .i64 K ∧ Hid (OwnI 2 wr wo.heap.size (some ⟨wo.heap.size, 0, none⟩) Q Q (psum A B Q I K) ∧ Below wo.heap.size wo wr)) (fun i _ => m - (intOf i).toNat)
      case atStart => exact ⟨0, Nat.zero_le _, rfl, Lib.hid ⟨by have h := OwnI.made wo 2 Q (by unfold maxLen; omega); have e : psum A B Q I 0 = tab Q (fun _ => (0 : Int)) := rfl; rw [e]; exact h, (Below.refl _ _).alloc (Nat.le_refl _) _⟩⟩
      case round =>
        obtain ⟨K, hK, rfl, HK⟩ := hrel
        obtain ⟨wi, rfl⟩ : ∃ x, x = wr := ⟨wr, rfl⟩
        by_cases hKt : K < m
        · obtain ⟨b4, o4, rfl, d4⟩ := rdI_at (RI.out.keep HK.out.2 (Nat.le_refl _)) (show K < _ by rw [HP.out.rowA I hIt]; exact hKt)
          obtain ⟨b5, o5, a5, c5, e5, d5, r5, k5⟩ := rdR_at (HB.out.keep HI.out.2 (Nat.le_refl _)) (show K < B.length by rw [HP.out.lenB]; exact hKt)
          injection e5 with e5
          injection e5 with e6 e7
          subst e6; subst e7
          rw [HP.out.rowB K hKt] at d5 k5
          have HAp : Hid (Apart (some ⟨wo.heap.size, 0, none⟩) a5) := Lib.hid fun p q hp hq e => by
            injection hp with hp
            subst hp
            obtain ⟨b', o', e', hx⟩ := r5 (by rw [HP.out.rowB K hKt]; exact hQ1)
            rw [hq] at e'; injection e' with e'; subst e'
            have := block_lt (hx 0 (by rw [HP.out.rowB K hKt]; exact hQ1))
            simp at this e
            omega
          have R5 := Lib.hid (r5.keep HK.out.2 (Nat.le_refl _))
          have d6 := cell_below d5 HK.out.2
          obtain ⟨x1, x2⟩ := HP.out.bdA I K hIt hKt
          have hX1 := HP.out.X1
          have HFit : Hid (∀ j, j < Q → I64 (el (psum A B Q I K) j - (-(el (rw_ A I) K)) * el (rw_ B K) j)) := Lib.hid fun j hj => HP.out.fits hIt hj hKt
          have HLr := Lib.hid (HP.out.rowB K hKt)
          clear d5 r5
          go_wp2_with fail
          refine (subtractMultiple_any 2 wo.heap.size _ _ Q Q _ _ (psum A B Q I K) (rw_ B K) (-(el (rw_ A I) K)) wi HK.out.1 (by exact R5.out) HLr.out (Nat.le_refl _) hQ HAp.out HFit.out).mono ?_
          rintro e w4 ⟨rfl, ho, hc⟩
          have HN : Hid (OwnI 2 w4 wo.heap.size (some ⟨wo.heap.size, 0, none⟩) Q Q (psum A B Q I (K + 1)) ∧ Below wo.heap.size wo w4) := Lib.hid ⟨by rw [← psum_step rfl]; exact ho, HK.out.2.trans (hc.below HK.out.2.size (fun k hk hx => by obtain ⟨q, hq, e⟩ := hx; injection hq with hq; subst hq; simp at e; omega))⟩
          clear ho hc
          go_wp2_with fail
          go_roundw
          case rel => exact ⟨K + 1, by omega, by go_num, HN⟩
          case measure => simp [intOf]; omega
        · obtain rfl : K = m := by omega
          have hs6 := HK.out.2.size
          go_wp2_with (at_builtin; refine wpList_push rfl (.tmp 38) (.tmp 40) 24 rfl w.heap.size 31 (.slice none 0 0) 24 Try.underlying24 Try.infoR rfl (by decide) (.slice (some ⟨wo.heap.size, 0, none⟩) Q Q) rfl _ _ _ _ rfl rfl (by exact (HI.out.1.keep HK.out.2 (Nat.le_refl _)).own) (by omega) (by exact Nat.le_trans hszo hs6) ?_; rintro a4 c4 w7 r4 q4 g4; have HN := Lib.hid (HI.out.1.pushNew2 hszo HK.out.2 HK.out.1 (Nat.le_refl _) r4 q4 g4); clear r4 q4 g4)
          have HN2 : Hid (OwnR 31 2 w7 w.heap.size a4 (I + 1) c4 ((timesI Q A B).take (I + 1)) (upd A3 I (some ⟨wo.heap.size, 0, none⟩)) (upd C3 I Q) ∧ Below w.heap.size w w7) := by
            refine Lib.hid ⟨?_, HI.out.2.trans HN.out.2⟩
            rw [take_rw (by rw [timesI_len, HP.out.lenA]; exact hIt), timesI_row (by rw [HP.out.lenA]; exact hIt), HP.out.lenB]
            exact HN.out.1
          go_roundw
          case rel => exact ⟨I + 1, a4, c4, _, _, by omega, by go_num, rfl, HN2⟩
          case measure => simp [intOf]; omega
    · obtain rfl : I = n := by omega
      have HF : Hid (MadeR 31 2 wo w.heap.size a3 I c3 (timesI Q A B) ∧ Below w.heap.size w wo) := Lib.hid ⟨⟨A3, C3, by have h := HI.out.1; rwa [List.take_of_length_le (by rw [timesI_len, HP.out.lenA]; omega)] at h⟩, HI.out.2⟩
      go_wp2_with fail
      go_ret
      exact ⟨_, _, rfl, HF.out⟩
set_option maxRecDepth 20000 in
set_option maxHeartbeats 2000000 in
theorem l04Times_any (a1 a2 : Option Addr) (n m c1 c2 Q : Nat) (X Y : Int) (A B : List (List Int)) (w : World) (h1 : RdR w a1 A) (h2 : RdR w a2 B) (hp : PrOk n m Q X Y A B) (hn : n ≤ 1048576) (hQ : Q ≤ 1048576) :
    Calls Try.prog 27 #[.slice a1 n c1, .slice a2 m c2, .int .i64 Q] w fun e w' => ∃ (a' : Option Addr) (c' : Nat), e = .returned (.slice a' n c') ∧ MadeR 31 2 w' w.heap.size a' n c' (timesI Q A B) ∧ Below w.heap.size w w' := by
  have HA := Lib.hid h1
  have HB := Lib.hid h2
  have HP := Lib.hid hp
  have hm12 := hp.m4
  clear h1 h2 hp
  go_enter Try.func27, Try.ntmps27
  go_wp2
  go_loopw [8, 7] (fun i v wr => ∃ (I : Nat) (a3 : Option Addr) (c3 : Nat) (A3 : Nat → Option Addr) (C3 : Nat → Nat), I ≤ n ∧ i = .int .i64 I ∧ v = .slice a3 I c3 ∧ Hid (OwnR 31 2 wr w.heap.size a3 I c3 ((timesI Q A B).take I) A3 C3 ∧ Below w.heap.size w wr)) (fun i _ _ => n - (intOf i).toNat)
  case atStart => exact ⟨0, _, 0, fun _ => none, fun _ => 0, Nat.zero_le _, rfl, rfl, Lib.hid ⟨by simpa using OwnR.empty w _ _ _ _, (Below.refl _ _).alloc (Nat.le_refl _) _⟩⟩
  case round =>
    obtain ⟨I, a3, c3, A3, C3, hI, rfl, rfl, HI⟩ := hrel
    obtain ⟨wo, rfl⟩ : ∃ x, x = wr := ⟨wr, rfl⟩
    have hszo := HI.out.2.size
    by_cases hIt : I < n
    · have hmk := run_make_row' (P := Try.prog) 31 2 (.int .i64 0) 8 Try.underlying31 Try.info2 rfl .i64 .i64 Q (by omega) (by omega)
      have b0 : decide ((I : Int) < (n : Int)) = true := decide_eq_true (by omega)
      go_wp2
      clear hmk
      go_loopw [10, 9] (fun i v wr => ∃ (K : Nat) (a5 : Option Addr) (c5 : Nat), K ≤ m ∧ i = .int .i64 K ∧ v = .slice a5 Q c5 ∧ Hid (OwnI 2 wr wo.heap.size a5 Q c5 (psum A B Q I K) ∧ Below wo.heap.size wo wr)) (fun i _ _ => m - (intOf i).toNat)
      case atStart => exact ⟨0, _, Q, Nat.zero_le _, rfl, rfl, Lib.hid ⟨by have h := OwnI.made wo 2 Q (by unfold maxLen; omega); have e : psum A B Q I 0 = tab Q (fun _ => (0 : Int)) := rfl; rw [e]; exact h, (Below.refl _ _).alloc (Nat.le_refl _) _⟩⟩
      case round =>
        obtain ⟨K, a5, c5, hK, rfl, rfl, HK⟩ := hrel
        obtain ⟨wi, rfl⟩ : ∃ x, x = wr := ⟨wr, rfl⟩
        have HBi : Hid (Below w.heap.size w wi) := Lib.hid (HI.out.2.trans (HK.out.2.mono hszo))
        by_cases hKt : K < m
        · obtain ⟨bA, oA, aI, cI, rfl, dI, rI, kI⟩ := rdR_at (HA.out.keep HBi.out (Nat.le_refl _)) (show I < A.length by rw [HP.out.lenA]; exact hIt)
          rw [HP.out.rowA I hIt] at dI kI
          obtain ⟨b4, o4, rfl, d4⟩ := rdI_at rI (show K < _ by rw [HP.out.rowA I hIt]; exact hKt)
          obtain ⟨bB, oB, aK, cK, rfl, dK, rK, kK⟩ := rdR_at (HB.out.keep HBi.out (Nat.le_refl _)) (show K < B.length by rw [HP.out.lenB]; exact hKt)
          rw [HP.out.rowB K hKt] at dK kK
          have RK := Lib.hid rK
          obtain ⟨x1, x2⟩ := HP.out.bdA I K hIt hKt
          have hX1 := HP.out.X1
          have HFit : Hid (∀ j, j < Q → I64 (el (psum A B Q I K) j - (-(el (rw_ A I) K)) * el (rw_ B K) j)) := Lib.hid fun j hj => HP.out.fits hIt hj hKt
          have HLr := Lib.hid (HP.out.rowB K hKt)
          have HRp := Lib.hid HK.out.1.rd
          have J1 : (I : Int) < (n : Int) := by omega
          have J2 : (K : Int) < (m : Int) := by omega
          have b1 : decide ((K : Int) < (m : Int)) = true := decide_eq_true J2
          have W1 : IntKind.i64.wrap (-(el (rw_ A I) K)) = -(el (rw_ A I) K) := IntWalk.i64_in _ (by omega)
          clear rI rK
          go_wp2_with fail
          go_region_held3 (fun w' => w'.cell? ⟨bA, oA + I, none⟩ = some (.slice (some ⟨b4, o4, none⟩) m cI) ∧ w'.cell? ⟨b4, o4 + K, none⟩ = some (.int .i64 (el (rw_ A I) K)) ∧ w'.cell? ⟨bB, oB + K, none⟩ = some (.slice aK Q cK)) (go_keep)
            (first
              | (go_at_call 35; (with_reducible refine (l04Minus_any _ _ Q Q _ _ (psum A B Q I K) (rw_ B K) (-(el (rw_ A I) K)) _ ?_ (psum_len _ _ _ _ _) ?_ HLr.out (Nat.le_refl _) hQ HFit.out).mono ?_); exact (show RdI wi a5 (psum A B Q I K) from HRp.out); exact (show RdI wi aK (rw_ B K) from RK.out); rintro e w5 ⟨a6, c6, rfl, ho, hb0⟩; have hb : Below wi.heap.size wi w5 := ⟨hb0.os, hb0.tape, hb0.output, hb0.size, hb0.block⟩; have f0 := cell_below dI hb; have f1 := cell_below d4 hb; have f2 := cell_below dK hb; have HN : Hid (OwnI 2 w5 wo.heap.size a6 Q c6 (psum A B Q I (K + 1)) ∧ Below wo.heap.size wo w5) := Lib.hid ⟨by rw [← psum_step rfl]; exact OwnI.mono ho HK.out.2.size, HK.out.2.trans (hb.mono HK.out.2.size)⟩; clear ho hb hb0))
          go_wp2_with fail
          go_roundw
          case rel => exact ⟨K + 1, a6, c6, by omega, by go_num, rfl, HN⟩
          case measure => simp [intOf]; omega
        · obtain rfl : K = m := by omega
          have hs6 := HK.out.2.size
          go_wp2_with (at_builtin; refine wpList_push rfl (.tmp 40) (.tmp 42) 24 rfl w.heap.size 31 (.slice none 0 0) 24 Try.underlying24 Try.infoR rfl (by decide) (.slice a5 Q c5) rfl _ _ _ _ rfl rfl (by exact (HI.out.1.keep HK.out.2 (Nat.le_refl _)).own) (by omega) (by exact Nat.le_trans hszo hs6) ?_; rintro a4 c4 w7 r4 q4 g4; have HN := Lib.hid (HI.out.1.pushNew2 hszo HK.out.2 HK.out.1 (Nat.le_refl _) r4 q4 g4); clear r4 q4 g4)
          have HN2 : Hid (OwnR 31 2 w7 w.heap.size a4 (I + 1) c4 ((timesI Q A B).take (I + 1)) (upd A3 I a5) (upd C3 I c5) ∧ Below w.heap.size w w7) := by
            refine Lib.hid ⟨?_, HI.out.2.trans HN.out.2⟩
            rw [take_rw (by rw [timesI_len, HP.out.lenA]; exact hIt), timesI_row (by rw [HP.out.lenA]; exact hIt), HP.out.lenB]
            exact HN.out.1
          go_roundw
          case rel => exact ⟨I + 1, a4, c4, _, _, by omega, by go_num, rfl, HN2⟩
          case measure => simp [intOf]; omega
    · obtain rfl : I = n := by omega
      have HF : Hid (MadeR 31 2 wo w.heap.size a3 I c3 (timesI Q A B) ∧ Below w.heap.size w wo) := Lib.hid ⟨⟨A3, C3, by have h := HI.out.1; rwa [List.take_of_length_le (by rw [timesI_len, HP.out.lenA]; omega)] at h⟩, HI.out.2⟩
      go_wp2_with fail
      go_ret
      exact ⟨_, _, rfl, HF.out⟩
end Go.Proofs.Ytcnphhcdjhmmkaa
