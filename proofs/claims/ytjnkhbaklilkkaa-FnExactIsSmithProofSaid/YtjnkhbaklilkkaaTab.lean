/- The laws' own helpers on slices of slices of integers: size, copy, equality, marks. -/
import Derived.Test.YtjnkhbaklilkkaaNum
import Derived.Test.YtjnkhbaklilkkaaNumB
import Derived.Test.YtjnkhbaklilkkaaLawKit
import Derived.Test.YtjnkhbaklilkkaaAb
set_option linter.unusedVariables false
set_option linter.unusedSimpArgs false
namespace Go.Proofs.Ytjnkhbaklilkkaa
open Go.RowKit

theorem Try.infoR : (Try.prog.info? 35).map (fun i => (i.zero, i.size, i.bytes)) = some (some (.slice none 0 0), 1, 24) := by kernel_rfl

theorem quiet_ex {P : Program} {f : FuncId} {args : Array Value} {w : World} {n : Nat} {v : Value} (h : Calls P f args (w.drewN n) fun e w' => e = .returned v ∧ ∃ m, w' = (w.drewN n).drewN m) : Calls P f args (w.drewN n) fun e w'' => e = .returned v ∧ ∃ m, w'' = w.drewN m :=
  h.mono fun _ _ ⟨he, m, hm⟩ => ⟨he, n + m, by rw [hm]; simp⟩

theorem szInt64S_any (a : Option Addr) (n c : Nat) (left : Int) (w : World) (h0 : 0 ≤ left) (h1 : left ≤ 1048576) (hn : n ≤ 9223372036854775807) :
    Calls Try.prog 79 #[.slice a n c, .int .i64 left] w fun e w' => ∃ z : Int, e = .returned (.int .i64 z) ∧ w = w' ∧ -1 ≤ z ∧ z ≤ left ∧ (0 ≤ z → (n : Int) ≤ left) := by
  by_cases h : (n : Int) ≤ left
  · exact (szInt64S_t a n c left w h h1).mono fun e w' ⟨h1, h2⟩ => ⟨_, h1, h2, by omega, by omega, fun _ => h⟩
  · exact (szInt64S_f a n c left w (by omega) h0 hn).mono fun e w' ⟨h1, h2⟩ => ⟨_, h1, h2, by omega, by omega, fun hz => absurd hz (by omega)⟩

/-- what the size test tells -/
def SzR (xss : List (List Int)) (left z : Int) : Prop := z = -1 ∨ (0 ≤ z ∧ z ≤ left ∧ (xss.length : Int) ≤ left ∧ ∀ i, i < xss.length → ((rw_ xss i).length : Int) ≤ left)
def SzPost (xss : List (List Int)) (left : Int) (w : World) (e : Ending) (w' : World) : Prop := ∃ z : Int, e = .returned (.int .i64 z) ∧ SzR xss left z ∧ w = w'
set_option maxHeartbeats 400000 in
theorem szInt64SS_any (a : Option Addr) (n c : Nat) (xss : List (List Int)) (left : Int) (w : World) (ha : RdR w a xss) (hl : xss.length = n) (hx : ∀ xs ∈ xss, xs.length ≤ maxLen) (hn : n ≤ maxLen) (h0 : 0 ≤ left) (h1 : left ≤ 1048576) :
    Calls Try.prog 53 #[.slice a n c, .int .i64 left] w (SzPost xss left w) := by
  have HA := Lib.hid ha
  have HL := Lib.hid hl
  have HX := Lib.hid hx
  unfold maxLen at hn
  clear ha hl hx
  by_cases h : (n : Int) ≤ left
  · go_enter Try.func53, Try.ntmps53
    go_wp2_with fail
    have H0 : Hid (∀ i, i < 0 → ((rw_ xss i).length : Int) ≤ left) := Lib.hid fun i hi => absurd hi (by omega)
    go_loop [5, 1] (fun i l => ∃ (k : Nat) (z : Int), k ≤ n ∧ i = .int .i64 k ∧ l = .int .i64 z ∧ 0 ≤ z ∧ z ≤ left - n ∧ Hid (∀ i, i < k → ((rw_ xss i).length : Int) ≤ left)) (fun i _ => n - (intOf i).toNat)
    case atStart => exact ⟨0, left - n, Nat.zero_le _, rfl, rfl, by omega, by omega, H0⟩
    case round =>
      obtain ⟨k, z, hk, rfl, rfl, hz0, hz1, HK⟩ := hrel
      clear H0
      by_cases hlt : k < n
      · obtain ⟨b, o, rfl, hc⟩ := HA.out (by rw [HL.out]; omega)
        obtain ⟨ai, ci, d1, _, _⟩ := hc k (by rw [HL.out]; omega)
        have hm := HX.out _ (rw_mem (xss := xss) (i := k) (by rw [HL.out]; omega))
        unfold maxLen at hm
        clear hc
        by_cases hle : ((rw_ xss k).length : Int) ≤ z
        · have HK1 : Hid (∀ i, i < k + 1 → ((rw_ xss i).length : Int) ≤ left) := Lib.hid fun i hi => by
            by_cases he : i = k
            · subst he; omega
            · exact HK.out i (by omega)
          go_wp2_with (go_at_call 79; refine (szInt64S_t _ _ _ _ _ (by omega) (by omega)).mono ?_; rintro e w' ⟨rfl, rfl⟩)
          go_round
          case rel => exact ⟨k + 1, z - (rw_ xss k).length, by omega, by go_num, rfl, by omega, by omega, HK1⟩
          case measure => simp [intOf]; omega
        · have hle' : z < ((rw_ xss k).length : Int) := by omega
          clear hle
          go_wp2_with (go_at_call 79; refine (szInt64S_f _ _ _ _ _ (by omega) (by omega) (by omega)).mono ?_; rintro e w' ⟨rfl, rfl⟩)
          go_ret
          exact ⟨_, rfl, .inl rfl, rfl⟩
      · obtain rfl : k = n := by omega
        go_wp2
        go_ret
        exact ⟨z, rfl, .inr ⟨hz0, by omega, by rw [HL.out]; exact h, fun i hi => HK.out i (by rw [HL.out] at hi; exact hi)⟩, rfl⟩
  · have h' : left < (n : Int) := by omega
    clear h
    go_enter Try.func53, Try.ntmps53
    go_wp2
    go_ret
    exact ⟨_, rfl, .inl rfl, rfl⟩

set_option maxHeartbeats 400000 in
theorem toInt64SS_any (a : Option Addr) (n c : Nat) (xss : List (List Int)) (w : World) (ha : RdR w a xss) (hl : xss.length = n) (hx : ∀ i, i < n → (rw_ xss i).length ≤ 1048576) (hn : n ≤ 1048576) :
    Calls Try.prog 56 #[.slice a n c] w fun e w' => ∃ a' c', e = .returned (.slice a' n c') ∧ MadeR 35 2 w' w.heap.size a' n c' xss ∧ Below w.heap.size w w' := by
  have hmk := run_make_row' (P := Try.prog) 22 35 (.slice none 0 0) 24 Try.underlying22 Try.infoR rfl .i64 .i64 n (by omega) (by omega)
  have HA := Lib.hid ha
  have HL := Lib.hid hl
  have HX := Lib.hid hx
  have H0 : Hid (FillR 35 2 w (w.alloc (.cells (madeCells #[.slice none 0 0] n) 35)) w.heap.size n 0 xss (fun _ => none) (fun _ => 0)) := Lib.hid (FillR.start _ _ w n xss _ _)
  clear ha hl hx
  go_enter Try.func56, Try.ntmps56
  go_wp2
  clear hmk
  go_loopw [4] (fun i wr => ∃ (k : Nat) (A : Nat → Option Addr) (C : Nat → Nat), k ≤ n ∧ i = .int .i64 k ∧ Hid (FillR 35 2 w wr w.heap.size n k xss A C)) (fun i _ => n - (intOf i).toNat)
  case atStart => exact ⟨0, _, _, Nat.zero_le _, rfl, H0⟩
  case round =>
    obtain ⟨k, A, C, hk, rfl, HC⟩ := hrel
    clear H0
    by_cases hlt : k < n
    · obtain ⟨b, o, rfl, hc⟩ := HA.out (by rw [HL.out]; omega)
      obtain ⟨ai, ci, d1, d2, _⟩ := hc k (by rw [HL.out]; omega)
      have e1 : wr.cell? ⟨b, o + k, none⟩ = some (.slice ai (rw_ xss k).length ci) := by rw [HC.out.bel.cell (p := ⟨b, o + k, none⟩) (block_lt d1)]; exact d1
      have e2 : Hid (RdI wr ai (rw_ xss k)) := Lib.hid (d2.keep HC.out.bel (Nat.le_refl _))
      have e3 := HC.out.cell hlt
      have e4 := HC.out.frozen k
      have e5 := HC.out.bsize
      have hxk := HX.out k hlt
      clear hc d1 d2
      go_wp2_with fail
      refine (toInt64S_any ai _ ci (rw_ xss k) _ (by exact e2.out) rfl hxk).mono ?_
      rintro e w2 ⟨a', c', rfl, ho, hb⟩
      have f3 := cell_below (p := ⟨w.heap.size, k, none⟩) (v := .slice none 0 0) e3 hb
      have f4 : w2.frozen? ⟨w.heap.size, k, none⟩ = false := by rw [hb.frozen (p := ⟨w.heap.size, k, none⟩) e5]; exact e4
      have HN := Lib.hid (HC.out.step hlt hb ho)
      clear ho hb e3 e4 e1
      go_wp2_with fail
      go_roundw
      case rel => exact ⟨k + 1, _, _, by omega, by go_num, HN⟩
      case measure => simp [intOf]; omega
    · obtain rfl : k = n := by omega
      go_wp2
      go_ret
      exact ⟨_, _, rfl, ⟨A, C, HC.out.own HL.out (by unfold maxLen; omega)⟩, HC.out.bel⟩

set_option maxHeartbeats 400000 in
theorem eqInt64SS_t (a b : Option Addr) (n m ca cb : Nat) (xss : List (List Int)) (w : World) (ha : RdR w a xss) (hb : RdR w b xss) (hn : xss.length = n) (hm : xss.length = m) (hl : n ≤ 1000000000000) (hx : ∀ i, i < n → (rw_ xss i).length ≤ 1048576) :
    Calls Try.prog 34 #[.slice a n ca, .slice b m cb] w fun e w' => e = .returned (.bool true) ∧ ∃ n, w' = w.drewN n := by
  subst hn
  obtain rfl := hm
  have HA := Lib.hid ha
  have HB := Lib.hid hb
  have HX := Lib.hid hx
  clear ha hb hx
  go_enter Try.func34, Try.ntmps34
  go_wp2
  go_loopw [5] (fun i wr => ∃ k : Nat, k ≤ xss.length ∧ i = .int .i64 k ∧ Hid (∃ n, wr = w.drewN n)) (fun i _ => xss.length - (intOf i).toNat)
  case atStart => exact ⟨0, Nat.zero_le _, rfl, Lib.hid ⟨0, rfl⟩⟩
  case round =>
    obtain ⟨k, hk, rfl, HW⟩ := hrel
    by_cases hlt : k < xss.length
    · have hA : RdR wr a xss := by obtain ⟨n, rfl⟩ := HW.out; exact HA.out
      have hB : RdR wr b xss := by obtain ⟨n, rfl⟩ := HW.out; exact HB.out
      obtain ⟨b1, o1, rfl, h1⟩ := hA (by omega)
      obtain ⟨b2, o2, rfl, h2⟩ := hB (by omega)
      obtain ⟨a1, c1, d1, r1, _⟩ := h1 k hlt
      obtain ⟨a2, c2, d2, r2, _⟩ := h2 k hlt
      have R1 := Lib.hid r1
      have R2 := Lib.hid r2
      have hx := HX.out k hlt
      clear h1 h2 r1 r2 hA hB
      have hi : (k : Int) < xss.length := by omega
      go_wp2
      go_quiet ((go_at_call 31; exact quiet_ex (eqInt64S_t _ _ _ _ _ _ (rw_ xss k) _ (by exact R1.out) (by exact R2.out) rfl rfl (by omega))))
      go_wp2
      go_roundw
      case rel => exact ⟨k + 1, by omega, by go_num, Lib.hid (by obtain ⟨n, rfl⟩ := HW.out; exact ⟨n + nq, by simp⟩)⟩
      case measure => simp [intOf]; omega
    · go_wp2
      go_ret
      exact ⟨rfl, HW.out⟩

set_option maxHeartbeats 400000 in
theorem markInt64SS_t (T2 : TypeId) (a : Option Addr) (n c B : Nat) (xss : List (List Int)) (A : Nat → Option Addr) (C : Nat → Nat) (m : Int) (w : World) (ha : HasR T2 w B a n c xss A C) (hl : n ≤ 1048576) (hx : ∀ i, i < n → (rw_ xss i).length ≤ 1048576) (ho : (offs xss n : Int) ≤ 10000000000000) (h0 : 0 ≤ m) (h1 : m ≤ 100000000000000) :
    Calls Try.prog 36 #[.slice a n c, .int .i64 m] w fun e w' => e = .returned (.int .i64 (m + offs xss n)) ∧ RdR w' a (mkR m xss) ∧ Chg (RowBlk n A) w w' := by
  have HM : Hid (MkR T2 w w B a n c xss A C m 0) := Lib.hid (MkR.start ha m)
  have HX := Lib.hid hx
  clear ha hx
  go_enter Try.func36, Try.ntmps36
  go_wp2
  go_loopw [5, 1] (fun i q wr => ∃ k : Nat, k ≤ n ∧ i = .int .i64 k ∧ q = .int .i64 (m + offs xss k) ∧ Hid (MkR T2 w wr B a n c xss A C m k)) (fun i _ _ => n - (intOf i).toNat)
  case atStart => exact ⟨0, Nat.zero_le _, rfl, by simp [offs], HM⟩
  case round =>
    obtain ⟨k, hk, rfl, rfl, hM⟩ := hrel
    clear HM
    by_cases hlt : k < n
    · obtain ⟨b, rfl, d1⟩ := hM.out.outer hlt
      have hof : offs xss k ≤ offs xss n := offs_mono xss (by omega)
      have hW := Lib.hid (hM.out.todo k (Nat.le_refl _) hlt).wr
      have hxk := HX.out k hlt
      have H1 : Hid (∀ z, z = m + (offs xss k : Int) + ((rw_ xss k).length : Int) → z = m + offs xss (k + 1)) := Lib.hid fun z hz => by rw [hz]; simp only [offs]; omega
      go_wp2_with (go_at_call 42; refine (markInt64S_t T2 _ _ _ _ _ (by exact hW.out) (by omega) (by omega) (by omega)).mono ?_; rintro e w' ⟨rfl, hr, hc⟩; have HR := Lib.hid hr; have HC := Lib.hid hc; clear hr hc)
      have HN := Lib.hid (hM.out.step hlt HR.out HC.out)
      go_roundw
      case rel => exact ⟨k + 1, by omega, by go_num, by rw [H1.out _ rfl], HN⟩
      case measure => simp [intOf]; omega
    · obtain rfl : k = n := by omega
      go_wp2
      go_ret
      exact ⟨rfl, hM.out.rd, hM.out.chg⟩

set_option maxHeartbeats 400000 in
theorem heldInt64SS_t (a : Option Addr) (n c : Nat) (xss : List (List Int)) (m : Int) (w : World) (ha : RdR w a (mkR m xss)) (hn : xss.length = n) (hl : n ≤ 1048576) (hx : ∀ i, i < n → (rw_ xss i).length ≤ 1048576) (ho : (offs xss n : Int) ≤ 10000000000000) (h0 : 0 ≤ m) (h1 : m ≤ 100000000000000) :
    Calls Try.prog 37 #[.slice a n c, .int .i64 m] w fun e w' => e = .returned (.int .i64 (m + offs xss n)) ∧ w = w' := by
  have HA := Lib.hid ha
  have HL := Lib.hid hn
  have HX := Lib.hid hx
  clear ha hn hx
  go_enter Try.func37, Try.ntmps37
  go_wp2
  go_loop [5, 1] (fun i q => ∃ k : Nat, k ≤ n ∧ i = .int .i64 k ∧ q = .int .i64 (m + offs xss k)) (fun i _ => n - (intOf i).toNat)
  case atStart => exact ⟨0, Nat.zero_le _, rfl, by simp [offs]⟩
  case round =>
    obtain ⟨k, hk, rfl, rfl⟩ := hrel
    by_cases hlt : k < n
    · obtain ⟨b, o, rfl, hc⟩ := HA.out (by rw [mkR_len, HL.out]; omega)
      obtain ⟨ai, ci, d1, r1, _⟩ := hc k (by rw [mkR_len, HL.out]; omega)
      rw [mkR_row (by rw [HL.out]; exact hlt)] at d1 r1
      rw [marks_len] at d1
      have hof : offs xss k ≤ offs xss n := offs_mono xss (by omega)
      have R1 := Lib.hid r1
      have hxk := HX.out k hlt
      have H1 : Hid (∀ z, z = m + (offs xss k : Int) + ((rw_ xss k).length : Int) → z = m + offs xss (k + 1)) := Lib.hid fun z hz => by rw [hz]; simp only [offs]; omega
      clear hc r1
      go_wp2_with (go_at_call 43; refine (heldInt64S_t _ _ _ _ _ (by exact R1.out) (by omega) (by omega) (by omega)).mono ?_; rintro e w' ⟨rfl, rfl⟩)
      go_round
      case rel => exact ⟨k + 1, by omega, by go_num, by rw [H1.out _ rfl]⟩
      case measure => simp [intOf]; omega
    · obtain rfl : k = n := by omega
      go_wp2
      go_ret
      exact ⟨rfl, rfl⟩
end Go.Proofs.Ytjnkhbaklilkkaa
