/- The laws' own helpers on slices of slices of integers: size, copy, equality, marks. -/
import Derived.Test.YtpkdgemnddcefaaNum
import Derived.Test.YtpkdgemnddcefaaNumB
import Derived.Test.YtpkdgemnddcefaaLawKit
import Derived.Test.YtpkdgemnddcefaaAb
set_option linter.unusedVariables false
set_option linter.unusedSimpArgs false
namespace Go.Proofs.Ytpkdgemnddcefaa
open Go.RowKit

theorem Try.infoR : (Try.prog.info? 52).map (fun i => (i.zero, i.size, i.bytes)) = some (some (.slice none 0 0), 1, 24) := by kernel_rfl

theorem quiet_ex {P : Program} {f : FuncId} {args : Array Value} {w : World} {n : Nat} {v : Value} (h : Calls P f args (w.drewN n) fun e w' => e = .returned v ∧ ∃ m, w' = (w.drewN n).drewN m) : Calls P f args (w.drewN n) fun e w'' => e = .returned v ∧ ∃ m, w'' = w.drewN m :=
  h.mono fun _ _ ⟨he, m, hm⟩ => ⟨he, n + m, by rw [hm]; simp⟩




set_option maxHeartbeats 400000 in
theorem eqInt64SS_t (a b : Option Addr) (n m ca cb : Nat) (xss : List (List Int)) (w : World) (ha : RdR w a xss) (hb : RdR w b xss) (hn : xss.length = n) (hm : xss.length = m) (hl : n ≤ 1000000000000) (hx : ∀ i, i < n → (rw_ xss i).length ≤ 1048576) :
    Calls Try.prog 78 #[.slice a n ca, .slice b m cb] w fun e w' => e = .returned (.bool true) ∧ ∃ n, w' = w.drewN n := by
  subst hn
  obtain rfl := hm
  have HA := Lib.hid ha
  have HB := Lib.hid hb
  have HX := Lib.hid hx
  clear ha hb hx
  go_enter Try.func78, Try.ntmps78
  go_wp2
  go_loopw [5] (fun i wr => ∃ k : Nat, k ≤ xss.length ∧ i = .int .i64 k ∧ Hid (∃ n, wr = w.drewN n)) (fun i _ => xss.length - (intOf i).toNat)
  case atStart => exact ⟨0, Nat.zero_le _, rfl, Lib.hid ⟨0, rfl⟩⟩
  case round =>
    obtain ⟨k, hk, rfl, HW⟩ := hrel
    by_cases hlt : k < xss.length
    · have hA : RdR wr a xss := by obtain ⟨n, rfl⟩ := HW.out; exact HA.out
      have hB : RdR wr b xss := by obtain ⟨n, rfl⟩ := HW.out; exact HB.out
      obtain ⟨b1, o1, rfl, h1⟩ := hA (by omega)
      obtain ⟨b2, o2, rfl, h2⟩ := hB (by omega)
      obtain ⟨a1, c1, d1, r1, _⟩ := h1 k hlt
      obtain ⟨a2, c2, d2, r2, _⟩ := h2 k hlt
      have R1 := Lib.hid r1
      have R2 := Lib.hid r2
      have hx := HX.out k hlt
      clear h1 h2 r1 r2 hA hB
      have hi : (k : Int) < xss.length := by omega
      go_wp2
      go_quiet ((go_at_call 101; exact quiet_ex (eqInt64S_t _ _ _ _ _ _ (rw_ xss k) _ (by exact R1.out) (by exact R2.out) rfl rfl (by omega))))
      go_wp2
      go_roundw
      case rel => exact ⟨k + 1, by omega, by go_num, Lib.hid (by obtain ⟨n, rfl⟩ := HW.out; exact ⟨n + nq, by simp⟩)⟩
      case measure => simp [intOf]; omega
    · go_wp2
      go_ret
      exact ⟨rfl, HW.out⟩

set_option maxHeartbeats 400000 in
theorem markInt64SS_t (T2 : TypeId) (a : Option Addr) (n c B : Nat) (xss : List (List Int)) (A : Nat → Option Addr) (C : Nat → Nat) (m : Int) (w : World) (ha : HasR T2 w B a n c xss A C) (hl : n ≤ 1048576) (hx : ∀ i, i < n → (rw_ xss i).length ≤ 1048576) (ho : (offs xss n : Int) ≤ 10000000000000) (h0 : 0 ≤ m) (h1 : m ≤ 100000000000000) :
    Calls Try.prog 39 #[.slice a n c, .int .i64 m] w fun e w' => e = .returned (.int .i64 (m + offs xss n)) ∧ RdR w' a (mkR m xss) ∧ Chg (RowBlk n A) w w' := by
  have HM : Hid (MkR T2 w w B a n c xss A C m 0) := Lib.hid (MkR.start ha m)
  have HX := Lib.hid hx
  clear ha hx
  go_enter Try.func39, Try.ntmps39
  go_wp2
  go_loopw [5, 1] (fun i q wr => ∃ k : Nat, k ≤ n ∧ i = .int .i64 k ∧ q = .int .i64 (m + offs xss k) ∧ Hid (MkR T2 w wr B a n c xss A C m k)) (fun i _ _ => n - (intOf i).toNat)
  case atStart => exact ⟨0, Nat.zero_le _, rfl, by simp [offs], HM⟩
  case round =>
    obtain ⟨k, hk, rfl, rfl, hM⟩ := hrel
    clear HM
    by_cases hlt : k < n
    · obtain ⟨b, rfl, d1⟩ := hM.out.outer hlt
      have hof : offs xss k ≤ offs xss n := offs_mono xss (by omega)
      have hW := Lib.hid (hM.out.todo k (Nat.le_refl _) hlt).wr
      have hxk := HX.out k hlt
      have H1 : Hid (∀ z, z = m + (offs xss k : Int) + ((rw_ xss k).length : Int) → z = m + offs xss (k + 1)) := Lib.hid fun z hz => by rw [hz]; simp only [offs]; omega
      go_wp2_with (go_at_call 79; refine (markInt64S_t T2 _ _ _ _ _ (by exact hW.out) (by omega) (by omega) (by omega)).mono ?_; rintro e w' ⟨rfl, hr, hc⟩; have HR := Lib.hid hr; have HC := Lib.hid hc; clear hr hc)
      have HN := Lib.hid (hM.out.step hlt HR.out HC.out)
      go_roundw
      case rel => exact ⟨k + 1, by omega, by go_num, by rw [H1.out _ rfl], HN⟩
      case measure => simp [intOf]; omega
    · obtain rfl : k = n := by omega
      go_wp2
      go_ret
      exact ⟨rfl, hM.out.rd, hM.out.chg⟩

set_option maxHeartbeats 400000 in
theorem heldInt64SS_t (a : Option Addr) (n c : Nat) (xss : List (List Int)) (m : Int) (w : World) (ha : RdR w a (mkR m xss)) (hn : xss.length = n) (hl : n ≤ 1048576) (hx : ∀ i, i < n → (rw_ xss i).length ≤ 1048576) (ho : (offs xss n : Int) ≤ 10000000000000) (h0 : 0 ≤ m) (h1 : m ≤ 100000000000000) :
    Calls Try.prog 40 #[.slice a n c, .int .i64 m] w fun e w' => e = .returned (.int .i64 (m + offs xss n)) ∧ w = w' := by
  have HA := Lib.hid ha
  have HL := Lib.hid hn
  have HX := Lib.hid hx
  clear ha hn hx
  go_enter Try.func40, Try.ntmps40
  go_wp2
  go_loop [5, 1] (fun i q => ∃ k : Nat, k ≤ n ∧ i = .int .i64 k ∧ q = .int .i64 (m + offs xss k)) (fun i _ => n - (intOf i).toNat)
  case atStart => exact ⟨0, Nat.zero_le _, rfl, by simp [offs]⟩
  case round =>
    obtain ⟨k, hk, rfl, rfl⟩ := hrel
    by_cases hlt : k < n
    · obtain ⟨b, o, rfl, hc⟩ := HA.out (by rw [mkR_len, HL.out]; omega)
      obtain ⟨ai, ci, d1, r1, _⟩ := hc k (by rw [mkR_len, HL.out]; omega)
      rw [mkR_row (by rw [HL.out]; exact hlt)] at d1 r1
      rw [marks_len] at d1
      have hof : offs xss k ≤ offs xss n := offs_mono xss (by omega)
      have R1 := Lib.hid r1
      have hxk := HX.out k hlt
      have H1 : Hid (∀ z, z = m + (offs xss k : Int) + ((rw_ xss k).length : Int) → z = m + offs xss (k + 1)) := Lib.hid fun z hz => by rw [hz]; simp only [offs]; omega
      clear hc r1
      go_wp2_with (go_at_call 80; refine (heldInt64S_t _ _ _ _ _ (by exact R1.out) (by omega) (by omega) (by omega)).mono ?_; rintro e w' ⟨rfl, rfl⟩)
      go_round
      case rel => exact ⟨k + 1, by omega, by go_num, by rw [H1.out _ rfl]⟩
      case measure => simp [intOf]; omega
    · obtain rfl : k = n := by omega
      go_wp2
      go_ret
      exact ⟨rfl, rfl⟩
end Go.Proofs.Ytpkdgemnddcefaa
