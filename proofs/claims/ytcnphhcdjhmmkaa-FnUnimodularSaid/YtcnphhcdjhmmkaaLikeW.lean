/- The laws' comparison of numbers, and what is too large. -/
import Derived.Test.YtcnphhcdjhmmkaaSrc
import Derived.Test.YtcnphhcdjhmmkaaNum
import Derived.Deep.RegionLaw
set_option linter.unusedVariables false
set_option linter.unusedSimpArgs false
namespace Go.Proofs.Ytcnphhcdjhmmkaa
open Go.RowKit
theorem Code0.of {w : World} {a : Option Addr} {m : Nat} {bs : List Int} (hl : bs.length = m) (hx : RdB w a bs) (hw : ∀ x ∈ bs, 0 ≤ x ∧ x ≤ 255) (hm : m ≤ 4096) : Code0 w a m bs :=
  ⟨hl, hx, fun i hi => hw _ (el_mem (by omega)), by omega⟩
set_option maxHeartbeats 400000 in
theorem big_t (a : Option Addr) (n c : Nat) (w : World) (h : 4096 < n) (hn : n ≤ maxLen) :
    Calls Try.prog 5 #[.slice a n c] w fun e w' => e = .returned (.bool true) ∧ w = w' := by
  unfold maxLen at hn
  go_enter Try.func5, Try.ntmps5
  go_wp2
  go_ret
  exact ⟨ret_bool (by simp; omega), rfl⟩
theorem big_f (a : Option Addr) (n c : Nat) (w : World) (h : n ≤ 4096) :
    Calls Try.prog 5 #[.slice a n c] w fun e w' => e = .returned (.bool false) ∧ w = w' := by
  go_enter Try.func5, Try.ntmps5
  go_wp2
  go_ret
  exact ⟨ret_bool (by simp; omega), rfl⟩
set_option maxHeartbeats 400000 in
theorem likeInts_t (a b : Option Addr) (n m ca cb : Nat) (xs : List Int) (w : World) (ha : RdI w a xs) (hb : RdI w b xs) (hn : xs.length = n) (hm : xs.length = m) (hl : n ≤ 1000000000000) :
    Calls Try.prog 16 #[.slice a n ca, .slice b m cb] w fun e w' => e = .returned (.bool true) ∧ Below w.heap.size w w' := by
  subst hn
  obtain rfl := hm
  have HA := Lib.hid ha
  have HB := Lib.hid hb
  clear ha hb
  go_enter Try.func16, Try.ntmps16
  go_wp2
  go_loopw [5] (fun i wr => ∃ k : Nat, k ≤ xs.length ∧ i = .int .i64 k ∧ ∃ n, wr = w.drewN n) (fun i _ => xs.length - (intOf i).toNat)
  case atStart => exact ⟨0, Nat.zero_le _, rfl, 0, rfl⟩
  case round =>
    obtain ⟨k, hk, rfl, n, rfl⟩ := hrel
    by_cases hlt : k < xs.length
    · obtain ⟨b1, o1, rfl, h1⟩ := HA.out (by omega)
      obtain ⟨b2, o2, rfl, h2⟩ := HB.out (by omega)
      have c1 := h1 k hlt
      have c2 := h2 k hlt
      clear h1 h2
      have hi : (k : Int) < xs.length := by omega
      go_wp2
      go_quiet (fail)
      go_wp2
      go_roundw
      case rel => exact ⟨k + 1, by omega, by go_num, n + nq, by simp⟩
      case measure => simp [intOf]; omega
    · go_wp2
      go_ret
      exact ⟨rfl, Below.ofDrew ⟨n, rfl⟩⟩
end Go.Proofs.Ytcnphhcdjhmmkaa
