/- The pivots' columns of rows in reduced form. -/
import Derived.Test.YtpkdgemnddcefaaMat
import Derived.Test.YtpkdgemnddcefaaIdxF
set_option linter.unusedVariables false
set_option linter.unusedSimpArgs false
namespace Go.Proofs.Ytpkdgemnddcefaa
open Go.RowKit

def pivL (piv : Nat → Nat) (n : Nat) : List Int := tab n fun i => (piv i : Int)
theorem pivL_len (piv : Nat → Nat) (n : Nat) : (pivL piv n).length = n := tab_len _ _
theorem pivL_el {piv : Nat → Nat} {n i : Nat} (h : i < n) : el (pivL piv n) i = (piv i : Int) := el_tab h
theorem pivL_take {piv : Nat → Nat} {n i : Nat} (h : i < n) : (pivL piv n).take (i + 1) = (pivL piv n).take i ++ [(piv i : Int)] := by
  rw [take_el (by rw [pivL_len]; exact h)]
  congr 2
  exact el_tab h
theorem Try.infoN : (Try.prog.info? 3).map (fun i => (i.zero, i.size, i.bytes)) = some (some (.int .i64 0), 1, 8) := by kernel_rfl
set_option maxRecDepth 20000 in
set_option maxHeartbeats 2000000 in
theorem pivots_any (a : Option Addr) (n c m : Nat) (xss : List (List Int)) (piv : Nat → Nat) (w : World) (ha : RdR w a xss) (hl : xss.length = n) (hr : ∀ i, i < n → (rw_ xss i).length = m) (hn : n ≤ 1048576) (hm : m ≤ 1048576) (hlead : ∀ i, i < n → IsLead (rw_ xss i) (piv i)) (hpn : ∀ i, i < n → piv i < m) :
    Calls Try.prog 32 #[.slice a n c] w fun e w' => ∃ a' c', e = .returned (.slice a' n c') ∧ OwnI 3 w' w.heap.size a' n c' (pivL piv n) ∧ Below w.heap.size w w' := by
  have HA := Lib.hid ha
  have HL := Lib.hid hl
  have HR := Lib.hid hr
  have HLD := Lib.hid hlead
  have HPN := Lib.hid hpn
  clear ha hl hr hlead hpn
  go_enter Try.func32, Try.ntmps32
  go_wp2
  go_loopw [8, 3] (fun i v wr => ∃ (j : Nat) (a1 : Option Addr) (c1 : Nat), j ≤ n ∧ i = .int .i64 j ∧ v = .slice a1 j c1 ∧ Hid (OwnI 3 wr w.heap.size a1 j c1 ((pivL piv n).take j) ∧ Below w.heap.size w wr)) (fun i _ _ => n - (intOf i).toNat)
  case atStart => exact ⟨0, none, 0, Nat.zero_le _, rfl, rfl, Lib.hid ⟨by simpa using OwnI.none, Below.refl _ _⟩⟩
  case round =>
    obtain ⟨j, a1, c1, hj, rfl, rfl, HJ⟩ := hrel
    obtain ⟨wi, rfl⟩ : ∃ x, x = wr := ⟨wr, rfl⟩
    have szi := HJ.out.2.size
    by_cases hjt : j < n
    · obtain ⟨b, o, rfl, hc⟩ := (HA.out.keep HJ.out.2 (Nat.le_refl _)) (by rw [HL.out]; omega)
      obtain ⟨aj, cj, dj, rj, _⟩ := hc j (by rw [HL.out]; exact hjt)
      have hrow := HR.out j hjt
      rw [hrow] at dj
      have RJ := Lib.hid rj
      have HRJ := Lib.hid hrow
      have hlp := HPN.out j hjt
      clear hc rj hrow
      go_wp2_with (first
        | (go_at_call 63; refine (indexLead_any _ _ _ (rw_ xss j) (piv j) _ (by exact RJ.out) HRJ.out hm hlp (HLD.out j hjt)).mono ?_; rintro e w' ⟨rfl, rfl⟩)
        | (at_builtin; refine wpList_push rfl (.tmp 12) (.tmp 15) 49 rfl w.heap.size 3 (.int .i64 0) 8 Try.underlying49 Try.infoN rfl (by decide) (.int .i64 (piv j)) rfl _ _ _ _ rfl rfl (by exact HJ.out.1) (by omega) (by exact szi) ?_; rintro a4 c4 w4 r4 q4 g4; have HN := Lib.hid (And.intro (OwnI.pushed r4) (HJ.out.2.trans (g4.below szi (fun m hm hx => by obtain ⟨x, hx, e⟩ := hx; have := (HJ.out.1.block x hx).1; omega)))); clear r4 q4 g4))
      have HN2 : Hid (OwnI 3 w4 w.heap.size a4 (j + 1) c4 ((pivL piv n).take (j + 1)) ∧ Below w.heap.size w w4) := Lib.hid ⟨by rw [pivL_take hjt]; exact HN.out.1, HN.out.2⟩
      go_roundw
      case rel => exact ⟨j + 1, a4, c4, by omega, by go_num, rfl, HN2⟩
      case measure => simp [intOf]; omega
    · obtain rfl : n = j := by omega
      have HO : Hid (OwnI 3 wi w.heap.size a1 n c1 (pivL piv n)) := Lib.hid (by have := HJ.out.1; rwa [List.take_of_length_le (by rw [pivL_len]; omega)] at this)
      have HBo := Lib.hid HJ.out.2
      go_wp2
      go_ret
      exact ⟨a1, c1, rfl, HO.out, HBo.out⟩
end Go.Proofs.Ytpkdgemnddcefaa
