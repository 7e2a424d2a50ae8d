/- Rows of the identity matrix, copies of rows, and the makers of matrices. -/
import Derived.Test.YtpkdgemnddcefaaBox
import Derived.Test.YtpkdgemnddcefaaRowW
import Derived.Test.YtpkdgemnddcefaaMatIs
import Derived.Test.YtpkdgemnddcefaaConcat
import Derived.Test.YtpkdgemnddcefaaPush
import Derived.Test.YtpkdgemnddcefaaRed
set_option linter.unusedVariables false
set_option linter.unusedSimpArgs false
namespace Go.Proofs.Ytpkdgemnddcefaa
open Go.RowKit

/-- the row with 1 at one place -/
def unitR (n k : Nat) : List Int := tab n fun j => if j = k then 1 else 0
def unitRs (n : Nat) : List (List Int) := tab n (unitR n)
theorem set_unit {n k : Nat} : (tab n (fun _ => (0 : Int))).set k 1 = unitR n k := by
  refine list_ext (by simp [unitR, tab]) fun i hi => ?_
  have hi' : i < n := by simpa [tab] using hi
  unfold unitR
  rw [el_tab hi']
  by_cases hk : k < n
  · rw [el_set (by rw [tab_len]; exact hk), el_tab hi']
  · rw [List.set_eq_of_length_le (by rw [tab_len]; omega), el_tab hi', if_neg (by omega)]
theorem unitR_len (n k : Nat) : (unitR n k).length = n := tab_len _ _
theorem unitRs_len (n : Nat) : (unitRs n).length = n := tab_len _ _
theorem unitRs_row {n i : Nat} (h : i < n) : rw_ (unitRs n) i = unitR n i := rw_tab h
theorem take_row2 {A : List (List Int)} {j : Nat} (h : j < A.length) : A.take (j + 1) = A.take j ++ [rw_ A j] := by
  rw [List.take_add_one, rw_get h]; rfl


set_option maxHeartbeats 1000000 in
theorem l01Own2_any (a : Option Addr) (n c : Nat) (xss : List (List Int)) (w : World) (ha : RdR w a xss) (hl : xss.length = n) (hx : ∀ i, i < n → (rw_ xss i).length ≤ 1048576) (hn : n ≤ 1048576) :
    Calls Try.prog 54 #[.slice a n c] w fun e w' => ∃ a' c', e = .returned (.slice a' n c') ∧ MadeR 52 2 w' w.heap.size a' n c' xss ∧ Below w.heap.size w w' := by
  have HA := Lib.hid ha
  have HL := Lib.hid hl
  have HX := Lib.hid hx
  clear ha hl hx
  go_enter Try.func54, Try.ntmps54
  go_wp2
  go_loopw [4, 3] (fun i v wr => ∃ (j : Nat) (a1 : Option Addr) (c1 : Nat) (A : Nat → Option Addr) (C : Nat → Nat), j ≤ n ∧ i = .int .i64 j ∧ v = .slice a1 j c1 ∧ Hid (OwnR 52 2 wr w.heap.size a1 j c1 (xss.take j) A C ∧ Below w.heap.size w wr)) (fun i _ _ => n - (intOf i).toNat)
  case atStart => exact ⟨0, _, 0, fun _ => none, fun _ => 0, Nat.zero_le _, rfl, rfl, Lib.hid ⟨by simpa using OwnR.empty w _ _ _ _, (Below.refl _ _).alloc (Nat.le_refl _) _⟩⟩
  case round =>
    obtain ⟨j, a1, c1, A, C, hj, rfl, rfl, HJ⟩ := hrel
    obtain ⟨wi, rfl⟩ : ∃ x, x = wr := ⟨wr, rfl⟩
    by_cases hjt : j < n
    · obtain ⟨b, o, rfl, hc⟩ := (HA.out.keep HJ.out.2 (Nat.le_refl _)) (by rw [HL.out]; omega)
      obtain ⟨aj, cj, dj, rj, _⟩ := hc j (by rw [HL.out]; exact hjt)
      have R := Lib.hid rj
      have hxj := HX.out j hjt
      have hsz := HJ.out.2.size
      clear hc rj
      go_wp2_with (first
        | (go_at_call 82; refine (l01Own_any _ _ _ (rw_ xss j) _ (by exact R.out) rfl hxj).mono ?_; rintro e w' ⟨ar, cr, rfl, ho, hb⟩; have HO := Lib.hid ho; have HBo := Lib.hid hb; have sb := hb.size; clear ho hb)
        | (at_builtin; refine wpList_push rfl (.tmp 12) (.tmp 18) 24 rfl w.heap.size 52 (.slice none 0 0) 24 Try.underlying24 Try.infoR rfl (by decide) (.slice ar (rw_ xss j).length cr) rfl _ _ _ _ rfl rfl (by exact (HJ.out.1.keep HBo.out (Nat.le_refl _)).own) (by omega) (by exact Nat.le_trans hsz sb) ?_; rintro a4 c4 w4 r4 q4 g4; have HN := Lib.hid (HJ.out.1.pushNew2 hsz HBo.out HO.out (Nat.le_refl _) r4 q4 g4); clear r4 q4 g4))
      have HN2 : Hid (OwnR 52 2 w4 w.heap.size a4 (j + 1) c4 (xss.take (j + 1)) (upd A j ar) (upd C j cr) ∧ Below w.heap.size w w4) := Lib.hid ⟨by rw [take_row2 (by rw [HL.out]; exact hjt)]; exact HN.out.1, HJ.out.2.trans HN.out.2⟩
      go_roundw
      case rel => exact ⟨j + 1, a4, c4, _, _, by omega, by go_num, rfl, HN2⟩
      case measure => simp [intOf]; omega
    · obtain rfl : n = j := by omega
      have HM := Lib.hid HJ.out
      rw [List.take_of_length_le (by rw [HL.out]; omega)] at HM
      go_wp2
      go_ret
      exact ⟨a1, c1, rfl, ⟨A, C, HM.out.1⟩, HM.out.2⟩

set_option maxHeartbeats 1000000 in
theorem l02Make_any (p q : Int) (a : Option Addr) (n c : Nat) (xss : List (List Int)) (w : World) (ha : RdR w a xss) (hl : xss.length = n) (hx : ∀ i, i < n → (rw_ xss i).length ≤ 1048576) (hn : n ≤ 1048576) :
    Calls Try.prog 26 #[.int .i64 p, .int .i64 q, .slice a n c] w fun e w' => ∃ a' c', e = .returned (.agg #[.int .i64 p, .int .i64 q, .slice a' n c']) ∧ MadeR 52 2 w' w.heap.size a' n c' xss ∧ Below w.heap.size w w' := by
  have HA := Lib.hid ha
  have HL := Lib.hid hl
  have HX := Lib.hid hx
  clear ha hl hx
  go_enter Try.func26, Try.ntmps26
  go_wp2_with fail
  refine (l01Own2_any _ _ _ xss _ (by exact HA.out.alloc _) HL.out HX.out hn).mono ?_
  rintro e w1 ⟨a', c', rfl, ho, hb⟩
  have HO := Lib.hid ho
  have HB := Lib.hid hb
  obtain ⟨hc, hf⟩ := bcell hb
  have hz : w.heap.size < w1.heap.size := by have := hb.size; simp at this; omega
  clear ho hb
  go_wp2_with fail
  refine bodyPost_ret (v := .agg #[.int .i64 p, .int .i64 q, .slice a' n c']) (by simp [results, Try.results26, go_sem, hc, hz]) rfl ⟨a', c', rfl, ?_, ?_⟩
  · refine MadeR.mono (B := w.heap.size + 1) ?_ (by omega)
    exact (((HO.out.mono (by simp)).setLow _ (by first | (simp; done) | (simp; omega)) _).setLow _ (by first | (simp; done) | (simp; omega)) _).setLow _ (by first | (simp; done) | (simp; omega)) _
  · exact ((((((Below.refl _ _).alloc (Nat.le_refl _) _).trans (HB.out.mono (by simp))).setCell (by first | (simp; done) | (simp; omega)) _).setCell (by first | (simp; done) | (simp; omega)) _).setCell (by first | (simp; done) | (simp; omega)) _)

/-- what is made and then written at one place -/
theorem unit_own (w : World) (T : TypeId) {n j : Nat} (hj : j < n) (hn : n ≤ 1048576) :
    OwnI T ((w.alloc (.cells (madeCells #[.int .i64 0] n) T)).setCell ⟨w.heap.size, j, none⟩ (.int .i64 1)) w.heap.size (some ⟨w.heap.size, 0, none⟩) n n (unitR n j) := by
  have h := (OwnI.made w T n (by unfold maxLen; omega)).set hj 1
  rwa [set_unit] at h
theorem unit_own2 (w : World) (T : TypeId) {n j : Nat} (hj : j < n) (hn : n ≤ 1048576) :
    OwnI T (w.alloc (.cells ((madeCells #[.int .i64 0] n).setIfInBounds j (.int .i64 1)) T)) w.heap.size (some ⟨w.heap.size, 0, none⟩) n n (unitR n j) := by
  have h := unit_own w T hj hn
  rwa [World.setCell_alloc_at _ _ _ _ _ rfl] at h
set_option maxHeartbeats 1000000 in
theorem l02Unit_any (n : Nat) (w : World) (hn : n ≤ 1000) :
    Calls Try.prog 106 #[.int .i64 n] w fun e w' => ∃ a' c', e = .returned (.slice a' n c') ∧ MadeR 52 2 w' w.heap.size a' n c' (unitRs n) ∧ Below w.heap.size w w' := by
  go_enter Try.func106, Try.ntmps106
  go_wp2
  go_loopw [4, 3] (fun i v wr => ∃ (j : Nat) (a1 : Option Addr) (c1 : Nat) (A : Nat → Option Addr) (C : Nat → Nat), j ≤ n ∧ i = .int .i64 j ∧ v = .slice a1 j c1 ∧ Hid (OwnR 52 2 wr w.heap.size a1 j c1 ((unitRs n).take j) A C ∧ Below w.heap.size w wr)) (fun i _ _ => n - (intOf i).toNat)
  case atStart => exact ⟨0, _, 0, fun _ => none, fun _ => 0, Nat.zero_le _, rfl, rfl, Lib.hid ⟨by simpa using OwnR.empty w _ _ _ _, (Below.refl _ _).alloc (Nat.le_refl _) _⟩⟩
  case round =>
    obtain ⟨j, a1, c1, A, C, hj, rfl, rfl, HJ⟩ := hrel
    obtain ⟨wi, rfl⟩ : ∃ x, x = wr := ⟨wr, rfl⟩
    by_cases hjt : j < n
    · have hmk := run_make_row' (P := Try.prog) 52 2 (.int .i64 0) 8 Try.underlying52 Try.info2 rfl .i64 .i64 n (by omega) (by omega)
      have hsz := HJ.out.2.size
      have e1 := (OwnI.made wi 2 n (by unfold maxLen; omega)).cellAt hjt
      rw [el_tab hjt] at e1
      have e2 := (OwnI.made wi 2 n (by unfold maxLen; omega)).frozen j
      have HO := Lib.hid (unit_own2 wi 2 hjt (by omega))
      have HBo : Hid (Below wi.heap.size wi (wi.alloc (.cells ((madeCells #[.int .i64 0] n).setIfInBounds j (.int .i64 1)) 2))) := Lib.hid ((Below.refl _ _).alloc (Nat.le_refl _) _)
      go_wp2_with (at_builtin; refine wpList_pushB rfl (.tmp 17) (.tmp 19) 24 rfl w.heap.size 52 (.slice none 0 0) 24 Try.underlying24 Try.infoR rfl (by decide) (.slice (some ⟨wi.heap.size, 0, none⟩) n n) rfl _ _ _ _ _ rfl rfl (by simp) (by exact (HJ.out.1.keep HBo.out (Nat.le_refl _)).own) (by omega) (by exact Nat.le_trans hsz HBo.out.size) ?_; rintro a4 c4 w4 r4 q4 g4; have HN := Lib.hid (HJ.out.1.pushNew2 hsz HBo.out HO.out (Nat.le_refl _) r4 q4 g4); clear r4 q4 g4)
      clear hmk e1 e2
      have HN2 : Hid (OwnR 52 2 w4 w.heap.size a4 (j + 1) c4 ((unitRs n).take (j + 1)) (upd A j (some ⟨wi.heap.size, 0, none⟩)) (upd C j n) ∧ Below w.heap.size w w4) := Lib.hid ⟨by rw [take_row2 (by rw [unitRs_len]; exact hjt), unitRs_row hjt]; exact HN.out.1, HJ.out.2.trans HN.out.2⟩
      go_roundw
      case rel => exact ⟨j + 1, a4, c4, _, _, by omega, by go_num, rfl, HN2⟩
      case measure => simp [intOf]; omega
    · obtain rfl : n = j := by omega
      have HM := Lib.hid HJ.out
      rw [List.take_of_length_le (by rw [unitRs_len]; omega)] at HM
      go_wp2
      go_ret
      exact ⟨a1, c1, rfl, ⟨A, C, HM.out.1⟩, HM.out.2⟩

end Go.Proofs.Ytpkdgemnddcefaa
