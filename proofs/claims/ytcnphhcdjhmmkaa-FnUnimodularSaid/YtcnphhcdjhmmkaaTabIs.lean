/- The test whether a value is a table. -/
import Derived.Test.YtcnphhcdjhmmkaaTab
set_option linter.unusedVariables false
set_option linter.unusedSimpArgs false
namespace Go.Proofs.Ytcnphhcdjhmmkaa
open Go.RowKit

/-- all entries are small -/
def Fit (xs : List Int) : Prop := ∀ j, j < xs.length → -64 ≤ el xs j ∧ el xs j ≤ 64
instance (xs : List Int) : Decidable (Fit xs) := by unfold Fit; exact inferInstance
structure TbOk (xss : List (List Int)) (q : Int) : Prop where
  q1 : 1 ≤ q
  q4 : q ≤ 4
  len : xss.length ≤ 12
  row : ∀ i, i < xss.length → ((rw_ xss i).length : Int) = q ∧ Fit (rw_ xss i)
theorem tbOk_iff (xss : List (List Int)) (q : Int) : TbOk xss q ↔ (1 ≤ q ∧ q ≤ 4 ∧ xss.length ≤ 12 ∧ ∀ i, i < xss.length → ((rw_ xss i).length : Int) = q ∧ Fit (rw_ xss i)) :=
  ⟨fun h => ⟨h.q1, h.q4, h.len, h.row⟩, fun h => ⟨h.1, h.2.1, h.2.2.1, h.2.2.2⟩⟩
instance (xss : List (List Int)) (q : Int) : Decidable (TbOk xss q) := decidable_of_iff _ (tbOk_iff xss q).symm
def isTb (xss : List (List Int)) (q : Int) : Bool := decide (TbOk xss q)
theorem isTb_t {xss : List (List Int)} {q : Int} (h : TbOk xss q) : isTb xss q = true := by unfold isTb; simpa using h
theorem isTb_f {xss : List (List Int)} {q : Int} (h : ¬ TbOk xss q) : isTb xss q = false := by unfold isTb; simpa using h
theorem isTb_ok {xss : List (List Int)} {q : Int} (h : isTb xss q = true) : TbOk xss q := by unfold isTb at h; simpa using h
theorem isTb_no {xss : List (List Int)} {q : Int} (h : isTb xss q = false) : ¬ TbOk xss q := by unfold isTb at h; simpa using h

theorem fit_t {xs : List Int} (h : Fit xs) : decide (Fit xs) = true := by simpa using h
/-- the test of all entries, as a truth value -/
def fitB (xs : List Int) : Bool := decide (Fit xs)
theorem fitB_t {xs : List Int} (h : Fit xs) : fitB xs = true := by unfold fitB; simpa using h
theorem fitB_f {xs : List Int} (h : ¬ Fit xs) : fitB xs = false := by unfold fitB; simpa using h
set_option maxHeartbeats 400000 in
theorem entriesFit_any (a : Option Addr) (n c : Nat) (xs : List Int) (w : World) (ha : RdI w a xs) (hl : xs.length = n) (hn : n ≤ 1048576) :
    Calls Try.prog 36 #[.slice a n c] w fun e w' => e = .returned (.bool (fitB xs)) ∧ w = w' := by
  have HA := Lib.hid ha
  have HL := Lib.hid hl
  clear ha hl
  have H0 : Hid (∀ j, j < 0 → -64 ≤ el xs j ∧ el xs j ≤ 64) := Lib.hid fun j h => absurd h (by omega)
  go_enter Try.func36, Try.ntmps36
  go_wp2
  go_loop [7] (fun i => ∃ k : Nat, k ≤ n ∧ i = .int .i64 k ∧ Hid (∀ j, j < k → -64 ≤ el xs j ∧ el xs j ≤ 64)) (fun i => n - (intOf i).toNat)
  case atStart => exact ⟨0, Nat.zero_le _, rfl, H0⟩
  case round =>
    obtain ⟨k, hk, rfl, HK⟩ := hrel
    clear H0
    by_cases hlt : k < n
    · obtain ⟨b, o, rfl, hc⟩ := HA.out (by rw [HL.out]; omega)
      have d := hc k (by rw [HL.out]; exact hlt)
      clear hc
      by_cases hin : -64 ≤ el xs k ∧ el xs k ≤ 64
      · obtain ⟨f1, f2⟩ := hin
        have HK1 : Hid (∀ j, j < k + 1 → -64 ≤ el xs j ∧ el xs j ≤ 64) := Lib.hid fun j hj => by
          by_cases he : j = k
          · subst he; exact ⟨f1, f2⟩
          · exact HK.out j (by omega)
        go_wp2_with (go_at_call 29; refine (inside_t _ _ _ _ (by omega) (by omega)).mono ?_; rintro e w' ⟨rfl, rfl⟩)
        go_round
        case rel => exact ⟨k + 1, by omega, by go_num, HK1⟩
        case measure => simp [intOf]; omega
      · have H := Lib.hid (fitB_f (xs := xs) (fun h => hin (h k (by rw [HL.out]; exact hlt))))
        have hin' : el xs k < -64 ∨ 64 < el xs k := by omega
        clear hin
        go_wp2_with (go_at_call 29; refine (inside_f _ _ _ _ hin').mono ?_; rintro e w' ⟨rfl, rfl⟩)
        go_ret
        exact ⟨ret_bool H.out.symm, rfl⟩
    · obtain rfl : k = n := by omega
      have H := Lib.hid (fitB_t (xs := xs) (fun j hj => HK.out j (by rw [HL.out] at hj; exact hj)))
      go_wp2
      go_ret
      exact ⟨ret_bool H.out.symm, rfl⟩
theorem entriesFit_t (a : Option Addr) (n c : Nat) (xs : List Int) (w : World) (ha : RdI w a xs) (hl : xs.length = n) (hn : n ≤ 1048576) (h : Fit xs) :
    Calls Try.prog 36 #[.slice a n c] w fun e w' => e = .returned (.bool true) ∧ w = w' := by rw [← fitB_t h]; exact entriesFit_any a n c xs w ha hl hn
theorem entriesFit_f (a : Option Addr) (n c : Nat) (xs : List Int) (w : World) (ha : RdI w a xs) (hl : xs.length = n) (hn : n ≤ 1048576) (h : ¬ Fit xs) :
    Calls Try.prog 36 #[.slice a n c] w fun e w' => e = .returned (.bool false) ∧ w = w' := by rw [← fitB_f h]; exact entriesFit_any a n c xs w ha hl hn
set_option maxHeartbeats 400000 in
theorem l04Small_any (a : Option Addr) (n c : Nat) (xs : List Int) (w : World) (ha : RdI w a xs) (hl : xs.length = n) (hn : n ≤ 1048576) :
    Calls Try.prog 38 #[.slice a n c] w fun e w' => e = .returned (.bool (fitB xs)) ∧ w = w' := by
  have HA := Lib.hid ha
  have HL := Lib.hid hl
  clear ha hl
  have H0 : Hid (∀ j, j < 0 → -64 ≤ el xs j ∧ el xs j ≤ 64) := Lib.hid fun j h => absurd h (by omega)
  go_enter Try.func38, Try.ntmps38
  go_wp2
  go_loop [3] (fun i => ∃ k : Nat, k ≤ n ∧ i = .int .i64 k ∧ Hid (∀ j, j < k → -64 ≤ el xs j ∧ el xs j ≤ 64)) (fun i => n - (intOf i).toNat)
  case atStart => exact ⟨0, Nat.zero_le _, rfl, H0⟩
  case round =>
    obtain ⟨k, hk, rfl, HK⟩ := hrel
    clear H0
    by_cases hlt : k < n
    · obtain ⟨b, o, rfl, hc⟩ := HA.out (by rw [HL.out]; omega)
      have d := hc k (by rw [HL.out]; exact hlt)
      clear hc
      by_cases hin : -64 ≤ el xs k ∧ el xs k ≤ 64
      · obtain ⟨f1, f2⟩ := hin
        have HK1 : Hid (∀ j, j < k + 1 → -64 ≤ el xs j ∧ el xs j ≤ 64) := Lib.hid fun j hj => by
          by_cases he : j = k
          · subst he; exact ⟨f1, f2⟩
          · exact HK.out j (by omega)
        go_wp2_with (go_at_call 31; refine (l01In_t _ _ _ _ (by omega) (by omega)).mono ?_; rintro e w' ⟨rfl, rfl⟩)
        go_round
        case rel => exact ⟨k + 1, by omega, by go_num, HK1⟩
        case measure => simp [intOf]; omega
      · have H := Lib.hid (fitB_f (xs := xs) (fun h => hin (h k (by rw [HL.out]; exact hlt))))
        have hin' : el xs k < -64 ∨ 64 < el xs k := by omega
        clear hin
        go_wp2_with (go_at_call 31; refine (l01In_f _ _ _ _ hin').mono ?_; rintro e w' ⟨rfl, rfl⟩)
        go_ret
        exact ⟨ret_bool H.out.symm, rfl⟩
    · obtain rfl : k = n := by omega
      have H := Lib.hid (fitB_t (xs := xs) (fun j hj => HK.out j (by rw [HL.out] at hj; exact hj)))
      go_wp2
      go_ret
      exact ⟨ret_bool H.out.symm, rfl⟩
theorem l04Small_t (a : Option Addr) (n c : Nat) (xs : List Int) (w : World) (ha : RdI w a xs) (hl : xs.length = n) (hn : n ≤ 1048576) (h : Fit xs) :
    Calls Try.prog 38 #[.slice a n c] w fun e w' => e = .returned (.bool true) ∧ w = w' := by rw [← fitB_t h]; exact l04Small_any a n c xs w ha hl hn
theorem l04Small_f (a : Option Addr) (n c : Nat) (xs : List Int) (w : World) (ha : RdI w a xs) (hl : xs.length = n) (hn : n ≤ 1048576) (h : ¬ Fit xs) :
    Calls Try.prog 38 #[.slice a n c] w fun e w' => e = .returned (.bool false) ∧ w = w' := by rw [← fitB_f h]; exact l04Small_any a n c xs w ha hl hn
set_option maxHeartbeats 1000000 in
theorem impl_IsTable_any (q : Int) (a : Option Addr) (n c : Nat) (xss : List (List Int)) (w : World) (hq : I64 q) (ha : RdR w a xss) (hl : xss.length = n) (hx : ∀ i, i < n → (rw_ xss i).length ≤ 1048576) (hn : n ≤ 1048576) (hcp : n ≤ c) :
    Calls Try.prog 21 #[.agg #[.int .i64 q, .slice a n c]] w fun e w' => e = .returned (.bool (isTb xss q)) ∧ Below w.heap.size w w' := by
  have HA := Lib.hid ha
  have HL := Lib.hid hl
  have HX := Lib.hid hx
  have hB0 : ∀ o q, Below w.heap.size w ((w.alloc o).drewN q) := fun o q => below_drewN' ((Below.refl _ _).alloc (Nat.le_refl _) _) q
  obtain ⟨hq1, hq2⟩ := hq
  clear ha hl hx
  by_cases h1 : 12 < (n : Int)
  · have H := Lib.hid (isTb_f (xss := xss) (q := q) (fun h => by have := h.len; have := HL.out; omega))
    have e1 : decide (12 < (n : Int)) = true := by simpa using h1
    go_enter Try.func21, Try.ntmps21
    go_wp2
    go_ret
    exact ⟨ret_bool H.out.symm, hB0 _ 0⟩
  have e1 : decide (12 < (n : Int)) = false := by simp; omega
  by_cases h2 : q < 1 ∨ 4 < q
  · have H := Lib.hid (isTb_f (xss := xss) (q := q) (fun h => by have := h.q1; have := h.q4; omega))
    go_enter Try.func21, Try.ntmps21
    go_wp2_with (go_at_call 29; refine (inside_f _ _ _ _ h2).mono ?_; rintro e w' ⟨rfl, rfl⟩)
    go_ret
    exact ⟨ret_bool H.out.symm, hB0 _ 0⟩
  have q1 : 1 ≤ q := by omega
  have q4 : q ≤ 4 := by omega
  clear h2
  go_enter Try.func21, Try.ntmps21
  go_wp2_with (go_at_call 29; refine (inside_t _ _ _ _ (by omega) (by omega)).mono ?_; rintro e w' ⟨rfl, rfl⟩)
  have H0 : Hid (∀ i, i < 0 → ((rw_ xss i).length : Int) = q ∧ Fit (rw_ xss i)) := Lib.hid fun j h => absurd h (by omega)
  go_loop [18] (fun i => ∃ k : Nat, k ≤ n ∧ i = .int .i64 k ∧ Hid (∀ i, i < k → ((rw_ xss i).length : Int) = q ∧ Fit (rw_ xss i))) (fun i => n - (intOf i).toNat)
  case atStart => exact ⟨0, Nat.zero_le _, rfl, H0⟩
  case round =>
    obtain ⟨k, hk, rfl, HK⟩ := hrel
    clear H0
    by_cases hlt : k < n
    · have hA := RdR.alloc HA.out (.cells #[.int .i64 q, .slice a n c] 26)
      obtain ⟨b, o, rfl, hc⟩ := hA (by rw [HL.out]; omega)
      obtain ⟨ai, ci, d, r, _⟩ := hc k (by rw [HL.out]; exact hlt)
      have R := Lib.hid r
      have hxk := HX.out k hlt
      clear hc hA r
      by_cases hle : ((rw_ xss k).length : Int) = q
      · have g1 : (((rw_ xss k).length : Int) != q) = false := by rw [hle]; simp
        by_cases hf : Fit (rw_ xss k)
        · have HK1 : Hid (∀ i, i < k + 1 → ((rw_ xss i).length : Int) = q ∧ Fit (rw_ xss i)) := Lib.hid fun j hj => by
            by_cases he : j = k
            · subst he; exact ⟨hle, hf⟩
            · exact HK.out j (by omega)
          have HF := Lib.hid hf
          clear hle hf
          go_wp2_with (go_at_call 36; refine (entriesFit_t _ _ _ (rw_ xss k) _ (by exact R.out) rfl hxk HF.out).mono ?_; rintro e w' ⟨rfl, rfl⟩)
          go_round
          case rel => exact ⟨k + 1, by omega, by go_num, HK1⟩
          case measure => simp [intOf]; omega
        · have H := Lib.hid (isTb_f (xss := xss) (q := q) (fun h => hf (h.row k (by rw [HL.out]; exact hlt)).2))
          have HF := Lib.hid hf
          clear hle hf
          go_wp2_with (go_at_call 36; refine (entriesFit_f _ _ _ (rw_ xss k) _ (by exact R.out) rfl hxk HF.out).mono ?_; rintro e w' ⟨rfl, rfl⟩)
          go_ret
          exact ⟨ret_bool H.out.symm, hB0 _ 0⟩
      · have H := Lib.hid (isTb_f (xss := xss) (q := q) (fun h => hle (h.row k (by rw [HL.out]; exact hlt)).1))
        have g1 : (((rw_ xss k).length : Int) != q) = true := bne_iff_ne.2 hle
        clear hle
        go_wp2_with fail
        go_ret
        exact ⟨ret_bool H.out.symm, hB0 _ 0⟩
    · obtain rfl : k = n := by omega
      have H := Lib.hid (isTb_t (xss := xss) (q := q) ⟨q1, q4, by have := HL.out; omega, fun i hi => HK.out i (by rw [HL.out] at hi; exact hi)⟩)
      go_wp2
      go_ret
      exact ⟨ret_bool H.out.symm, hB0 _ 0⟩
/-- the box of a table stands in the world of a round -/
def TbW (w wr : World) (q : Int) (a : Option Addr) (n c : Nat) : Prop := Below w.heap.size w wr ∧ wr.cell? ⟨w.heap.size, 0, none⟩ = some (.int .i64 q) ∧ wr.cell? ⟨w.heap.size, 1, none⟩ = some (.slice a n c)
theorem TbW.drewN {w wr : World} {a : Option Addr} {n c : Nat} {q : Int} (h : TbW w wr q a n c) (k : Nat) : TbW w (wr.drewN k) q a n c := ⟨below_drewN' h.1 k, h.2.1, h.2.2⟩
set_option maxHeartbeats 1000000 in
theorem spec_IsTable_any (q : Int) (a : Option Addr) (n c : Nat) (xss : List (List Int)) (w : World) (hq : I64 q) (ha : RdR w a xss) (hl : xss.length = n) (hx : ∀ i, i < n → (rw_ xss i).length ≤ 1048576) (hn : n ≤ 1048576) (hcp : n ≤ c) :
    Calls Try.prog 23 #[.agg #[.int .i64 q, .slice a n c]] w fun e w' => e = .returned (.bool (isTb xss q)) ∧ Below w.heap.size w w' := by
  have HA := Lib.hid ha
  have HL := Lib.hid hl
  have HX := Lib.hid hx
  have hB0 : ∀ o q, Below w.heap.size w ((w.alloc o).drewN q) := fun o q => below_drewN' ((Below.refl _ _).alloc (Nat.le_refl _) _) q
  obtain ⟨hq1, hq2⟩ := hq
  clear ha hl hx
  by_cases h2 : q < 1 ∨ 4 < q
  · have H := Lib.hid (isTb_f (xss := xss) (q := q) (fun h => by have := h.q1; have := h.q4; omega))
    go_enter Try.func23, Try.ntmps23
    go_wp2_with (go_at_call 31; refine (l01In_f _ _ _ _ h2).mono ?_; rintro e w' ⟨rfl, rfl⟩)
    go_ret
    exact ⟨ret_bool H.out.symm, hB0 _ 0⟩
  have q1 : 1 ≤ q := by omega
  have q4 : q ≤ 4 := by omega
  clear h2
  by_cases h1 : 12 < (n : Int)
  · have H := Lib.hid (isTb_f (xss := xss) (q := q) (fun h => by have := h.len; have := HL.out; omega))
    have e1 : decide (12 < (n : Int)) = true := by simpa using h1
    go_enter Try.func23, Try.ntmps23
    go_wp2_with (go_at_call 31; refine (l01In_t _ _ _ _ (by omega) (by omega)).mono ?_; rintro e w' ⟨rfl, rfl⟩)
    go_ret
    exact ⟨ret_bool H.out.symm, hB0 _ 0⟩
  have e1 : decide (12 < (n : Int)) = false := by simp; omega
  go_enter Try.func23, Try.ntmps23
  go_wp2_with (go_at_call 31; refine (l01In_t _ _ _ _ (by omega) (by omega)).mono ?_; rintro e w' ⟨rfl, rfl⟩)
  have H0 : Hid (∀ i, i < 0 → ((rw_ xss i).length : Int) = q ∧ Fit (rw_ xss i)) := Lib.hid fun j h => absurd h (by omega)
  have HW0 : Hid (TbW w (w.alloc (.cells #[.int .i64 q, .slice a n c] 26)) q a n c) := Lib.hid ⟨(Below.refl _ _).alloc (Nat.le_refl _) _, by simp, by simp⟩
  go_loopw [3] (fun i wr => ∃ k : Nat, k ≤ n ∧ i = .int .i64 k ∧ Hid (TbW w wr q a n c) ∧ Hid (∀ i, i < k → ((rw_ xss i).length : Int) = q ∧ Fit (rw_ xss i))) (fun i _ => n - (intOf i).toNat)
  case atStart => exact ⟨0, Nat.zero_le _, rfl, HW0, H0⟩
  case round =>
    obtain ⟨k, hk, rfl, HW, HK⟩ := hrel
    clear H0 HW0
    have p0 := HW.out.2.1
    have p1 := HW.out.2.2
    by_cases hlt : k < n
    · obtain ⟨b, o, rfl, hc⟩ := (HA.out.keep HW.out.1 (Nat.le_refl _)) (by rw [HL.out]; omega)
      obtain ⟨ai, ci, d, r, _⟩ := hc k (by rw [HL.out]; exact hlt)
      have R := Lib.hid r
      have hxk := HX.out k hlt
      have hk1 : (k : Int) < (n : Int) := by omega
      clear hc r
      by_cases hle : ((rw_ xss k).length : Int) = q
      · have g1 : (((rw_ xss k).length : Int) != q) = false := by rw [hle]; simp
        by_cases hf : Fit (rw_ xss k)
        · have HK1 : Hid (∀ i, i < k + 1 → ((rw_ xss i).length : Int) = q ∧ Fit (rw_ xss i)) := Lib.hid fun j hj => by
            by_cases he : j = k
            · subst he; exact ⟨hle, hf⟩
            · exact HK.out j (by omega)
          have HF := Lib.hid hf
          clear hle hf
          go_wp2
          go_quiet ((go_at_call 38; exact quiet_eq (l04Small_t _ _ _ (rw_ xss k) _ (by exact R.out) rfl hxk HF.out)))
          go_wp2
          go_roundw
          case rel => exact ⟨k + 1, by omega, by go_num, Lib.hid (HW.out.drewN nq), HK1⟩
          case measure => simp [intOf]; omega
        · have H := Lib.hid (isTb_f (xss := xss) (q := q) (fun h => hf (h.row k (by rw [HL.out]; exact hlt)).2))
          have HF := Lib.hid hf
          clear hle hf
          go_wp2
          go_quiet ((go_at_call 38; exact quiet_eq (l04Small_f _ _ _ (rw_ xss k) _ (by exact R.out) rfl hxk HF.out)))
          go_wp2
          go_ret
          exact ⟨ret_bool H.out.symm, below_drewN' HW.out.1 _⟩
      · have H := Lib.hid (isTb_f (xss := xss) (q := q) (fun h => hle (h.row k (by rw [HL.out]; exact hlt)).1))
        have g1 : (((rw_ xss k).length : Int) != q) = true := bne_iff_ne.2 hle
        clear hle
        go_wp2
        go_quiet (fail)
        go_wp2
        go_ret
        exact ⟨ret_bool H.out.symm, below_drewN' HW.out.1 _⟩
    · obtain rfl : k = n := by omega
      have H := Lib.hid (isTb_t (xss := xss) (q := q) ⟨q1, q4, by have := HL.out; omega, fun i hi => HK.out i (by rw [HL.out] at hi; exact hi)⟩)
      go_wp2
      go_ret
      exact ⟨ret_bool H.out.symm, HW.out.1⟩
end Go.Proofs.Ytcnphhcdjhmmkaa
