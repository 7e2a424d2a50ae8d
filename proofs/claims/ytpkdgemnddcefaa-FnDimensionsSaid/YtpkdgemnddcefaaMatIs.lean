/- The test whether a value is a vector or a matrix over a prime. -/
import Derived.Test.YtpkdgemnddcefaaTab
set_option linter.unusedVariables false
set_option linter.unusedSimpArgs false
namespace Go.Proofs.Ytpkdgemnddcefaa
open Go.RowKit

/-- all entries are residues -/
def Res (p : Int) (xs : List Int) : Prop := ∀ j, j < xs.length → 0 ≤ el xs j ∧ el xs j ≤ p - 1
instance (p : Int) (xs : List Int) : Decidable (Res p xs) := by unfold Res; exact inferInstance
def Vec (p q : Int) (xs : List Int) : Prop := (xs.length : Int) = q ∧ Res p xs
instance (p q : Int) (xs : List Int) : Decidable (Vec p q xs) := by unfold Vec; exact inferInstance
def vecB (p q : Int) (xs : List Int) : Bool := decide (Vec p q xs)
theorem vecB_t {p q : Int} {xs : List Int} (h : Vec p q xs) : vecB p q xs = true := by unfold vecB; simpa using h
theorem vecB_f {p q : Int} {xs : List Int} (h : ¬ Vec p q xs) : vecB p q xs = false := by unfold vecB; simpa using h
structure MxOk (xss : List (List Int)) (p q : Int) : Prop where
  gp : GP p
  q0 : 0 ≤ q
  q8 : q ≤ 8
  len : xss.length ≤ 8
  row : ∀ i, i < xss.length → Vec p q (rw_ xss i)
theorem mxOk_iff (xss : List (List Int)) (p q : Int) : MxOk xss p q ↔ (GP p ∧ 0 ≤ q ∧ q ≤ 8 ∧ xss.length ≤ 8 ∧ ∀ i, i < xss.length → Vec p q (rw_ xss i)) :=
  ⟨fun h => ⟨h.gp, h.q0, h.q8, h.len, h.row⟩, fun h => ⟨h.1, h.2.1, h.2.2.1, h.2.2.2.1, h.2.2.2.2⟩⟩
instance (p : Int) : Decidable (GP p) := by unfold GP; exact inferInstance
instance (xss : List (List Int)) (p q : Int) : Decidable (MxOk xss p q) := decidable_of_iff _ (mxOk_iff xss p q).symm
def isMx (xss : List (List Int)) (p q : Int) : Bool := decide (MxOk xss p q)
theorem isMx_t {xss : List (List Int)} {p q : Int} (h : MxOk xss p q) : isMx xss p q = true := by unfold isMx; simpa using h
theorem isMx_f {xss : List (List Int)} {p q : Int} (h : ¬ MxOk xss p q) : isMx xss p q = false := by unfold isMx; simpa using h
theorem isMx_ok {xss : List (List Int)} {p q : Int} (h : isMx xss p q = true) : MxOk xss p q := by unfold isMx at h; simpa using h
theorem isMx_no {xss : List (List Int)} {p q : Int} (h : isMx xss p q = false) : ¬ MxOk xss p q := by unfold isMx at h; simpa using h
set_option maxHeartbeats 400000 in
theorem isVector_any (a : Option Addr) (n c : Nat) (xs : List Int) (p q : Int) (w : World) (ha : RdI w a xs) (hl : xs.length = n) (hn : n ≤ 1048576) (hp : 2 ≤ p) (hp7 : p ≤ 7) (hq : I64 q) :
    Calls Try.prog 60 #[.slice a n c, .int .i64 p, .int .i64 q] w fun e w' => e = .returned (.bool (vecB p q xs)) ∧ w = w' := by
  have HA := Lib.hid ha
  have HL := Lib.hid hl
  obtain ⟨hq1, hq2⟩ := hq
  clear ha hl
  by_cases hle : (n : Int) = q
  · have g1 : ((n : Int) != q) = false := by rw [hle]; simp
    have HQ := Lib.hid hle
    clear hle
    have H0 : Hid (∀ j, j < 0 → 0 ≤ el xs j ∧ el xs j ≤ p - 1) := Lib.hid fun j h => absurd h (by omega)
    go_enter Try.func60, Try.ntmps60
    go_wp2
    go_loop [15] (fun i => ∃ k : Nat, k ≤ n ∧ i = .int .i64 k ∧ Hid (∀ j, j < k → 0 ≤ el xs j ∧ el xs j ≤ p - 1)) (fun i => n - (intOf i).toNat)
    case atStart => exact ⟨0, Nat.zero_le _, rfl, H0⟩
    case round =>
      obtain ⟨k, hk, rfl, HK⟩ := hrel
      clear H0
      by_cases hlt : k < n
      · obtain ⟨b, o, rfl, hc⟩ := HA.out (by rw [HL.out]; omega)
        have d := hc k (by rw [HL.out]; exact hlt)
        clear hc
        by_cases hin : 0 ≤ el xs k ∧ el xs k ≤ p - 1
        · obtain ⟨f1, f2⟩ := hin
          have HK1 : Hid (∀ j, j < k + 1 → 0 ≤ el xs j ∧ el xs j ≤ p - 1) := Lib.hid fun j hj => by
            by_cases he : j = k
            · subst he; exact ⟨f1, f2⟩
            · exact HK.out j (by omega)
          go_wp2_with (go_at_call 59; refine (inside_t _ _ _ _ (by omega) (by omega)).mono ?_; rintro e w' ⟨rfl, rfl⟩)
          go_round
          case rel => exact ⟨k + 1, by omega, by go_num, HK1⟩
          case measure => simp [intOf]; omega
        · have H := Lib.hid (vecB_f (p := p) (q := q) (xs := xs) (fun h => hin (h.2 k (by rw [HL.out]; exact hlt))))
          have hin' : el xs k < 0 ∨ p - 1 < el xs k := by omega
          clear hin
          go_wp2_with (go_at_call 59; refine (inside_f _ _ _ _ hin').mono ?_; rintro e w' ⟨rfl, rfl⟩)
          go_ret
          exact ⟨ret_bool H.out.symm, rfl⟩
      · obtain rfl : k = n := by omega
        have H := Lib.hid (vecB_t (p := p) (q := q) (xs := xs) ⟨by rw [HL.out]; exact HQ.out, fun j hj => HK.out j (by rw [HL.out] at hj; exact hj)⟩)
        go_wp2
        go_ret
        exact ⟨ret_bool H.out.symm, rfl⟩
  · have g1 : ((n : Int) != q) = true := bne_iff_ne.2 hle
    have H := Lib.hid (vecB_f (p := p) (q := q) (xs := xs) (fun h => hle (by rw [← h.1, HL.out])))
    clear hle
    go_enter Try.func60, Try.ntmps60
    go_wp2
    go_ret
    exact ⟨ret_bool H.out.symm, rfl⟩
theorem isVector_t (a : Option Addr) (n c : Nat) (xs : List Int) (p q : Int) (w : World) (ha : RdI w a xs) (hl : xs.length = n) (hn : n ≤ 1048576) (hp : 2 ≤ p) (hp7 : p ≤ 7) (hq : I64 q) (h : Vec p q xs) :
    Calls Try.prog 60 #[.slice a n c, .int .i64 p, .int .i64 q] w fun e w' => e = .returned (.bool true) ∧ w = w' := by rw [← vecB_t h]; exact isVector_any a n c xs p q w ha hl hn hp hp7 hq
theorem isVector_f (a : Option Addr) (n c : Nat) (xs : List Int) (p q : Int) (w : World) (ha : RdI w a xs) (hl : xs.length = n) (hn : n ≤ 1048576) (hp : 2 ≤ p) (hp7 : p ≤ 7) (hq : I64 q) (h : ¬ Vec p q xs) :
    Calls Try.prog 60 #[.slice a n c, .int .i64 p, .int .i64 q] w fun e w' => e = .returned (.bool false) ∧ w = w' := by rw [← vecB_f h]; exact isVector_any a n c xs p q w ha hl hn hp hp7 hq
set_option maxHeartbeats 400000 in
theorem l02Vector_any (a : Option Addr) (n c : Nat) (xs : List Int) (p q : Int) (w : World) (ha : RdI w a xs) (hl : xs.length = n) (hn : n ≤ 1048576) (hp : 2 ≤ p) (hp7 : p ≤ 7) (hq : I64 q) :
    Calls Try.prog 92 #[.int .i64 p, .int .i64 q, .slice a n c] w fun e w' => e = .returned (.bool (vecB p q xs)) ∧ w = w' := by
  have HA := Lib.hid ha
  have HL := Lib.hid hl
  obtain ⟨hq1, hq2⟩ := hq
  clear ha hl
  by_cases hle : (n : Int) = q
  · have g1 : ((n : Int) != q) = false := by rw [hle]; simp
    have HQ := Lib.hid hle
    clear hle
    have H0 : Hid (∀ j, j < 0 → 0 ≤ el xs j ∧ el xs j ≤ p - 1) := Lib.hid fun j h => absurd h (by omega)
    go_enter Try.func92, Try.ntmps92
    go_wp2
    go_loop [7] (fun i => ∃ k : Nat, k ≤ n ∧ i = .int .i64 k ∧ Hid (∀ j, j < k → 0 ≤ el xs j ∧ el xs j ≤ p - 1)) (fun i => n - (intOf i).toNat)
    case atStart => exact ⟨0, Nat.zero_le _, rfl, H0⟩
    case round =>
      obtain ⟨k, hk, rfl, HK⟩ := hrel
      clear H0
      by_cases hlt : k < n
      · obtain ⟨b, o, rfl, hc⟩ := HA.out (by rw [HL.out]; omega)
        have d := hc k (by rw [HL.out]; exact hlt)
        clear hc
        by_cases hin : 0 ≤ el xs k ∧ el xs k ≤ p - 1
        · obtain ⟨f1, f2⟩ := hin
          have HK1 : Hid (∀ j, j < k + 1 → 0 ≤ el xs j ∧ el xs j ≤ p - 1) := Lib.hid fun j hj => by
            by_cases he : j = k
            · subst he; exact ⟨f1, f2⟩
            · exact HK.out j (by omega)
          go_wp2_with (go_at_call 67; refine (l01In_t _ _ _ _ (by omega) (by omega)).mono ?_; rintro e w' ⟨rfl, rfl⟩)
          go_round
          case rel => exact ⟨k + 1, by omega, by go_num, HK1⟩
          case measure => simp [intOf]; omega
        · have H := Lib.hid (vecB_f (p := p) (q := q) (xs := xs) (fun h => hin (h.2 k (by rw [HL.out]; exact hlt))))
          have hin' : el xs k < 0 ∨ p - 1 < el xs k := by omega
          clear hin
          go_wp2_with (go_at_call 67; refine (l01In_f _ _ _ _ hin').mono ?_; rintro e w' ⟨rfl, rfl⟩)
          go_ret
          exact ⟨ret_bool H.out.symm, rfl⟩
      · obtain rfl : k = n := by omega
        have H := Lib.hid (vecB_t (p := p) (q := q) (xs := xs) ⟨by rw [HL.out]; exact HQ.out, fun j hj => HK.out j (by rw [HL.out] at hj; exact hj)⟩)
        go_wp2
        go_ret
        exact ⟨ret_bool H.out.symm, rfl⟩
  · have g1 : ((n : Int) != q) = true := bne_iff_ne.2 hle
    have H := Lib.hid (vecB_f (p := p) (q := q) (xs := xs) (fun h => hle (by rw [← h.1, HL.out])))
    clear hle
    go_enter Try.func92, Try.ntmps92
    go_wp2
    go_ret
    exact ⟨ret_bool H.out.symm, rfl⟩
theorem l02Vector_t (a : Option Addr) (n c : Nat) (xs : List Int) (p q : Int) (w : World) (ha : RdI w a xs) (hl : xs.length = n) (hn : n ≤ 1048576) (hp : 2 ≤ p) (hp7 : p ≤ 7) (hq : I64 q) (h : Vec p q xs) :
    Calls Try.prog 92 #[.int .i64 p, .int .i64 q, .slice a n c] w fun e w' => e = .returned (.bool true) ∧ w = w' := by rw [← vecB_t h]; exact l02Vector_any a n c xs p q w ha hl hn hp hp7 hq
theorem l02Vector_f (a : Option Addr) (n c : Nat) (xs : List Int) (p q : Int) (w : World) (ha : RdI w a xs) (hl : xs.length = n) (hn : n ≤ 1048576) (hp : 2 ≤ p) (hp7 : p ≤ 7) (hq : I64 q) (h : ¬ Vec p q xs) :
    Calls Try.prog 92 #[.int .i64 p, .int .i64 q, .slice a n c] w fun e w' => e = .returned (.bool false) ∧ w = w' := by rw [← vecB_f h]; exact l02Vector_any a n c xs p q w ha hl hn hp hp7 hq
set_option maxHeartbeats 1000000 in
theorem impl_IsMatrix_any (p q : Int) (a : Option Addr) (n c : Nat) (xss : List (List Int)) (w : World) (hp : I64 p) (hq : I64 q) (ha : RdR w a xss) (hl : xss.length = n) (hx : ∀ i, i < n → (rw_ xss i).length ≤ 1048576) (hn : n ≤ 1048576) (hcp : n ≤ c) :
    Calls Try.prog 29 #[.agg #[.int .i64 p, .int .i64 q, .slice a n c]] w fun e w' => e = .returned (.bool (isMx xss p q)) ∧ Below w.heap.size w w' := by
  have HA := Lib.hid ha
  have HL := Lib.hid hl
  have HX := Lib.hid hx
  have hB0 : ∀ o q, Below w.heap.size w ((w.alloc o).drewN q) := fun o q => below_drewN' ((Below.refl _ _).alloc (Nat.le_refl _) _) q
  obtain ⟨hq1, hq2⟩ := hq
  clear ha hl hx hp
  by_cases hg : GP p
  · have hg2 := hg.bd
    obtain ⟨p2, p7⟩ := hg2
    have HG := Lib.hid hg
    clear hg
    by_cases h2 : q < 0 ∨ 8 < q
    · have H := Lib.hid (isMx_f (xss := xss) (p := p) (q := q) (fun h => by have := h.q0; have := h.q8; omega))
      go_enter Try.func29, Try.ntmps29
      go_wp2_with (first
        | (go_at_call 58; refine (IsGroupPrime_t _ _ HG.out).mono ?_; rintro e w' ⟨rfl, rfl⟩)
        | (go_at_call 59; refine (inside_f _ _ _ _ h2).mono ?_; rintro e w' ⟨rfl, rfl⟩))
      go_ret
      exact ⟨ret_bool H.out.symm, hB0 _ 0⟩
    have q0 : 0 ≤ q := by omega
    have q8 : q ≤ 8 := by omega
    clear h2
    by_cases h1 : 8 < (n : Int)
    · have H := Lib.hid (isMx_f (xss := xss) (p := p) (q := q) (fun h => by have := h.len; have := HL.out; omega))
      have e1 : decide (8 < (n : Int)) = true := by simpa using h1
      go_enter Try.func29, Try.ntmps29
      go_wp2_with (first
        | (go_at_call 58; refine (IsGroupPrime_t _ _ HG.out).mono ?_; rintro e w' ⟨rfl, rfl⟩)
        | (go_at_call 59; refine (inside_t _ _ _ _ q0 q8).mono ?_; rintro e w' ⟨rfl, rfl⟩))
      go_ret
      exact ⟨ret_bool H.out.symm, hB0 _ 0⟩
    have e1 : decide (8 < (n : Int)) = false := by simp; omega
    go_enter Try.func29, Try.ntmps29
    go_wp2_with (first
        | (go_at_call 58; refine (IsGroupPrime_t _ _ HG.out).mono ?_; rintro e w' ⟨rfl, rfl⟩)
        | (go_at_call 59; refine (inside_t _ _ _ _ q0 q8).mono ?_; rintro e w' ⟨rfl, rfl⟩))
    have H0 : Hid (∀ i, i < 0 → Vec p q (rw_ xss i)) := Lib.hid fun j h => absurd h (by omega)
    go_loop [24] (fun i => ∃ k : Nat, k ≤ n ∧ i = .int .i64 k ∧ Hid (∀ i, i < k → Vec p q (rw_ xss i))) (fun i => n - (intOf i).toNat)
    case atStart => exact ⟨0, Nat.zero_le _, rfl, H0⟩
    case round =>
      obtain ⟨k, hk, rfl, HK⟩ := hrel
      clear H0
      by_cases hlt : k < n
      · have hk1 : (k : Int) < (n : Int) := by omega
        have hA := RdR.alloc HA.out (.cells #[.int .i64 p, .int .i64 q, .slice a n c] 26)
        obtain ⟨b, o, rfl, hc⟩ := hA (by rw [HL.out]; omega)
        obtain ⟨ai, ci, d, r, _⟩ := hc k (by rw [HL.out]; exact hlt)
        have R := Lib.hid r
        have hxk := HX.out k hlt
        clear hc r hA
        by_cases hf : Vec p q (rw_ xss k)
        · have HK1 : Hid (∀ i, i < k + 1 → Vec p q (rw_ xss i)) := Lib.hid fun j hj => by
            by_cases he : j = k
            · subst he; exact hf
            · exact HK.out j (by omega)
          have HF := Lib.hid hf
          clear hf
          go_wp2_with (go_at_call 60; refine (isVector_t _ _ _ (rw_ xss k) _ _ _ (by exact R.out) rfl hxk (by omega) (by omega) ⟨hq1, hq2⟩ HF.out).mono ?_; rintro e w' ⟨rfl, rfl⟩)
          go_round
          case rel => exact ⟨k + 1, by omega, by go_num, HK1⟩
          case measure => simp [intOf]; omega
        · have H := Lib.hid (isMx_f (xss := xss) (p := p) (q := q) (fun h => hf (h.row k (by rw [HL.out]; exact hlt))))
          have HF := Lib.hid hf
          clear hf
          go_wp2_with (go_at_call 60; refine (isVector_f _ _ _ (rw_ xss k) _ _ _ (by exact R.out) rfl hxk (by omega) (by omega) ⟨hq1, hq2⟩ HF.out).mono ?_; rintro e w' ⟨rfl, rfl⟩)
          go_ret
          exact ⟨ret_bool H.out.symm, hB0 _ 0⟩
      · obtain rfl : k = n := by omega
        have H := Lib.hid (isMx_t (xss := xss) (p := p) (q := q) ⟨HG.out, q0, q8, by have := HL.out; omega, fun i hi => HK.out i (by rw [HL.out] at hi; exact hi)⟩)
        go_wp2
        go_ret
        exact ⟨ret_bool H.out.symm, hB0 _ 0⟩
  · have H := Lib.hid (isMx_f (xss := xss) (p := p) (q := q) (fun h => hg h.gp))
    have HG := Lib.hid hg
    clear hg
    go_enter Try.func29, Try.ntmps29
    go_wp2_with (go_at_call 58; refine (IsGroupPrime_f _ _ HG.out).mono ?_; rintro e w' ⟨rfl, rfl⟩)
    go_ret
    exact ⟨ret_bool H.out.symm, hB0 _ 0⟩
/-- the box of a matrix stands in the world of a round -/
def MxW (w wr : World) (p q : Int) (a : Option Addr) (n c : Nat) : Prop := Below w.heap.size w wr ∧ wr.cell? ⟨w.heap.size, 0, none⟩ = some (.int .i64 p) ∧ wr.cell? ⟨w.heap.size, 1, none⟩ = some (.int .i64 q) ∧ wr.cell? ⟨w.heap.size, 2, none⟩ = some (.slice a n c)
theorem MxW.drewN {w wr : World} {a : Option Addr} {n c : Nat} {p q : Int} (h : MxW w wr p q a n c) (k : Nat) : MxW w (wr.drewN k) p q a n c := ⟨below_drewN' h.1 k, h.2.1, h.2.2.1, h.2.2.2⟩
set_option maxHeartbeats 1000000 in
theorem spec_IsMatrix_any (p q : Int) (a : Option Addr) (n c : Nat) (xss : List (List Int)) (w : World) (hp : I64 p) (hq : I64 q) (ha : RdR w a xss) (hl : xss.length = n) (hx : ∀ i, i < n → (rw_ xss i).length ≤ 1048576) (hn : n ≤ 1048576) (hcp : n ≤ c) :
    Calls Try.prog 52 #[.agg #[.int .i64 p, .int .i64 q, .slice a n c]] w fun e w' => e = .returned (.bool (isMx xss p q)) ∧ Below w.heap.size w w' := by
  have HA := Lib.hid ha
  have HL := Lib.hid hl
  have HX := Lib.hid hx
  have hB0 : ∀ o q, Below w.heap.size w ((w.alloc o).drewN q) := fun o q => below_drewN' ((Below.refl _ _).alloc (Nat.le_refl _) _) q
  obtain ⟨hq1, hq2⟩ := hq
  clear ha hl hx hp
  by_cases hg : GP p
  · have hg2 := hg.bd
    obtain ⟨p2, p7⟩ := hg2
    have HG := Lib.hid hg
    clear hg
    by_cases h2 : q < 0 ∨ 8 < q
    · have H := Lib.hid (isMx_f (xss := xss) (p := p) (q := q) (fun h => by have := h.q0; have := h.q8; omega))
      go_enter Try.func52, Try.ntmps52
      go_wp2_with (first
        | (go_at_call 66; refine (l01Prime_t _ _ HG.out).mono ?_; rintro e w' ⟨rfl, rfl⟩)
        | (go_at_call 67; refine (l01In_f _ _ _ _ h2).mono ?_; rintro e w' ⟨rfl, rfl⟩))
      go_ret
      exact ⟨ret_bool H.out.symm, hB0 _ 0⟩
    have q0 : 0 ≤ q := by omega
    have q8 : q ≤ 8 := by omega
    clear h2
    by_cases h1 : 8 < (n : Int)
    · have H := Lib.hid (isMx_f (xss := xss) (p := p) (q := q) (fun h => by have := h.len; have := HL.out; omega))
      have e1 : decide (8 < (n : Int)) = true := by simpa using h1
      go_enter Try.func52, Try.ntmps52
      go_wp2_with (first
        | (go_at_call 66; refine (l01Prime_t _ _ HG.out).mono ?_; rintro e w' ⟨rfl, rfl⟩)
        | (go_at_call 67; refine (l01In_t _ _ _ _ q0 q8).mono ?_; rintro e w' ⟨rfl, rfl⟩))
      go_ret
      exact ⟨ret_bool H.out.symm, hB0 _ 0⟩
    have e1 : decide (8 < (n : Int)) = false := by simp; omega
    go_enter Try.func52, Try.ntmps52
    go_wp2_with (first
        | (go_at_call 66; refine (l01Prime_t _ _ HG.out).mono ?_; rintro e w' ⟨rfl, rfl⟩)
        | (go_at_call 67; refine (l01In_t _ _ _ _ q0 q8).mono ?_; rintro e w' ⟨rfl, rfl⟩))
    have H0 : Hid (∀ i, i < 0 → Vec p q (rw_ xss i)) := Lib.hid fun j h => absurd h (by omega)
    have HW0 : Hid (MxW w (w.alloc (.cells #[.int .i64 p, .int .i64 q, .slice a n c] 26)) p q a n c) := Lib.hid ⟨(Below.refl _ _).alloc (Nat.le_refl _) _, by simp, by simp, by simp⟩
    go_loopw [3] (fun i wr => ∃ k : Nat, k ≤ n ∧ i = .int .i64 k ∧ Hid (MxW w wr p q a n c) ∧ Hid (∀ i, i < k → Vec p q (rw_ xss i))) (fun i _ => n - (intOf i).toNat)
    case atStart => exact ⟨0, Nat.zero_le _, rfl, HW0, H0⟩
    case round =>
      obtain ⟨k, hk, rfl, HW, HK⟩ := hrel
      clear H0 HW0
      have p0 := HW.out.2.1
      have p1 := HW.out.2.2.1
      have p2 := HW.out.2.2.2
      by_cases hlt : k < n
      · have hk1 : (k : Int) < (n : Int) := by omega
        obtain ⟨b, o, rfl, hc⟩ := (HA.out.keep HW.out.1 (Nat.le_refl _)) (by rw [HL.out]; omega)
        obtain ⟨ai, ci, d, r, _⟩ := hc k (by rw [HL.out]; exact hlt)
        have R := Lib.hid r
        have hxk := HX.out k hlt
        clear hc r
        by_cases hf : Vec p q (rw_ xss k)
        · have HK1 : Hid (∀ i, i < k + 1 → Vec p q (rw_ xss i)) := Lib.hid fun j hj => by
            by_cases he : j = k
            · subst he; exact hf
            · exact HK.out j (by omega)
          have HF := Lib.hid hf
          clear hf
          go_wp2
          go_quiet ((go_at_call 92; exact quiet_eq (l02Vector_t _ _ _ (rw_ xss k) _ _ _ (by exact R.out) rfl hxk (by omega) (by omega) ⟨hq1, hq2⟩ HF.out)))
          go_wp2
          go_roundw
          case rel => exact ⟨k + 1, by omega, by go_num, Lib.hid (HW.out.drewN nq), HK1⟩
          case measure => simp [intOf]; omega
        · have H := Lib.hid (isMx_f (xss := xss) (p := p) (q := q) (fun h => hf (h.row k (by rw [HL.out]; exact hlt))))
          have HF := Lib.hid hf
          clear hf
          go_wp2
          go_quiet ((go_at_call 92; exact quiet_eq (l02Vector_f _ _ _ (rw_ xss k) _ _ _ (by exact R.out) rfl hxk (by omega) (by omega) ⟨hq1, hq2⟩ HF.out)))
          go_wp2
          go_ret
          exact ⟨ret_bool H.out.symm, below_drewN' HW.out.1 _⟩
      · obtain rfl : k = n := by omega
        have H := Lib.hid (isMx_t (xss := xss) (p := p) (q := q) ⟨HG.out, q0, q8, by have := HL.out; omega, fun i hi => HK.out i (by rw [HL.out] at hi; exact hi)⟩)
        go_wp2
        go_ret
        exact ⟨ret_bool H.out.symm, HW.out.1⟩
  · have H := Lib.hid (isMx_f (xss := xss) (p := p) (q := q) (fun h => hg h.gp))
    have HG := Lib.hid hg
    clear hg
    go_enter Try.func52, Try.ntmps52
    go_wp2_with (go_at_call 66; refine (l01Prime_f _ _ HG.out).mono ?_; rintro e w' ⟨rfl, rfl⟩)
    go_ret
    exact ⟨ret_bool H.out.symm, hB0 _ 0⟩
end Go.Proofs.Ytpkdgemnddcefaa
