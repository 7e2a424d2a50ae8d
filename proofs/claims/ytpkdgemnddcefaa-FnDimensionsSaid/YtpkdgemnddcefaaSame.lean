/- Whether two lists of rows are one: the program (slices.EqualFunc with slices.Equal) and the reference. -/
import Derived.Test.YtpkdgemnddcefaaMatRed
import Derived.Deep.RegionHeld3
import Derived.OwnWalk
set_option linter.unusedVariables false
set_option linter.unusedSimpArgs false
namespace Go.Proofs.Ytpkdgemnddcefaa
open Go.RowKit

def sameI (xs ys : List Int) : Bool := decide (xs = ys)
def sameR (xss yss : List (List Int)) : Bool := decide (xss = yss)
theorem sameI_t {xs ys : List Int} (hl : xs.length = ys.length) (h : ∀ j, j < xs.length → el xs j = el ys j) : sameI xs ys = true := by
  unfold sameI
  rw [decide_eq_true_eq]
  apply List.ext_getElem hl
  intro i h1 h2
  have := h i h1
  simpa [el, h1, h2] using this
theorem sameI_f {xs ys : List Int} (h : xs ≠ ys) : sameI xs ys = false := by unfold sameI; simpa using h
theorem sameI_el {xs ys : List Int} (j : Nat) (h : el xs j ≠ el ys j) : sameI xs ys = false := sameI_f fun e => h (by rw [e])
theorem sameI_len {xs ys : List Int} (h : xs.length ≠ ys.length) : sameI xs ys = false := sameI_f fun e => h (by rw [e])
theorem sameI_iff {xs ys : List Int} : sameI xs ys = true ↔ xs = ys := by unfold sameI; simp
theorem sameR_t {xs ys : List (List Int)} (hl : xs.length = ys.length) (h : ∀ j, j < xs.length → rw_ xs j = rw_ ys j) : sameR xs ys = true := by
  unfold sameR
  rw [decide_eq_true_eq]
  apply List.ext_getElem hl
  intro i h1 h2
  have := h i h1
  simpa [rw_, h1, h2] using this
theorem sameR_f {xs ys : List (List Int)} (h : xs ≠ ys) : sameR xs ys = false := by unfold sameR; simpa using h
theorem sameR_rw {xs ys : List (List Int)} (j : Nat) (h : sameI (rw_ xs j) (rw_ ys j) = false) : sameR xs ys = false := sameR_f fun e => by
  rw [e] at h; simp [sameI] at h
theorem sameR_len {xs ys : List (List Int)} (h : xs.length ≠ ys.length) : sameR xs ys = false := sameR_f fun e => h (by rw [e])

/-- the matrix is a subspace's reduced form -/
noncomputable def subB (xss : List (List Int)) (p q : Int) : Bool := isMx xss p q && @decide (IsRref p q.toNat xss xss) (Classical.propDecidable _)
theorem subB_no {xss : List (List Int)} {p q : Int} (h : isMx xss p q = false) : subB xss p q = false := by unfold subB; simp [h]
theorem subB_same {xss R : List (List Int)} {p q : Int} (h : isMx xss p q = true) (hR : IsRref p q.toNat xss R) : subB xss p q = sameR R xss := by
  unfold subB
  rw [h, Bool.true_and]
  by_cases he : R = xss
  · have : IsRref p q.toNat xss xss := by rw [he] at hR; exact hR
    simp [this, sameR, he]
  · have : ¬ IsRref p q.toNat xss xss := fun k => he (hR.unique k (isMx_ok h).gp.bd.1)
    simp [this, sameR, he]

theorem quiet_dr {P : Program} {f : FuncId} {args : Array Value} {w : World} {n : Nat} {v : Value} (h : Calls P f args (w.drewN n) fun e w' => e = .returned v ∧ ∃ t, w' = (w.drewN n).drewN t) : Calls P f args (w.drewN n) fun e w'' => e = .returned v ∧ ∃ m, w'' = w.drewN m :=
  h.mono fun _ _ ⟨he, t, hm⟩ => ⟨he, n + t, by rw [hm]; simp⟩

set_option maxHeartbeats 400000 in
theorem slicesEqual_any (a b : Option Addr) (n m ca cb : Nat) (xs ys : List Int) (w : World) (ha : RdI w a xs) (hb : RdI w b ys) (hn : xs.length = n) (hm : ys.length = m) (h1 : n ≤ 1048576) (h2 : m ≤ 1048576) :
    Calls Try.prog 62 #[.slice a n ca, .slice b m cb] w fun e w' => e = .returned (.bool (sameI xs ys)) ∧ ∃ t, w' = w.drewN t := by
  have HA := Lib.hid ha
  have HB := Lib.hid hb
  have HN := Lib.hid hn
  have HM := Lib.hid hm
  clear ha hb hn hm
  by_cases hnm : n = m
  rotate_left
  · have H := Lib.hid (sameI_len (xs := xs) (ys := ys) (by rw [HN.out, HM.out]; exact hnm))
    have hnm' : ¬ (n : Int) = m := by omega
    go_enter Try.func62, Try.ntmps62
    go_wp2
    go_ret
    exact ⟨ret_bool H.out.symm, 0, rfl⟩
  subst hnm
  have H0 : Hid (∀ j, j < 0 → el xs j = el ys j) := Lib.hid fun j h => absurd h (by omega)
  go_enter Try.func62, Try.ntmps62
  go_wp2
  go_loopw [13] (fun i wr => ∃ k : Nat, k ≤ n ∧ i = .int .i64 k ∧ Hid (∀ j, j < k → el xs j = el ys j) ∧ ∃ t, wr = w.drewN t) (fun i _ => n - (intOf i).toNat)
  case atStart => exact ⟨0, Nat.zero_le _, rfl, H0, 0, rfl⟩
  case round =>
    obtain ⟨k, hk, rfl, HK, t, rfl⟩ := hrel
    clear H0
    by_cases hlt : k < n
    · obtain ⟨b1, o1, rfl, h1⟩ := HA.out (by rw [HN.out]; omega)
      obtain ⟨b2, o2, rfl, h2⟩ := HB.out (by rw [HM.out]; omega)
      have c1 := h1 k (by rw [HN.out]; exact hlt)
      have c2 := h2 k (by rw [HM.out]; exact hlt)
      clear h1 h2
      have hi : (k : Int) < n := by omega
      by_cases he : el xs k = el ys k
      · have HK1 : Hid (∀ j, j < k + 1 → el xs j = el ys j) := Lib.hid fun j hj => by
          by_cases hh : j = k
          · rw [hh]; exact he
          · exact HK.out j (by omega)
        rw [← he] at c2
        clear he
        go_wp2
        go_quiet (fail)
        go_wp2
        go_roundw
        case rel => exact ⟨k + 1, by omega, by go_num, HK1, t + nq, by simp⟩
        case measure => simp [intOf]; omega
      · have H := Lib.hid (sameI_el k he)
        go_wp2
        go_quiet (fail)
        go_wp2
        go_ret
        exact ⟨ret_bool H.out.symm, t + nq, by simp⟩
    · obtain rfl : k = n := by omega
      have H := Lib.hid (sameI_t (xs := xs) (ys := ys) (by rw [HN.out, HM.out]) (fun j hj => HK.out j (by rw [HN.out] at hj; exact hj)))
      go_wp2
      go_ret
      exact ⟨ret_bool H.out.symm, t, rfl⟩
set_option maxHeartbeats 400000 in
theorem l01Same_any (a b : Option Addr) (n m ca cb : Nat) (xs ys : List Int) (w : World) (ha : RdI w a xs) (hb : RdI w b ys) (hn : xs.length = n) (hm : ys.length = m) (h1 : n ≤ 1048576) (h2 : m ≤ 1048576) :
    Calls Try.prog 93 #[.slice a n ca, .slice b m cb] w fun e w' => e = .returned (.bool (sameI xs ys)) ∧ ∃ t, w' = w.drewN t := by
  have HA := Lib.hid ha
  have HB := Lib.hid hb
  have HN := Lib.hid hn
  have HM := Lib.hid hm
  clear ha hb hn hm
  by_cases hnm : n = m
  rotate_left
  · have H := Lib.hid (sameI_len (xs := xs) (ys := ys) (by rw [HN.out, HM.out]; exact hnm))
    have hnm' : ¬ (n : Int) = m := by omega
    go_enter Try.func93, Try.ntmps93
    go_wp2
    go_ret
    exact ⟨ret_bool H.out.symm, 0, rfl⟩
  subst hnm
  have H0 : Hid (∀ j, j < 0 → el xs j = el ys j) := Lib.hid fun j h => absurd h (by omega)
  go_enter Try.func93, Try.ntmps93
  go_wp2
  go_loopw [5] (fun i wr => ∃ k : Nat, k ≤ n ∧ i = .int .i64 k ∧ Hid (∀ j, j < k → el xs j = el ys j) ∧ ∃ t, wr = w.drewN t) (fun i _ => n - (intOf i).toNat)
  case atStart => exact ⟨0, Nat.zero_le _, rfl, H0, 0, rfl⟩
  case round =>
    obtain ⟨k, hk, rfl, HK, t, rfl⟩ := hrel
    clear H0
    by_cases hlt : k < n
    · obtain ⟨b1, o1, rfl, h1⟩ := HA.out (by rw [HN.out]; omega)
      obtain ⟨b2, o2, rfl, h2⟩ := HB.out (by rw [HM.out]; omega)
      have c1 := h1 k (by rw [HN.out]; exact hlt)
      have c2 := h2 k (by rw [HM.out]; exact hlt)
      clear h1 h2
      have hi : (k : Int) < n := by omega
      by_cases he : el xs k = el ys k
      · have HK1 : Hid (∀ j, j < k + 1 → el xs j = el ys j) := Lib.hid fun j hj => by
          by_cases hh : j = k
          · rw [hh]; exact he
          · exact HK.out j (by omega)
        rw [← he] at c2
        clear he
        go_wp2
        go_quiet (fail)
        go_wp2
        go_roundw
        case rel => exact ⟨k + 1, by omega, by go_num, HK1, t + nq, by simp⟩
        case measure => simp [intOf]; omega
      · have H := Lib.hid (sameI_el k he)
        go_wp2
        go_quiet (fail)
        go_wp2
        go_ret
        exact ⟨ret_bool H.out.symm, t + nq, by simp⟩
    · obtain rfl : k = n := by omega
      have H := Lib.hid (sameI_t (xs := xs) (ys := ys) (by rw [HN.out, HM.out]) (fun j hj => HK.out j (by rw [HN.out] at hj; exact hj)))
      go_wp2
      go_ret
      exact ⟨ret_bool H.out.symm, t, rfl⟩
set_option maxHeartbeats 800000 in
theorem l01Same2_any (a b : Option Addr) (n m ca cb : Nat) (xss yss : List (List Int)) (w : World) (ha : RdR w a xss) (hb : RdR w b yss) (hn : xss.length = n) (hm : yss.length = m) (h1 : n ≤ 1048576) (h2 : m ≤ 1048576) (hx : ∀ i, i < n → (rw_ xss i).length ≤ 1048576) (hy : ∀ i, i < m → (rw_ yss i).length ≤ 1048576) :
    Calls Try.prog 53 #[.slice a n ca, .slice b m cb] w fun e w' => e = .returned (.bool (sameR xss yss)) ∧ ∃ t, w' = w.drewN t := by
  have HA := Lib.hid ha
  have HB := Lib.hid hb
  have HN := Lib.hid hn
  have HM := Lib.hid hm
  have HX := Lib.hid hx
  have HY := Lib.hid hy
  clear ha hb hn hm hx hy
  by_cases hnm : n = m
  rotate_left
  · have H := Lib.hid (sameR_len (xs := xss) (ys := yss) (by rw [HN.out, HM.out]; exact hnm))
    have hnm' : ¬ (n : Int) = m := by omega
    go_enter Try.func53, Try.ntmps53
    go_wp2
    go_ret
    exact ⟨ret_bool H.out.symm, 0, rfl⟩
  subst hnm
  have H0 : Hid (∀ j, j < 0 → rw_ xss j = rw_ yss j) := Lib.hid fun j h => absurd h (by omega)
  go_enter Try.func53, Try.ntmps53
  go_wp2
  go_loopw [5] (fun i wr => ∃ k : Nat, k ≤ n ∧ i = .int .i64 k ∧ Hid (∀ j, j < k → rw_ xss j = rw_ yss j) ∧ ∃ t, wr = w.drewN t) (fun i _ => n - (intOf i).toNat)
  case atStart => exact ⟨0, Nat.zero_le _, rfl, H0, 0, rfl⟩
  case round =>
    obtain ⟨k, hk, rfl, HK, hw⟩ := hrel
    have HW := Lib.hid hw
    have HA2 : Hid (RdR wr a xss) := Lib.hid (by obtain ⟨t, rfl⟩ := hw; exact HA.out.keep (below_drewN' (Below.refl _ _) t) (Nat.le_refl _))
    have HB2 : Hid (RdR wr b yss) := Lib.hid (by obtain ⟨t, rfl⟩ := hw; exact HB.out.keep (below_drewN' (Below.refl _ _) t) (Nat.le_refl _))
    clear hw
    clear H0
    by_cases hlt : k < n
    · obtain ⟨b1, o1, rfl, h1⟩ := HA2.out (by rw [HN.out]; omega)
      obtain ⟨b2, o2, rfl, h2⟩ := HB2.out (by rw [HM.out]; omega)
      obtain ⟨a1, k1, c1, r1, l1⟩ := h1 k (by rw [HN.out]; exact hlt)
      obtain ⟨a2, k2, c2, r2, l2⟩ := h2 k (by rw [HM.out]; exact hlt)
      clear h1 h2
      have R1 := Lib.hid r1
      have R2 := Lib.hid r2
      clear r1 r2
      have s1 := HX.out k hlt
      have s2 := HY.out k hlt
      have hi : (k : Int) < n := by omega
      cases he : sameI (rw_ xss k) (rw_ yss k)
      · have H := Lib.hid (sameR_rw k he)
        go_wp2
        go_quiet (go_loud (go_at_call 93; refine quiet_dr (v := .bool false) ?_; refine (l01Same_any _ _ _ _ _ _ _ _ _ (R1.out.keep (below_drewN' (Below.refl _ _) _) (Nat.le_refl _)) (R2.out.keep (below_drewN' (Below.refl _ _) _) (Nat.le_refl _)) rfl rfl s1 s2).mono ?_; intro e w' h; rw [he] at h; exact h))
        go_wp2
        go_ret
        obtain ⟨t, ht⟩ := HW.out
        exact ⟨ret_bool H.out.symm, t + nq, by rw [ht]; simp⟩
      · have HK1 : Hid (∀ j, j < k + 1 → rw_ xss j = rw_ yss j) := Lib.hid fun j hj => by
          by_cases hh : j = k
          · rw [hh]; exact sameI_iff.1 he
          · exact HK.out j (by omega)
        go_wp2
        go_quiet (go_loud (go_at_call 93; refine quiet_dr (v := .bool true) ?_; refine (l01Same_any _ _ _ _ _ _ _ _ _ (R1.out.keep (below_drewN' (Below.refl _ _) _) (Nat.le_refl _)) (R2.out.keep (below_drewN' (Below.refl _ _) _) (Nat.le_refl _)) rfl rfl s1 s2).mono ?_; intro e w' h; rw [he] at h; exact h))
        go_wp2
        go_roundw
        case rel =>
          obtain ⟨t, ht⟩ := HW.out
          exact ⟨k + 1, by omega, by go_num, HK1, t + nq, by rw [ht]; simp⟩
        case measure => simp [intOf]; omega
    · obtain rfl : k = n := by omega
      have H := Lib.hid (sameR_t (xs := xss) (ys := yss) (by rw [HN.out, HM.out]) (fun j hj => HK.out j (by rw [HN.out] at hj; exact hj)))
      go_wp2
      go_ret
      exact ⟨ret_bool H.out.symm, HW.out⟩
set_option maxHeartbeats 800000 in
theorem equalFunc_any (a b : Option Addr) (n m ca cb : Nat) (xss yss : List (List Int)) (w : World) (ha : RdR w a xss) (hb : RdR w b yss) (hn : xss.length = n) (hm : yss.length = m) (h1 : n ≤ 1048576) (h2 : m ≤ 1048576) (hx : ∀ i, i < n → (rw_ xss i).length ≤ 1048576) (hy : ∀ i, i < m → (rw_ yss i).length ≤ 1048576) :
    Calls Try.prog 61 #[.slice a n ca, .slice b m cb, .func (.func 62) #[] #[]] w fun e w' => e = .returned (.bool (sameR xss yss)) ∧ ∃ t, w' = w.drewN t := by
  have HA := Lib.hid ha
  have HB := Lib.hid hb
  have HN := Lib.hid hn
  have HM := Lib.hid hm
  have HX := Lib.hid hx
  have HY := Lib.hid hy
  clear ha hb hn hm hx hy
  by_cases hnm : n = m
  rotate_left
  · have H := Lib.hid (sameR_len (xs := xss) (ys := yss) (by rw [HN.out, HM.out]; exact hnm))
    have hnm' : ¬ (n : Int) = m := by omega
    go_enter Try.func61, Try.ntmps61
    go_wp2
    go_ret
    exact ⟨ret_bool H.out.symm, 0, rfl⟩
  subst hnm
  have H0 : Hid (∀ j, j < 0 → rw_ xss j = rw_ yss j) := Lib.hid fun j h => absurd h (by omega)
  go_enter Try.func61, Try.ntmps61
  go_wp2
  go_loopw [17] (fun i wr => ∃ k : Nat, k ≤ n ∧ i = .int .i64 k ∧ Hid (∀ j, j < k → rw_ xss j = rw_ yss j) ∧ ∃ t, wr = w.drewN t) (fun i _ => n - (intOf i).toNat)
  case atStart => exact ⟨0, Nat.zero_le _, rfl, H0, 0, rfl⟩
  case round =>
    obtain ⟨k, hk, rfl, HK, hw⟩ := hrel
    have HW := Lib.hid hw
    have HA2 : Hid (RdR wr a xss) := Lib.hid (by obtain ⟨t, rfl⟩ := hw; exact HA.out.keep (below_drewN' (Below.refl _ _) t) (Nat.le_refl _))
    have HB2 : Hid (RdR wr b yss) := Lib.hid (by obtain ⟨t, rfl⟩ := hw; exact HB.out.keep (below_drewN' (Below.refl _ _) t) (Nat.le_refl _))
    clear hw
    clear H0
    by_cases hlt : k < n
    · obtain ⟨b1, o1, rfl, h1⟩ := HA2.out (by rw [HN.out]; omega)
      obtain ⟨b2, o2, rfl, h2⟩ := HB2.out (by rw [HM.out]; omega)
      obtain ⟨a1, k1, c1, r1, l1⟩ := h1 k (by rw [HN.out]; exact hlt)
      obtain ⟨a2, k2, c2, r2, l2⟩ := h2 k (by rw [HM.out]; exact hlt)
      clear h1 h2
      have R1 := Lib.hid r1
      have R2 := Lib.hid r2
      clear r1 r2
      have s1 := HX.out k hlt
      have s2 := HY.out k hlt
      have hi : (k : Int) < n := by omega
      cases he : sameI (rw_ xss k) (rw_ yss k)
      · have H := Lib.hid (sameR_rw k he)
        go_wp2_with (go_at_call 62; refine (slicesEqual_any _ _ _ _ _ _ _ _ _ ?_ ?_ rfl rfl s1 s2).mono ?_; exact R1.out; exact R2.out; rintro e w' ⟨rfl, t2, rfl⟩)
        go_ret
        obtain ⟨t, ht⟩ := HW.out
        exact ⟨ret_bool H.out.symm, t + t2, by rw [ht]; simp⟩
      · have HK1 : Hid (∀ j, j < k + 1 → rw_ xss j = rw_ yss j) := Lib.hid fun j hj => by
          by_cases hh : j = k
          · rw [hh]; exact sameI_iff.1 he
          · exact HK.out j (by omega)
        go_wp2_with (go_at_call 62; refine (slicesEqual_any _ _ _ _ _ _ _ _ _ ?_ ?_ rfl rfl s1 s2).mono ?_; exact R1.out; exact R2.out; rintro e w' ⟨rfl, t2, rfl⟩)
        go_roundw
        case rel =>
          obtain ⟨t, ht⟩ := HW.out
          exact ⟨k + 1, by omega, by go_num, HK1, t + t2, by rw [ht]; simp⟩
        case measure => simp [intOf]; omega
    · obtain rfl : k = n := by omega
      have H := Lib.hid (sameR_t (xs := xss) (ys := yss) (by rw [HN.out, HM.out]) (fun j hj => HK.out j (by rw [HN.out] at hj; exact hj)))
      go_wp2
      go_ret
      exact ⟨ret_bool H.out.symm, HW.out⟩
set_option maxHeartbeats 400000 in
theorem sameRows_any (a b : Option Addr) (n m ca cb : Nat) (xss yss : List (List Int)) (w : World) (ha : RdR w a xss) (hb : RdR w b yss) (hn : xss.length = n) (hm : yss.length = m) (h1 : n ≤ 1048576) (h2 : m ≤ 1048576) (hx : ∀ i, i < n → (rw_ xss i).length ≤ 1048576) (hy : ∀ i, i < m → (rw_ yss i).length ≤ 1048576) :
    Calls Try.prog 30 #[.slice a n ca, .slice b m cb] w fun e w' => e = .returned (.bool (sameR xss yss)) ∧ ∃ t, w' = w.drewN t := by
  have HA := Lib.hid ha
  have HB := Lib.hid hb
  have HN := Lib.hid hn
  have HM := Lib.hid hm
  have HX := Lib.hid hx
  have HY := Lib.hid hy
  clear ha hb hn hm hx hy
  go_enter Try.func30, Try.ntmps30
  go_wp2_with (go_at_call 61; refine (equalFunc_any _ _ _ _ _ _ xss yss _ HA.out HB.out HN.out HM.out h1 h2 HX.out HY.out).mono ?_; rintro e w' ⟨rfl, t, rfl⟩)
  go_ret
  exact ⟨rfl, t, rfl⟩
end Go.Proofs.Ytpkdgemnddcefaa
