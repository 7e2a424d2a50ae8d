/- The laws' helpers on tables. -/
import Derived.Test.YtjnkhbaklilkkaaTab
import Derived.Test.YtjnkhbaklilkkaaHeld
set_option linter.unusedVariables false
set_option linter.unusedSimpArgs false
namespace Go.Proofs.Ytjnkhbaklilkkaa
open Go.RowKit

theorem szTable_any (q : Int) (a : Option Addr) (n c : Nat) (xss : List (List Int)) (left : Int) (w : World) (ha : RdR w a xss) (hl : xss.length = n) (hx : ∀ xs ∈ xss, xs.length ≤ maxLen) (hn : n ≤ maxLen) (h0 : 0 ≤ left) (h1 : left ≤ 1048576) :
    Calls Try.prog 15 #[.agg #[.int .i64 q, .slice a n c], .int .i64 left] w fun e w' => ∃ z : Int, e = .returned (.int .i64 z) ∧ (z = -1 ∨ (0 ≤ z ∧ z ≤ left ∧ (xss.length : Int) ≤ left ∧ ∀ i, i < xss.length → ((rw_ xss i).length : Int) ≤ left)) ∧ Below w.heap.size w w' := by
  have HA := Lib.hid ha
  have HL := Lib.hid hl
  have HX := Lib.hid hx
  clear ha hl hx
  go_enter Try.func15, Try.ntmps15
  go_wp2_with fail
  refine (szInt64SS_any _ _ _ xss _ _ (by exact HA.out.alloc _) HL.out HX.out hn h0 h1).mono ?_
  rintro e w1 ⟨z, rfl, hz, rfl⟩
  rcases hz with rfl | ⟨z0, z1, z2, z3⟩
  · go_wp2_with fail
    go_ret
    exact ⟨_, rfl, .inl rfl, (Below.refl _ _).alloc (Nat.le_refl _) _⟩
  · have Z3 := Lib.hid z3
    clear z3
    go_wp2_with fail
    go_ret
    exact ⟨_, rfl, .inr ⟨z0, z1, z2, Z3.out⟩, (Below.refl _ _).alloc (Nat.le_refl _) _⟩
set_option maxHeartbeats 400000 in
theorem toTable_any (q : Int) (a : Option Addr) (n c : Nat) (xss : List (List Int)) (w : World) (ha : RdR w a xss) (hl : xss.length = n) (hx : ∀ i, i < n → (rw_ xss i).length ≤ 1048576) (hn : n ≤ 1048576) :
    Calls Try.prog 17 #[.agg #[.int .i64 q, .slice a n c]] w fun e w' => ∃ a' c', e = .returned (.agg #[.int .i64 q, .slice a' n c']) ∧ MadeR 35 2 w' w.heap.size a' n c' xss ∧ Below w.heap.size w w' := by
  have HA := Lib.hid ha
  have HL := Lib.hid hl
  have HX := Lib.hid hx
  clear ha hl hx
  go_enter Try.func17, Try.ntmps17
  go_wp2_with fail
  refine (toInt64SS_any _ _ _ xss _ (by exact ((HA.out.alloc _).alloc _).alloc _) HL.out HX.out hn).mono ?_
  rintro e w1 ⟨a', c', rfl, ho, hb⟩
  have HO := Lib.hid ho
  have HB := Lib.hid hb
  obtain ⟨hc, hf⟩ := bcell hb
  have hz : w.heap.size + 2 < w1.heap.size := by have := hb.size; simp at this; omega
  clear ho hb
  go_wp2_with fail
  refine bodyPost_ret (v := .agg #[.int .i64 q, .slice a' n c']) (by simp [results, Try.results17, go_sem, hc, hz]) rfl ⟨a', c', rfl, ?_, ?_⟩
  · refine MadeR.mono (B := w.heap.size + 3) ?_ (by omega)
    exact (((HO.out.mono (by simp)).setLow _ (by first | (simp; done) | (simp; omega)) _).setLow _ (by first | (simp; done) | (simp; omega)) _).setLow _ (by first | (simp; done) | (simp; omega)) _
  · exact ((((((((Below.refl _ _).alloc (by first | exact Nat.le_refl _ | (simp; done) | (simp; omega)) _).alloc (by first | exact Nat.le_refl _ | (simp; done) | (simp; omega)) _).alloc (by first | exact Nat.le_refl _ | (simp; done) | (simp; omega)) _).trans (HB.out.mono (by first | (simp; done) | (simp; omega)))).setCell (by first | (simp; done) | (simp; omega)) _).setCell (by first | (simp; done) | (simp; omega)) _).setCell (by first | (simp; done) | (simp; omega)) _)
set_option maxHeartbeats 400000 in
theorem eqTable_t (q : Int) (a b : Option Addr) (n m ca cb : Nat) (xss : List (List Int)) (w : World) (ha : RdR w a xss) (hb : RdR w b xss) (hn : xss.length = n) (hm : xss.length = m) (hl : n ≤ 1048576) (hx : ∀ i, i < n → (rw_ xss i).length ≤ 1048576) :
    Calls Try.prog 19 #[.agg #[.int .i64 q, .slice a n ca], .agg #[.int .i64 q, .slice b m cb]] w fun e w' => e = .returned (.bool true) ∧ Below w.heap.size w w' := by
  have HA := Lib.hid ha
  have HB := Lib.hid hb
  have HN := Lib.hid hn
  have HM := Lib.hid hm
  have HX := Lib.hid hx
  clear ha hb hn hm hx
  go_enter Try.func19, Try.ntmps19
  go_wp2_with fail
  refine (eqInt64SS_t _ _ _ _ _ _ xss _ (by exact (HA.out.alloc _).alloc _) (by exact (HB.out.alloc _).alloc _) HN.out HM.out (by omega) HX.out).mono ?_
  rintro e w' ⟨rfl, t, rfl⟩
  go_wp2_with fail
  go_ret
  exact ⟨rfl, below_drewN' (((Below.refl _ _).alloc (Nat.le_refl _) _).alloc (by simp) _) _⟩
set_option maxHeartbeats 400000 in
theorem markTable_t (T2 : TypeId) (q : Int) (a : Option Addr) (n c B : Nat) (xss : List (List Int)) (A : Nat → Option Addr) (C : Nat → Nat) (m : Int) (w : World) (ha : HasR T2 w B a n c xss A C) (hl : n ≤ 1048576) (hx : ∀ i, i < n → (rw_ xss i).length ≤ 1048576) (h0 : 0 ≤ m) (h1 : m ≤ 50000000000000) :
    Calls Try.prog 35 #[.agg #[.int .i64 q, .slice a n c], .int .i64 m] w fun e w' => e = .returned (.int .i64 (m + offs xss n)) ∧ RdR w' a (mkR m xss) ∧ Chg (RowBlk n A) w w' := by
  have HA := Lib.hid ha
  have HX := Lib.hid hx
  have ho := offs_small hl hx
  clear ha hx
  go_enter Try.func35, Try.ntmps35
  go_wp2_with fail
  refine (markInt64SS_t T2 _ _ _ B xss A C _ _ (by exact HA.out.keep ((Below.refl w.heap.size w).alloc (Nat.le_refl _) _) (Nat.le_refl _)) hl HX.out ho h0 (by omega)).mono ?_
  rintro e w1 ⟨rfl, hr, hc⟩
  have HR := Lib.hid hr
  have HC : Hid (Chg (RowBlk n A) w w1) := Lib.hid (((Chg.refl _ _).alloc _).trans hc)
  clear hr hc
  go_wp2_with fail
  go_ret
  exact ⟨rfl, HR.out, HC.out⟩
end Go.Proofs.Ytjnkhbaklilkkaa
