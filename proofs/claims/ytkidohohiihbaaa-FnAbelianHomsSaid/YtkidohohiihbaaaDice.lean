/- The laws' own dice. -/
import Derived.Test.YtkidohohiihbaaaSrc
import Derived.Laws.BitsLemmas
import Derived.Laws.Bits64
import Derived.Laws.Shifts
set_option linter.unusedVariables false
set_option linter.unusedSimpArgs false
namespace Go.Proofs.Ytkidohohiihbaaa
open Go.RowKit

theorem u64_rng (x : Int) : 0 ≤ IntKind.u64.wrap x ∧ IntKind.u64.wrap x < 18446744073709551616 := by rw [IntKind.wrap_u64]; omega
theorem mask24 (x : Int) (h0 : 0 ≤ x) (h1 : x < 9223372036854775808) : bits .and .u64 x 16777215 = x % 16777216 := by
  have h := bits_mask .u64 63 (by decide) (fun n h0 h1 => by rw [IntKind.wrap_u64]; omega) 24 (by decide) x h0 (by omega)
  have e : ((2 : Int) ^ 24 - 1) = 16777215 := by decide
  have e2 : ((2 : Int) ^ 24) = 16777216 := by decide
  rw [e, e2] at h
  exact h
/-- a box of dice -/
structure Dice (w : World) (b : Nat) (a : Option Addr) (m c : Nat) (bs : List Int) : Prop where
  box : ∃ (k : Nat) (h : Int), BX 101 w b #[.slice a m c, .int .i64 k, .int .u64 h] ∧ k ≤ m ∧ 0 ≤ h ∧ h < 18446744073709551616
  code : Code0 w a m bs
  ap : 0 < m → ∀ p, a = some p → p.block ≠ b
theorem Dice.set {w w' : World} {b : Nat} {a : Option Addr} {m c : Nat} {bs : List Int} (h : Dice w b a m c bs) (k : Nat) (s : Int) (hb : BX 101 w' b #[.slice a m c, .int .i64 k, .int .u64 s]) (hk : k ≤ m) (hs : 0 ≤ s ∧ s < 18446744073709551616) (hc : Chg (fun j => j = b) w w') : Dice w' b a m c bs :=
  ⟨⟨k, s, hb, hk, hs.1, hs.2⟩, ⟨h.code.len, fun h0 => (h.code.rd.same (w' := w') (fun p hp => hc.block _ (by obtain ⟨b', o', e, hx⟩ := h.code.rd h0; rw [hp] at e; injection e with e; subst e; exact block_lt (p := ⟨b', o' + 0, none⟩) (hx 0 h0)) (h.ap (by rw [← h.code.len]; exact h0) p hp))) h0, h.code.rng, h.code.sm⟩, h.ap⟩
set_option maxRecDepth 20000 in
set_option maxHeartbeats 2000000 in
theorem roll_any (a : Option Addr) (m c : Nat) (bs : List Int) (w : World) (hs : Code0 w a m bs) (hmc : m ≤ c) :
    Calls Try.prog 30 #[.slice a m c, .int .u64 404] w fun e w' => e = .returned (.pointer (some ⟨w.heap.size, 0, none⟩)) ∧ Dice w' w.heap.size a m c bs ∧ Below w.heap.size w w' := by
  have HS := Lib.hid hs
  have hm := hs.sm
  clear hs
  go_enter Try.func30, Try.ntmps30
  go_wp2
  go_loopw [6] (fun i wr => ∃ (k : Nat) (s : Int), k ≤ m ∧ i = .int .i64 k ∧ Hid (0 ≤ s ∧ s < 18446744073709551616) ∧ Hid (BX 101 wr w.heap.size #[.slice a m c, .int .i64 0, .int .u64 s] ∧ Below w.heap.size w wr)) (fun i _ => m - (intOf i).toNat)
  case atStart => exact ⟨0, 3073228 + m, Nat.zero_le _, rfl, Lib.hid (by omega), Lib.hid ⟨BX.new w _ _, (Below.refl _ _).alloc (Nat.le_refl _) _⟩⟩
  case round =>
    obtain ⟨k, s, hk, rfl, hsd, HB⟩ := hrel
    obtain ⟨wi, rfl⟩ : ∃ x, x = wr := ⟨wr, rfl⟩
    have lb := HB.out.1.lt
    have HFin : Hid (Dice wi w.heap.size a m c bs ∧ Below w.heap.size w wi) := Lib.hid ⟨⟨⟨0, s, HB.out.1, Nat.zero_le _, hsd.out.1, hsd.out.2⟩, ⟨HS.out.len, HS.out.rd.keep HB.out.2 (Nat.le_refl _), HS.out.rng, hm⟩, fun h0 p hp => by
      obtain ⟨b', o', e, hx⟩ := HS.out.rd (by rw [HS.out.len]; exact h0)
      rw [hp] at e; injection e with e; subst e
      have := block_lt (p := ⟨b', o' + 0, none⟩) (hx 0 (by rw [HS.out.len]; exact h0))
      simp at this
      intro e; simp at e; omega⟩, HB.out.2⟩
    by_cases hkm : k < m
    · have d1 : decide ((k : Int) < (m : Int)) = true := decide_eq_true (by omega)
      have d3 : decide (k < m) = true := decide_eq_true hkm
      obtain ⟨b', o', rfl, hx⟩ := HS.out.rd.keep HB.out.2 (Nat.le_refl _) (by rw [HS.out.len]; omega)
      have yk := hx k (by rw [HS.out.len]; exact hkm)
      obtain ⟨hx0, hx1⟩ := HS.out.rng k hkm
      obtain ⟨z, hz⟩ : ∃ z : Nat, el bs k = z := ⟨(el bs k).toNat, by omega⟩
      rw [hz] at yk hx1
      have hz2 : z ≤ 255 := by omega
      have y2 := HB.out.1.cell 2
      have f2 := HB.out.1.frz 2
      simp at y2
      have J1 : (k : Int) < (m : Int) := by omega
      clear hx hz hx0 hx1
      go_wp2
      go_still_tail 15, (by kernel_rfl)
      change wpList _ _ _ _ _ wi.drew
      have HN : ∀ v : Int, Hid (BX 101 (wi.setCell ⟨w.heap.size, 2, none⟩ (.int .u64 v)).drew w.heap.size #[.slice (some ⟨b', o', none⟩) m c, .int .i64 0, .int .u64 v] ∧ Below w.heap.size w (wi.setCell ⟨w.heap.size, 2, none⟩ (.int .u64 v)).drew) := fun v => Lib.hid ⟨HB.out.1.set 2 _, (HB.out.2.setCell (p := ⟨w.heap.size, 2, none⟩) (Nat.le_refl _) _).drew⟩
      have HN2 := Lib.hid HN
      clear HN
      go_wp2
      go_roundw
      case rel => exact ⟨k + 1, _, by omega, by go_num, Lib.hid (u64_rng _), HN2.out _⟩
      case measure => simp [intOf]; omega
    · have d1 : decide ((k : Int) < (m : Int)) = false := decide_eq_false (by omega)
      have d3 : decide (k < m) = false := decide_eq_false hkm
      go_wp2
      go_ret
      exact ⟨rfl, HFin.out.1, HFin.out.2⟩
set_option maxRecDepth 20000 in
set_option maxHeartbeats 2000000 in
theorem below_any (b : Nat) (a : Option Addr) (m c : Nat) (bs : List Int) (n : Int) (w : World) (hs : Dice w b a m c bs) (hn1 : 1 ≤ n) (hn : n ≤ 1000000) (hmc : m ≤ c) :
    Calls Try.prog 31 #[.pointer (some ⟨b, 0, none⟩), .int .i64 n] w fun e w' => ∃ v : Int, e = .returned (.int .i64 v) ∧ 0 ≤ v ∧ v < n ∧ Dice w' b a m c bs ∧ Chg (fun j => j = b) w w' := by
  have HS := Lib.hid hs
  obtain ⟨⟨k, s, hB, hk, hs0, hs1⟩, hc, hap⟩ := hs
  have hm := hc.sm
  clear hc hap
  have y0 := hB.cell 0
  have y1 := hB.cell 1
  have y2 := hB.cell 2
  have f2 := hB.frz 2
  have lb := hB.lt
  simp at y0 y1 y2
  have HBX := Lib.hid hB
  clear hB
  go_enter Try.func31, Try.ntmps31
  go_wp2
  have hT := u64_rng (IntKind.u64.wrap (s * 6364136223846793005) + 1442695040888963407)
  generalize IntKind.u64.wrap (IntKind.u64.wrap (s * 6364136223846793005) + 1442695040888963407) = T at *
  rw [mask24 (T / 8589934592) (by omega) (by omega), show wrap64 (T / 8589934592 % 16777216) = T / 8589934592 % 16777216 by unfold wrap64; omega]
  obtain ⟨u, hu⟩ : ∃ u : Nat, T / 8589934592 % 16777216 = u := ⟨(T / 8589934592 % 16777216).toNat, by omega⟩
  have hu2 : u < 16777216 := by omega
  rw [hu]
  have HT := Lib.hid hT
  obtain ⟨w1, hw1⟩ : ∃ x, x = w.setCell ⟨b, 2, none⟩ (.int .u64 T) := ⟨_, rfl⟩
  rw [← hw1]
  have HB1 : Hid (BX 101 w1 b #[.slice a m c, .int .i64 k, .int .u64 T]) := Lib.hid (by rw [hw1]; exact HBX.out.set 2 _)
  have HC1 : Hid (Chg (fun j => j = b) w w1) := Lib.hid (by rw [hw1]; exact (Chg.refl (fun j => j = b) w).setCell ⟨b, 2, none⟩ rfl _)
  clear hw1 y0 y1 y2 f2 lb hu hT
  have y0 := HB1.out.cell 0
  have y1 := HB1.out.cell 1
  have f1 := HB1.out.frz 1
  have lb := HB1.out.lt
  simp at y0 y1
  by_cases hkm : k < m
  · have hkm' : (k : Int) < (m : Int) := by omega
    have dk : decide ((k : Int) < (m : Int)) = true := decide_eq_true hkm'
    have dk2 : decide (k < m) = true := decide_eq_true hkm
    obtain ⟨hx0, hx1⟩ := HS.out.code.rng k hkm
    have HCo : Hid (∃ b' o', a = some ⟨b', o', none⟩ ∧ w1.cell? ⟨b', o' + k, none⟩ = some (.int .u8 (el bs k)) ∧ b' ≠ b) := by
      obtain ⟨b', o', e, hx⟩ := HS.out.code.rd (by rw [HS.out.code.len]; omega)
      have hne := HS.out.ap (by omega) _ e
      refine Lib.hid ⟨b', o', e, ?_, hne⟩
      have hck := hx k (by rw [HS.out.code.len]; exact hkm)
      rw [World.cell?_of_block (w := w) (a := ⟨b', o' + k, none⟩) (HC1.out.block b' (block_lt (p := ⟨b', o' + k, none⟩) hck) hne)]
      exact hck
    obtain ⟨b', o', rfl, yk, hne⟩ := HCo.out
    obtain ⟨z, hz⟩ : ∃ z : Nat, el bs k = z := ⟨(el bs k).toNat, by omega⟩
    rw [hz] at yk hx1
    have hz2 : z ≤ 255 := by omega
    have hne2 : b ≠ b' := fun e => hne e.symm
    clear hz hx0 hx1 HCo
    have HSet : Hid (∀ q q', Dice (((w1.drewN q).setCell ⟨b, 1, none⟩ (.int .i64 ((k : Int) + 1))).drewN q') b (some ⟨b', o', none⟩) m c bs ∧ Chg (fun j => j = b) w (((w1.drewN q).setCell ⟨b, 1, none⟩ (.int .i64 ((k : Int) + 1))).drewN q')) := Lib.hid (fun q q' => by
      have hch : Chg (fun j => j = b) w (((w1.drewN q).setCell ⟨b, 1, none⟩ (.int .i64 ((k : Int) + 1))).drewN q') := ((HC1.out.drewN q).setCell ⟨b, 1, none⟩ rfl _).drewN q'
      refine ⟨HS.out.set (k + 1) T ?_ hkm HT.out hch, hch⟩
      have h : BX 101 (w1.drewN q) b #[.slice (some ⟨b', o', none⟩) m c, .int .i64 k, .int .u64 T] := HB1.out
      have h2 := h.set 1 (.int .i64 ((k : Int) + 1))
      exact h2)
    have e3 : ((u : Int) + z).tmod n = ((u : Int) + z) % n := Int.tmod_eq_emod_of_nonneg (by omega)
    have hnn : ¬ n = 0 := by omega
    have hmod : ∀ x : Int, 0 ≤ x % n ∧ x % n < n := fun x => ⟨Int.emod_nonneg _ (by omega), Int.emod_lt_of_pos _ (by omega)⟩
    have HMod := Lib.hid hmod
    clear hmod
    go_quiet (fail)
    go_wp2
    go_quiet (fail)
    go_wp2
    go_ret
    refine ⟨_, rfl, (HMod.out _).1, (HMod.out _).2, (HSet.out _ 0).1, (HSet.out _ 0).2⟩
  · have hkm' : ¬ ((k : Int) < (m : Int)) := by omega
    have dk : decide ((k : Int) < (m : Int)) = false := decide_eq_false hkm'
    have dk2 : decide (k < m) = false := decide_eq_false hkm
    have HSet : Hid (∀ q, Dice (w1.drewN q) b a m c bs ∧ Chg (fun j => j = b) w (w1.drewN q)) := Lib.hid (fun q => by
      have hch : Chg (fun j => j = b) w (w1.drewN q) := HC1.out.drewN q
      refine ⟨HS.out.set k T ?_ hk HT.out hch, hch⟩
      have h : BX 101 (w1.drewN q) b #[.slice a m c, .int .i64 k, .int .u64 T] := HB1.out
      exact h)
    have e3 : (u : Int).tmod n = (u : Int) % n := Int.tmod_eq_emod_of_nonneg (by omega)
    have hnn : ¬ n = 0 := by omega
    have hmod : ∀ x : Int, 0 ≤ x % n ∧ x % n < n := fun x => ⟨Int.emod_nonneg _ (by omega), Int.emod_lt_of_pos _ (by omega)⟩
    have HMod := Lib.hid hmod
    clear hmod
    go_quiet (fail)
    go_wp2
    go_ret
    refine ⟨_, rfl, (HMod.out _).1, (HMod.out _).2, (HSet.out _).1, (HSet.out _).2⟩
end Go.Proofs.Ytkidohohiihbaaa
