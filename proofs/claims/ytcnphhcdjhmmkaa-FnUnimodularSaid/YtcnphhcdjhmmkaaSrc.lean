/- The reference's source of numbers: whatever a code is, the next number is below the bound. -/
import Derived.Test.YtcnphhcdjhmmkaaBox
import Derived.Test.YtcnphhcdjhmmkaaNum
import Derived.StillTailTactics
set_option linter.unusedVariables false
set_option linter.unusedSimpArgs false
namespace Go.Proofs.Ytcnphhcdjhmmkaa
open Go.RowKit

/-- the bytes behind an address -/
def RdB (w : World) (a : Option Addr) (bs : List Int) : Prop :=
  0 < bs.length → ∃ b o, a = some ⟨b, o, none⟩ ∧ ∀ i, i < bs.length → w.cell? ⟨b, o + i, none⟩ = some (.int .u8 (el bs i))
theorem RdB.same {w w' : World} {a : Option Addr} {bs : List Int} (h : RdB w a bs) (hs : ∀ p, a = some p → w'.heap[p.block]? = w.heap[p.block]?) : RdB w' a bs := fun h0 => by
  obtain ⟨b, o, ha, hc⟩ := h h0
  refine ⟨b, o, ha, fun i hi => ?_⟩
  rw [World.cell?_of_block (w := w) (a := ⟨b, o + i, none⟩) (hs ⟨b, o, none⟩ ha)]
  exact hc i hi
theorem RdB.keep {B : Nat} {w w' : World} {a : Option Addr} {bs : List Int} (h : RdB w a bs) (hb : Below B w w') (hB : w.heap.size ≤ B) : RdB w' a bs := fun h0 => by
  obtain ⟨b, o, ha, hc⟩ := h h0
  refine ⟨b, o, ha, fun i hi => ?_⟩
  rw [hb.cell (p := ⟨b, o + i, none⟩) (Nat.lt_of_lt_of_le (block_lt (hc i hi)) hB)]
  exact hc i hi
/-- a code that is read -/
structure Code0 (w : World) (a : Option Addr) (m : Nat) (bs : List Int) : Prop where
  len : bs.length = m
  rd : RdB w a bs
  rng : ∀ i, i < m → 0 ≤ el bs i ∧ el bs i ≤ 255
  sm : m ≤ 1000000000000
/-- a source in its box b -/
structure Src (w : World) (b : Nat) (a : Option Addr) (m c : Nat) (bs : List Int) : Prop where
  box : ∃ k seed : Nat, BX 52 w b #[.slice a m c, .int .i64 k, .int .i64 seed] ∧ k ≤ m ∧ seed < 2147483647
  code : Code0 w a m bs
  ap : 0 < m → ∀ p, a = some p → p.block ≠ b
theorem Src.keep {w w' : World} {b : Nat} {a : Option Addr} {m c : Nat} {bs : List Int} (h : Src w b a m c bs) (hb : Below w.heap.size w w') : Src w' b a m c bs := by
  obtain ⟨⟨k, s, h1, h2, h3⟩, ⟨c1, c2, c3, c4⟩, h5⟩ := h
  exact ⟨⟨k, s, h1.keep hb, h2, h3⟩, ⟨c1, c2.keep hb (Nat.le_refl _), c3, c4⟩, h5⟩
theorem Src.lt {w : World} {b : Nat} {a : Option Addr} {m c : Nat} {bs : List Int} (h : Src w b a m c bs) : b < w.heap.size := by
  obtain ⟨⟨k, s, h1, h2, h3⟩, _, _⟩ := h
  exact h1.lt
/-- the source's box with other numbers -/
theorem Src.set {w w' : World} {b : Nat} {a : Option Addr} {m c : Nat} {bs : List Int} (h : Src w b a m c bs) (k s : Nat) (hb : BX 52 w' b #[.slice a m c, .int .i64 k, .int .i64 s]) (hk : k ≤ m) (hs : s < 2147483647) (hc : Chg (fun j => j = b) w w') : Src w' b a m c bs :=
  ⟨⟨k, s, hb, hk, hs⟩, ⟨h.code.len, fun h0 => (h.code.rd.same (w' := w') (fun p hp => hc.block _ (by obtain ⟨b', o', e, hx⟩ := h.code.rd h0; rw [hp] at e; injection e with e; subst e; exact block_lt (p := ⟨b', o' + 0, none⟩) (hx 0 h0)) (h.ap (by rw [← h.code.len]; exact h0) p hp))) h0, h.code.rng, h.code.sm⟩, h.ap⟩
set_option maxRecDepth 20000 in
set_option maxHeartbeats 2000000 in
theorem l01Next_any (b : Nat) (a : Option Addr) (m c : Nat) (bs : List Int) (n : Int) (w : World) (hs : Src w b a m c bs) (hn : n ≤ 1000000000000) (hmc : m ≤ c) :
    Calls Try.prog 18 #[.pointer (some ⟨b, 0, none⟩), .int .i64 n] w fun e w' => ∃ v : Int, e = .returned (.int .i64 v) ∧ 0 ≤ v ∧ (v < n ∨ v = 0) ∧ Src w' b a m c bs ∧ Chg (fun j => j = b) w w' := by
  have HS := Lib.hid hs
  obtain ⟨⟨k, s, hB, hk, hsd⟩, hc, hap⟩ := hs
  have hm := hc.sm
  clear hc hap
  by_cases h1 : n ≤ 1
  · clear hB
    go_enter Try.func18, Try.ntmps18
    go_wp2
    go_ret
    exact ⟨0, rfl, Int.le_refl _, .inr rfl, HS.out, Chg.refl _ _⟩
  · have y0 := hB.cell 0
    have y1 := hB.cell 1
    have y2 := hB.cell 2
    have f2 := hB.frz 2
    have lb := hB.lt
    simp at y0 y1 y2
    have HBX := Lib.hid hB
    clear hB
    have e1 : ((s : Int) * 48271 + 71).tmod 2147483647 = ((s : Int) * 48271 + 71) % 2147483647 := Int.tmod_eq_emod_of_nonneg (by omega)
    obtain ⟨t, ht⟩ : ∃ t : Nat, ((s : Int) * 48271 + 71) % 2147483647 = t := ⟨(((s : Int) * 48271 + 71) % 2147483647).toNat, by omega⟩
    have ht2 : t < 2147483647 := by omega
    have e2 : (t : Int).tdiv 47 = (t : Int) / 47 := Int.tdiv_eq_ediv_of_nonneg (by omega)
    obtain ⟨u, hu⟩ : ∃ u : Nat, (t : Int) / 47 = u := ⟨((t : Int) / 47).toNat, by omega⟩
    have hu2 : u < 2147483647 := by omega
    rw [ht] at e1
    rw [hu] at e2
    clear ht hu
    go_enter Try.func18, Try.ntmps18
    go_wp2
    obtain ⟨w1, hw1⟩ : ∃ x, x = w.setCell ⟨b, 2, none⟩ (.int .i64 t) := ⟨_, rfl⟩
    rw [← hw1]
    have HB1 : Hid (BX 52 w1 b #[.slice a m c, .int .i64 k, .int .i64 t]) := Lib.hid (by rw [hw1]; exact HBX.out.set 2 _)
    have HC1 : Hid (Chg (fun j => j = b) w w1) := Lib.hid (by rw [hw1]; exact (Chg.refl (fun j => j = b) w).setCell ⟨b, 2, none⟩ rfl _)
    clear hw1 y0 y1 y2 f2 lb
    have y0 := HB1.out.cell 0
    have y1 := HB1.out.cell 1
    have y2 := HB1.out.cell 2
    have f1 := HB1.out.frz 1
    have lb := HB1.out.lt
    simp at y0 y1 y2
    by_cases hkm : k < m
    · have hkm' : (k : Int) < (m : Int) := by omega
      have dk : decide ((k : Int) < (m : Int)) = true := decide_eq_true hkm'
      have dk2 : decide (k < m) = true := decide_eq_true hkm
      obtain ⟨hx0, hx1⟩ := HS.out.code.rng k hkm
      have HCo : Hid (∃ b' o', a = some ⟨b', o', none⟩ ∧ w1.cell? ⟨b', o' + k, none⟩ = some (.int .u8 (el bs k)) ∧ b' ≠ b) := by
        obtain ⟨b', o', e, hx⟩ := HS.out.code.rd (by rw [HS.out.code.len]; omega)
        have hne := HS.out.ap (by omega) _ e
        refine Lib.hid ⟨b', o', e, ?_, hne⟩
        have hck := hx k (by rw [HS.out.code.len]; exact hkm)
        rw [World.cell?_of_block (w := w) (a := ⟨b', o' + k, none⟩) (HC1.out.block b' (block_lt (p := ⟨b', o' + k, none⟩) hck) hne)]
        exact hck
      obtain ⟨b', o', rfl, yk, hne⟩ := HCo.out
      obtain ⟨z, hz⟩ : ∃ z : Nat, el bs k = z := ⟨(el bs k).toNat, by omega⟩
      rw [hz] at yk hx1
      have hz2 : z ≤ 255 := by omega
      have hne2 : b ≠ b' := fun e => hne e.symm
      clear hz hx0 hx1 HCo
      have HSet : Hid (∀ q q', Src (((w1.drewN q).setCell ⟨b, 1, none⟩ (.int .i64 ((k : Int) + 1))).drewN q') b (some ⟨b', o', none⟩) m c bs ∧ Chg (fun j => j = b) w (((w1.drewN q).setCell ⟨b, 1, none⟩ (.int .i64 ((k : Int) + 1))).drewN q')) := Lib.hid (fun q q' => by
        have hch : Chg (fun j => j = b) w (((w1.drewN q).setCell ⟨b, 1, none⟩ (.int .i64 ((k : Int) + 1))).drewN q') := ((HC1.out.drewN q).setCell ⟨b, 1, none⟩ rfl _).drewN q'
        refine ⟨HS.out.set (k + 1) t ?_ hkm ht2 hch, hch⟩
        have h : BX 52 (w1.drewN q) b #[.slice (some ⟨b', o', none⟩) m c, .int .i64 k, .int .i64 t] := HB1.out
        have h2 := h.set 1 (.int .i64 ((k : Int) + 1))
        exact h2)
      have e3 : ((u : Int) + z).tmod n = ((u : Int) + z) % n := Int.tmod_eq_emod_of_nonneg (by omega)
      have e4 : (z : Int).tmod n = (z : Int) % n := Int.tmod_eq_emod_of_nonneg (by omega)
      have hnn : ¬ n = 0 := by omega
      have hmod : ∀ x : Int, 0 ≤ x % n ∧ x % n < n := fun x => ⟨Int.emod_nonneg _ (by omega), Int.emod_lt_of_pos _ (by omega)⟩
      have HMod := Lib.hid hmod
      have e5 : ((k : Int) + 1).tmod 2 = ((k : Int) + 1) % 2 := Int.tmod_eq_emod_of_nonneg (by omega)
      clear hmod
      go_quiet (fail)
      go_wp2
      go_quiet (fail)
      by_cases h256 : n ≤ 256
      · by_cases hev : ((k : Int) + 1) % 2 = 0
        · rw [hev] at e5
          go_wp2
          go_quiet (fail)
          go_wp2
          go_ret
          refine ⟨_, rfl, (HMod.out _).1, .inl (HMod.out _).2, (HSet.out _ _).1, (HSet.out _ _).2⟩
        · have e6 : ((k : Int) + 1) % 2 = 1 := by omega
          rw [e6] at e5
          go_wp2
          go_ret
          refine ⟨_, rfl, (HMod.out _).1, .inl (HMod.out _).2, (HSet.out _ 0).1, (HSet.out _ 0).2⟩
      · go_wp2
        go_ret
        refine ⟨_, rfl, (HMod.out _).1, .inl (HMod.out _).2, (HSet.out _ 0).1, (HSet.out _ 0).2⟩
    · have hkm' : ¬ ((k : Int) < (m : Int)) := by omega
      have dk : decide ((k : Int) < (m : Int)) = false := decide_eq_false hkm'
      have dk2 : decide (k < m) = false := decide_eq_false hkm
      have HSet : Hid (∀ q, Src (w1.drewN q) b a m c bs ∧ Chg (fun j => j = b) w (w1.drewN q)) := Lib.hid (fun q => by
        have hch : Chg (fun j => j = b) w (w1.drewN q) := HC1.out.drewN q
        refine ⟨HS.out.set k t ?_ hk ht2 hch, hch⟩
        have h : BX 52 (w1.drewN q) b #[.slice a m c, .int .i64 k, .int .i64 t] := HB1.out
        exact h)
      have e3 : (u : Int).tmod n = (u : Int) % n := Int.tmod_eq_emod_of_nonneg (by omega)
      have hnn : ¬ n = 0 := by omega
      have hmod : ∀ x : Int, 0 ≤ x % n ∧ x % n < n := fun x => ⟨Int.emod_nonneg _ (by omega), Int.emod_lt_of_pos _ (by omega)⟩
      have HMod := Lib.hid hmod
      clear hmod
      go_quiet (fail)
      go_wp2
      go_ret
      exact ⟨_, rfl, (HMod.out _).1, .inl (HMod.out _).2, (HSet.out _).1, (HSet.out _).2⟩
set_option maxRecDepth 20000 in
set_option maxHeartbeats 2000000 in
theorem l01From_any (a : Option Addr) (m c : Nat) (bs : List Int) (w : World) (hs : Code0 w a m bs) (hmc : m ≤ c) :
    Calls Try.prog 17 #[.slice a m c] w fun e w' => e = .returned (.pointer (some ⟨w.heap.size, 0, none⟩)) ∧ Src w' w.heap.size a m c bs ∧ Below w.heap.size w w' := by
  have HS := Lib.hid hs
  have hm := hs.sm
  clear hs
  go_enter Try.func17, Try.ntmps17
  go_wp2
  go_loopw [4] (fun i wr => ∃ k seed : Nat, k ≤ m ∧ i = .int .i64 k ∧ seed < 2147483647 ∧ Hid (BX 52 wr w.heap.size #[.slice a m c, .int .i64 0, .int .i64 seed] ∧ Below w.heap.size w wr)) (fun i _ => m - (intOf i).toNat)
  case atStart => exact ⟨0, 76001, Nat.zero_le _, rfl, by omega, Lib.hid ⟨BX.new w _ _, (Below.refl _ _).alloc (Nat.le_refl _) _⟩⟩
  case round =>
    obtain ⟨k, s, hk, rfl, hsd, HB⟩ := hrel
    obtain ⟨wi, rfl⟩ : ∃ x, x = wr := ⟨wr, rfl⟩
    have lb := HB.out.1.lt
    have HFin : Hid (Src wi w.heap.size a m c bs ∧ Below w.heap.size w wi) := Lib.hid ⟨⟨⟨0, s, HB.out.1, Nat.zero_le _, hsd⟩, ⟨HS.out.len, HS.out.rd.keep HB.out.2 (Nat.le_refl _), HS.out.rng, hm⟩, fun h0 p hp => by
      obtain ⟨b', o', e, hx⟩ := HS.out.rd (by rw [HS.out.len]; exact h0)
      rw [hp] at e; injection e with e; subst e
      have := block_lt (p := ⟨b', o' + 0, none⟩) (hx 0 (by rw [HS.out.len]; exact h0))
      simp at this
      intro e; simp at e; omega⟩, HB.out.2⟩
    by_cases hkm : k < m
    · by_cases h64 : k < 64
      · have d1 : decide ((k : Int) < (m : Int)) = true := decide_eq_true (by omega)
        have d2 : decide ((k : Int) < 64) = true := decide_eq_true (by omega)
        have d3 : decide (k < m) = true := decide_eq_true hkm
        have d4 : decide (k < 64) = true := decide_eq_true h64
        obtain ⟨b', o', rfl, hx⟩ := HS.out.rd.keep HB.out.2 (Nat.le_refl _) (by rw [HS.out.len]; omega)
        have yk := hx k (by rw [HS.out.len]; exact hkm)
        obtain ⟨hx0, hx1⟩ := HS.out.rng k hkm
        obtain ⟨z, hz⟩ : ∃ z : Nat, el bs k = z := ⟨(el bs k).toNat, by omega⟩
        rw [hz] at yk hx1
        have hz2 : z ≤ 255 := by omega
        have y2 := HB.out.1.cell 2
        have f2 := HB.out.1.frz 2
        simp at y2
        have e1 : ((s : Int) * 71 + z).tmod 2147483647 = ((s : Int) * 71 + z) % 2147483647 := Int.tmod_eq_emod_of_nonneg (by omega)
        obtain ⟨t, ht⟩ : ∃ t : Nat, ((s : Int) * 71 + z) % 2147483647 = t := ⟨(((s : Int) * 71 + z) % 2147483647).toNat, by omega⟩
        have ht2 : t < 2147483647 := by omega
        rw [ht] at e1
        have J1 : (k : Int) < (m : Int) := by omega
        clear hx hz hx0 hx1
        go_wp2
        go_still_tail 15, (by kernel_rfl)
        change wpList _ _ _ _ _ wi.drew
        have HN : Hid (BX 52 (wi.setCell ⟨w.heap.size, 2, none⟩ (.int .i64 t)).drew w.heap.size #[.slice (some ⟨b', o', none⟩) m c, .int .i64 0, .int .i64 t] ∧ Below w.heap.size w (wi.setCell ⟨w.heap.size, 2, none⟩ (.int .i64 t)).drew) := Lib.hid ⟨HB.out.1.set 2 _, (HB.out.2.setCell (p := ⟨w.heap.size, 2, none⟩) (Nat.le_refl _) _).drew⟩
        go_wp2
        go_roundw
        case rel => exact ⟨k + 1, t, by omega, by go_num, ht2, HN⟩
        case measure => simp [intOf]; omega
      · have d1 : decide ((k : Int) < (m : Int)) = true := decide_eq_true (by omega)
        have d2 : decide ((k : Int) < 64) = false := decide_eq_false (by omega)
        have d3 : decide (k < m) = true := decide_eq_true hkm
        have d4 : decide (k < 64) = false := decide_eq_false h64
        go_wp2
        go_ret
        exact ⟨rfl, HFin.out.1, HFin.out.2⟩
    · have d1 : decide ((k : Int) < (m : Int)) = false := decide_eq_false (by omega)
      have d3 : decide (k < m) = false := decide_eq_false hkm
      go_wp2
      go_ret
      exact ⟨rfl, HFin.out.1, HFin.out.2⟩
end Go.Proofs.Ytcnphhcdjhmmkaa
