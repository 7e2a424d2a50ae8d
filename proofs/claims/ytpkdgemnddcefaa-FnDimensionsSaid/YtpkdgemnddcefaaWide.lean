/- Rows with those of an identity matrix behind them: the program and the reference. -/
import Derived.Test.YtpkdgemnddcefaaConcat
import Derived.Test.YtpkdgemnddcefaaPush
import Derived.Test.YtpkdgemnddcefaaRedS3
import Derived.Laws.CopyOwn
import Derived.Deep.RegionLaw
set_option linter.unusedVariables false
set_option linter.unusedSimpArgs false
namespace Go.Proofs.Ytpkdgemnddcefaa
open Go.RowKit

/-- rows with those of an identity matrix behind them -/
def wideR (xss : List (List Int)) : List (List Int) := tab xss.length fun i => rw_ xss i ++ unitR xss.length i
theorem wideR_len (xss : List (List Int)) : (wideR xss).length = xss.length := tab_len _ _
theorem wideR_row {xss : List (List Int)} {i : Nat} (h : i < xss.length) : rw_ (wideR xss) i = rw_ xss i ++ unitR xss.length i := rw_tab h
theorem el_app_l {xs ys : List Int} {j : Nat} (h : j < xs.length) : el (xs ++ ys) j = el xs j := by simp [el, List.getElem?_append, h]
theorem el_app_r {xs ys : List Int} {j : Nat} (h : xs.length ≤ j) : el (xs ++ ys) j = el ys (j - xs.length) := by simp [el, List.getElem?_append, Nat.not_lt.2 h]
theorem wideR_rws {xss : List (List Int)} {p : Int} {m n : Nat} (h : Rws p m xss) (hl : xss.length = n) (hp : 2 ≤ p) : Rws p (m + n) (wideR xss) := by
  subst hl
  refine ⟨fun i hi => ?_, fun i j hi hj => ?_⟩
  · rw [wideR_len] at hi
    rw [wideR_row hi, List.length_append, h.row i hi, unitR_len]
  · rw [wideR_len] at hi
    rw [wideR_row hi]
    have hl := h.row i hi
    by_cases hj2 : j < m
    · rw [el_app_l (by omega)]; exact h.rng i j hi hj2
    · rw [el_app_r (by omega)]
      unfold unitR
      rw [el_tab (by omega)]
      split <;> omega
theorem wide_own {T : TypeId} {w2 : World} {g m n N : Nat} {row : List Int} (h : w2.heap[g]? = some (.cells (splice (madeCells #[.int .i64 0] N).toList 0 (row.map (Value.int .i64))).toArray T (0, 0))) (hl : row.length = m) (hN : N = m + n) (hM : N ≤ 1048576) :
    OwnI T w2 g (some ⟨g, 0, none⟩) N N (row ++ tab n fun _ => 0) := by
  subst hN
  have e : splice (madeCells #[.int .i64 0] (m + n)).toList 0 (row.map (Value.int .i64)) = (row ++ tab n fun _ => 0).map (Value.int .i64) := by
    unfold splice
    rw [toList_madeCells_one, List.take_zero, List.nil_append, List.map_append, Nat.zero_add, List.length_map, hl]
    congr 1
    refine List.ext_getElem? fun i => ?_
    rw [List.getElem?_drop]
    by_cases hi : i < n
    · simp [tab, hi]
    · simp [tab, hi]
  rw [e] at h
  refine ⟨by simp [tab, hl], .inr ⟨g, m + n, _, rfl, Nat.le_refl _, h, Nat.le_refl _, by unfold maxLen; omega, by simp [tab, hl], ?_⟩⟩
  rw [Nat.mul_one, List.take_of_length_le (by simp [tab, hl])]
theorem wide_set {m n j : Nat} {row : List Int} (hl : row.length = m) (hj : j < n) : (row ++ tab n fun _ => 0).set (m + j) 1 = row ++ unitR n j := by
  subst hl
  rw [List.set_append_right _ _ (by omega), Nat.add_sub_cancel_left, set_unit]
theorem copy_src {W : World} {a d : Option Addr} {xs : List Int} (h : RdI W a xs) : 0 < (xs.map (Value.int .i64)).length → d = d ∧ ∃ ad, a = some ad ∧ ∀ (j : Nat) (v : Value), (xs.map (Value.int .i64))[j]? = some v → W.cell? (ad.add j) = some v := fun h0 => by
  obtain ⟨b, o, rfl, hc⟩ := h.vals h0
  refine ⟨rfl, _, rfl, fun j v hj => ?_⟩
  have hjl : j < (xs.map (Value.int .i64)).length := by
    refine Nat.lt_of_not_le fun hle => ?_
    rw [List.getElem?_eq_none hle] at hj; cases hj
  rw [add_at', hc j hjl, hj]
set_option maxRecDepth 20000 in
set_option maxHeartbeats 2000000 in
theorem withIdentity_any (a : Option Addr) (n c m : Nat) (xss : List (List Int)) (w : World) (ha : RdR w a xss) (hl : xss.length = n) (hr : ∀ i, i < n → (rw_ xss i).length = m) (hn : n ≤ 100) (hm : m ≤ 100) :
    Calls Try.prog 90 #[.slice a n c] w fun e w' => ∃ a' c', e = .returned (.slice a' n c') ∧ MadeR 52 2 w' w.heap.size a' n c' (wideR xss) ∧ Below w.heap.size w w' := by
  have HA := Lib.hid ha
  have HL := Lib.hid hl
  have HR := Lib.hid hr
  clear ha hl hr
  go_enter Try.func90, Try.ntmps90
  go_wp2
  go_loopw [9, 3] (fun i v wr => ∃ (j : Nat) (a1 : Option Addr) (c1 : Nat) (A : Nat → Option Addr) (C : Nat → Nat), j ≤ n ∧ i = .int .i64 j ∧ v = .slice a1 j c1 ∧ Hid (OwnR 52 2 wr w.heap.size a1 j c1 ((wideR xss).take j) A C ∧ Below w.heap.size w wr)) (fun i _ _ => n - (intOf i).toNat)
  case atStart => exact ⟨0, none, 0, fun _ => none, fun _ => 0, Nat.zero_le _, rfl, rfl, Lib.hid ⟨by simpa using OwnR.none _ _, Below.refl _ _⟩⟩
  case round =>
    obtain ⟨j, a1, c1, A, C, hj, rfl, rfl, HJ⟩ := hrel
    obtain ⟨wi, rfl⟩ : ∃ x, x = wr := ⟨wr, rfl⟩
    by_cases hjt : j < n
    · obtain ⟨b, o, rfl, hc⟩ := (HA.out.keep HJ.out.2 (Nat.le_refl _)) (by rw [HL.out]; omega)
      obtain ⟨aj, cj, dj, rj, _⟩ := hc j (by rw [HL.out]; exact hjt)
      have hrow := HR.out j hjt
      rw [hrow] at dj
      have RJ := Lib.hid rj
      have HRJ := Lib.hid hrow
      have hsz := HJ.out.2.size
      clear hc rj hrow
      have hmk := run_make_row' (P := Try.prog) 52 2 (.int .i64 0) 8 Try.underlying52 Try.info2 rfl .i64 .i64 (m + n) (by omega) (by omega)
      rw [Int.natCast_add] at hmk
      have hin : (Try.prog.info? 2).map (·.size) = some 1 := by kernel_rfl
      go_wp2_with (first
        | ((with_reducible refine wpList_copy_splice rfl (.tmp 20) (.tmp 21) 52 52 rfl 2 Try.underlying52 hin _ _ _ _ _ _ rfl rfl wi.heap.size 0 (madeCells #[.int .i64 0] (m + n)).toList 2 ?_ ((rw_ xss j).map (Value.int .i64)) ?_ ?_ ?_ (map_one _) wi.heap.size wi ?_ (Nat.le_refl _) ?_); exact (heap_alloc_new wi _).trans (by simp); rw [List.length_map, HRJ.out]; exact (Nat.min_eq_left (Nat.le_add_right m n)).symm; exact copy_src (RJ.out.alloc _); (rw [List.length_map, HRJ.out, toList_madeCells_one, List.length_replicate]; omega); exact (Below.refl _ _).alloc (Nat.le_refl _) _; intro w2 hg2 hb2; have HO2 := Lib.hid (wide_own hg2.out HRJ.out rfl (by omega)); have e1 := HO2.out.cellAt (show m + j < m + n by omega); have e2 := HO2.out.frozen (m + j); have HO : Hid (OwnI 2 (w2.setCell ⟨wi.heap.size, m + j, none⟩ (.int .i64 1)) wi.heap.size (some ⟨wi.heap.size, 0, none⟩) (m + n) (m + n) (rw_ xss j ++ unitR n j)) := Lib.hid (by have h := HO2.out.set (show m + j < m + n by omega) 1; rwa [wide_set HRJ.out hjt] at h); have HBo : Hid (Below wi.heap.size wi (w2.setCell ⟨wi.heap.size, m + j, none⟩ (.int .i64 1))) := Lib.hid (hb2.setCell (Nat.le_refl _) _); clear hg2 hb2)
        | (at_builtin; refine wpList_pushB rfl (.tmp 29) (.tmp 31) 24 rfl w.heap.size 52 (.slice none 0 0) 24 Try.underlying24 Try.infoR rfl (by decide) (.slice (some ⟨wi.heap.size, 0, none⟩) (m + n) (m + n)) rfl _ _ _ _ _ rfl rfl (by simp) (by exact (HJ.out.1.keep HBo.out (Nat.le_refl _)).own) (by omega) (by exact Nat.le_trans hsz HBo.out.size) ?_; rintro a4 c4 w4 r4 q4 g4; have HN := Lib.hid (HJ.out.1.pushNew2 hsz HBo.out HO.out (Nat.le_refl _) r4 q4 g4); clear r4 q4 g4))
      have HN2 : Hid (OwnR 52 2 w4 w.heap.size a4 (j + 1) c4 ((wideR xss).take (j + 1)) (upd A j (some ⟨wi.heap.size, 0, none⟩)) (upd C j (m + n)) ∧ Below w.heap.size w w4) := Lib.hid ⟨by rw [take_row2 (by rw [wideR_len, HL.out]; exact hjt), wideR_row (by rw [HL.out]; exact hjt), HL.out]; exact HN.out.1, HJ.out.2.trans HN.out.2⟩
      clear hmk e1 e2
      go_roundw
      case rel => exact ⟨j + 1, a4, c4, _, _, by omega, by go_num, rfl, HN2⟩
      case measure => simp [intOf]; omega
    · obtain rfl : n = j := by omega
      have HM := Lib.hid HJ.out
      rw [List.take_of_length_le (by rw [wideR_len, HL.out]; omega)] at HM
      go_wp2
      go_ret
      exact ⟨a1, c1, rfl, ⟨A, C, HM.out.1⟩, HM.out.2⟩
end Go.Proofs.Ytpkdgemnddcefaa
