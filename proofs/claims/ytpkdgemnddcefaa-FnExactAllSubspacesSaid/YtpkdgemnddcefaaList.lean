/- Contracts of the laws' own helpers on lists of integers: equality, marks, and whether the marks still stand. -/
import Derived.Test.YtpkdgemnddcefaaNum
import Derived.Test.YtpkdgemnddcefaaHeap
set_option linter.unusedVariables false
set_option linter.unusedSimpArgs false
namespace Go.Proofs.Ytpkdgemnddcefaa
open Go.RowKit

theorem Try.info2 : (Try.prog.info? 2).map (fun i => (i.zero, i.size, i.bytes)) = some (some (.int .i64 0), 1, 8) := by kernel_rfl
/-- the marks k, k + 1, .. -/
def marks (k : Int) (n : Nat) : List Int := (List.range n).map (fun (i : Nat) => k + (i : Int))
theorem marks_len (k : Int) (n : Nat) : (marks k n).length = n := by simp [marks]
theorem marks_el {k : Int} {n i : Nat} (h : i < n) : el (marks k n) i = k + i := by simp [el, marks, h]

set_option maxHeartbeats 400000 in
theorem eqInt64S_t (a b : Option Addr) (n m ca cb : Nat) (xs : List Int) (w : World) (ha : RdI w a xs) (hb : RdI w b xs) (hn : xs.length = n) (hm : xs.length = m) (hl : n ≤ 1000000000000) :
    Calls Try.prog 101 #[.slice a n ca, .slice b m cb] w fun e w' => e = .returned (.bool true) ∧ ∃ n, w' = w.drewN n := by
  subst hn
  obtain rfl := hm
  have HA := Lib.hid ha
  have HB := Lib.hid hb
  clear ha hb
  go_enter Try.func101, Try.ntmps101
  go_wp2
  go_loopw [5] (fun i wr => ∃ k : Nat, k ≤ xs.length ∧ i = .int .i64 k ∧ ∃ n, wr = w.drewN n) (fun i _ => xs.length - (intOf i).toNat)
  case atStart => exact ⟨0, Nat.zero_le _, rfl, 0, rfl⟩
  case round =>
    obtain ⟨k, hk, rfl, n, rfl⟩ := hrel
    by_cases hlt : k < xs.length
    · obtain ⟨b1, o1, rfl, h1⟩ := HA.out (by omega)
      obtain ⟨b2, o2, rfl, h2⟩ := HB.out (by omega)
      have c1 := h1 k hlt
      have c2 := h2 k hlt
      clear h1 h2
      have hi : (k : Int) < xs.length := by omega
      go_wp2
      go_quiet (fail)
      go_wp2
      go_roundw
      case rel => exact ⟨k + 1, by omega, by go_num, n + nq, by simp⟩
      case measure => simp [intOf]; omega
    · go_wp2
      go_ret
      exact ⟨rfl, n, rfl⟩

set_option maxHeartbeats 400000 in
theorem heldInt64S_t (a : Option Addr) (c n : Nat) (m : Int) (w : World) (ha : RdI w a (marks m n)) (hl : n ≤ 1000000000000) (h0 : 0 ≤ m) (h1 : m ≤ 1000000000000000) :
    Calls Try.prog 80 #[.slice a n c, .int .i64 m] w fun e w' => e = .returned (.int .i64 (m + n)) ∧ w = w' := by
  have HA := Lib.hid ha
  clear ha
  go_enter Try.func80, Try.ntmps80
  go_wp2
  go_loop [5, 1] (fun i q => ∃ k : Nat, k ≤ n ∧ i = .int .i64 k ∧ q = .int .i64 (m + k)) (fun i _ => n - (intOf i).toNat)
  case atStart => exact ⟨0, Nat.zero_le _, rfl, by simp⟩
  case round =>
    obtain ⟨k, hk, rfl, rfl⟩ := hrel
    by_cases hlt : k < n
    · obtain ⟨b1, o1, rfl, h1⟩ := HA.out (by rw [marks_len]; omega)
      have c1 := h1 k (by rw [marks_len]; omega)
      rw [marks_el hlt] at c1
      clear h1
      go_wp2
      go_round
      case rel => exact ⟨k + 1, by omega, by go_num, by go_num⟩
      case measure => simp [intOf]; omega
    · obtain rfl : k = n := by omega
      go_wp2
      go_ret
      exact ⟨rfl, rfl⟩

/-- the marks so far: in round k the first k cells bear marks, and the block is as big as it was -/
structure Marked (T : TypeId) (w wr : World) (b o n k sz : Nat) (m : Int) : Prop where
  chg : Chg (fun j => j = b) w wr
  blk : ∃ cur, wr.heap[b]? = some (.cells cur T (0, 0)) ∧ cur.size = sz ∧ ∀ i, i < k → cur[o + i]? = some (.int .i64 (m + i))
theorem Marked.step {T : TypeId} {w wr : World} {b o n k sz : Nat} {m : Int} (h : Marked T w wr b o n k sz m) (hk : o + k < sz) : Marked T w (wr.setCell ⟨b, o + k, none⟩ (.int .i64 (m + k))) b o n (k + 1) sz m := by
  obtain ⟨hc, cur, hb, hs, hm⟩ := h
  refine ⟨hc.setCell _ rfl _, _, wr_setCell hb _, by simpa using hs, fun i hi => ?_⟩
  rw [Array.getElem?_setIfInBounds]
  by_cases he : i = k
  · subst he; simp <;> omega
  · rw [if_neg (by omega)]; exact hm i (by omega)
theorem Marked.cell {T : TypeId} {w wr : World} {b o n k sz : Nat} {m : Int} (h : Marked T w wr b o n k sz m) (hk : o + k < sz) : ∃ v, wr.cell? ⟨b, o + k, none⟩ = some v := by
  obtain ⟨hc, cur, hb, hs, hm⟩ := h
  exact ⟨cur[o + k], by rw [wr_cell hb]; simp⟩
theorem Marked.frozen {T : TypeId} {w wr : World} {b o n k sz : Nat} {m : Int} (h : Marked T w wr b o n k sz m) (i : Nat) : wr.frozen? ⟨b, i, none⟩ = false := by
  obtain ⟨hc, cur, hb, hs, hm⟩ := h
  exact wr_frozen hb
theorem Marked.rd {T : TypeId} {w wr : World} {b o n sz : Nat} {m : Int} (h : Marked T w wr b o n n sz m) : RdI wr (some ⟨b, o, none⟩) (marks m n) := fun _ => by
  obtain ⟨hc, cur, hb, hs, hm⟩ := h
  refine ⟨b, o, rfl, fun i hi => ?_⟩
  rw [marks_len] at hi
  rw [wr_cell hb, hm i hi, marks_el hi]
set_option maxHeartbeats 400000 in
theorem markInt64S_t (T : TypeId) (a : Option Addr) (c n : Nat) (m : Int) (w : World) (ha : WrI T w a n) (hl : n ≤ 1000000000000) (h0 : 0 ≤ m) (h1 : m ≤ 1000000000000000) :
    Calls Try.prog 79 #[.slice a n c, .int .i64 m] w fun e w' => e = .returned (.int .i64 (m + n)) ∧ RdI w' a (marks m n) ∧ Chg (fun j => ∃ p, a = some p ∧ p.block = j) w w' := by
  by_cases hn : n = 0
  · subst hn
    go_enter Try.func79, Try.ntmps79
    go_wp2
    refine wp_loop_rounds 1 ?_
    rw [rounds_succ]
    go_wp2
    go_ret
    exact ⟨by simp, RdI.nil _ _, Chg.refl _ _⟩
  · obtain ⟨b, o, cur, rfl, hb, hs⟩ := ha (by omega)
    have HM : Hid (Marked T w w b o n 0 cur.size m) := Lib.hid ⟨Chg.refl _ _, cur, hb, rfl, fun i hi => absurd hi (by omega)⟩
    generalize cur.size = sz at *
    clear hb ha
    go_enter Try.func79, Try.ntmps79
    go_wp2
    go_loopw [5, 1] (fun i q wr => ∃ k : Nat, k ≤ n ∧ i = .int .i64 k ∧ q = .int .i64 (m + k) ∧ Hid (Marked T w wr b o n k sz m)) (fun i _ _ => n - (intOf i).toNat)
    case atStart => exact ⟨0, Nat.zero_le _, rfl, by simp, HM⟩
    case round =>
      obtain ⟨k, hk, rfl, rfl, hM⟩ := hrel
      by_cases hlt : k < n
      · obtain ⟨v, hv⟩ := hM.out.cell (by omega)
        have hf := hM.out.frozen (o + k)
        go_wp2
        go_roundw
        case rel => exact ⟨k + 1, by omega, by go_num, by go_num, Lib.hid (hM.out.step (by omega))⟩
        case measure => simp [intOf]; omega
      · obtain rfl : k = n := by omega
        go_wp2
        go_ret
        exact ⟨rfl, hM.out.rd, hM.out.chg.mono (fun j _ h => ⟨_, rfl, h.symm⟩)⟩
end Go.Proofs.Ytpkdgemnddcefaa
