/- Rows that are appended to rows: the sum of two subspaces' rows. -/
import Derived.Test.YtpkdgemnddcefaaNullW
import Derived.Test.YtpkdgemnddcefaaMatHas
import Derived.Test.YtpkdgemnddcefaaInvM
import Derived.Deep.RegionHeld3
set_option linter.unusedVariables false
set_option linter.unusedSimpArgs false
namespace Go.Proofs.Ytpkdgemnddcefaa
open Go.RowKit

theorem RdR.fun {w : World} {a : Option Addr} {n : Nat} {xss : List (List Int)} (h : RdR w a xss) (hl : xss.length = n) : ∃ (A : Nat → Option Addr) (C : Nat → Nat), RdV w a (rowVals xss A C n) ∧ ∀ i, i < n → RdI w (A i) (rw_ xss i) ∧ (rw_ xss i).length ≤ C i := by
  subst hl
  by_cases h0 : 0 < xss.length
  · obtain ⟨b, o, ha, hc⟩ := h h0
    have hch : ∀ i, ∃ x : Option Addr × Nat, i < xss.length → w.cell? ⟨b, o + i, none⟩ = some (.slice x.1 (rw_ xss i).length x.2) ∧ RdI w x.1 (rw_ xss i) ∧ (rw_ xss i).length ≤ x.2 := fun i => by
      by_cases hi : i < xss.length
      · obtain ⟨ai, ci, h1, h2, h3⟩ := hc i hi
        exact ⟨(ai, ci), fun _ => ⟨h1, h2, h3⟩⟩
      · exact ⟨(none, 0), fun h => absurd h hi⟩
    refine ⟨fun i => (Classical.choose (hch i)).1, fun i => (Classical.choose (hch i)).2, fun _ => ⟨b, o, ha, fun i hi => ?_⟩, fun i hi => (Classical.choose_spec (hch i) hi).2⟩
    rw [rowVals_len] at hi
    rw [rowVals_get hi]
    exact (Classical.choose_spec (hch i) hi).1
  · refine ⟨fun _ => none, fun _ => 0, fun h1 => ?_, fun i hi => absurd hi (by omega)⟩
    rw [rowVals_len] at h1
    exact absurd h1 h0
theorem rowVals_one (xss : List (List Int)) (A : Nat → Option Addr) (C : Nat → Nat) (n : Nat) : ∀ u ∈ rowVals xss A C n, u.oneCell' = true := fun u hu => by
  unfold rowVals at hu
  obtain ⟨i, _, rfl⟩ := List.mem_map.1 hu
  rfl
theorem rw_app_l {A B : List (List Int)} {i : Nat} (h : i < A.length) : rw_ (A ++ B) i = rw_ A i := by simp [rw_, List.getElem?_append, h]
theorem rw_app_r {A B : List (List Int)} {i : Nat} (h : A.length ≤ i) : rw_ (A ++ B) i = rw_ B (i - A.length) := by simp [rw_, List.getElem?_append, Nat.not_lt.2 h]
theorem app_rd {T1 T2 : TypeId} {W w1 w2 : World} {nu nv c c2 : Nat} {a a2 : Option Addr} {us vs : List (List Int)} {A Av : Nat → Option Addr} {C Cv : Nat → Nat} (h : OwnR T1 T2 w1 W.heap.size a nu c us A C) (hb : Below W.heap.size W w1) (hvl : vs.length = nv)
    (hv : ∀ i, i < nv → RdI W (Av i) (rw_ vs i) ∧ (rw_ vs i).length ≤ Cv i) (r : w2.ownsRow W.heap.size T1 1 (.slice a2 (nu + nv) c2) (nu + nv) (rowVals us A C nu ++ rowVals vs Av Cv nv))
    (g : Chg (fun k => ∃ p, a = some p ∧ p.block = k) w1 w2) : RdR w2 a2 (us ++ vs) ∧ Below W.heap.size W w2 := by
  have hb2 : Below W.heap.size W w2 := hb.trans (g.below hb.size fun k hk hx => by obtain ⟨x, hx, e⟩ := hx; have := (ownsRow_block h.own x hx).1; omega)
  refine ⟨fun h0 => ?_, hb2⟩
  have hl : (us ++ vs).length = nu + nv := by rw [List.length_append, h.len, hvl]
  obtain ⟨gb, ha, hc⟩ := ownsRow_cell r (by omega)
  refine ⟨gb, 0, ha, fun i hi => ?_⟩
  rw [hl] at hi
  rw [Nat.zero_add, hc i hi]
  by_cases hi1 : i < nu
  · refine ⟨A i, C i, ?_, ?_, ?_⟩
    · rw [List.getElem?_append_left (by rw [rowVals_len]; exact hi1), rowVals_get hi1, rw_app_l (by rw [h.len]; exact hi1)]
    · rw [rw_app_l (by rw [h.len]; exact hi1)]
      exact ((h.row i hi1).kept g (fun p hp hx => by obtain ⟨x, hx, e⟩ := hx; exact h.apo i hi1 x p hx hp e)).rd
    · rw [rw_app_l (by rw [h.len]; exact hi1)]
      exact (h.row i hi1).capl
  · refine ⟨Av (i - nu), Cv (i - nu), ?_, ?_, ?_⟩
    · rw [List.getElem?_append_right (by rw [rowVals_len]; omega), rowVals_len, rowVals_get (by omega), rw_app_r (by rw [h.len]; omega), h.len]
    · rw [rw_app_r (by rw [h.len]; omega), h.len]
      exact (hv (i - nu) (by omega)).1.keep hb2 (Nat.le_refl _)
    · rw [rw_app_r (by rw [h.len]; omega), h.len]
      exact (hv (i - nu) (by omega)).2
theorem Rws.app {p : Int} {n : Nat} {A B : List (List Int)} (h : Rws p n A) (k : Rws p n B) : Rws p n (A ++ B) := by
  refine ⟨fun i hi => ?_, fun i j hi hj => ?_⟩
  · rw [List.length_append] at hi
    by_cases hA : i < A.length
    · rw [rw_app_l hA]; exact h.row i hA
    · rw [rw_app_r (by omega)]; exact k.row _ (by omega)
  · rw [List.length_append] at hi
    by_cases hA : i < A.length
    · rw [rw_app_l hA]; exact h.rng i j hA hj
    · rw [rw_app_r (by omega)]; exact k.rng _ j (by omega) hj
theorem Rws.short {p : Int} {n : Nat} {A : List (List Int)} (h : Rws p n A) (hn : n ≤ 100) {k : Nat} (hk : A.length = k) : ∀ i, i < k → (rw_ A i).length ≤ 1048576 := fun i hi => by rw [h.row i (by rw [hk]; exact hi)]; omega
set_option maxHeartbeats 1000000 in
theorem l03Fit_any (p0 q0 p1 q1 : Int) (a0 a1 : Option Addr) (n0 c0 n1 c1 : Nat) (w : World) :
    Calls Try.prog 25 #[.agg #[.int .i64 p0, .int .i64 q0, .slice a0 n0 c0], .agg #[.int .i64 p1, .int .i64 q1, .slice a1 n1 c1]] w fun e w' => e = .returned (.bool (p0 == p1 && q0 == q1)) ∧ Below w.heap.size w w' := by
  cases hp : (p0 == p1)
  · go_enter Try.func25, Try.ntmps25
    go_wp2
    go_ret
    exact ⟨rfl, ((Below.refl _ _).alloc (Nat.le_refl _) _).alloc (by simp) _⟩
  · go_enter Try.func25, Try.ntmps25
    go_wp2
    go_ret
    exact ⟨by first | rfl | simp, ((Below.refl _ _).alloc (Nat.le_refl _) _).alloc (by simp) _⟩
end Go.Proofs.Ytpkdgemnddcefaa
