/- From a reading of an argument to what its memory holds: slices of integers, slices of such slices. No program in sight. -/
import Derived.Test.YtcnphhcdjhmmkaaHeap
import Derived.ProofKit
import Derived.Lib.SmallJoins
import Derived.Deep.Matrix
set_option linter.unusedVariables false
set_option linter.unusedSimpArgs false
namespace Go.Proofs.Ytcnphhcdjhmmkaa
open Go.RowKit Go.ChangeShapes Go.WideShapes Go.ChangeAt Go.Joins Go.Deep
variable {H : Type} {enc : TypeId × Value → H}

theorem cell_spot {w : World} {a : Addr} {v : Value} (h : w.cell? a = some v) : a = ⟨a.block, a.off, none⟩ := by
  obtain ⟨b, o, s⟩ := a
  cases s with
  | none => rfl
  | some k => simp [World.cell?] at h; split at h <;> simp at h
theorem add_zero' (a : Addr) : a.add 0 = a := by simp [Addr.add]
theorem add_at (b o i : Nat) : (⟨b, o, none⟩ : Addr).add i = ⟨b, o + i, none⟩ := by unfold Addr.add; split <;> simp_all
theorem rdI_of {w : World} {a : Addr} {zs : List Int} (hc : ∀ i, i < zs.length → w.cell? (a.add i) = some (.int .i64 (zs.getD i 0))) (l : Nat) (hl : l ≤ zs.length) : RdI w (some a) (zs.take l) := fun h0 => by
  have hl' : (zs.take l).length = l := by simp; omega
  have h1 := hc 0 (by omega)
  rw [add_zero'] at h1
  have e := cell_spot h1
  refine ⟨a.block, a.off, by rw [← e], fun i hi => ?_⟩
  rw [hl'] at hi
  have h2 := hc i (by omega)
  rw [e, add_at] at h2
  rw [h2]
  simp [el, hi]
theorem openI {P : Program} {w : World} {base fuel : Nat} {held : Bool} {t e : TypeId} {a : Option Addr} {l c : Nat} {y : DataW H × List MemPlace} (ht : P.underlying t = some (.slice e)) (he : P.underlying e = some (.int .i64)) (hc : P.cellsOf e = 1)
    (h : DataW.trod enc P w base (fun _ => true) held fuel t [.slice a l c] = some y) : ∃ xs : List Int, xs.length = l ∧ RdI w a xs ∧ (∀ x ∈ xs, (Lit.int .i64 x).wf = true) ∧ l ≤ maxLen := by
  rcases open_ints ht he hc h with ⟨hcs, _⟩ | ⟨x, l', c', zs, hcs, _, hl, hm, hz, _, hcell, hwz⟩
  · simp at hcs
    obtain ⟨rfl, rfl, rfl⟩ := hcs
    exact ⟨[], rfl, RdI.nil _ _, by simp, by simp⟩
  · simp at hcs
    obtain ⟨rfl, rfl, rfl⟩ := hcs
    have hz' : zs.length = c := by simpa using hz
    exact ⟨zs.take l, by simp; omega, rdI_of hcell l (by omega), fun q hq => hwz q (List.mem_of_mem_take hq), Nat.le_trans hl hm⟩
theorem openR {P : Program} {w : World} {base fuel : Nat} {held : Bool} {t e q : TypeId} {a : Option Addr} {l c : Nat} {y : DataW H × List MemPlace} (ht : P.underlying t = some (.slice e)) (he : P.underlying e = some (.slice q)) (hq : P.underlying q = some (.int .i64))
    (ce : P.cellsOf e = 1) (cq : P.cellsOf q = 1)
    (h : DataW.trod enc P w base (fun _ => true) held fuel t [.slice a l c] = some y) : ∃ xss : List (List Int), xss.length = l ∧ RdR w a xss ∧ (∀ xs ∈ xss, xs.length ≤ maxLen ∧ ∀ x ∈ xs, (Lit.int .i64 x).wf = true) ∧ l ≤ maxLen := by
  rcases open_int_rows ht he hq ce cq h with ⟨hcs, _⟩ | ⟨x, l', c', A, L, C, Z, hcs, _, hl, hm, _, hrow⟩
  · simp at hcs
    obtain ⟨rfl, rfl, rfl⟩ := hcs
    exact ⟨[], rfl, RdR.nil _ _, by simp, by simp⟩
  · simp at hcs
    obtain ⟨rfl, rfl, rfl⟩ := hcs
    have hg : ∀ i, i < l → rw_ ((List.range l).map fun r => (Z r).take (L r)) i = (Z i).take (L i) := fun i hi => by simp [rw_, hi]
    refine ⟨(List.range l).map fun r => (Z r).take (L r), by simp, fun h0 => ?_, ?_, Nat.le_trans hl hm⟩
    · simp at h0
      have h1 := (hrow 0 (by omega)).1
      rw [add_zero'] at h1
      have e := cell_spot h1
      refine ⟨x.block, x.off, by rw [← e], fun i hi => ?_⟩
      simp at hi
      obtain ⟨k1, k2, k3, k4, k5, k6, k7⟩ := hrow i (by omega)
      rw [hg i hi]
      refine ⟨A i, C i, ?_, ?_, by simp; omega⟩
      · rw [e, add_at] at k1
        rw [k1]; simp; omega
      · cases hA : A i with
        | none =>
          have := k6 hA
          have hz : L i = 0 := by omega
          rw [hz]; simp; exact RdI.nil _ _
        | some a' =>
          exact rdI_of (fun j hj => (k7 a' hA).2 j (by omega)) _ (by omega)
    · intro xs hxs
      simp at hxs
      obtain ⟨r, hr, rfl⟩ := hxs
      obtain ⟨k1, k2, k3, k4, k5, k6, k7⟩ := hrow r (by omega)
      exact ⟨by simp; omega, fun z hz => k5 z (List.mem_of_mem_take hz)⟩
end Go.Proofs.Ytcnphhcdjhmmkaa
