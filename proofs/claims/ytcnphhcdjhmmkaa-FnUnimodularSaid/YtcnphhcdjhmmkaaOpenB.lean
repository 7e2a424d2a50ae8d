/- From a reading of a code to what its memory holds. No program in sight. -/
import Derived.Test.YtcnphhcdjhmmkaaOpen
import Derived.Test.YtcnphhcdjhmmkaaSrc
set_option linter.unusedVariables false
set_option linter.unusedSimpArgs false
namespace Go.Proofs.Ytcnphhcdjhmmkaa
open Go.RowKit Go.ChangeShapes Go.WideShapes Go.ChangeAt Go.Joins Go.Deep
variable {H : Type} {enc : TypeId × Value → H}

theorem rdB_of {w : World} {a : Addr} {zs : List Int} (hc : ∀ i, i < zs.length → w.cell? (a.add i) = some (.int .u8 (zs.getD i 0))) (l : Nat) (hl : l ≤ zs.length) : RdB w (some a) (zs.take l) := fun h0 => by
  have hl' : (zs.take l).length = l := by simp; omega
  have h1 := hc 0 (by omega)
  rw [add_zero'] at h1
  have e := cell_spot h1
  refine ⟨a.block, a.off, by rw [← e], fun i hi => ?_⟩
  rw [hl'] at hi
  have h2 := hc i (by omega)
  rw [e, add_at] at h2
  rw [h2]
  simp [el, hi]
theorem wf_u8 {a : Int} (h : (Lit.int .u8 a).wf = true) : 0 ≤ a ∧ a ≤ 255 := by
  simp [Lit.wf, IntKind.min, IntKind.max, IntKind.signed, IntKind.bits] at h
  omega
theorem openB {P : Program} {w : World} {base fuel : Nat} {held : Bool} {t e : TypeId} {a : Option Addr} {l c : Nat} {y : DataW H × List MemPlace} (ht : P.underlying t = some (.slice e)) (he : P.underlying e = some (.int .u8)) (hc : P.cellsOf e = 1)
    (h : DataW.trod enc P w base (fun _ => true) held fuel t [.slice a l c] = some y) : ∃ bs : List Int, bs.length = l ∧ RdB w a bs ∧ (∀ x ∈ bs, 0 ≤ x ∧ x ≤ 255) ∧ l ≤ c ∧ l ≤ maxLen := by
  rcases open_ints ht he hc h with ⟨hcs, _⟩ | ⟨x, l', c', zs, hcs, _, hl, hm, hz, _, hcell, hwz⟩
  · simp at hcs
    obtain ⟨rfl, rfl, rfl⟩ := hcs
    exact ⟨[], rfl, fun h => absurd h (by simp), by simp, Nat.le_refl _, by simp⟩
  · simp at hcs
    obtain ⟨rfl, rfl, rfl⟩ := hcs
    have hz' : zs.length = c := by simpa using hz
    exact ⟨zs.take l, by simp; omega, rdB_of hcell l (by omega), fun q hq => wf_u8 (hwz q (List.mem_of_mem_take hq)), hl, Nat.le_trans hl hm⟩
end Go.Proofs.Ytcnphhcdjhmmkaa
