/- Groups gathered into a map, told from where the list begins. -/
import Derived.Test.YtgdialknnjnehaaFpI
set_option linter.unusedVariables false
set_option linter.unusedSimpArgs false
namespace Go.Proofs.Ytgdialknnjnehaa
open Go.RowKit Go.Maps

/-- the first k numbers are gathered in the map at block B, their lists in blocks that w3 did not have; nothing else of w3 has changed -/
def G3 (w3 : World) (B : Nat) (wr : World) (qs : List Int) (k : Nat) (hd : Int → Nat × Nat × Nat) (D : DataW Unit) : Prop :=
  MG wr w3.heap.size (grp (qs.take k)) hd D ∧ wr.ownsMap Try.prog 2 codeS B k D ∧ Chg (fun j => j = B) w3 wr ∧ B < w3.heap.size
theorem G3.step {w3 : World} {B : Nat} {wr w4 w5 W : World} {qs : List Int} {k g l c : Nat} {hd : Int → Nat × Nat × Nat} {D : DataW Unit} {ag : Option Addr} (h : G3 w3 B wr qs k hd D) (hk : k < qs.length) (hp64 : -9223372036854775808 ≤ lpf (el qs k) ∧ lpf (el qs k) ≤ 9223372036854775807)
    (hag : ∀ q, ag = some q → grp (qs.take k) (lpf (el qs k)) ≠ [] ∧ q = ⟨(hd (lpf (el qs k))).1, 0, none⟩)
    (hW : Below wr.heap.size wr W) (hWs : wr.heap.size ≤ W.heap.size) (r4 : w4.ownsRow w3.heap.size 2 1 (.slice (some ⟨g, 0, none⟩) (l + 1) c) (l + 1) ((grp (qs.take k) (lpf (el qs k))).map (Value.int .i64) ++ [.int .i64 (el qs k)]))
    (q4 : (some ⟨g, 0, none⟩ : Option Addr) = ag ∨ ∃ p, (some ⟨g, 0, none⟩ : Option Addr) = some p ∧ W.heap.size ≤ p.block) (g4 : Chg (fun j => ∃ p, ag = some p ∧ p.block = j) W w4)
    (ho : w5.ownsMap Try.prog 2 codeS B (k + 1) (D.put (.int .i64 (lpf (el qs k))) (hdD (g, l + 1, c)))) (hg : w4.grownBy w5 (some B)) :
    G3 w3 B w5 qs (k + 1) (fun r => if r = lpf (el qs k) then (g, l + 1, c) else hd r) (D.put (.int .i64 (lpf (el qs k))) (hdD (g, l + 1, c))) := by
  obtain ⟨h1, h2, h3, h4⟩ := h
  have hcW : Chg (fun j => grp (qs.take k) (lpf (el qs k)) ≠ [] ∧ j = (hd (lpf (el qs k))).1) wr w4 := by
    refine Chg.trans (Chg.ofBelow hW (fun j a b => by omega)) (g4.mono (fun j hj hx => ?_))
    obtain ⟨p, hp1, hp2⟩ := hx
    obtain ⟨e1, e2⟩ := hag p hp1
    exact ⟨e1, by rw [← hp2, e2]⟩
  have hm4 := h1.put (x := el qs k) hp64 (OwnI.pushed r4) hcW (by
    rcases q4 with q4 | ⟨p, q4, hp2⟩
    · left
      obtain ⟨e1, e2⟩ := hag _ q4.symm
      exact ⟨e1, congrArg Addr.block e2⟩
    · right
      injection q4 with e; subst e
      have : W.heap.size ≤ g := hp2
      omega)
  rw [grp_step hk] at hm4
  have hc5 := grown_chg hg
  have hblk : ∀ p, grp (qs.take k) p ≠ [] → w3.heap.size ≤ (hd p).1 := fun p hp => (h1.blk hp).1
  refine ⟨hm4.kept hc5 (fun p hpp e => ?_), ho, ?_, h4⟩
  · have := (hm4.blk hpp).1
    have e' : (if p = lpf (el qs k) then (g, l + 1, c) else hd p).1 = B := e
    omega
  · have c1 : Chg (fun j => j = B ∨ w3.heap.size ≤ j) w3 wr := h3.mono (fun j hj e => .inl e)
    have c2 : Chg (fun j => j = B ∨ w3.heap.size ≤ j) wr w4 := hcW.mono (fun j hj hx => .inr (by have := hblk _ hx.1; omega))
    have c3 : Chg (fun j => j = B ∨ w3.heap.size ≤ j) w4 w5 := hc5.mono (fun j hj e => .inl e)
    exact ((c1.trans c2).trans c3).mono (fun j hj e => by omega)
theorem G3.start {w3 : World} {B : Nat} (qs : List Int) (hm : w3.ownsMap Try.prog 2 codeS B 0 (.map [])) (hB : B < w3.heap.size) : G3 w3 B w3 qs 0 (fun _ => (0, 0, 0)) (.map []) :=
  ⟨MG.start _ _, hm, Chg.refl _ _, hB⟩
theorem G3.full {w3 : World} {B : Nat} {wr : World} {qs : List Int} {k : Nat} {hd : Int → Nat × Nat × Nat} {D : DataW Unit} (h : G3 w3 B wr qs k hd D) (hk : qs.length = k) : MG wr w3.heap.size (grp qs) hd D ∧ wr.ownsMap Try.prog 2 codeS B k D ∧ Chg (fun j => j = B) w3 wr ∧ B < w3.heap.size := by
  unfold G3 at h
  rwa [List.take_of_length_le (by omega)] at h
theorem G3.keep {w3 : World} {B : Nat} {wr w' : World} {qs : List Int} {k : Nat} {hd : Int → Nat × Nat × Nat} {D : DataW Unit} (h : G3 w3 B wr qs k hd D) (hb : Below wr.heap.size wr w') : G3 w3 B w' qs k hd D := by
  obtain ⟨h1, h2, h3, h4⟩ := h
  refine ⟨h1.keep hb, ownsMap_same h2 (hb.block _ (by have := h3.size; omega)), ?_, h4⟩
  have hc : Chg (fun j => j = B ∨ w3.heap.size ≤ j) wr w' := Chg.ofBelow hb (fun j a b => by omega)
  exact ((h3.mono (fun j hj e => .inl e)).trans hc).mono (fun j hj e => by omega)
theorem G3.cell {w3 : World} {B : Nat} {wr : World} {qs : List Int} {k : Nat} {hd : Int → Nat × Nat × Nat} {D : DataW Unit} {p : Addr} {v : Value} (h : G3 w3 B wr qs k hd D) (hp : w3.cell? p = some v) (hB : p.block ≠ B) : wr.cell? p = some v :=
  (World.cell?_of_block (h.2.2.1.block _ (block_lt hp) hB)).trans hp
end Go.Proofs.Ytgdialknnjnehaa
