/- What a world still holds of an elder one; marks in the rows of what a call has made. No program in sight. -/
import Derived.Test.YtpkdgemnddcefaaLawKit
set_option linter.unusedVariables false
set_option linter.unusedSimpArgs false
namespace Go.Proofs.Ytpkdgemnddcefaa
open Go.RowKit

/-- the blocks from L on that the elder world had are as they were -/
def Snap (L : Nat) (w0 w : World) : Prop := w0.heap.size ≤ w.heap.size ∧ ∀ k, L ≤ k → k < w0.heap.size → w.heap[k]? = w0.heap[k]?
/-- the blocks from B up to U -/
def Rg (B U : Nat) (j : Nat) : Prop := B ≤ j ∧ j < U
section
variable {L B U : Nat} {w0 w w' : World}
theorem Snap.start (L : Nat) (w : World) : Snap L w w := ⟨Nat.le_refl _, fun _ _ _ => rfl⟩
theorem Snap.keep (h : Snap L w0 w) (hb : Below w.heap.size w w') : Snap L w0 w' :=
  ⟨Nat.le_trans h.1 hb.size, fun k hL hk => (hb.block k (Nat.lt_of_lt_of_le hk h.1)).trans (h.2 k hL hk)⟩
theorem Snap.chg (h : Snap L w0 w) (hc : Chg (Rg B U) w w') (hd : w0.heap.size ≤ B ∨ U ≤ L) : Snap L w0 w' :=
  ⟨Nat.le_trans h.1 hc.size, fun k hL hk => (hc.block k (Nat.lt_of_lt_of_le hk h.1) (fun hr => by have h1 := hr.1; have h2 := hr.2; omega)).trans (h.2 k hL hk)⟩
theorem Snap.ownR {T1 T2 : TypeId} {a : Option Addr} {n c : Nat} {xss : List (List Int)} {A : Nat → Option Addr} {C : Nat → Nat} (h : Snap L w0 w) (ho : OwnR T1 T2 w0 L a n c xss A C) : OwnR T1 T2 w L a n c xss A C :=
  ho.same (fun p hp => h.2 _ (ownsRow_block ho.own p hp).1 (ownsRow_block ho.own p hp).2) (fun i hi p hp => h.2 _ ((ho.row i hi).block p hp).1 ((ho.row i hi).block p hp).2)
theorem Snap.hasR {T2 : TypeId} {a : Option Addr} {n c : Nat} {xss : List (List Int)} {A : Nat → Option Addr} {C : Nat → Nat} (h : Snap L w0 w) (ho : HasR T2 w0 L a n c xss A C) : HasR T2 w L a n c xss A C :=
  ho.same (fun h0 p hp => h.2 _ (ho.blk h0 p hp).1 (ho.blk h0 p hp).2) (fun i hi p hp => h.2 _ ((ho.row i hi).block p hp).1 ((ho.row i hi).block p hp).2)
theorem Snap.ownI {T : TypeId} {a : Option Addr} {n c : Nat} {xs : List Int} (h : Snap L w0 w) (ho : OwnI T w0 L a n c xs) : OwnI T w L a n c xs :=
  ho.same (fun p hp => h.2 _ (ho.block p hp).1 (ho.block p hp).2)
theorem Snap.rdI {a : Option Addr} {xs : List Int} (h : Snap 0 w0 w) (hr : RdI w0 a xs) : RdI w a xs := fun h0 => by
  obtain ⟨b, o, ha, hc⟩ := hr h0
  refine ⟨b, o, ha, fun i hi => ?_⟩
  rw [World.cell?_of_block (w := w0) (a := ⟨b, o + i, none⟩) (h.2 b (Nat.zero_le _) (block_lt (hc i hi)))]
  exact hc i hi
theorem Snap.rdR {a : Option Addr} {xss : List (List Int)} (h : Snap 0 w0 w) (hr : RdR w0 a xss) : RdR w a xss := fun h0 => by
  obtain ⟨b, o, ha, hc⟩ := hr h0
  refine ⟨b, o, ha, fun i hi => ?_⟩
  obtain ⟨ai, ci, h1, h2, h3⟩ := hc i hi
  refine ⟨ai, ci, ?_, h.rdI h2, h3⟩
  rw [World.cell?_of_block (w := w0) (a := ⟨b, o + i, none⟩) (h.2 b (Nat.zero_le _) (block_lt h1))]
  exact h1
theorem HasR.rg {T2 : TypeId} {a : Option Addr} {n c : Nat} {xss : List (List Int)} {A : Nat → Option Addr} {C : Nat → Nat} (ho : HasR T2 w0 L a n c xss A C) (hc : Chg (RowBlk n A) w w') : Chg (Rg L w0.heap.size) w w' :=
  hc.mono fun k _ hk => by
    obtain ⟨i, hi, p, hp, e⟩ := hk
    have := (ho.row i hi).block p hp
    exact ⟨by omega, by omega⟩
theorem OwnI.rg {T : TypeId} {a : Option Addr} {n c : Nat} {xs : List Int} (ho : OwnI T w0 L a n c xs) (hc : Chg (fun j => ∃ p, a = some p ∧ p.block = j) w w') : Chg (Rg L w0.heap.size) w w' :=
  hc.mono fun k _ hk => by
    obtain ⟨p, hp, e⟩ := hk
    have := ho.block p hp
    exact ⟨by omega, by omega⟩
theorem cell_chg {p : Addr} {v : Value} (h : w.cell? p = some v) (hc : Chg (Rg B U) w w') (hd : p.block < B ∨ U ≤ p.block) : w'.cell? p = some v := by
  rw [World.cell?_of_block (w := w) (hc.block _ (block_lt h) (fun hr => by have h1 := hr.1; have h2 := hr.2; omega))]
  exact h
theorem below_chg {B0 : Nat} {w1 : World} (h : Below B0 w1 w) (hc : Chg (Rg B U) w w') (hs : B0 ≤ w1.heap.size) (hB : B0 ≤ B) : Below B0 w1 w' :=
  h.trans (hc.below (by have := h.size; omega) (fun k hk hr => by have := hr.1; omega))
theorem offs_le {xss : List (List Int)} {M : Nat} : ∀ {n : Nat}, (∀ i, i < n → (rw_ xss i).length ≤ M) → offs xss n ≤ n * M
  | 0, _ => by simp [offs]
  | n + 1, h => by
    have h1 := offs_le (n := n) (fun i hi => h i (by omega))
    have h2 := h n (by omega)
    simp only [offs]
    rw [Nat.add_mul, Nat.one_mul]
    omega
theorem offs_small {xss : List (List Int)} {n : Nat} (hn : n ≤ 1048576) (h : ∀ i, i < n → (rw_ xss i).length ≤ 1048576) : (offs xss n : Int) ≤ 10000000000000 := by
  have h1 := offs_le h
  have h2 : n * 1048576 ≤ 1048576 * 1048576 := Nat.mul_le_mul_right _ hn
  omega
end
end Go.Proofs.Ytpkdgemnddcefaa
