/- All ascending lists of k numbers below n: the program's and the reference's function. -/
import Derived.Test.YtpkdgemnddcefaaChs
import Derived.Test.YtpkdgemnddcefaaPush
import Derived.Test.YtpkdgemnddcefaaConcat
import Derived.Deep.RegionHeld3
set_option linter.unusedVariables false
set_option linter.unusedSimpArgs false
namespace Go.Proofs.Ytpkdgemnddcefaa
open Go.RowKit

theorem Try.infoI : (Try.prog.info? 3).map (fun i => (i.zero, i.size, i.bytes)) = some (some (.int .i64 0), 1, 8) := by kernel_rfl
theorem Try.infoRI : (Try.prog.info? 49).map (fun i => (i.zero, i.size, i.bytes)) = some (some (.slice none 0 0), 1, 24) := by kernel_rfl
/-- rows of a callee's that are taken over one by one: out is what is made, the rows from j on are still the callee's -/
structure Mov (T1 T2 : TypeId) (w : World) (B : Nat) (aR : Option Addr) (nR : Nat) (R : List (List Int)) (A : Nat → Option Addr) (C : Nat → Nat) (j : Nat) (a1 : Option Addr) (n1 c1 : Nat) (Z : List (List Int)) (A1 : Nat → Option Addr) (C1 : Nat → Nat) : Prop where
  out : OwnR T1 T2 w B a1 n1 c1 Z A1 C1
  hdr : ∀ i, j ≤ i → i < nR → ∃ g, aR = some ⟨g, 0, none⟩ ∧ w.cell? ⟨g, i, none⟩ = some (.slice (A i) (rw_ R i).length (C i))
  row : ∀ i, j ≤ i → i < nR → OwnI T2 w B (A i) (rw_ R i).length (C i) (rw_ R i)
  ap : ∀ i l, j ≤ i → i < nR → j ≤ l → l < nR → i ≠ l → Apart (A i) (A l)
  apo : ∀ i, j ≤ i → i < nR → Apart aR (A i)
  ap1 : ∀ i l, j ≤ i → i < nR → l < n1 → Apart (A i) (A1 l)
  apo1 : ∀ i, j ≤ i → i < nR → Apart a1 (A i)
  apR : j < nR → Apart a1 aR
  apR1 : ∀ l, j < nR → l < n1 → Apart (A1 l) aR
section
variable {T1 T2 : TypeId} {w w1 w2 w3 : World} {B : Nat} {aR a1 : Option Addr} {nR n1 c1 j cR : Nat} {R Z : List (List Int)} {A A1 : Nat → Option Addr} {C C1 : Nat → Nat}
theorem Mov.start (h : OwnR T1 T2 w B a1 n1 c1 Z A1 C1) (hb : Below w.heap.size w w1) (hB : B ≤ w.heap.size) (hR : OwnR T1 T2 w1 w.heap.size aR nR cR R A C) : Mov T1 T2 w1 B aR nR R A C 0 a1 n1 c1 Z A1 C1 := by
  have hk := h.keep hb (Nat.le_refl _)
  have hlt : ∀ p, a1 = some p → p.block < w.heap.size := fun p hp => (ownsRow_block h.own p hp).2
  have hlt1 : ∀ l, l < n1 → ∀ p, A1 l = some p → p.block < w.heap.size := fun l hl p hp => ((h.row l hl).block p hp).2
  have hge : ∀ i, i < nR → ∀ p, A i = some p → w.heap.size ≤ p.block := fun i hi p hp => ((hR.row i hi).block p hp).1
  have hgo : ∀ p, aR = some p → w.heap.size ≤ p.block := fun p hp => (ownsRow_block hR.own p hp).1
  refine ⟨hk, fun i _ hi => ?_, fun i _ hi => (hR.row i hi).mono hB, fun i l _ hi _ hl hne => hR.ap i l hi hl hne, fun i _ hi => hR.apo i hi, fun i l _ hi hl p q hp hq e => ?_, fun i _ hi p q hp hq e => ?_, fun _ p q hp hq e => ?_, fun l _ hl p q hp hq e => ?_⟩
  · obtain ⟨g, ha, hc⟩ := ownsRow_cell hR.own (by omega)
    exact ⟨g, ha, by rw [hc i hi, rowVals_get hi]⟩
  · have h1 := hge i hi p hp; have h2 := hlt1 l hl q hq; omega
  · have h1 := hlt p hp; have h2 := hge i hi q hq; omega
  · have h1 := hlt p hp; have h2 := hgo q hq; omega
  · have h1 := hlt1 l hl p hp; have h2 := hgo q hq; omega
/-- the next row gets one more number and is appended to what is made -/
theorem Mov.step {x : Int} {a' a4 : Option Addr} {c' c4 : Nat} (h : Mov T1 T2 w B aR nR R A C j a1 n1 c1 Z A1 C1) (hj : j < nR)
    (r2 : w2.ownsRow B T2 1 (.slice a' ((rw_ R j).length + 1) c') ((rw_ R j).length + 1) ((rw_ R j).map (Value.int .i64) ++ [.int .i64 x])) (q2 : a' = A j ∨ ∃ p, a' = some p ∧ w.heap.size ≤ p.block) (g2 : Chg (fun k => ∃ p, A j = some p ∧ p.block = k) w w2)
    (r3 : w3.ownsRow B T1 1 (.slice a4 (n1 + 1) c4) (n1 + 1) (rowVals Z A1 C1 n1 ++ [.slice a' ((rw_ R j).length + 1) c'])) (q3 : a4 = a1 ∨ ∃ p, a4 = some p ∧ w2.heap.size ≤ p.block) (g3 : Chg (fun k => ∃ p, a1 = some p ∧ p.block = k) w2 w3) :
    Mov T1 T2 w3 B aR nR R A C (j + 1) a4 (n1 + 1) c4 (Z ++ [rw_ R j ++ [x]]) (upd A1 n1 a') (upd C1 n1 c') := by
  have hsz := g2.size
  have hout2 : OwnR T1 T2 w2 B a1 n1 c1 Z A1 C1 := h.out.kept g2 (fun p hp hx => by obtain ⟨q, hq, e⟩ := hx; exact h.apo1 j (Nat.le_refl _) hj p q hp hq e.symm) (fun i hi p hp hx => by obtain ⟨q, hq, e⟩ := hx; exact h.ap1 j i (Nat.le_refl _) hj hi q p hq hp e)
  have hrow2 : OwnI T2 w2 B a' (rw_ R j ++ [x]).length c' (rw_ R j ++ [x]) := by
    rw [List.length_append]; exact OwnI.pushed r2
  have hA : ∀ b, Apart b (A j) → (∀ p, b = some p → p.block < w.heap.size) → Apart b a' := by
    intro b hb hlt p q hp hq e
    rcases q2 with q2 | ⟨p', q2, q2'⟩
    · rw [q2] at hq; exact hb p q hp hq e
    · rw [q2] at hq; injection hq with e2; subst e2
      have := hlt p hp
      omega
  have hcl : ∀ i, j ≤ i → i < nR → ∀ p, A i = some p → p.block < w.heap.size := fun i h1 h2 p hp => ((h.row i h1 h2).block p hp).2
  have hlt1 : ∀ l, l < n1 → ∀ p, A1 l = some p → p.block < w.heap.size := fun l hl p hp => ((h.out.row l hl).block p hp).2
  have hlto : ∀ p, a1 = some p → p.block < w.heap.size := fun p hp => (ownsRow_block h.out.own p hp).2
  have hltR : ∀ p, aR = some p → p.block < w.heap.size := fun p hp => by
    obtain ⟨g, hg, hc⟩ := h.hdr j (Nat.le_refl _) hj
    rw [hg] at hp; injection hp with e; subst e
    exact block_lt (p := ⟨g, j, none⟩) hc
  have h4 : ∀ b, Apart a1 b → (∀ p, b = some p → p.block < w.heap.size) → Apart a4 b := by
    intro b hb hlt p q hp hq e
    rcases q3 with q3 | ⟨p', q3, q3'⟩
    · rw [q3] at hp; exact hb p q hp hq e
    · rw [q3] at hp; injection hp with e2; subst e2
      have := hlt q hq
      omega
  have hO := hout2.pushed hrow2 (fun i hi => hA _ (fun p q hp hq e => h.ap1 j i (Nat.le_refl _) hj hi q p hq hp e.symm) (hlt1 i hi)) (hA _ (h.apo1 j (Nat.le_refl _) hj) hlto) (by rw [List.length_append]; exact r3) q3 g3
  have hkeep : ∀ b, (Apart b (A j)) → (Apart a1 b) → (∀ p, b = some p → p.block < w.heap.size) → ∀ p, b = some p → w3.heap[p.block]? = w.heap[p.block]? := by
    intro b hb1 hb2 hlt p hp
    rw [g3.block _ (by have := hlt p hp; omega) (fun hx => by obtain ⟨q, hq, e⟩ := hx; exact hb2 q p hq hp e), g2.block _ (hlt p hp) (fun hx => by obtain ⟨q, hq, e⟩ := hx; exact hb1 p q hp hq e.symm)]
  refine ⟨by simpa using hO, fun i h1 h2 => ?_, fun i h1 h2 => ?_, fun i l h1 h2 h3 h4 hne => h.ap i l (by omega) h2 (by omega) h4 hne, fun i h1 h2 => h.apo i (by omega) h2, fun i l h1 h2 h3 => ?_, fun i h1 h2 => ?_, fun h1 => ?_, fun l h1 h2 => ?_⟩
  · obtain ⟨g, hg, hc⟩ := h.hdr i (by omega) h2
    refine ⟨g, hg, ?_⟩
    rw [World.cell?_of_block (w := w) (a := ⟨g, i, none⟩) (hkeep aR (h.apo j (Nat.le_refl _) hj) (h.apR (by omega)) hltR ⟨g, 0, none⟩ hg)]
    exact hc
  · exact (h.row i (by omega) h2).same (hkeep (A i) (h.ap i j (by omega) h2 (Nat.le_refl _) hj (by omega)) (h.apo1 i (by omega) h2) (hcl i (by omega) h2))
  · by_cases he : l = n1
    · subst he; rw [upd_eq]; exact hA _ (h.ap i j (by omega) h2 (Nat.le_refl _) hj (by omega)) (hcl i (by omega) h2)
    · rw [upd_lt (show l < n1 by omega)]; exact h.ap1 i l (by omega) h2 (by omega)
  · exact h4 _ (h.apo1 i (by omega) h2) (hcl i (by omega) h2)
  · exact h4 _ (h.apR (by omega)) hltR
  · by_cases he : l = n1
    · subst he; rw [upd_eq]
      intro p q hp hq e
      rcases q2 with q2 | ⟨p', q2, q2'⟩
      · rw [q2] at hp; exact h.apo j (Nat.le_refl _) hj q p hq hp e.symm
      · rw [q2] at hp; injection hp with e2; subst e2
        have := hltR q hq
        omega
    · rw [upd_lt (show l < n1 by omega)]; exact h.apR1 l (by omega) (by omega)
theorem Mov.alloc (h : Mov T1 T2 w B aR nR R A C j a1 n1 c1 Z A1 C1) (o : Obj) : Mov T1 T2 (w.alloc o) B aR nR R A C j a1 n1 c1 Z A1 C1 := by
  have hb : Below w.heap.size w (w.alloc o) := (Below.refl _ _).alloc (Nat.le_refl _) o
  refine ⟨h.out.keep hb (Nat.le_refl _), fun i h1 h2 => ?_, fun i h1 h2 => (h.row i h1 h2).keep hb (Nat.le_refl _), h.ap, h.apo, h.ap1, h.apo1, h.apR, h.apR1⟩
  obtain ⟨g, hg, hc⟩ := h.hdr i h1 h2
  exact ⟨g, hg, by rw [hb.cell (p := ⟨g, i, none⟩) (block_lt hc)]; exact hc⟩
end
/-- one row alone -/
theorem one_own {T1 T2 : TypeId} (w : World) : OwnR T1 T2 (w.alloc (.cells #[.slice none 0 0] T1)) w.heap.size (some ⟨w.heap.size, 0, none⟩) 1 1 [[]] (fun _ => none) (fun _ => 0) := by
  refine ⟨rfl, ⟨rfl, .inr ⟨w.heap.size, 1, #[.slice none 0 0], rfl, Nat.le_refl _, heap_alloc_new w _, Nat.le_refl _, by unfold maxLen; omega, rfl, rfl⟩⟩, fun i hi => ?_, fun i j hi hj hne => by omega, fun i hi p q hp hq => by cases hq⟩
  obtain rfl : i = 0 := by omega
  exact OwnI.none
set_option maxRecDepth 20000 in
set_option maxHeartbeats 2000000 in
theorem choices_any : ∀ (k : Nat), k ≤ 16 → ∀ (n : Nat), n ≤ 20 → ∀ (w : World),
    Calls Try.prog 72 #[.int .i64 n, .int .i64 k] w fun e w' => ∃ (a : Option Addr) (c : Nat) (A : Nat → Option Addr) (C : Nat → Nat), e = .returned (.slice a (chs n k).length c) ∧ OwnR 49 3 w' w.heap.size a (chs n k).length c (chs n k) A C ∧ Below w.heap.size w w' := by
  intro k
  induction k with
  | zero =>
    intro _ n hn w
    rw [chs_zero]
    have HO : Hid (OwnR 49 3 (w.alloc (.cells #[.slice none 0 0] 49)) w.heap.size (some ⟨w.heap.size, 0, none⟩) 1 1 [[]] (fun _ => none) (fun _ => 0)) := Lib.hid (one_own w)
    go_enter Try.func72, Try.ntmps72
    go_wp2
    go_ret
    exact ⟨_, _, _, _, rfl, HO.out, (Below.refl _ _).alloc (Nat.le_refl _) _⟩
  | succ k ih =>
    intro hk n hn w
    have IH := Lib.hid (ih (by omega))
    clear ih
    rw [show ((k + 1 : Nat) : Int) = (k : Int) + 1 by omega]
    have B0 : (((k : Int) + 1) == 0) = false := beq_eq_false_iff_ne.2 (by omega)
    go_enter Try.func72, Try.ntmps72
    go_wp2
    go_loopw [6, 5] (fun i v wr => ∃ (m : Nat) (a1 : Option Addr) (c1 : Nat) (A1 : Nat → Option Addr) (C1 : Nat → Nat), k ≤ m ∧ (m ≤ n ∨ m = k) ∧ i = .int .i64 m ∧ v = .slice a1 (chs m (k + 1)).length c1 ∧ Hid (OwnR 49 3 wr w.heap.size a1 (chs m (k + 1)).length c1 (chs m (k + 1)) A1 C1 ∧ Below w.heap.size w wr)) (fun i _ _ => n - (intOf i).toNat)
    case atStart => exact ⟨k, none, 0, fun _ => none, fun _ => 0, Nat.le_refl _, .inr rfl, by go_num, by rw [chs_short k (k + 1) (by omega)]; rfl, Lib.hid ⟨by rw [chs_short k (k + 1) (by omega)]; exact OwnR.none _ _, Below.refl _ _⟩⟩
    case round =>
      obtain ⟨m, a1, c1, A1, C1, hm, hmn, rfl, rfl, HO⟩ := hrel
      by_cases hlt : m < n
      · have h1 := chs_small (n := m) (k := k) (by omega)
        have h2 := chs_small (n := m) (k := k + 1) (by omega)
        have hsz := HO.out.2.size
        obtain ⟨wo, rfl⟩ : ∃ x, x = wr := ⟨wr, rfl⟩
        go_wp2_with fail
        refine (IH.out m (by omega) wo).mono ?_
        rintro e w1 ⟨aR, cR, A, C, rfl, hR, hb⟩
        have HM : Hid (Mov 49 3 w1 w.heap.size aR (chs m k).length (chs m k) A C 0 a1 (chs m (k + 1)).length c1 (chs m (k + 1)) A1 C1 ∧ Below w.heap.size w w1) := Lib.hid ⟨Mov.start HO.out.1 hb hsz hR, HO.out.2.trans (hb.mono hsz)⟩
        clear hR hb
        go_wp2_with fail
        go_loopw [24, 5] (fun i v wr => ∃ (j : Nat) (a2 : Option Addr) (c2 : Nat) (A2 : Nat → Option Addr) (C2 : Nat → Nat), j ≤ (chs m k).length ∧ i = .int .i64 j ∧ v = .slice a2 ((chs m (k + 1)).length + j) c2 ∧ Hid (Mov 49 3 wr w.heap.size aR (chs m k).length (chs m k) A C j a2 ((chs m (k + 1)).length + j) c2 (chs m (k + 1) ++ ((chs m k).take j).map (· ++ [(m : Int)])) A2 C2 ∧ Below w.heap.size w wr)) (fun i _ _ => (chs m k).length - (intOf i).toNat)
        case atStart => exact ⟨0, a1, c1, A1, C1, Nat.zero_le _, rfl, rfl, by simpa using HM⟩
        case round =>
          clear HM
          obtain ⟨j, a2, c2, A2, C2, hj, rfl, rfl, HJ⟩ := hrel
          by_cases hjt : j < (chs m k).length
          · obtain ⟨g, rfl, hc⟩ := HJ.out.1.hdr j (Nat.le_refl _) hjt
            have hl : (rw_ (chs m k) j).length = k := chs_row (rw_mem hjt)
            have hsz2 := Nat.le_trans hsz (Nat.le_trans (Nat.le_refl _) (Nat.le_refl _))
            have hs3 : w.heap.size ≤ wr.heap.size := HJ.out.2.size
            have hrow := Lib.hid (HJ.out.1.row j (Nat.le_refl _) hjt)
            rw [hl] at hc
            obtain ⟨wi, rfl⟩ : ∃ x, x = wr := ⟨wr, rfl⟩
            go_wp2_with (first
              | (at_builtin; refine wpList_push rfl (.tmp 29) (.tmp 31) 49 rfl w.heap.size 3 (.int .i64 0) 8 Try.underlying49 Try.infoI rfl (by decide) (.int .i64 m) rfl _ _ _ _ rfl rfl (by have h := hrow.out; rw [hl] at h; exact h) (by omega) (by exact hs3) ?_; rintro a4 c4 w4 r4 q4 g4; have R4 := Lib.hid r4; have Q4 := Lib.hid q4; have G4 := Lib.hid g4; have s4 := g4.size; clear r4 q4 g4)
              | (at_builtin; refine wpList_push rfl (.tmp 28) (.tmp 33) 79 rfl w.heap.size 49 (.slice none 0 0) 24 Try.underlying79 Try.infoRI rfl (by decide) (.slice a4 (k + 1) c4) rfl _ _ _ _ rfl rfl (by exact (HJ.out.1.out.kept G4.out (fun p hp hx => by obtain ⟨q, hq, e⟩ := hx; exact HJ.out.1.apo1 j (Nat.le_refl _) hjt p q hp hq e.symm) (fun i hi p hp hx => by obtain ⟨q, hq, e⟩ := hx; exact HJ.out.1.ap1 j i (Nat.le_refl _) hjt hi q p hq hp e)).own) (by omega) (by exact Nat.le_trans hs3 s4) ?_; rintro a5 c5 w5 r5 q5 g5; have R5 := Lib.hid r5; have Q5 := Lib.hid q5; have G5 := Lib.hid g5; clear r5 q5 g5))
            have HN : Hid (Mov 49 3 w5 w.heap.size (some ⟨g, 0, none⟩) (chs m k).length (chs m k) A C (j + 1) a5 ((chs m (k + 1)).length + (j + 1)) c5 (chs m (k + 1) ++ ((chs m k).take (j + 1)).map (· ++ [(m : Int)])) (upd A2 ((chs m (k + 1)).length + j) a4) (upd C2 ((chs m (k + 1)).length + j) c4) ∧ Below w.heap.size w w5) := by
              refine Lib.hid ⟨?_, ?_⟩
              · have := HJ.out.1.step (x := m) hjt (by rw [hl]; exact R4.out) Q4.out G4.out (by rw [hl]; exact R5.out) Q5.out G5.out
                rw [take_rw hjt, List.map_append, ← List.append_assoc]
                exact this
              · have h5 := HJ.out.2.trans (G4.out.below hs3 (fun b hb hx => by obtain ⟨x, hx, e⟩ := hx; have := (hrow.out.block x hx).1; omega))
                exact h5.trans (G5.out.below (Nat.le_trans hs3 s4) (fun b hb hx => by obtain ⟨x, hx, e⟩ := hx; have := (ownsRow_block HJ.out.1.out.own x hx).1; omega))
            go_roundw
            case rel => exact ⟨j + 1, a5, c5, _, _, by omega, by go_num, rfl, HN⟩
            case measure => simp [intOf]; omega
          · obtain rfl : j = (chs m k).length := by omega
            have HN : Hid (OwnR 49 3 wr w.heap.size a2 (chs (m + 1) (k + 1)).length c2 (chs (m + 1) (k + 1)) A2 C2 ∧ Below w.heap.size w wr) := by
              refine Lib.hid ⟨?_, HJ.out.2⟩
              have h := HJ.out.1.out
              rw [List.take_length] at h
              have e : (chs (m + 1) (k + 1)).length = (chs m (k + 1)).length + (chs m k).length := by rw [chs_succ]; simp
              rw [e, chs_succ]
              exact h
            have e : (chs m (k + 1)).length + (chs m k).length = (chs (m + 1) (k + 1)).length := by rw [chs_succ]; simp
            rw [e]
            go_wp2_with fail
            go_roundw
            case rel => exact ⟨m + 1, a2, c2, _, _, by omega, .inl (by omega), by go_num, rfl, HN⟩
            case measure => simp [intOf]; omega
      · have e : chs m (k + 1) = chs n (k + 1) := by
          rcases hmn with h | h
          · rw [show m = n by omega]
          · rw [chs_short m (k + 1) (by omega), chs_short n (k + 1) (by omega)]
        rw [e] at HO ⊢
        go_wp2
        go_ret
        exact ⟨_, _, _, _, rfl, HO.out⟩
end Go.Proofs.Ytpkdgemnddcefaa
