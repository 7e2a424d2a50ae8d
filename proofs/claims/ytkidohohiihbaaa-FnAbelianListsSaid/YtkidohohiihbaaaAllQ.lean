/- The program's partitions. -/
import Derived.Test.YtkidohohiihbaaaAllP
import Derived.Test.YtkidohohiihbaaaPush
import Derived.Test.YtkidohohiihbaaaConcat
import Derived.Test.YtkidohohiihbaaaRowW
import Derived.Test.YtkidohohiihbaaaShelfR
set_option linter.unusedVariables false
set_option linter.unusedSimpArgs false
namespace Go.Proofs.Ytkidohohiihbaaa
open Go.RowKit

/-- the partitions whose first part is one of the j greatest that may be -/
def partR (f n M j : Nat) : List (List Int) := (List.range j).flatMap fun i => (partF f (n - (M - i)) (M - i)).map fun r => ((M - i : Nat) : Int) :: r
theorem partR_zero (f n M : Nat) : partR f n M 0 = [] := rfl
theorem partR_succ (f n M j : Nat) : partR f n M (j + 1) = partR f n M j ++ (partF f (n - (M - j)) (M - j)).map fun r => ((M - j : Nat) : Int) :: r := by
  unfold partR; rw [List.range_succ, List.flatMap_append]; simp
theorem partF_R {f n m : Nat} (h : n ≠ 0) : partF (f + 1) n m = partR f n (min n m) (min n m) := by
  rw [partF, if_neg h]; rfl
theorem partR_pre (f n M : Nat) : ∀ {j k : Nat}, j ≤ k → (partR f n M j).length ≤ (partR f n M k).length := by
  intro j k h
  obtain ⟨d, rfl⟩ : ∃ d, k = j + d := ⟨k - j, by omega⟩
  induction d with
  | zero => exact Nat.le_refl _
  | succ d ih => rw [← Nat.add_assoc, partR_succ, List.length_append]; have := ih (by omega); omega
def chkPart : Bool := (List.range 11).all fun f => (List.range (f + 1)).all fun n => (List.range 11).all fun m =>
  decide ((partF f n m).length ≤ 100) && (partF f n m).all fun r => decide (r.length ≤ 10) && r.all fun k => decide (1 ≤ k) && decide (k ≤ 10)
set_option maxRecDepth 100000 in
theorem chkPart_t : chkPart = true := by kernel_rfl
theorem part_ok {f n m : Nat} (hf : f ≤ 10) (hn : n ≤ f) (hm : m ≤ 10) : (partF f n m).length ≤ 100 ∧ ∀ r ∈ partF f n m, r.length ≤ 10 ∧ ∀ k ∈ r, 1 ≤ k ∧ k ≤ 10 := by
  have h := chkPart_t
  unfold chkPart at h
  have h1 := List.all_eq_true.1 (List.all_eq_true.1 (List.all_eq_true.1 h f (List.mem_range.2 (by omega))) n (List.mem_range.2 (by omega))) m (List.mem_range.2 (by omega))
  rw [Bool.and_eq_true, decide_eq_true_eq, List.all_eq_true] at h1
  refine ⟨h1.1, fun r hr => ?_⟩
  have h2 := h1.2 r hr
  rw [Bool.and_eq_true, decide_eq_true_eq, List.all_eq_true] at h2
  refine ⟨h2.1, fun k hk => ?_⟩
  have h3 := h2.2 k hk
  rwa [Bool.and_eq_true, decide_eq_true_eq, decide_eq_true_eq] at h3
/-- a row is pushed: what lies behind the base S0 and was there in w1 stays -/
theorem Chg.pushK {S0 : Nat} {w1 wi wb w4 : World} {a2 : Option Addr} (hc : Chg (fun k => k < S0) w1 wi) (hb : Below wi.heap.size wi wb) (g4 : Chg (fun k => ∃ p, a2 = some p ∧ p.block = k) wb w4) (ha : ∀ p, a2 = some p → p.block < S0 ∨ w1.heap.size ≤ p.block) : Chg (fun k => k < S0) w1 w4 := by
  have s1 := hc.size
  have s2 := hb.size
  have s3 := g4.size
  refine ⟨(g4.os.trans hb.os).trans hc.os, (g4.tape.trans hb.tape).trans hc.tape, (g4.output.trans hb.output).trans hc.output, by omega, fun k hk hn => ?_⟩
  have hn' : ¬ k < S0 := hn
  rw [g4.block k (by omega) (fun hx => by obtain ⟨p, hp, e⟩ := hx; rcases ha p hp with h | h <;> omega), hb.block k (by omega), hc.block k hk hn]
theorem clone_nilrow {T1 T2 : TypeId} (w : World) : OwnR T1 T2 (w.alloc (.cells #[.slice none 0 0] T1)) w.heap.size (some ⟨w.heap.size, 0, none⟩) 1 1 [[]] (fun _ => none) (fun _ => 0) := by
  refine ⟨rfl, ⟨rfl, .inr ⟨w.heap.size, 1, #[.slice none 0 0], rfl, Nat.le_refl _, heap_alloc_new w _, Nat.le_refl _, by unfold maxLen; omega, rfl, rfl⟩⟩, fun i hi => ?_, fun i j hi hj hne => by omega, fun i hi p q hp hq => by cases hq⟩
  obtain rfl : i = 0 := by omega
  exact OwnI.none
theorem len_cast {α : Type} (xs : List α) : 0 ≤ ((xs.length : Nat) : Int) := by omega
theorem rw_map_cons {L : List (List Int)} {d : Int} {i : Nat} (h : i < L.length) : rw_ (L.map fun r => d :: r) i = d :: rw_ L i := by simp [rw_, h]
theorem take_map_cons {L : List (List Int)} {d : Int} {i : Nat} (h : i < L.length) : (L.map fun r => d :: r).take (i + 1) = (L.map fun r => d :: r).take i ++ [d :: rw_ L i] := by
  have hl : i < (L.map fun r => d :: r).length := by rw [List.length_map]; exact h
  rw [List.take_add_one, rw_get hl, rw_map_cons h]; rfl
set_option maxRecDepth 20000 in
set_option maxHeartbeats 2000000 in
theorem partitions_any : ∀ (f : Nat), f ≤ 10 → ∀ (n m : Nat), n ≤ f → m ≤ 10 → ∀ (w : World),
    Calls Try.prog 139 #[.int .i64 n, .int .i64 m] w fun e w' => ∃ (a : Option Addr) (c : Nat) (A : Nat → Option Addr) (C : Nat → Nat), e = .returned (.slice a (partF f n m).length c) ∧ OwnR 25 2 w' w.heap.size a (partF f n m).length c (partF f n m) A C ∧ Below w.heap.size w w' := by
  intro f
  induction f with
  | zero =>
    intro _ n m hn hm w
    obtain rfl : n = 0 := by omega
    have HO : Hid (OwnR 25 2 (w.alloc (.cells #[.slice none 0 0] 25)) w.heap.size (some ⟨w.heap.size, 0, none⟩) 1 1 [[]] (fun _ => none) (fun _ => 0)) := Lib.hid (clone_nilrow w)
    rw [show partF 0 0 m = [[]] from rfl]
    go_enter Try.func139, Try.ntmps139
    go_wp2
    go_ret
    exact ⟨_, _, _, _, rfl, HO.out, (Below.refl _ _).alloc (Nat.le_refl _) _⟩
  | succ f ih =>
    intro hf n m hn hm w
    have IH := Lib.hid (ih (by omega))
    clear ih
    by_cases h0 : n = 0
    · subst h0
      have HO : Hid (OwnR 25 2 (w.alloc (.cells #[.slice none 0 0] 25)) w.heap.size (some ⟨w.heap.size, 0, none⟩) 1 1 [[]] (fun _ => none) (fun _ => 0)) := Lib.hid (clone_nilrow w)
      rw [show partF (f + 1) 0 m = [[]] by simp [partF]]
      go_enter Try.func139, Try.ntmps139
      go_wp2
      go_ret
      exact ⟨_, _, _, _, rfl, HO.out, (Below.refl _ _).alloc (Nat.le_refl _) _⟩
    have z1 : ((n : Int) == 0) = false := beq_eq_false_iff_ne.2 (by omega)
    have z2 : (n == 0) = false := beq_eq_false_iff_ne.2 h0
    obtain ⟨M, hM⟩ : ∃ M, M = min n m := ⟨_, rfl⟩
    rw [partF_R h0, ← hM]
    have hMn : M ≤ n := by omega
    have hMm : M ≤ m := by omega
    have HMM := Lib.hid hM
    have HMI : Hid (min (n : Int) (m : Int) = (M : Int)) := Lib.hid (by omega)
    clear hM
    have HLEN : Hid (∀ j, j ≤ M → (partR f n M j).length ≤ 100) := Lib.hid (fun j hj => by
      have h1 := partR_pre f n M hj
      have h2 := (part_ok (f := f + 1) (by omega) hn hm).1
      rw [partF_R h0, ← HMM.out] at h2
      omega)

    go_enter Try.func139, Try.ntmps139
    go_wp2
    go_loopw [6, 5] (fun i v wr => ∃ (j : Nat) (a1 : Option Addr) (c1 : Nat) (A1 : Nat → Option Addr) (C1 : Nat → Nat), j ≤ M ∧ i = .int .i64 ((M - j : Nat) : Int) ∧ v = .slice a1 (partR f n M j).length c1 ∧ Hid (OwnR 25 2 wr w.heap.size a1 (partR f n M j).length c1 (partR f n M j) A1 C1 ∧ Below w.heap.size w wr)) (fun i _ _ => (intOf i).toNat)
    case atStart => exact ⟨0, none, 0, fun _ => none, fun _ => 0, Nat.zero_le _, by rw [Nat.sub_zero]; exact congrArg (Value.int .i64) HMI.out, rfl, Lib.hid ⟨OwnR.none _ _, Below.refl _ _⟩⟩
    case round =>
      obtain ⟨j, a1, c1, A1, C1, hj, rfl, rfl, HO⟩ := hrel
      obtain ⟨d, hd⟩ : ∃ d, d = M - j := ⟨_, rfl⟩
      rw [← hd]
      have HDE := Lib.hid hd
      obtain ⟨l, hl⟩ : ∃ l, l = (partR f n M j).length := ⟨_, rfl⟩
      have hl9 : l ≤ 100 := by rw [hl]; exact HLEN.out j hj
      have HLE := Lib.hid hl
      have HO2 : Hid (OwnR 25 2 wr w.heap.size a1 l c1 (partR f n M j) A1 C1 ∧ Below w.heap.size w wr) := Lib.hid (by rw [hl]; exact HO.out)
      rw [← hl]
      clear HO hl hd
      by_cases hlt : 1 ≤ d
      · have d1 : (1 : Int) ≤ (d : Int) := by omega
        have d2 : decide ((1 : Int) ≤ (d : Int)) = true := decide_eq_true d1
        have hdn : d ≤ n := by have := HDE.out; omega
        obtain ⟨E, hE⟩ : ∃ E : Nat, E = n - d := ⟨n - d, rfl⟩
        have hE1 : (n : Int) - (d : Int) = (E : Int) := by omega
        have hEf : E ≤ f := by omega
        have HEE := Lib.hid hE
        clear hE
        have hd10 : d ≤ 10 := by omega
        have hsz := HO2.out.2.size
        obtain ⟨wo, rfl⟩ : ∃ x, x = wr := ⟨wr, rfl⟩
        go_wp2_with fail
        refine (IH.out E d hEf hd10 wo).mono ?_
        rintro e w1 ⟨aR, cR, A, C, rfl, hR, hb⟩
        obtain ⟨L, hL⟩ : ∃ L, L = (partF f E d).length := ⟨_, rfl⟩
        rw [← hL]
        have hPO := part_ok (f := f) (by omega) hEf hd10
        have hL9 : L ≤ 100 := by rw [hL]; exact hPO.1
        have HLL := Lib.hid hL
        have HRL := Lib.hid hPO.2
        have HR : Hid (OwnR 25 2 w1 wo.heap.size aR L cR (partF f E d) A C) := Lib.hid (by rw [hL]; exact hR)
        have HH : Hid (OwnR 25 2 w1 w.heap.size a1 l c1 (partR f n M j) A1 C1 ∧ (∀ p, a1 = some p → p.block < wo.heap.size) ∧ Below w.heap.size w w1) := Lib.hid ⟨HO2.out.1.keep hb (Nat.le_refl _), fun p hp => (ownsRow_block HO2.out.1.own p hp).2, HO2.out.2.trans (hb.mono hsz)⟩
        have hs1 : wo.heap.size ≤ w1.heap.size := hb.size
        have HPR : Hid (partR f n M (j + 1) = partR f n M j ++ (partF f E d).map fun r => (d : Int) :: r) := Lib.hid (by rw [partR_succ, ← HDE.out, ← HEE.out])
        clear hR hb hL hPO
        go_wp2_with fail
        go_loopw [25, 5] (fun i v wr => ∃ (k : Nat) (a2 : Option Addr) (c2 : Nat) (A2 : Nat → Option Addr) (C2 : Nat → Nat), k ≤ L ∧ i = .int .i64 k ∧ v = .slice a2 (l + k) c2 ∧ Hid (OwnR 25 2 wr w.heap.size a2 (l + k) c2 (partR f n M j ++ ((partF f E d).map fun r => (d : Int) :: r).take k) A2 C2 ∧ Chg (fun q => q < wo.heap.size) w1 wr ∧ (∀ p, a2 = some p → p.block < wo.heap.size ∨ w1.heap.size ≤ p.block) ∧ Below w.heap.size w wr)) (fun i _ _ => L - (intOf i).toNat)
        case atStart => exact ⟨0, a1, c1, A1, C1, Nat.zero_le _, rfl, rfl, Lib.hid ⟨by simpa using HH.out.1, Chg.refl _ _, fun p hp => .inl (HH.out.2.1 p hp), HH.out.2.2⟩⟩
        case round =>
          obtain ⟨k, a2, c2, A2, C2, hk, rfl, rfl, HJ⟩ := hrel
          by_cases hkL : k < L
          · have k1 : (k : Int) < L := by omega
            have k2 : decide ((k : Int) < L) = true := decide_eq_true k1
            have k3 : decide (k < L) = true := decide_eq_true hkL
            obtain ⟨wi, rfl⟩ : ∃ x, x = wr := ⟨wr, rfl⟩
            have hRi := (HR.out.kept HJ.out.2.1 (fun p hp e => by have := (ownsRow_block HR.out.own p hp).1; omega) (fun i hi p hp e => by have := ((HR.out.row i hi).block p hp).1; omega)).rd
            obtain ⟨br, orr, ai, ci, hal, dr, hri, _⟩ := rdR_at hRi (show k < (partF f E d).length by rw [← HLL.out]; exact hkL)
            subst hal
            obtain ⟨s, hs⟩ : ∃ s, s = (rw_ (partF f E d) k).length := ⟨_, rfl⟩
            have hs9 : s ≤ 10 := by rw [hs]; exact (HRL.out _ (rw_mem (by rw [← HLL.out]; exact hkL))).1
            have HSE := Lib.hid hs
            rw [← hs] at dr
            have HRI := Lib.hid hri
            clear hs hri hRi
            have hsi : w.heap.size ≤ wi.heap.size := HJ.out.2.2.2.size
            have HLT : Hid (OwnI 2 (wi.alloc (.cells #[.int .i64 d] 2)) wi.heap.size (some ⟨wi.heap.size, 0, none⟩) 1 1 [(d : Int)]) := Lib.hid (OwnI.lit wi 2 [(d : Int)] #[.int .i64 d] rfl (by simp [maxLen]))
            go_wp2_with (first
              | (at_builtin; refine wpList_appS rfl (.tmp 31) (.tmp 32) 25 rfl wi.heap.size 2 (.int .i64 0) 8 Try.underlying25 Try.info2f rfl (by decide) _ _ _ _ rfl _ _ _ rfl (by exact HLT.out) ((rw_ (partF f E d) k).map (Value.int .i64)) (by rw [List.length_map]; exact HSE.out.symm) (by exact (HRI.out.alloc _).vals) (map_one _) (by omega) (by simp) ?_; rintro ar cr wb r4 q4 g4; have RB := Lib.hid (app_own (xs := [(d : Int)]) HLT.out ((Below.refl _ _).alloc (Nat.le_refl _) _) (by simp) r4 g4); have sb := RB.out.2.size; clear r4 q4 g4)
              | (at_builtin; refine wpList_push rfl (.tmp 29) (.tmp 34) 46 rfl w.heap.size 25 (.slice none 0 0) 24 Try.underlying46 Try.infoR rfl (by decide) (.slice ar (1 + s) cr) rfl _ _ _ _ rfl rfl (by exact (HJ.out.1.keep RB.out.2 (Nat.le_refl _)).own) (by omega) (by exact Nat.le_trans hsi sb) ?_; rintro a4 c4 w4 r4 q4 g4; have HN := Lib.hid (HJ.out.1.pushNew2 hsi RB.out.2 RB.out.1 (Nat.le_refl _) r4 q4 g4); have HC := Lib.hid (HJ.out.2.1.pushK RB.out.2 g4 HJ.out.2.2.1); have HA4 : Hid (∀ p, a4 = some p → p.block < wo.heap.size ∨ w1.heap.size ≤ p.block) := Lib.hid (fun p hp => by rcases q4 with q4 | ⟨p', q4, h4⟩; exact HJ.out.2.2.1 p (q4.symm.trans hp); (rw [hp] at q4; injection q4 with q4; subst q4; have := HJ.out.2.1.size; exact .inr (by omega))); clear r4 q4 g4))
            have HN2 : Hid (OwnR 25 2 w4 w.heap.size a4 (l + (k + 1)) c4 (partR f n M j ++ ((partF f E d).map fun r => (d : Int) :: r).take (k + 1)) (upd A2 (l + k) ar) (upd C2 (l + k) cr)) := Lib.hid (by
              rw [take_map_cons (by rw [← HLL.out]; exact hkL), ← List.append_assoc]
              exact HN.out.1)
            go_roundw
            case rel => exact ⟨k + 1, a4, c4, _, _, by omega, by go_num, rfl, Lib.hid ⟨HN2.out, HC.out, HA4.out, HJ.out.2.2.2.trans HN.out.2⟩⟩
            case measure => simp [intOf]; omega
          · have hkL' : k = L := by omega
            have k1 : ¬ (k : Int) < L := by omega
            have k2 : decide ((k : Int) < L) = false := decide_eq_false k1
            have k3 : decide (k < L) = false := decide_eq_false hkL
            have HN : Hid (OwnR 25 2 wr w.heap.size a2 (l + k) c2 (partR f n M (j + 1)) A2 C2 ∧ Below w.heap.size w wr) := Lib.hid (by
              refine ⟨?_, HJ.out.2.2.2⟩
              have h := HJ.out.1
              rw [List.take_of_length_le (by rw [List.length_map, ← HLL.out]; omega), ← HPR.out] at h
              exact h)
            have HQ : Hid (l + k = (partR f n M (j + 1)).length) := Lib.hid HN.out.1.len.symm
            have hj1 : j + 1 ≤ M := by have := HDE.out; omega
            have hd2 : ((d : Int) - 1) = ((M - (j + 1) : Nat) : Int) := by have := HDE.out; omega
            have HD2 := Lib.hid hd2
            clear hd2
            go_wp2_with fail
            go_roundw
            case rel => exact ⟨j + 1, a2, c2, A2, C2, hj1, by rw [HD2.out], by rw [HQ.out], Lib.hid (by rw [← HQ.out]; exact HN.out)⟩
            case measure => simp [intOf]; omega
      · have hd0 : d = 0 := by omega
        have hjM : j = M := by have := HDE.out; omega
        have d1 : ¬ (1 : Int) ≤ (d : Int) := by omega
        have d2 : decide ((1 : Int) ≤ (d : Int)) = false := decide_eq_false d1
        have HF : Hid (OwnR 25 2 wr w.heap.size a1 l c1 (partR f n M M) A1 C1 ∧ Below w.heap.size w wr) := Lib.hid (by have h := HO2.out; rwa [hjM] at h)
        have HQ : Hid (l = (partR f n M M).length) := Lib.hid HF.out.1.len.symm
        clear hd0 hjM
        go_wp2
        go_ret
        have h := HF.out
        rw [HQ.out] at h
        first
          | exact ⟨a1, c1, by rw [← HQ.out]; rfl, ⟨A1, C1, h.1⟩, h.2⟩
          | exact ⟨a1, c1, A1, C1, by rw [← HQ.out]; rfl, h⟩
end Go.Proofs.Ytkidohohiihbaaa
