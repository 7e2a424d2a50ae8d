/- The number of homomorphisms between abelian groups. -/
import Derived.Test.YtkidohohiihbaaaAbSol
import Derived.Deep.RegionLaw
set_option linter.unusedVariables false
set_option linter.unusedSimpArgs false
namespace Go.Proofs.Ytkidohohiihbaaa
open Go.RowKit

def homL (xs : List Int) (r : Int) (ys : List Int) : List Int := ys.flatMap fun f => gl f xs ++ List.replicate r.toNat f
theorem homL_take {xs : List Int} {r : Int} {ys : List Int} {j : Nat} (h : j < ys.length) : homL xs r (ys.take (j + 1)) = homL xs r (ys.take j) ++ (gl (el ys j) xs ++ List.replicate r.toNat (el ys j)) := by
  unfold homL; rw [take_el h, List.flatMap_append]; simp
theorem homL_len {xs : List Int} {r : Int} (h : xs.length + r.toNat ≤ 10) : ∀ ys : List Int, (homL xs r ys).length ≤ 10 * ys.length
  | [] => by simp [homL]
  | y :: ys => by
    have := homL_len h ys
    unfold homL at this ⊢
    rw [List.flatMap_cons, List.length_append, List.length_append, gl_len, List.length_replicate, List.length_cons]
    omega
theorem homL_pos {xs : List Int} {r : Int} {ys : List Int} (h : ∀ y ∈ ys, 1 ≤ y ∧ y ≤ 1000000) : ∀ x ∈ homL xs r ys, 1 ≤ x ∧ x ≤ 1000000000000000 := by
  intro x hx
  unfold homL at hx
  rw [List.mem_flatMap] at hx
  obtain ⟨y, hy, hx⟩ := hx
  obtain ⟨y1, y2⟩ := h y hy
  rw [List.mem_append] at hx
  rcases hx with hx | hx
  · exact gl_pos y1 y2 xs x hx
  · have := List.eq_of_mem_replicate hx
    omega
theorem rep_succ (i : Nat) (f : Int) : List.replicate (i + 1) f = List.replicate i f ++ [f] := by rw [List.replicate_succ']
def homV (xs : List Int) (r : Int) (ys : List Int) (s : Int) : Int × Int := if isAb xs r then (if isAb ys s then (if s = 0 then cntV (homL xs r ys) else (0, 5)) else (0, 1)) else (0, 1)
theorem homV_no {xs ys : List Int} {r s : Int} (h : isAb xs r = false) : homV xs r ys s = (0, 1) := by unfold homV; simp [h]
theorem homV_no2 {xs ys : List Int} {r s : Int} (h : isAb xs r = true) (h2 : isAb ys s = false) : homV xs r ys s = (0, 1) := by unfold homV; simp [h, h2]
theorem homV_bad {xs ys : List Int} {r s : Int} (h : isAb xs r = true) (h2 : isAb ys s = true) (hs : s ≠ 0) : homV xs r ys s = (0, 5) := by unfold homV; rw [if_pos h, if_pos h2, if_neg hs]
theorem homV_ok {xs ys : List Int} {r s : Int} (h : isAb xs r = true) (h2 : isAb ys s = true) (hs : s = 0) : homV xs r ys s = cntV (homL xs r ys) := by unfold homV; rw [if_pos h, if_pos h2, if_pos hs]
set_option maxHeartbeats 1000000 in
theorem impl_CountAbelianHoms_any (a : Option Addr) (n c : Nat) (xs : List Int) (r : Int) (b : Option Addr) (m d : Nat) (ys : List Int) (s : Int) (w : World) (ha : RdI w a xs) (hl : xs.length = n) (hb : RdI w b ys) (hl2 : ys.length = m) (hn : n ≤ 1048576) (hm : m ≤ 1048576) :
    Calls Try.prog 28 #[.agg #[.slice a n c, .int .i64 r], .agg #[.slice b m d, .int .i64 s]] w fun e w' => e = .returned (.tuple #[.int .i64 (homV xs r ys s).1, .int .i64 (homV xs r ys s).2]) ∧ Below w.heap.size w w' := by
  have HA := Lib.hid ha
  have HL := Lib.hid hl
  have HA2 := Lib.hid hb
  have HL2 := Lib.hid hl2
  clear ha hl hb hl2
  cases hv : isAb xs r
  · rw [homV_no hv]
    go_enter Try.func28, Try.ntmps28
    go_wp2_with fail
    refine (impl_IsAbelian_any _ _ _ xs _ _ (by exact (HA.out.alloc _).alloc _) HL.out (by omega)).mono ?_
    rintro e w1 ⟨rfl, hb⟩
    have HB : Hid (Below w.heap.size w w1) := Lib.hid ((((Below.refl _ _).alloc (Nat.le_refl _) _).alloc (by simp) _).trans (hb.mono (by simp; omega)))
    have p0 := cell_keep (p := ⟨w.heap.size, 0, none⟩) (v := .slice a n c) (by simp) hb
    have p1 := cell_keep (p := ⟨w.heap.size, 1, none⟩) (v := .int .i64 r) (by simp) hb
    have p2 := cell_keep (p := ⟨w.heap.size + 1, 0, none⟩) (v := .slice b m d) (by simp) hb
    have p3 := cell_keep (p := ⟨w.heap.size + 1, 1, none⟩) (v := .int .i64 s) (by simp) hb
    clear hb
    go_wp2_with fail
    go_ret2
    exact ⟨rfl, HB.out⟩
  cases hu : isAb ys s
  · rw [homV_no2 hv hu]
    go_enter Try.func28, Try.ntmps28
    go_wp2_with fail
    refine (impl_IsAbelian_any _ _ _ xs _ _ (by exact (HA.out.alloc _).alloc _) HL.out (by omega)).mono ?_
    rintro e w1 ⟨rfl, hb⟩
    have HB : Hid (Below w.heap.size w w1) := Lib.hid ((((Below.refl _ _).alloc (Nat.le_refl _) _).alloc (by simp) _).trans (hb.mono (by simp; omega)))
    have p0 := cell_keep (p := ⟨w.heap.size, 0, none⟩) (v := .slice a n c) (by simp) hb
    have p1 := cell_keep (p := ⟨w.heap.size, 1, none⟩) (v := .int .i64 r) (by simp) hb
    have p2 := cell_keep (p := ⟨w.heap.size + 1, 0, none⟩) (v := .slice b m d) (by simp) hb
    have p3 := cell_keep (p := ⟨w.heap.size + 1, 1, none⟩) (v := .int .i64 s) (by simp) hb
    clear hb
    go_wp2_with fail
    refine (impl_IsAbelian_any _ _ _ ys _ _ (by exact HA2.out.keep HB.out (Nat.le_refl _)) HL2.out (by omega)).mono ?_
    rintro e w2 ⟨rfl, hb⟩
    replace HB : Hid (Below w.heap.size w w2) := Lib.hid (HB.out.trans (hb.mono HB.out.size))
    replace p0 := cell_keep p0 hb
    replace p1 := cell_keep p1 hb
    replace p2 := cell_keep p2 hb
    replace p3 := cell_keep p3 hb
    clear hb
    go_wp2_with fail
    go_ret2
    exact ⟨rfl, HB.out⟩
  by_cases hs : s = 0
  · rw [homV_ok hv hu hs]
    subst hs
    have HX := Lib.hid (isAb_ok hv)
    have HY := Lib.hid (isAb_ok hu)
    have r1 := HX.out.1
    have r2 := HX.out.2.1
    have hnr : n + r.toNat ≤ 10 := by have := HX.out.2.2.1; rw [HL.out] at this; omega
    have hm10 : m ≤ 10 := by have := HY.out.2.2.1; rw [HL2.out] at this; omega
    have HP : Hid (∀ x ∈ homL xs r ys, 1 ≤ x ∧ x ≤ 1000000000000000) := Lib.hid (homL_pos fun y hy => by
      obtain ⟨i, hi, rfl⟩ := List.getElem_of_mem hy
      have := HY.out.2.2.2 i hi
      rw [← el_eq hi]
      unfold okF at this
      omega)
    have HLn : Hid (∀ zs : List Int, (homL xs r zs).length ≤ 10 * zs.length) := Lib.hid (homL_len (by rw [HL.out]; exact hnr))
    go_enter Try.func28, Try.ntmps28
    go_wp2_with fail
    refine (impl_IsAbelian_any _ _ _ xs _ _ (by exact (HA.out.alloc _).alloc _) HL.out (by omega)).mono ?_
    rintro e w1 ⟨rfl, hb⟩
    have HB : Hid (Below w.heap.size w w1) := Lib.hid ((((Below.refl _ _).alloc (Nat.le_refl _) _).alloc (by simp) _).trans (hb.mono (by simp; omega)))
    have p0 := cell_keep (p := ⟨w.heap.size, 0, none⟩) (v := .slice a n c) (by simp) hb
    have p1 := cell_keep (p := ⟨w.heap.size, 1, none⟩) (v := .int .i64 r) (by simp) hb
    have p2 := cell_keep (p := ⟨w.heap.size + 1, 0, none⟩) (v := .slice b m d) (by simp) hb
    have p3 := cell_keep (p := ⟨w.heap.size + 1, 1, none⟩) (v := .int .i64 0) (by simp) hb
    clear hb
    go_wp2_with fail
    refine (impl_IsAbelian_any _ _ _ ys _ _ (by exact HA2.out.keep HB.out (Nat.le_refl _)) HL2.out (by omega)).mono ?_
    rintro e w2 ⟨rfl, hb⟩
    replace HB : Hid (Below w.heap.size w w2) := Lib.hid (HB.out.trans (hb.mono HB.out.size))
    replace p0 := cell_keep p0 hb
    replace p1 := cell_keep p1 hb
    replace p2 := cell_keep p2 hb
    replace p3 := cell_keep p3 hb
    clear hb
    go_wp2_with fail
    have hr1 : Hid (RdI w2 a xs) := Lib.hid (HA.out.keep HB.out (Nat.le_refl _))
    have hr2 : Hid (RdI w2 b ys) := Lib.hid (HA2.out.keep HB.out (Nat.le_refl _))
    go_loopw [6, 25] (fun v i wr => ∃ (j : Nat) (a1 : Option Addr) (n1 c1 : Nat), j ≤ m ∧ v = .slice a1 n1 c1 ∧ i = .int .i64 j ∧ Hid (OwnI 2 wr w2.heap.size a1 n1 c1 (homL xs r (ys.take j)) ∧ Below w2.heap.size w2 wr)) (fun _ i _ => m - (intOf i).toNat)
    case atStart => exact ⟨0, _, 0, 0, Nat.zero_le _, rfl, rfl, Lib.hid ⟨by simpa [homL] using OwnI.none, Below.refl _ _⟩⟩
    case round =>
      obtain ⟨j, a1, n1, c1, hj, rfl, rfl, HO⟩ := hrel
      have ln : n1 ≤ 100 := by
        have := HO.out.1.len
        have h2 := HLn.out (ys.take j)
        rw [List.length_take] at h2
        omega
      have hsz : w2.heap.size ≤ wr.heap.size := HO.out.2.size
      have P0 : wr.cell? ⟨w.heap.size, 0, none⟩ = some (.slice a n c) := by rw [HO.out.2.cell (p := ⟨w.heap.size, 0, none⟩) (block_lt p0)]; exact p0
      have P1 : wr.cell? ⟨w.heap.size, 1, none⟩ = some (.int .i64 r) := by rw [HO.out.2.cell (p := ⟨w.heap.size, 1, none⟩) (block_lt p1)]; exact p1
      have P2 : wr.cell? ⟨w.heap.size + 1, 0, none⟩ = some (.slice b m d) := by rw [HO.out.2.cell (p := ⟨w.heap.size + 1, 0, none⟩) (block_lt p2)]; exact p2
      have P3 : wr.cell? ⟨w.heap.size + 1, 1, none⟩ = some (.int .i64 0) := by rw [HO.out.2.cell (p := ⟨w.heap.size + 1, 1, none⟩) (block_lt p3)]; exact p3
      by_cases hlt : j < m
      · have hjl : j < ys.length := by rw [HL2.out]; exact hlt
        obtain ⟨b2, o2, hb2, hc⟩ := hr2.out (by omega)
        have HC2 : Hid (∀ i, i < ys.length → w2.cell? ⟨b2, o2 + i, none⟩ = some (.int .i64 (el ys i))) := Lib.hid hc
        subst hb2
        have D0 := hc j hjl
        have d0 : wr.cell? ⟨b2, o2 + j, none⟩ = some (.int .i64 (el ys j)) := by rw [HO.out.2.cell (p := ⟨b2, o2 + j, none⟩) (block_lt D0)]; exact D0
        have hf := HY.out.2.2.2 j hjl
        have f1 := hf.1
        have f2 := hf.2.1
        have Hend := Lib.hid (homL_take (xs := xs) (r := r) hjl)
        have HF : Hid (∀ k, k < n → n1 + k < 1000) := Lib.hid (by omega)
        have HZ : Hid ((homL xs r (ys.take j)).length = n1) := Lib.hid HO.out.1.len
        clear hc hf
        go_wp2_with fail
        go_loopw [6, 32] (fun v i wr => ∃ (k : Nat) (a1 : Option Addr) (n1 c1 : Nat), k ≤ n ∧ v = .slice a1 n1 c1 ∧ i = .int .i64 k ∧ Hid (OwnI 2 wr w2.heap.size a1 n1 c1 (homL xs r (ys.take j) ++ gl (el ys j) (xs.take k)) ∧ Below w2.heap.size w2 wr)) (fun _ i _ => n - (intOf i).toNat)
        case atStart => exact ⟨0, a1, n1, c1, Nat.zero_le _, rfl, rfl, Lib.hid ⟨by simpa [gl] using HO.out.1, HO.out.2⟩⟩
        case round =>
          obtain ⟨k, a3, n3, c3, hk, rfl, rfl, HQ⟩ := hrel
          have ln3 : n3 ≤ 1000 := by
            have := HQ.out.1.len
            rw [List.length_append, gl_len, List.length_take, HZ.out] at this
            omega
          have hsq : w2.heap.size ≤ wr.heap.size := HQ.out.2.size
          have Q0 : wr.cell? ⟨w.heap.size, 0, none⟩ = some (.slice a n c) := by rw [HQ.out.2.cell (p := ⟨w.heap.size, 0, none⟩) (block_lt p0)]; exact p0
          have Q1 : wr.cell? ⟨w.heap.size, 1, none⟩ = some (.int .i64 r) := by rw [HQ.out.2.cell (p := ⟨w.heap.size, 1, none⟩) (block_lt p1)]; exact p1
          have Q2 : wr.cell? ⟨w.heap.size + 1, 0, none⟩ = some (.slice (some ⟨b2, o2, none⟩) m d) := by rw [HQ.out.2.cell (p := ⟨w.heap.size + 1, 0, none⟩) (block_lt p2)]; exact p2
          have d2 : wr.cell? ⟨b2, o2 + j, none⟩ = some (.int .i64 (el ys j)) := by rw [HQ.out.2.cell (p := ⟨b2, o2 + j, none⟩) (block_lt D0)]; exact D0
          clear P0 P1 P2 P3 d0
          by_cases hlk : k < n
          · have hkl : k < xs.length := by rw [HL.out]; exact hlk
            obtain ⟨b1, o1, hb1, hc⟩ := (hr1.out.keep HQ.out.2 (Nat.le_refl _)) (by omega)
            subst hb1
            have d1 := hc k hkl
            have hf := (HX.out.2.2.2 k hkl)
            have e1 := hf.1
            have e2 := hf.2.1
            have Ht := Lib.hid (gl_take (k := el ys j) hkl)
            clear hc hf hkl
            go_wp2_with (first
              | (go_at_call 90; refine (gcd_any _ _ _ (by omega) (by omega) (by omega) (by omega)).mono ?_; rintro e w' ⟨rfl, q, rfl⟩)
              | (at_builtin; refine wpList_push rfl (.tmp 36) (.tmp 40) 25 rfl w2.heap.size 2 (.int .i64 0) 8 Try.underlying25 Try.info2 rfl (by decide) _ rfl _ _ _ _ rfl rfl (by exact HQ.out.1) (by omega) hsq ?_; rintro a4 c4 w4 r4 q4 g4; have R4 := Lib.hid r4; have Q4 := Lib.hid q4; have G4 := Lib.hid g4; clear r4 q4 g4))
            have hown2 : OwnI 2 w4 w2.heap.size a4 (n3 + 1) c4 (homL xs r (ys.take j) ++ gl (el ys j) (xs.take (k + 1))) := by
              rw [Ht.out, ← List.append_assoc]
              exact OwnI.pushed R4.out
            have hbel2 : Below w2.heap.size w2 w4 := (below_drewN' HQ.out.2 _).trans (G4.out.below (by exact hsq) (fun m hm hx => by obtain ⟨x, hx, e⟩ := hx; have := (HQ.out.1.block x hx).1; omega))
            have HN := Lib.hid (And.intro hown2 hbel2)
            clear hown2 hbel2
            go_roundw
            case rel => exact ⟨k + 1, a4, n3 + 1, c4, by omega, rfl, by go_num, HN⟩
            case measure => simp [intOf]; omega
          · obtain rfl : n = k := by omega
            have HQ2 : Hid (OwnI 2 wr w2.heap.size a3 n3 c3 (homL xs r (ys.take j) ++ gl (el ys j) xs) ∧ Below w2.heap.size w2 wr) := Lib.hid (by have := HQ.out; rwa [List.take_of_length_le (l := xs) (by rw [HL.out]; omega)] at this)
            clear HQ
            go_wp2_with fail
            go_loopw [6, 45] (fun v i wr => ∃ (i1 : Nat) (a1 : Option Addr) (n1 c1 : Nat), i1 ≤ r.toNat ∧ v = .slice a1 n1 c1 ∧ i = .int .i64 i1 ∧ Hid (OwnI 2 wr w2.heap.size a1 n1 c1 (homL xs r (ys.take j) ++ gl (el ys j) xs ++ List.replicate i1 (el ys j)) ∧ Below w2.heap.size w2 wr)) (fun _ i _ => r.toNat - (intOf i).toNat)
            case atStart => exact ⟨0, a3, n3, c3, Nat.zero_le _, rfl, rfl, Lib.hid ⟨by simpa using HQ2.out.1, HQ2.out.2⟩⟩
            case round =>
              obtain ⟨i1, a5, n5, c5, hi1, rfl, rfl, HS⟩ := hrel
              have ln5 : n5 ≤ 1000 := by
                have := HS.out.1.len
                rw [List.length_append, List.length_append, gl_len, List.length_replicate, HZ.out, HL.out] at this
                omega
              have hss : w2.heap.size ≤ wr.heap.size := HS.out.2.size
              have S0 : wr.cell? ⟨w.heap.size, 0, none⟩ = some (.slice a n c) := by rw [HS.out.2.cell (p := ⟨w.heap.size, 0, none⟩) (block_lt p0)]; exact p0
              have S1 : wr.cell? ⟨w.heap.size, 1, none⟩ = some (.int .i64 r) := by rw [HS.out.2.cell (p := ⟨w.heap.size, 1, none⟩) (block_lt p1)]; exact p1
              have S2 : wr.cell? ⟨w.heap.size + 1, 0, none⟩ = some (.slice (some ⟨b2, o2, none⟩) m d) := by rw [HS.out.2.cell (p := ⟨w.heap.size + 1, 0, none⟩) (block_lt p2)]; exact p2
              have d3 : wr.cell? ⟨b2, o2 + j, none⟩ = some (.int .i64 (el ys j)) := by rw [HS.out.2.cell (p := ⟨b2, o2 + j, none⟩) (block_lt D0)]; exact D0
              clear Q0 Q1 Q2 d2
              by_cases hli : i1 < r.toNat
              · go_wp2_with (at_builtin; refine wpList_push rfl (.tmp 47) (.tmp 49) 25 rfl w2.heap.size 2 (.int .i64 0) 8 Try.underlying25 Try.info2 rfl (by decide) _ rfl _ _ _ _ rfl rfl (by exact HS.out.1) (by omega) hss ?_; rintro a4 c4 w4 r4 q4 g4; have R4 := Lib.hid r4; have Q4 := Lib.hid q4; have G4 := Lib.hid g4; clear r4 q4 g4)
                have hown2 : OwnI 2 w4 w2.heap.size a4 (n5 + 1) c4 (homL xs r (ys.take j) ++ gl (el ys j) xs ++ List.replicate (i1 + 1) (el ys j)) := by
                  rw [rep_succ, ← List.append_assoc]
                  exact OwnI.pushed R4.out
                have hbel2 : Below w2.heap.size w2 w4 := (HS.out.2).trans (G4.out.below (by exact hss) (fun m hm hx => by obtain ⟨x, hx, e⟩ := hx; have := (HS.out.1.block x hx).1; omega))
                have HN := Lib.hid (And.intro hown2 hbel2)
                clear hown2 hbel2
                go_roundw
                case rel => exact ⟨i1 + 1, a4, n5 + 1, c4, by omega, rfl, by go_num, HN⟩
                case measure => simp [intOf]; omega
              · obtain rfl : i1 = r.toNat := by omega
                have HN : Hid (OwnI 2 wr w2.heap.size a5 n5 c5 (homL xs r (ys.take (j + 1))) ∧ Below w2.heap.size w2 wr) := Lib.hid (by have := HS.out; rwa [List.append_assoc, ← Hend.out] at this)
                go_wp2_with fail
                go_roundw
                case rel => exact ⟨j + 1, a5, n5, c5, by omega, rfl, by go_num, HN⟩
                case measure => simp [intOf]; omega
      · obtain rfl : j = m := by omega
        have HO2 : Hid (OwnI 2 wr w2.heap.size a1 n1 c1 (homL xs r ys)) := Lib.hid (by have := HO.out.1; rwa [List.take_of_length_le (by rw [HL2.out]; omega)] at this)
        have HD : Hid (Below w.heap.size w wr) := Lib.hid (HB.out.trans (HO.out.2.mono HB.out.size))
        go_wp2_with fail
        refine (countProduct_any _ _ _ (homL xs r ys) _ HO2.out.rd HO2.out.len (by omega) HP.out).mono ?_
        rintro e w' ⟨rfl, rfl⟩
        go_wp2_with fail
        go_ret2
        exact ⟨rfl, HD.out⟩
  · rw [homV_bad hv hu hs]
    have HS : Hid (s ≠ 0) := Lib.hid hs
    have s0 : 0 ≤ s := (isAb_ok hu).1
    have hs1 : (s != 0) = true := bne_iff_ne.2 hs
    have hs2 : 0 < s := by omega
    clear hs
    go_enter Try.func28, Try.ntmps28
    go_wp2_with fail
    refine (impl_IsAbelian_any _ _ _ xs _ _ (by exact (HA.out.alloc _).alloc _) HL.out (by omega)).mono ?_
    rintro e w1 ⟨rfl, hb⟩
    have HB : Hid (Below w.heap.size w w1) := Lib.hid ((((Below.refl _ _).alloc (Nat.le_refl _) _).alloc (by simp) _).trans (hb.mono (by simp; omega)))
    have p0 := cell_keep (p := ⟨w.heap.size, 0, none⟩) (v := .slice a n c) (by simp) hb
    have p1 := cell_keep (p := ⟨w.heap.size, 1, none⟩) (v := .int .i64 r) (by simp) hb
    have p2 := cell_keep (p := ⟨w.heap.size + 1, 0, none⟩) (v := .slice b m d) (by simp) hb
    have p3 := cell_keep (p := ⟨w.heap.size + 1, 1, none⟩) (v := .int .i64 s) (by simp) hb
    clear hb
    go_wp2_with fail
    refine (impl_IsAbelian_any _ _ _ ys _ _ (by exact HA2.out.keep HB.out (Nat.le_refl _)) HL2.out (by omega)).mono ?_
    rintro e w2 ⟨rfl, hb⟩
    replace HB : Hid (Below w.heap.size w w2) := Lib.hid (HB.out.trans (hb.mono HB.out.size))
    replace p0 := cell_keep p0 hb
    replace p1 := cell_keep p1 hb
    replace p2 := cell_keep p2 hb
    replace p3 := cell_keep p3 hb
    clear hb
    go_wp2_with fail
    go_ret2
    exact ⟨rfl, HB.out⟩
set_option maxRecDepth 20000 in
set_option maxHeartbeats 4000000 in
theorem spec_CountAbelianHoms_any (a : Option Addr) (n c : Nat) (xs : List Int) (r : Int) (b : Option Addr) (m d : Nat) (ys : List Int) (s : Int) (w : World) (ha : RdI w a xs) (hl : xs.length = n) (hb : RdI w b ys) (hl2 : ys.length = m) (hn : n ≤ 1048576) (hm : m ≤ 1048576) :
    Calls Try.prog 29 #[.agg #[.slice a n c, .int .i64 r], .agg #[.slice b m d, .int .i64 s]] w fun e w' => e = .returned (.tuple #[.int .i64 (homV xs r ys s).1, .int .i64 (homV xs r ys s).2]) ∧ Below w.heap.size w w' := by
  have HA := Lib.hid ha
  have HL := Lib.hid hl
  have HA2 := Lib.hid hb
  have HL2 := Lib.hid hl2
  clear ha hl hb hl2
  cases hv : isAb xs r
  · rw [homV_no hv]
    go_enter Try.func29, Try.ntmps29
    go_wp2_with fail
    refine (spec_IsAbelian_any _ _ _ xs _ _ (by exact (HA.out.alloc _).alloc _) HL.out (by omega)).mono ?_
    rintro e w1 ⟨rfl, hb⟩
    have HB : Hid (Below w.heap.size w w1) := Lib.hid ((((Below.refl _ _).alloc (Nat.le_refl _) _).alloc (by simp) _).trans (hb.mono (by simp; omega)))
    have p0 := cell_keep (p := ⟨w.heap.size, 0, none⟩) (v := .slice a n c) (by simp) hb
    have p1 := cell_keep (p := ⟨w.heap.size, 1, none⟩) (v := .int .i64 r) (by simp) hb
    have p2 := cell_keep (p := ⟨w.heap.size + 1, 0, none⟩) (v := .slice b m d) (by simp) hb
    have p3 := cell_keep (p := ⟨w.heap.size + 1, 1, none⟩) (v := .int .i64 s) (by simp) hb
    clear hb
    go_wp2_with fail
    go_ret2
    exact ⟨rfl, HB.out⟩
  cases hu : isAb ys s
  · rw [homV_no2 hv hu]
    go_enter Try.func29, Try.ntmps29
    go_wp2_with fail
    refine (spec_IsAbelian_any _ _ _ xs _ _ (by exact (HA.out.alloc _).alloc _) HL.out (by omega)).mono ?_
    rintro e w1 ⟨rfl, hb⟩
    have HB : Hid (Below w.heap.size w w1) := Lib.hid ((((Below.refl _ _).alloc (Nat.le_refl _) _).alloc (by simp) _).trans (hb.mono (by simp; omega)))
    have p0 := cell_keep (p := ⟨w.heap.size, 0, none⟩) (v := .slice a n c) (by simp) hb
    have p1 := cell_keep (p := ⟨w.heap.size, 1, none⟩) (v := .int .i64 r) (by simp) hb
    have p2 := cell_keep (p := ⟨w.heap.size + 1, 0, none⟩) (v := .slice b m d) (by simp) hb
    have p3 := cell_keep (p := ⟨w.heap.size + 1, 1, none⟩) (v := .int .i64 s) (by simp) hb
    clear hb
    go_wp2_with fail
    refine (spec_IsAbelian_any _ _ _ ys _ _ (by exact HA2.out.keep HB.out (Nat.le_refl _)) HL2.out (by omega)).mono ?_
    rintro e w2 ⟨rfl, hb⟩
    replace HB : Hid (Below w.heap.size w w2) := Lib.hid (HB.out.trans (hb.mono HB.out.size))
    replace p0 := cell_keep p0 hb
    replace p1 := cell_keep p1 hb
    replace p2 := cell_keep p2 hb
    replace p3 := cell_keep p3 hb
    clear hb
    go_wp2_with fail
    go_ret2
    exact ⟨rfl, HB.out⟩
  by_cases hs : s = 0
  · rw [homV_ok hv hu hs]
    subst hs
    have HX := Lib.hid (isAb_ok hv)
    have HY := Lib.hid (isAb_ok hu)
    have r1 := HX.out.1
    have r2 := HX.out.2.1
    have hnr : n + r.toNat ≤ 10 := by have := HX.out.2.2.1; rw [HL.out] at this; omega
    have hm10 : m ≤ 10 := by have := HY.out.2.2.1; rw [HL2.out] at this; omega
    have HP : Hid (∀ x ∈ homL xs r ys, 1 ≤ x ∧ x ≤ 1000000000000000) := Lib.hid (homL_pos fun y hy => by
      obtain ⟨i, hi, rfl⟩ := List.getElem_of_mem hy
      have := HY.out.2.2.2 i hi
      rw [← el_eq hi]
      unfold okF at this
      omega)
    have HLn : Hid (∀ zs : List Int, (homL xs r zs).length ≤ 10 * zs.length) := Lib.hid (homL_len (by rw [HL.out]; exact hnr))
    go_enter Try.func29, Try.ntmps29
    go_wp2_with fail
    refine (spec_IsAbelian_any _ _ _ xs _ _ (by exact (HA.out.alloc _).alloc _) HL.out (by omega)).mono ?_
    rintro e w1 ⟨rfl, hb⟩
    have HB : Hid (Below w.heap.size w w1) := Lib.hid ((((Below.refl _ _).alloc (Nat.le_refl _) _).alloc (by simp) _).trans (hb.mono (by simp; omega)))
    have p0 := cell_keep (p := ⟨w.heap.size, 0, none⟩) (v := .slice a n c) (by simp) hb
    have p1 := cell_keep (p := ⟨w.heap.size, 1, none⟩) (v := .int .i64 r) (by simp) hb
    have p2 := cell_keep (p := ⟨w.heap.size + 1, 0, none⟩) (v := .slice b m d) (by simp) hb
    have p3 := cell_keep (p := ⟨w.heap.size + 1, 1, none⟩) (v := .int .i64 0) (by simp) hb
    clear hb
    go_wp2_with fail
    refine (spec_IsAbelian_any _ _ _ ys _ _ (by exact HA2.out.keep HB.out (Nat.le_refl _)) HL2.out (by omega)).mono ?_
    rintro e w2 ⟨rfl, hb⟩
    replace HB : Hid (Below w.heap.size w w2) := Lib.hid (HB.out.trans (hb.mono HB.out.size))
    replace p0 := cell_keep p0 hb
    replace p1 := cell_keep p1 hb
    replace p2 := cell_keep p2 hb
    replace p3 := cell_keep p3 hb
    clear hb
    go_wp2_with fail
    have hr1 : Hid (RdI w2 a xs) := Lib.hid (HA.out.keep HB.out (Nat.le_refl _))
    have hr2 : Hid (RdI w2 b ys) := Lib.hid (HA2.out.keep HB.out (Nat.le_refl _))
    go_loopw [6, 7] (fun v i wr => ∃ (j : Nat) (a1 : Option Addr) (n1 c1 : Nat), j ≤ m ∧ v = .slice a1 n1 c1 ∧ i = .int .i64 j ∧ Hid (OwnI 2 wr w2.heap.size a1 n1 c1 (homL xs r (ys.take j)) ∧ Below w2.heap.size w2 wr)) (fun _ i _ => m - (intOf i).toNat)
    case atStart => exact ⟨0, _, 0, 0, Nat.zero_le _, rfl, rfl, Lib.hid ⟨by simpa [homL] using OwnI.lit w2 2 [] #[] rfl (by simp), (Below.refl _ _).alloc (Nat.le_refl _) _⟩⟩
    case round =>
      obtain ⟨j, a1, n1, c1, hj, rfl, rfl, HO⟩ := hrel
      have ln : n1 ≤ 100 := by
        have := HO.out.1.len
        have h2 := HLn.out (ys.take j)
        rw [List.length_take] at h2
        omega
      have hsz : w2.heap.size ≤ wr.heap.size := HO.out.2.size
      have P0 : wr.cell? ⟨w.heap.size, 0, none⟩ = some (.slice a n c) := by rw [HO.out.2.cell (p := ⟨w.heap.size, 0, none⟩) (block_lt p0)]; exact p0
      have P1 : wr.cell? ⟨w.heap.size, 1, none⟩ = some (.int .i64 r) := by rw [HO.out.2.cell (p := ⟨w.heap.size, 1, none⟩) (block_lt p1)]; exact p1
      have P2 : wr.cell? ⟨w.heap.size + 1, 0, none⟩ = some (.slice b m d) := by rw [HO.out.2.cell (p := ⟨w.heap.size + 1, 0, none⟩) (block_lt p2)]; exact p2
      have P3 : wr.cell? ⟨w.heap.size + 1, 1, none⟩ = some (.int .i64 0) := by rw [HO.out.2.cell (p := ⟨w.heap.size + 1, 1, none⟩) (block_lt p3)]; exact p3
      by_cases hlt : j < m
      · have hjl : j < ys.length := by rw [HL2.out]; exact hlt
        obtain ⟨b2, o2, hb2, hc⟩ := hr2.out (by omega)
        have HC2 : Hid (∀ i, i < ys.length → w2.cell? ⟨b2, o2 + i, none⟩ = some (.int .i64 (el ys i))) := Lib.hid hc
        subst hb2
        have D0 := hc j hjl
        have d0 : wr.cell? ⟨b2, o2 + j, none⟩ = some (.int .i64 (el ys j)) := by rw [HO.out.2.cell (p := ⟨b2, o2 + j, none⟩) (block_lt D0)]; exact D0
        have hf := HY.out.2.2.2 j hjl
        have f1 := hf.1
        have f2 := hf.2.1
        have Hend := Lib.hid (homL_take (xs := xs) (r := r) hjl)
        have HF : Hid (∀ k, k < n → n1 + k < 1000) := Lib.hid (by omega)
        have HZ : Hid ((homL xs r (ys.take j)).length = n1) := Lib.hid HO.out.1.len
        clear hc hf
        go_wp2_with fail
        go_loopw [6, 8] (fun v i wr => ∃ (k : Nat) (a1 : Option Addr) (n1 c1 : Nat), k ≤ n ∧ v = .slice a1 n1 c1 ∧ i = .int .i64 k ∧ Hid (OwnI 2 wr w2.heap.size a1 n1 c1 (homL xs r (ys.take j) ++ gl (el ys j) (xs.take k)) ∧ Below w2.heap.size w2 wr)) (fun _ i _ => n - (intOf i).toNat)
        case atStart => exact ⟨0, a1, n1, c1, Nat.zero_le _, rfl, rfl, Lib.hid ⟨by simpa [gl] using HO.out.1, HO.out.2⟩⟩
        case round =>
          obtain ⟨k, a3, n3, c3, hk, rfl, rfl, HQ⟩ := hrel
          have ln3 : n3 ≤ 1000 := by
            have := HQ.out.1.len
            rw [List.length_append, gl_len, List.length_take, HZ.out] at this
            omega
          have hsq : w2.heap.size ≤ wr.heap.size := HQ.out.2.size
          have Q0 : wr.cell? ⟨w.heap.size, 0, none⟩ = some (.slice a n c) := by rw [HQ.out.2.cell (p := ⟨w.heap.size, 0, none⟩) (block_lt p0)]; exact p0
          have Q1 : wr.cell? ⟨w.heap.size, 1, none⟩ = some (.int .i64 r) := by rw [HQ.out.2.cell (p := ⟨w.heap.size, 1, none⟩) (block_lt p1)]; exact p1
          have Q2 : wr.cell? ⟨w.heap.size + 1, 0, none⟩ = some (.slice (some ⟨b2, o2, none⟩) m d) := by rw [HQ.out.2.cell (p := ⟨w.heap.size + 1, 0, none⟩) (block_lt p2)]; exact p2
          have d2 : wr.cell? ⟨b2, o2 + j, none⟩ = some (.int .i64 (el ys j)) := by rw [HQ.out.2.cell (p := ⟨b2, o2 + j, none⟩) (block_lt D0)]; exact D0
          clear P0 P1 P2 P3 d0
          by_cases hlk : k < n
          · have hkl : k < xs.length := by rw [HL.out]; exact hlk
            obtain ⟨b1, o1, hb1, hc⟩ := (hr1.out.keep HQ.out.2 (Nat.le_refl _)) (by omega)
            subst hb1
            have d1 := hc k hkl
            have hf := (HX.out.2.2.2 k hkl)
            have e1 := hf.1
            have e2 := hf.2.1
            have Ht := Lib.hid (gl_take (k := el ys j) hkl)
            clear hc hf hkl
            have J1 : (j : Int) < (m : Int) := by omega
            have J2 : (k : Int) < (n : Int) := by omega
            go_wp2_with fail
            go_region_law (first
              | (go_simp; go_at_call 97; refine (l04Gcd_any _ _ _ (by omega) (by omega) (by omega) (by omega)).mono ?_; rintro e w' ⟨rfl, q, rfl⟩)
              | (refine step_push wr rfl (.tmp 36) (.tmp 48) 25 rfl w2.heap.size 2 (.int .i64 0) 8 Try.underlying25 Try.info2 rfl (by decide) (.int .i64 (Int.gcd (el xs k) (el ys j) : Nat)) rfl _ _ _ _ _ rfl rfl (by exact (World.cell?_alloc_at _ _ _ _ rfl).trans rfl) (by exact (HQ.out.1.drewN _).alloc _) (by omega) (by exact (below_drewN' (Below.refl _ _) _).alloc (Nat.le_refl _) _) hsq ?_; rintro a4 c4 w4 r4 q4 g4; have R4 := Lib.hid r4; have Q4 := Lib.hid q4; have G4 := Lib.hid g4; clear r4 q4 g4))
            all_goals
              have hown2 : OwnI 2 w4 w2.heap.size a4 (n3 + 1) c4 (homL xs r (ys.take j) ++ gl (el ys j) (xs.take (k + 1))) := by
                rw [Ht.out, ← List.append_assoc]
                exact OwnI.pushed R4.out
              have hbel2 : Below w2.heap.size w2 w4 := (HQ.out.2).trans (G4.out.below (by exact hsq) (fun m hm hx => by obtain ⟨x, hx, e⟩ := hx; have := (HQ.out.1.block x hx).1; omega))
              have HN := Lib.hid (And.intro hown2 hbel2)
              clear hown2 hbel2
              go_wp2_with fail
              go_roundw
              case rel => exact ⟨k + 1, a4, n3 + 1, c4, by omega, rfl, by go_num, HN⟩
              case measure => simp [intOf]; omega
          · obtain rfl : n = k := by omega
            have HQ2 : Hid (OwnI 2 wr w2.heap.size a3 n3 c3 (homL xs r (ys.take j) ++ gl (el ys j) xs) ∧ Below w2.heap.size w2 wr) := Lib.hid (by have := HQ.out; rwa [List.take_of_length_le (l := xs) (by rw [HL.out]; omega)] at this)
            clear HQ
            go_wp2_with fail
            go_loopw [6, 9] (fun v i wr => ∃ (i1 : Nat) (a1 : Option Addr) (n1 c1 : Nat), i1 ≤ r.toNat ∧ v = .slice a1 n1 c1 ∧ i = .int .i64 i1 ∧ Hid (OwnI 2 wr w2.heap.size a1 n1 c1 (homL xs r (ys.take j) ++ gl (el ys j) xs ++ List.replicate i1 (el ys j)) ∧ Below w2.heap.size w2 wr)) (fun _ i _ => r.toNat - (intOf i).toNat)
            case atStart => exact ⟨0, a3, n3, c3, Nat.zero_le _, rfl, rfl, Lib.hid ⟨by simpa using HQ2.out.1, HQ2.out.2⟩⟩
            case round =>
              obtain ⟨i1, a5, n5, c5, hi1, rfl, rfl, HS⟩ := hrel
              have ln5 : n5 ≤ 1000 := by
                have := HS.out.1.len
                rw [List.length_append, List.length_append, gl_len, List.length_replicate, HZ.out, HL.out] at this
                omega
              have hss : w2.heap.size ≤ wr.heap.size := HS.out.2.size
              have S0 : wr.cell? ⟨w.heap.size, 0, none⟩ = some (.slice a n c) := by rw [HS.out.2.cell (p := ⟨w.heap.size, 0, none⟩) (block_lt p0)]; exact p0
              have S1 : wr.cell? ⟨w.heap.size, 1, none⟩ = some (.int .i64 r) := by rw [HS.out.2.cell (p := ⟨w.heap.size, 1, none⟩) (block_lt p1)]; exact p1
              have S2 : wr.cell? ⟨w.heap.size + 1, 0, none⟩ = some (.slice (some ⟨b2, o2, none⟩) m d) := by rw [HS.out.2.cell (p := ⟨w.heap.size + 1, 0, none⟩) (block_lt p2)]; exact p2
              have d3 : wr.cell? ⟨b2, o2 + j, none⟩ = some (.int .i64 (el ys j)) := by rw [HS.out.2.cell (p := ⟨b2, o2 + j, none⟩) (block_lt D0)]; exact D0
              clear Q0 Q1 Q2 d2
              by_cases hli : i1 < r.toNat
              · go_wp2_with (at_builtin; refine wpList_push rfl (.tmp 56) (.tmp 62) 25 rfl w2.heap.size 2 (.int .i64 0) 8 Try.underlying25 Try.info2 rfl (by decide) _ rfl _ _ _ _ rfl rfl (by exact HS.out.1) (by omega) hss ?_; rintro a4 c4 w4 r4 q4 g4; have R4 := Lib.hid r4; have Q4 := Lib.hid q4; have G4 := Lib.hid g4; clear r4 q4 g4)
                have hown2 : OwnI 2 w4 w2.heap.size a4 (n5 + 1) c4 (homL xs r (ys.take j) ++ gl (el ys j) xs ++ List.replicate (i1 + 1) (el ys j)) := by
                  rw [rep_succ, ← List.append_assoc]
                  exact OwnI.pushed R4.out
                have hbel2 : Below w2.heap.size w2 w4 := (HS.out.2).trans (G4.out.below (by exact hss) (fun m hm hx => by obtain ⟨x, hx, e⟩ := hx; have := (HS.out.1.block x hx).1; omega))
                have HN := Lib.hid (And.intro hown2 hbel2)
                clear hown2 hbel2
                go_roundw
                case rel => exact ⟨i1 + 1, a4, n5 + 1, c4, by omega, rfl, by go_num, HN⟩
                case measure => simp [intOf]; omega
              · obtain rfl : i1 = r.toNat := by omega
                have HN : Hid (OwnI 2 wr w2.heap.size a5 n5 c5 (homL xs r (ys.take (j + 1))) ∧ Below w2.heap.size w2 wr) := Lib.hid (by have := HS.out; rwa [List.append_assoc, ← Hend.out] at this)
                go_wp2_with fail
                go_roundw
                case rel => exact ⟨j + 1, a5, n5, c5, by omega, rfl, by go_num, HN⟩
                case measure => simp [intOf]; omega
      · obtain rfl : j = m := by omega
        have HO2 : Hid (OwnI 2 wr w2.heap.size a1 n1 c1 (homL xs r ys)) := Lib.hid (by have := HO.out.1; rwa [List.take_of_length_le (by rw [HL2.out]; omega)] at this)
        have HD : Hid (Below w.heap.size w wr) := Lib.hid (HB.out.trans (HO.out.2.mono HB.out.size))
        go_wp2_with fail
        refine (l05Count_any _ _ _ (homL xs r ys) _ HO2.out.rd HO2.out.len (by omega) HP.out).mono ?_
        rintro e w' ⟨rfl, q, rfl⟩
        go_wp2_with fail
        go_ret2
        exact ⟨rfl, below_drewN' HD.out q⟩
  · rw [homV_bad hv hu hs]
    have HS : Hid (s ≠ 0) := Lib.hid hs
    have s0 : 0 ≤ s := (isAb_ok hu).1
    have hs1 : (s != 0) = true := bne_iff_ne.2 hs
    have hs2 : 0 < s := by omega
    clear hs
    go_enter Try.func29, Try.ntmps29
    go_wp2_with fail
    refine (spec_IsAbelian_any _ _ _ xs _ _ (by exact (HA.out.alloc _).alloc _) HL.out (by omega)).mono ?_
    rintro e w1 ⟨rfl, hb⟩
    have HB : Hid (Below w.heap.size w w1) := Lib.hid ((((Below.refl _ _).alloc (Nat.le_refl _) _).alloc (by simp) _).trans (hb.mono (by simp; omega)))
    have p0 := cell_keep (p := ⟨w.heap.size, 0, none⟩) (v := .slice a n c) (by simp) hb
    have p1 := cell_keep (p := ⟨w.heap.size, 1, none⟩) (v := .int .i64 r) (by simp) hb
    have p2 := cell_keep (p := ⟨w.heap.size + 1, 0, none⟩) (v := .slice b m d) (by simp) hb
    have p3 := cell_keep (p := ⟨w.heap.size + 1, 1, none⟩) (v := .int .i64 s) (by simp) hb
    clear hb
    go_wp2_with fail
    refine (spec_IsAbelian_any _ _ _ ys _ _ (by exact HA2.out.keep HB.out (Nat.le_refl _)) HL2.out (by omega)).mono ?_
    rintro e w2 ⟨rfl, hb⟩
    replace HB : Hid (Below w.heap.size w w2) := Lib.hid (HB.out.trans (hb.mono HB.out.size))
    replace p0 := cell_keep p0 hb
    replace p1 := cell_keep p1 hb
    replace p2 := cell_keep p2 hb
    replace p3 := cell_keep p3 hb
    clear hb
    go_wp2_with fail
    go_ret2
    exact ⟨rfl, HB.out⟩
end Go.Proofs.Ytkidohohiihbaaa
