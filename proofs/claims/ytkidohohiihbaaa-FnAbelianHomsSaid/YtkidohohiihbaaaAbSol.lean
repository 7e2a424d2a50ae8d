/- The number of solutions in an abelian group. -/
import Derived.Test.YtkidohohiihbaaaAbOrd
set_option linter.unusedVariables false
set_option linter.unusedSimpArgs false
namespace Go.Proofs.Ytkidohohiihbaaa
open Go.RowKit

def gl (k : Int) (xs : List Int) : List Int := xs.map (fun f => (Int.gcd f k : Int))
theorem gl_len (k : Int) (xs : List Int) : (gl k xs).length = xs.length := by simp [gl]
theorem gl_pos {k : Int} (h1 : 1 ≤ k) (h2 : k ≤ 1000000) (xs : List Int) : ∀ x ∈ gl k xs, 1 ≤ x ∧ x ≤ 1000000000000000 := by
  intro x hx
  unfold gl at hx
  rw [List.mem_map] at hx
  obtain ⟨f, _, rfl⟩ := hx
  have h3 : Int.gcd f k ≠ 0 := fun h => by have := (Int.gcd_eq_zero_iff.1 h).2; omega
  have h4 := Int.le_of_dvd (show 0 < k by omega) (Int.gcd_dvd_right f k)
  omega
theorem gl_take {k : Int} {xs : List Int} {i : Nat} (h : i < xs.length) : gl k (xs.take (i + 1)) = gl k (xs.take i) ++ [(Int.gcd (el xs i) k : Int)] := by
  unfold gl; rw [take_el h, List.map_append]; rfl
def solV (xs : List Int) (r k : Int) : Int × Int := if isAb xs r then (if 1 ≤ k ∧ k ≤ 1000000 then cntV (gl k xs) else (0, 2)) else (0, 1)
theorem solV_no {xs : List Int} {r k : Int} (h : isAb xs r = false) : solV xs r k = (0, 1) := by unfold solV; simp [h]
theorem solV_bad {xs : List Int} {r k : Int} (h : isAb xs r = true) (hk : k < 1 ∨ 1000000 < k) : solV xs r k = (0, 2) := by unfold solV; rw [if_pos h, if_neg (by omega)]
theorem solV_ok {xs : List Int} {r k : Int} (h : isAb xs r = true) (h1 : 1 ≤ k) (h2 : k ≤ 1000000) : solV xs r k = cntV (gl k xs) := by unfold solV; rw [if_pos h, if_pos ⟨h1, h2⟩]

set_option maxHeartbeats 800000 in
theorem impl_CountSolutions_any (a : Option Addr) (n c : Nat) (xs : List Int) (r k : Int) (w : World) (ha : RdI w a xs) (hl : xs.length = n) (hn : n ≤ 1048576) (hk64 : I64 k) :
    Calls Try.prog 32 #[.agg #[.slice a n c, .int .i64 r], .int .i64 k] w fun e w' => e = .returned (.tuple #[.int .i64 (solV xs r k).1, .int .i64 (solV xs r k).2]) ∧ Below w.heap.size w w' := by
  have HA := Lib.hid ha
  have HL := Lib.hid hl
  obtain ⟨kk1, kk2⟩ := hk64
  clear ha hl
  cases hv : isAb xs r
  · rw [solV_no hv]
    go_enter Try.func32, Try.ntmps32
    go_wp2_with fail
    refine (impl_IsAbelian_any _ _ _ xs _ _ (by exact HA.out.alloc _) HL.out (by omega)).mono ?_
    rintro e w1 ⟨rfl, hb⟩
    have HB : Hid (Below w.heap.size w w1) := Lib.hid (((Below.refl _ _).alloc (Nat.le_refl _) _).trans (hb.mono (by simp)))
    have p0 := cell_keep (p := ⟨w.heap.size, 0, none⟩) (v := .slice a n c) (by simp) hb
    have p1 := cell_keep (p := ⟨w.heap.size, 1, none⟩) (v := .int .i64 r) (by simp) hb
    have hr1 : Hid (RdI w1 a xs) := Lib.hid (HA.out.keep HB.out (Nat.le_refl _))
    clear hb
    go_wp2_with fail
    go_ret2
    exact ⟨rfl, HB.out⟩
  by_cases hk : k < 1 ∨ 1000000 < k
  · rw [solV_bad hv hk]
    go_enter Try.func32, Try.ntmps32
    go_wp2_with fail
    refine (impl_IsAbelian_any _ _ _ xs _ _ (by exact HA.out.alloc _) HL.out (by omega)).mono ?_
    rintro e w1 ⟨rfl, hb⟩
    have HB : Hid (Below w.heap.size w w1) := Lib.hid (((Below.refl _ _).alloc (Nat.le_refl _) _).trans (hb.mono (by simp)))
    have p0 := cell_keep (p := ⟨w.heap.size, 0, none⟩) (v := .slice a n c) (by simp) hb
    have p1 := cell_keep (p := ⟨w.heap.size, 1, none⟩) (v := .int .i64 r) (by simp) hb
    have hr1 : Hid (RdI w1 a xs) := Lib.hid (HA.out.keep HB.out (Nat.le_refl _))
    clear hb
    go_wp2_with (go_at_call 89; refine (inside_f _ _ _ _ hk).mono ?_; rintro e w' ⟨rfl, rfl⟩)
    go_ret2
    exact ⟨rfl, HB.out⟩
  · have k1 : 1 ≤ k := by omega
    have k2 : k ≤ 1000000 := by omega
    rw [solV_ok hv k1 k2]
    have HX := Lib.hid (isAb_pos hv)
    have HG := Lib.hid (gl_pos k1 k2 xs)
    have HB1 := Lib.hid (isAb_ok hv)
    clear hk
    go_enter Try.func32, Try.ntmps32
    go_wp2_with fail
    refine (impl_IsAbelian_any _ _ _ xs _ _ (by exact HA.out.alloc _) HL.out (by omega)).mono ?_
    rintro e w1 ⟨rfl, hb⟩
    have HB : Hid (Below w.heap.size w w1) := Lib.hid (((Below.refl _ _).alloc (Nat.le_refl _) _).trans (hb.mono (by simp)))
    have p0 := cell_keep (p := ⟨w.heap.size, 0, none⟩) (v := .slice a n c) (by simp) hb
    have p1 := cell_keep (p := ⟨w.heap.size, 1, none⟩) (v := .int .i64 r) (by simp) hb
    have hr1 : Hid (RdI w1 a xs) := Lib.hid (HA.out.keep HB.out (Nat.le_refl _))
    clear hb
    go_wp2_with (go_at_call 89; refine (inside_t _ _ _ _ k1 k2).mono ?_; rintro e w' ⟨rfl, rfl⟩)
    go_loopw [6, 18] (fun v i wr => ∃ (j : Nat) (a1 : Option Addr) (n1 c1 : Nat), j ≤ n ∧ v = .slice a1 n1 c1 ∧ i = .int .i64 j ∧ Hid (OwnI 2 wr w1.heap.size a1 n1 c1 (gl k (xs.take j)) ∧ Below w1.heap.size w1 wr)) (fun _ i _ => n - (intOf i).toNat)
    case atStart => exact ⟨0, none, 0, 0, Nat.zero_le _, rfl, rfl, Lib.hid ⟨by simpa [gl] using OwnI.none, Below.refl _ _⟩⟩
    case round =>
      obtain ⟨j, a1, n1, c1, hj, rfl, rfl, HO⟩ := hrel
      have ln := HO.out.1.len
      rw [gl_len, List.length_take, HL.out] at ln
      have la : n1 ≤ n := by omega
      have hsz : w1.heap.size ≤ wr.heap.size := HO.out.2.size
      clear ln
      have P0 : wr.cell? ⟨w.heap.size, 0, none⟩ = some (.slice a n c) := by rw [HO.out.2.cell (p := ⟨w.heap.size, 0, none⟩) (block_lt p0)]; exact p0
      have P1 : wr.cell? ⟨w.heap.size, 1, none⟩ = some (.int .i64 r) := by rw [HO.out.2.cell (p := ⟨w.heap.size, 1, none⟩) (block_lt p1)]; exact p1
      by_cases hlt : j < n
      · have hjl : j < xs.length := by rw [HL.out]; exact hlt
        obtain ⟨b1, o1, hb1, hc⟩ := (hr1.out.keep HO.out.2 (Nat.le_refl _)) (by omega)
        subst hb1
        have d1 := hc j hjl
        have hf := (HB1.out.2.2.2 j hjl)
        have f1 := hf.1
        have f2 := hf.2.1
        have Ht := Lib.hid (gl_take (k := k) hjl)
        clear hc hf hjl
        go_wp2_with (first
          | (go_at_call 90; refine (gcd_any _ _ _ (by omega) (by omega) (by omega) (by omega)).mono ?_; rintro e w' ⟨rfl, q, rfl⟩)
          | (at_builtin; refine wpList_push rfl (.tmp 22) (.tmp 26) 25 rfl w1.heap.size 2 (.int .i64 0) 8 Try.underlying25 Try.info2 rfl (by decide) _ rfl _ _ _ _ rfl rfl (by exact HO.out.1) (by omega) hsz ?_; rintro a2 c2 w2 r2 q2 g2; have R2 := Lib.hid r2; have Q2 := Lib.hid q2; have G2 := Lib.hid g2; clear r2 q2 g2))
        have hown2 : OwnI 2 w2 w1.heap.size a2 (n1 + 1) c2 (gl k (xs.take (j + 1))) := by
          rw [Ht.out]
          exact OwnI.pushed R2.out
        have hbel2 : Below w1.heap.size w1 w2 := (below_drewN' HO.out.2 _).trans (G2.out.below (by exact hsz) (fun m hm hx => by obtain ⟨x, hx, e⟩ := hx; have := (HO.out.1.block x hx).1; omega))
        have HN := Lib.hid (And.intro hown2 hbel2)
        clear hown2 hbel2
        go_roundw
        case rel => exact ⟨j + 1, a2, n1 + 1, c2, by omega, rfl, by go_num, HN⟩
        case measure => simp [intOf]; omega
      · obtain rfl : j = n := by omega
        have HF : Hid (gl k (xs.take j) = gl k xs) := Lib.hid (by rw [List.take_of_length_le (by rw [HL.out]; omega)])
        have HO2 : Hid (OwnI 2 wr w1.heap.size a1 n1 c1 (gl k xs)) := Lib.hid (by have := HO.out.1; rwa [HF.out] at this)
        have HD : Hid (Below w.heap.size w wr) := Lib.hid (HB.out.trans (HO.out.2.mono HB.out.size))
        go_wp2_with fail
        refine (countProduct_any _ _ _ (gl k xs) _ HO2.out.rd HO2.out.len (by omega) HG.out).mono ?_
        rintro e w' ⟨rfl, rfl⟩
        go_wp2_with fail
        go_ret2
        exact ⟨rfl, HD.out⟩

set_option maxHeartbeats 800000 in
theorem spec_CountSolutions_any (a : Option Addr) (n c : Nat) (xs : List Int) (r k : Int) (w : World) (ha : RdI w a xs) (hl : xs.length = n) (hn : n ≤ 1048576) (hk64 : I64 k) :
    Calls Try.prog 33 #[.agg #[.slice a n c, .int .i64 r], .int .i64 k] w fun e w' => e = .returned (.tuple #[.int .i64 (solV xs r k).1, .int .i64 (solV xs r k).2]) ∧ Below w.heap.size w w' := by
  have HA := Lib.hid ha
  have HL := Lib.hid hl
  obtain ⟨kk1, kk2⟩ := hk64
  clear ha hl
  cases hv : isAb xs r
  · rw [solV_no hv]
    go_enter Try.func33, Try.ntmps33
    go_wp2_with fail
    refine (spec_IsAbelian_any _ _ _ xs _ _ (by exact HA.out.alloc _) HL.out (by omega)).mono ?_
    rintro e w1 ⟨rfl, hb⟩
    have HB : Hid (Below w.heap.size w w1) := Lib.hid (((Below.refl _ _).alloc (Nat.le_refl _) _).trans (hb.mono (by simp)))
    have p0 := cell_keep (p := ⟨w.heap.size, 0, none⟩) (v := .slice a n c) (by simp) hb
    have p1 := cell_keep (p := ⟨w.heap.size, 1, none⟩) (v := .int .i64 r) (by simp) hb
    have hr1 : Hid (RdI w1 a xs) := Lib.hid (HA.out.keep HB.out (Nat.le_refl _))
    clear hb
    go_wp2_with fail
    go_ret2
    exact ⟨rfl, HB.out⟩
  by_cases hk : k < 1 ∨ 1000000 < k
  · rw [solV_bad hv hk]
    go_enter Try.func33, Try.ntmps33
    go_wp2_with fail
    refine (spec_IsAbelian_any _ _ _ xs _ _ (by exact HA.out.alloc _) HL.out (by omega)).mono ?_
    rintro e w1 ⟨rfl, hb⟩
    have HB : Hid (Below w.heap.size w w1) := Lib.hid (((Below.refl _ _).alloc (Nat.le_refl _) _).trans (hb.mono (by simp)))
    have p0 := cell_keep (p := ⟨w.heap.size, 0, none⟩) (v := .slice a n c) (by simp) hb
    have p1 := cell_keep (p := ⟨w.heap.size, 1, none⟩) (v := .int .i64 r) (by simp) hb
    have hr1 : Hid (RdI w1 a xs) := Lib.hid (HA.out.keep HB.out (Nat.le_refl _))
    clear hb
    go_wp2_with (go_at_call 81; refine (l01In_f _ _ _ _ hk).mono ?_; rintro e w' ⟨rfl, rfl⟩)
    go_ret2
    exact ⟨rfl, HB.out⟩
  · have k1 : 1 ≤ k := by omega
    have k2 : k ≤ 1000000 := by omega
    rw [solV_ok hv k1 k2]
    have HX := Lib.hid (isAb_pos hv)
    have HG := Lib.hid (gl_pos k1 k2 xs)
    have HB1 := Lib.hid (isAb_ok hv)
    clear hk
    go_enter Try.func33, Try.ntmps33
    go_wp2_with fail
    refine (spec_IsAbelian_any _ _ _ xs _ _ (by exact HA.out.alloc _) HL.out (by omega)).mono ?_
    rintro e w1 ⟨rfl, hb⟩
    have HB : Hid (Below w.heap.size w w1) := Lib.hid (((Below.refl _ _).alloc (Nat.le_refl _) _).trans (hb.mono (by simp)))
    have p0 := cell_keep (p := ⟨w.heap.size, 0, none⟩) (v := .slice a n c) (by simp) hb
    have p1 := cell_keep (p := ⟨w.heap.size, 1, none⟩) (v := .int .i64 r) (by simp) hb
    have hr1 : Hid (RdI w1 a xs) := Lib.hid (HA.out.keep HB.out (Nat.le_refl _))
    clear hb
    go_wp2_with (go_at_call 81; refine (l01In_t _ _ _ _ k1 k2).mono ?_; rintro e w' ⟨rfl, rfl⟩)
    go_loopw [6, 7] (fun v i wr => ∃ (j : Nat) (a1 : Option Addr) (n1 c1 : Nat), j ≤ n ∧ v = .slice a1 n1 c1 ∧ i = .int .i64 j ∧ Hid (OwnI 2 wr w1.heap.size a1 n1 c1 (gl k (xs.take j)) ∧ Below w1.heap.size w1 wr)) (fun _ i _ => n - (intOf i).toNat)
    case atStart => exact ⟨0, _, 0, 0, Nat.zero_le _, rfl, rfl, Lib.hid ⟨by simpa [gl] using OwnI.lit w1 2 [] #[] rfl (by simp), (Below.refl _ _).alloc (Nat.le_refl _) _⟩⟩
    case round =>
      obtain ⟨j, a1, n1, c1, hj, rfl, rfl, HO⟩ := hrel
      have ln := HO.out.1.len
      rw [gl_len, List.length_take, HL.out] at ln
      have la : n1 ≤ n := by omega
      have hsz : w1.heap.size ≤ wr.heap.size := HO.out.2.size
      clear ln
      have P0 : wr.cell? ⟨w.heap.size, 0, none⟩ = some (.slice a n c) := by rw [HO.out.2.cell (p := ⟨w.heap.size, 0, none⟩) (block_lt p0)]; exact p0
      have P1 : wr.cell? ⟨w.heap.size, 1, none⟩ = some (.int .i64 r) := by rw [HO.out.2.cell (p := ⟨w.heap.size, 1, none⟩) (block_lt p1)]; exact p1
      by_cases hlt : j < n
      · have hjl : j < xs.length := by rw [HL.out]; exact hlt
        obtain ⟨b1, o1, hb1, hc⟩ := (hr1.out.keep HO.out.2 (Nat.le_refl _)) (by omega)
        subst hb1
        have d1 := hc j hjl
        have hf := (HB1.out.2.2.2 j hjl)
        have f1 := hf.1
        have f2 := hf.2.1
        have Ht := Lib.hid (gl_take (k := k) hjl)
        clear hc hf hjl
        go_wp2_with (first
          | (go_at_call 97; refine (l04Gcd_any _ _ _ (by omega) (by omega) (by omega) (by omega)).mono ?_; rw [Int.gcd_comm k]; rintro e w' ⟨rfl, q, rfl⟩)
          | (at_builtin; refine wpList_push rfl (.tmp 22) (.tmp 30) 25 rfl w1.heap.size 2 (.int .i64 0) 8 Try.underlying25 Try.info2 rfl (by decide) _ rfl _ _ _ _ rfl rfl (by exact HO.out.1) (by omega) hsz ?_; rintro a2 c2 w2 r2 q2 g2; have R2 := Lib.hid r2; have Q2 := Lib.hid q2; have G2 := Lib.hid g2; clear r2 q2 g2))
        have hown2 : OwnI 2 w2 w1.heap.size a2 (n1 + 1) c2 (gl k (xs.take (j + 1))) := by
          rw [Ht.out]
          exact OwnI.pushed R2.out
        have hbel2 : Below w1.heap.size w1 w2 := (below_drewN' HO.out.2 _).trans (G2.out.below (by exact hsz) (fun m hm hx => by obtain ⟨x, hx, e⟩ := hx; have := (HO.out.1.block x hx).1; omega))
        have HN := Lib.hid (And.intro hown2 hbel2)
        clear hown2 hbel2
        go_roundw
        case rel => exact ⟨j + 1, a2, n1 + 1, c2, by omega, rfl, by go_num, HN⟩
        case measure => simp [intOf]; omega
      · obtain rfl : j = n := by omega
        have HF : Hid (gl k (xs.take j) = gl k xs) := Lib.hid (by rw [List.take_of_length_le (by rw [HL.out]; omega)])
        have HO2 : Hid (OwnI 2 wr w1.heap.size a1 n1 c1 (gl k xs)) := Lib.hid (by have := HO.out.1; rwa [HF.out] at this)
        have HD : Hid (Below w.heap.size w wr) := Lib.hid (HB.out.trans (HO.out.2.mono HB.out.size))
        go_wp2_with fail
        refine (l05Count_any _ _ _ (gl k xs) _ HO2.out.rd HO2.out.len (by omega) HG.out).mono ?_
        rintro e w' ⟨rfl, q, rfl⟩
        go_wp2_with fail
        go_ret2
        exact ⟨rfl, below_drewN' HD.out q⟩
end Go.Proofs.Ytkidohohiihbaaa
