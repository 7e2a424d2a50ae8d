/- The reference's l03Insert: a matrix put into an ascending list. -/
import Derived.Test.YtpkdgemnddcefaaAsS1
import Derived.Test.YtpkdgemnddcefaaMts
import Derived.Test.YtpkdgemnddcefaaConD
import Derived.Deep.RegionHeld3
import Derived.Deep.RegionLaw
import Derived.OwnWalk
set_option linter.unusedVariables false
set_option linter.unusedSimpArgs false
namespace Go.Proofs.Ytpkdgemnddcefaa
open Go.RowKit
/-- is it less than one of the list? -/
def hasL (X : List (List Int)) (L : List (List (List Int))) : Bool := L.any fun y => decide (cmpL (flM X) (flM y) < 0)
theorem insM_snoc_t {X y : List (List Int)} : ∀ {L : List (List (List Int))}, hasL X L = true → insM X (L ++ [y]) = insM X L ++ [y]
  | [], h => by simp [hasL] at h
  | z :: L, h => by
    show insM X (z :: (L ++ [y])) = _
    unfold insM
    by_cases hz : cmpL (flM X) (flM z) < 0
    · rw [if_pos hz, if_pos hz]; rfl
    · rw [if_neg hz, if_neg hz]
      have h2 : hasL X L = true := by
        unfold hasL at h ⊢
        rw [List.any_cons, decide_eq_false hz] at h
        simpa using h
      rw [insM_snoc_t h2]; rfl
theorem insM_f {X : List (List Int)} : ∀ {L : List (List (List Int))}, hasL X L = false → insM X L = L ++ [X]
  | [], _ => rfl
  | z :: L, h => by
    unfold hasL at h
    rw [List.any_cons, Bool.or_eq_false_iff] at h
    have hz : ¬ cmpL (flM X) (flM z) < 0 := by have := h.1; simpa using this
    unfold insM
    rw [if_neg hz, insM_f h.2]; rfl
theorem insM_snoc_f {X y : List (List Int)} : ∀ {L : List (List (List Int))}, hasL X L = false → cmpL (flM X) (flM y) < 0 → insM X (L ++ [y]) = L ++ [X] ++ [y]
  | [], _, hy => by
    show insM X [y] = [X, y]
    unfold insM; rw [if_pos hy]
  | z :: L, h, hy => by
    unfold hasL at h
    rw [List.any_cons, Bool.or_eq_false_iff] at h
    have hz : ¬ cmpL (flM X) (flM z) < 0 := by have := h.1; simpa using this
    show insM X (z :: (L ++ [y])) = _
    unfold insM
    rw [if_neg hz, insM_snoc_f h.2 hy]; rfl
theorem hasL_snoc {X : List (List Int)} {L : List (List (List Int))} {j : Nat} (hj : j < L.length) : hasL X (L.take (j + 1)) = (hasL X (L.take j) || decide (cmpL (flM X) (flM (mx_ L j)) < 0)) := by
  unfold hasL
  rw [List.take_add_one, mx_get hj, Option.toList_some, List.any_append]
  simp
theorem take_mx {L : List (List (List Int))} {j : Nat} (hj : j < L.length) : L.take (j + 1) = L.take j ++ [mx_ L j] := by rw [List.take_add_one, mx_get hj]; rfl
/-- what was put so far -/
def insT (X : List (List Int)) (L : List (List (List Int))) (j : Nat) : List (List (List Int)) := if hasL X (L.take j) = true then insM X (L.take j) else L.take j
structure InS (n k : Nat) (L : List (List (List Int))) : Prop where
  len : ∀ i, i < L.length → (mx_ L i).length = k
  row : ∀ i, i < L.length → ∀ j, j < k → (rw_ (mx_ L i) j).length = n
theorem offs_const {xs : List (List Int)} {n : Nat} : ∀ k, (∀ i, i < k → (rw_ xs i).length = n) → offs xs k = k * n
  | 0, _ => by simp [offs]
  | k + 1, h => by rw [offs, offs_const k (fun i hi => h i (by omega)), h k (by omega), Nat.succ_mul]
theorem Try.infoMt : (Try.prog.info? 26).map (fun i => (i.zero, i.size, i.bytes)) = some (some (.agg #[.int .i64 0, .int .i64 0, .slice none 0 0]), 3, 40) := by kernel_rfl
theorem lit3_cells (w : World) (T : TypeId) (x y z : Value) : ∀ t u, [x, y, z][t]? = some u → (w.alloc (.cells #[x, y, z] T)).cell? ⟨w.heap.size, t, none⟩ = some u := fun t u ht => by
  rw [(BX.new w T #[x, y, z]).cell t, ← ht, ← Array.getElem?_toList]
theorem RdR.same9 {w : World} {a : Option Addr} {xs : List (List Int)} (h : RdR w a xs) : RdR w.drew a xs := h.keep (B := w.heap.size) ((Below.refl _ _).drew) (Nat.le_refl _)
theorem l01Less_b (a b : Option Addr) (n m ca cb : Nat) (xs ys : List Int) (w : World) (ha : RdI w a xs) (hb : RdI w b ys) (hn : xs.length = n) (hm : ys.length = m) (h1 : n ≤ 1048576) (h2 : m ≤ 1048576) :
    Calls Try.prog 95 #[.slice a n ca, .slice b m cb] w fun e w' => e = .returned (.bool (decide (cmpL xs ys < 0))) ∧ Below w.heap.size w w' :=
  (l01Less_any a b n m ca cb xs ys w ha hb hn hm h1 h2).mono fun _ _ h => ⟨h.1, by obtain ⟨t, ht⟩ := h.2; rw [ht]; exact below_drewN' (Below.refl _ _) _⟩
set_option maxRecDepth 20000 in
set_option maxHeartbeats 4000000 in
theorem l03Insert_any (a am : Option Addr) (n c k cm q0 : Nat) (p : Int) (L : List (List (List Int))) (X : List (List Int)) (w : World) (ha : RdM w a n (fun _ => p) (fun _ => (q0 : Int)) L) (hx : RdR w am X) (hL : L.length = n) (hX : X.length = k) (hk : k ≤ cm) (hXr : ∀ j, j < k → (rw_ X j).length = q0) (hI : InS q0 k L) (hn : n ≤ 1000) (hk8 : k ≤ 8) (hq8 : q0 ≤ 8) :
    Calls Try.prog 70 #[.slice a n c, .agg #[.int .i64 p, .int .i64 q0, .slice am k cm]] w fun e w' => ∃ a' c', e = .returned (.slice a' (n + 1) c') ∧ RdM w' a' (n + 1) (fun _ => p) (fun _ => (q0 : Int)) (insM X L) ∧ Below w.heap.size w w' := by
  obtain ⟨W, hW⟩ : ∃ W, W = w.alloc (.cells #[.int .i64 p, .int .i64 q0, .slice am k cm] 26) := ⟨_, rfl⟩
  have HBW : Hid (Below w.heap.size w W) := Lib.hid (by rw [hW]; exact (Below.refl _ _).alloc (Nat.le_refl _) _)
  have HA := Lib.hid (ha.keep HBW.out (Nat.le_refl _))
  have HXR := Lib.hid (hx.keep HBW.out (Nat.le_refl _))
  have HBX : Hid (BX 26 W w.heap.size #[.int .i64 p, .int .i64 q0, .slice am k cm]) := Lib.hid (by rw [hW]; exact BX.new _ _ _)
  have HL := Lib.hid hL
  have HXL := Lib.hid hX
  have HXQ := Lib.hid hXr
  have HIN := Lib.hid hI
  have H0 : Hid (VwM 26 W (W.alloc (.cells #[] 26)) (some ⟨W.heap.size, 0, none⟩) 0 0 (fun _ => p) (fun _ => (q0 : Int)) (insT X L 0) (fun _ => none) (fun _ => 0)) := Lib.hid (VwM.empty W _ _ _ _)
  clear ha hx hL hX hXr hI
  have HW := Lib.hid hW
  go_enter Try.func70, Try.ntmps70
  go_wp2_with fail
  rw [← hW]
  have esz : W.heap.size = w.heap.size + 1 := by rw [hW]; simp
  rw [← esz]
  obtain ⟨mb, hmb⟩ : ∃ x, x = w.heap.size := ⟨_, rfl⟩
  rw [← hmb] at HBX ⊢
  clear hW hmb esz
  go_loopw [7, 5, 6] (fun i v x wr => ∃ (j r : Nat) (a1 : Option Addr) (c1 : Nat) (A : Nat → Option Addr) (C : Nat → Nat) (q : Bool), j ≤ n ∧ i = .int .i64 j ∧ v = .slice a1 r c1 ∧ x = .bool q ∧ r = (if q = true then j + 1 else j) ∧ Hid (q = hasL X (L.take j)) ∧ Hid (VwM 26 W wr a1 r c1 (fun _ => p) (fun _ => (q0 : Int)) (insT X L j) A C)) (fun i _ _ _ => n - (intOf i).toNat)
  case atStart => exact ⟨0, 0, _, 0, _, _, false, Nat.zero_le _, rfl, rfl, rfl, rfl, Lib.hid rfl, H0⟩
  case round =>
    obtain ⟨j, r, a1, c1, A, C, q, hj, rfl, rfl, rfl, hr, HQ, HV⟩ := hrel
    obtain ⟨wo, rfl⟩ : ∃ x, x = wr := ⟨wr, rfl⟩
    clear H0
    by_cases hjt : j < n
    · have J1 : (j : Int) < (n : Int) := by omega
      obtain ⟨b, o, aj, cj, rfl, x0, x1, x2, xr, xk⟩ := HA.out.at_ hjt
      have hlj := HIN.out.len j (by rw [HL.out]; exact hjt)
      rw [hlj] at x2 xk
      have HRJ := Lib.hid xr
      have HLJ := Lib.hid hlj
      have y0 := cell_below (p := ⟨b, o + j * 3, none⟩) x0 HV.out.below
      have y1 := cell_below (p := ⟨b, o + j * 3 + 1, none⟩) x1 HV.out.below
      have y2 := cell_below (p := ⟨b, o + j * 3 + 2, none⟩) x2 HV.out.below
      have z0 := (HBX.out.keep HV.out.below).cell 0
      have z1 := (HBX.out.keep HV.out.below).cell 1
      have z2 := (HBX.out.keep HV.out.below).cell 2
      have lz := (HBX.out.keep HV.out.below).lt
      simp at z0 z1 z2
      have hsz := HV.out.below.size
      have X0 := Lib.hid x0
      have X1 := Lib.hid x1
      have X2 := Lib.hid x2
      have HVD := Lib.hid (HV.out.keep (B1 := wo.heap.size) (w' := wo.drew) ((Below.refl _ _).drew) (Nat.le_refl _))
      clear x0 x1 x2 xr
      cases q
      · --
        rw [if_neg (by decide)] at hr
        replace hr := hr.symm
        subst hr
        have HXo := Lib.hid (HXR.out.keep HV.out.below (Nat.le_refl _))
        have HJo := Lib.hid (HRJ.out.keep HV.out.below (Nat.le_refl _))
        have HO1 : Hid (offs X k ≤ 1048576) := Lib.hid (by rw [offs_const k (fun i hi => HXQ.out i hi)]; have : k * q0 ≤ 8 * 8 := Nat.mul_le_mul hk8 hq8; omega)
        have HO2 : Hid (offs (mx_ L j) k ≤ 1048576) := Lib.hid (by rw [offs_const k (fun i hi => HIN.out.row j (by rw [HL.out]; exact hjt) i hi)]; have : k * q0 ≤ 8 * 8 := Nat.mul_le_mul hk8 hq8; omega)
        by_cases hless : cmpL (flM X) (flM (mx_ L j)) < 0
        · have HLT : Hid (decide (cmpL (flat X k) (flat (mx_ L j) k) < 0) = true) := Lib.hid (by rw [show flat X k = flM X from flat_all HXL.out, show flat (mx_ L j) k = flM (mx_ L j) from flat_all HLJ.out]; exact decide_eq_true hless)
          have HQ2 : Hid (true = hasL X (L.take (j + 1))) := Lib.hid (by rw [hasL_snoc (by rw [HL.out]; exact hjt), decide_eq_true hless]; simp)
          have HIT : Hid (insT X L (j + 1) = insT X L j ++ [X] ++ [mx_ L j]) := Lib.hid (by unfold insT; rw [if_pos HQ2.out.symm, if_neg (by rw [← HQ.out]; decide), take_mx (by rw [HL.out]; exact hjt), insM_snoc_f HQ.out.symm hless])
          clear hless
          go_wp2_with fail
          go_region_held3 (fun w' => w'.cell? ⟨mb, 2, none⟩ = some (.slice am k cm) ∧ w'.cell? ⟨b, o + j * 3 + 2, none⟩ = some (.slice aj k cj)) (first | exact ⟨z2, y2⟩ | exact ⟨z2A, y2A⟩ | exact ⟨z2B, y2B⟩ | exact ⟨z2C, y2C⟩)
            (first
              | (go_at_call 96; ((with_reducible refine (l03Flat_any am k cm X _ ?_ HXL.out ?_ ?_).mono ?_); (first | exact HXo.out.same9 | exact HXo.out.keep HBB.out (Nat.le_refl _)); omega; exact HO1.out; rintro e wA ⟨aA, cA, rfl, hoA, hbA⟩; have HAA : Hid (Below wo.heap.size wo wA) := Lib.hid (by first | exact ⟨hbA.os, hbA.tape, hbA.output, hbA.size, hbA.block⟩ | exact HBB.out.trans (hbA.mono HBB.out.size)); have HAR := Lib.hid hoA.rd; have HAB := Lib.hid hbA; have z2A := cell_below (p := ⟨mb, 2, none⟩) z2 HAA.out; have y2A := cell_below (p := ⟨b, o + j * 3 + 2, none⟩) y2 HAA.out; clear hoA hbA))
              | (go_at_call 96; ((with_reducible refine (l03Flat_any aj k cj (mx_ L j) _ ?_ HLJ.out ?_ ?_).mono ?_); (first | exact HJo.out.same9 | exact HJo.out.keep HAA.out (Nat.le_refl _)); omega; exact HO2.out; rintro e wB ⟨aB, cB, rfl, hoB, hbB⟩; have HBB : Hid (Below wo.heap.size wo wB) := Lib.hid (by first | exact ⟨hbB.os, hbB.tape, hbB.output, hbB.size, hbB.block⟩ | exact HAA.out.trans (hbB.mono HAA.out.size)); have HBR := Lib.hid hoB.rd; have HBL := Lib.hid hbB; have z2B := cell_below (p := ⟨mb, 2, none⟩) z2 HBB.out; have y2B := cell_below (p := ⟨b, o + j * 3 + 2, none⟩) y2 HBB.out; clear hoB hbB))
              | (go_at_call 95; ((with_reducible refine (l01Less_b aA aB (offs X k) (offs (mx_ L j) k) cA cB (flat X k) (flat (mx_ L j) k) _ ?_ ?_ (flat_len _ _) (flat_len _ _) ?_ ?_).mono ?_); (first | exact HAR.out | exact HAR.out.keep HBL.out (Nat.le_refl _)); (first | exact HBR.out | exact HBR.out.keep HAB.out (Nat.le_refl _)); exact HO1.out; exact HO2.out; rw [HLT.out]; rintro e wC ⟨rfl, hbC⟩; have HCC : Hid (Below wo.heap.size wo wC) := Lib.hid (by first | exact HBB.out.trans (hbC.mono HBB.out.size) | exact HAA.out.trans (hbC.mono HAA.out.size)); have z2C := cell_below (p := ⟨mb, 2, none⟩) z2 HCC.out; have y2C := cell_below (p := ⟨b, o + j * 3 + 2, none⟩) y2 HCC.out; clear hbC)))
          have HVC := Lib.hid (HV.out.keep HCC.out (Nat.le_refl _))
          have u0 := cell_below (p := ⟨b, o + j * 3, none⟩) X0.out HVC.out.below
          have u1 := cell_below (p := ⟨b, o + j * 3 + 1, none⟩) X1.out HVC.out.below
          have v0 := (HBX.out.keep HVC.out.below).cell 0
          have v1 := (HBX.out.keep HVC.out.below).cell 1
          have lv := (HBX.out.keep HVC.out.below).lt
          simp at v0 v1
          clear z0 z1 z2 y0 y1 y2 lz
          have HVX1 := Lib.hid (HVC.out.keep ((Below.refl wC.heap.size wC).alloc (Nat.le_refl _) (.cells #[.int .i64 p, .int .i64 q0, .slice am k cm] 26)) (Nat.le_refl _))
          have HSZ1 : Hid (W.heap.size ≤ (wC.alloc (.cells #[.int .i64 p, .int .i64 q0, .slice am k cm] 26)).heap.size) := Lib.hid (Nat.le_trans HVC.out.below.size (by simp))
          have HCL1 := Lib.hid (lit3_cells wC 26 (.int .i64 p) (.int .i64 q0) (.slice am k cm))
          go_wp2_with (first
            | (at_builtin; refine wpList_pushK rfl (.tmp 29) (.tmp 31) 34 rfl W.heap.size 26 (.agg #[.int .i64 0, .int .i64 0, .slice none 0 0]) 3 40 Try.underlying34 Try.infoMt rfl (by decide) (by decide) [.int .i64 p, .int .i64 q0, .slice am k cm] rfl (by intro u hu; simp at hu; rcases hu with rfl | rfl | rfl <;> rfl) _ _ _ _ rfl wC.heap.size rfl HCL1.out (by exact HVX1.out.own) (by omega) HSZ1.out ?_; rintro aw4 cw4 w4 r4 q4 g4; have HN := Lib.hid ((HVX1.out.push HXR.out HXL.out hk r4 g4).const); have y04 := cell_below (p := ⟨b, o + j * 3, none⟩) X0.out HN.out.below; have y14 := cell_below (p := ⟨b, o + j * 3 + 1, none⟩) X1.out HN.out.below; have y24 := cell_below (p := ⟨b, o + j * 3 + 2, none⟩) X2.out HN.out.below; have HVX2 := Lib.hid (HN.out.keep ((Below.refl w4.heap.size w4).alloc (Nat.le_refl _) (.cells #[.int .i64 p, .int .i64 q0, .slice aj k cj] 26)) (Nat.le_refl _)); have HSZ2 : Hid (W.heap.size ≤ (w4.alloc (.cells #[.int .i64 p, .int .i64 q0, .slice aj k cj] 26)).heap.size) := Lib.hid (Nat.le_trans HN.out.below.size (by simp)); have HCL2 := Lib.hid (lit3_cells w4 26 (.int .i64 p) (.int .i64 q0) (.slice aj k cj)); clear r4 q4 g4)
            | (at_builtin; refine wpList_pushK rfl (.tmp 33) (.tmp 38) 34 rfl W.heap.size 26 (.agg #[.int .i64 0, .int .i64 0, .slice none 0 0]) 3 40 Try.underlying34 Try.infoMt rfl (by decide) (by decide) [.int .i64 p, .int .i64 q0, .slice aj k cj] rfl (by intro u hu; simp at hu; rcases hu with rfl | rfl | rfl <;> rfl) _ _ _ _ rfl w4.heap.size rfl HCL2.out (by exact HVX2.out.own) (by omega) HSZ2.out ?_; rintro aw5 cw5 w5 r4 q4 g4; have HN5 := Lib.hid ((HVX2.out.push HRJ.out HLJ.out xk r4 g4).const); clear r4 q4 g4))
          go_wp2_with fail
          go_roundw
          case rel => exact ⟨j + 1, _, _, _, _, _, true, by omega, by go_num, rfl, rfl, rfl, HQ2, Lib.hid (by rw [HIT.out]; exact HN5.out)⟩
          case measure => simp [intOf]; omega
        · have HLT : Hid (decide (cmpL (flat X k) (flat (mx_ L j) k) < 0) = false) := Lib.hid (by rw [show flat X k = flM X from flat_all HXL.out, show flat (mx_ L j) k = flM (mx_ L j) from flat_all HLJ.out]; exact decide_eq_false hless)
          have HQ2 : Hid (false = hasL X (L.take (j + 1))) := Lib.hid (by rw [hasL_snoc (by rw [HL.out]; exact hjt), decide_eq_false hless, ← HQ.out]; rfl)
          have HIT : Hid (insT X L (j + 1) = insT X L j ++ [mx_ L j]) := Lib.hid (by unfold insT; rw [if_neg (by rw [← HQ2.out]; decide), if_neg (by rw [← HQ.out]; decide), take_mx (by rw [HL.out]; exact hjt)])
          clear hless
          go_wp2_with fail
          go_region_held3 (fun w' => w'.cell? ⟨mb, 2, none⟩ = some (.slice am k cm) ∧ w'.cell? ⟨b, o + j * 3 + 2, none⟩ = some (.slice aj k cj)) (first | exact ⟨z2, y2⟩ | exact ⟨z2A, y2A⟩ | exact ⟨z2B, y2B⟩ | exact ⟨z2C, y2C⟩)
            (first
              | (go_at_call 96; ((with_reducible refine (l03Flat_any am k cm X _ ?_ HXL.out ?_ ?_).mono ?_); (first | exact HXo.out.same9 | exact HXo.out.keep HBB.out (Nat.le_refl _)); omega; exact HO1.out; rintro e wA ⟨aA, cA, rfl, hoA, hbA⟩; have HAA : Hid (Below wo.heap.size wo wA) := Lib.hid (by first | exact ⟨hbA.os, hbA.tape, hbA.output, hbA.size, hbA.block⟩ | exact HBB.out.trans (hbA.mono HBB.out.size)); have HAR := Lib.hid hoA.rd; have HAB := Lib.hid hbA; have z2A := cell_below (p := ⟨mb, 2, none⟩) z2 HAA.out; have y2A := cell_below (p := ⟨b, o + j * 3 + 2, none⟩) y2 HAA.out; clear hoA hbA))
              | (go_at_call 96; ((with_reducible refine (l03Flat_any aj k cj (mx_ L j) _ ?_ HLJ.out ?_ ?_).mono ?_); (first | exact HJo.out.same9 | exact HJo.out.keep HAA.out (Nat.le_refl _)); omega; exact HO2.out; rintro e wB ⟨aB, cB, rfl, hoB, hbB⟩; have HBB : Hid (Below wo.heap.size wo wB) := Lib.hid (by first | exact ⟨hbB.os, hbB.tape, hbB.output, hbB.size, hbB.block⟩ | exact HAA.out.trans (hbB.mono HAA.out.size)); have HBR := Lib.hid hoB.rd; have HBL := Lib.hid hbB; have z2B := cell_below (p := ⟨mb, 2, none⟩) z2 HBB.out; have y2B := cell_below (p := ⟨b, o + j * 3 + 2, none⟩) y2 HBB.out; clear hoB hbB))
              | (go_at_call 95; ((with_reducible refine (l01Less_b aA aB (offs X k) (offs (mx_ L j) k) cA cB (flat X k) (flat (mx_ L j) k) _ ?_ ?_ (flat_len _ _) (flat_len _ _) ?_ ?_).mono ?_); (first | exact HAR.out | exact HAR.out.keep HBL.out (Nat.le_refl _)); (first | exact HBR.out | exact HBR.out.keep HAB.out (Nat.le_refl _)); exact HO1.out; exact HO2.out; rw [HLT.out]; rintro e wC ⟨rfl, hbC⟩; have HCC : Hid (Below wo.heap.size wo wC) := Lib.hid (by first | exact HBB.out.trans (hbC.mono HBB.out.size) | exact HAA.out.trans (hbC.mono HAA.out.size)); have z2C := cell_below (p := ⟨mb, 2, none⟩) z2 HCC.out; have y2C := cell_below (p := ⟨b, o + j * 3 + 2, none⟩) y2 HCC.out; clear hbC)))
          have HVC := Lib.hid (HV.out.keep HCC.out (Nat.le_refl _))
          have u0 := cell_below (p := ⟨b, o + j * 3, none⟩) X0.out HVC.out.below
          have u1 := cell_below (p := ⟨b, o + j * 3 + 1, none⟩) X1.out HVC.out.below
          clear z0 z1 z2 y0 y1 y2 lz
          have HVX1 := Lib.hid (HVC.out.keep ((Below.refl wC.heap.size wC).alloc (Nat.le_refl _) (.cells #[.int .i64 p, .int .i64 q0, .slice aj k cj] 26)) (Nat.le_refl _))
          have HSZ1 : Hid (W.heap.size ≤ (wC.alloc (.cells #[.int .i64 p, .int .i64 q0, .slice aj k cj] 26)).heap.size) := Lib.hid (Nat.le_trans HVC.out.below.size (by simp))
          have HCL1 := Lib.hid (lit3_cells wC 26 (.int .i64 p) (.int .i64 q0) (.slice aj k cj))
          go_wp2_with (at_builtin; refine wpList_pushK rfl (.tmp 33) (.tmp 38) 34 rfl W.heap.size 26 (.agg #[.int .i64 0, .int .i64 0, .slice none 0 0]) 3 40 Try.underlying34 Try.infoMt rfl (by decide) (by decide) [.int .i64 p, .int .i64 q0, .slice aj k cj] rfl (by intro u hu; simp at hu; rcases hu with rfl | rfl | rfl <;> rfl) _ _ _ _ rfl wC.heap.size rfl HCL1.out (by exact HVX1.out.own) (by omega) HSZ1.out ?_; rintro aw4 cw4 w4 r4 q4 g4; have HN := Lib.hid ((HVX1.out.push HRJ.out HLJ.out xk r4 g4).const); clear r4 q4 g4)
          go_wp2_with fail
          go_roundw
          case rel => exact ⟨j + 1, _, _, _, _, _, false, by omega, by go_num, rfl, rfl, rfl, HQ2, Lib.hid (by rw [HIT.out]; exact HN.out)⟩
          case measure => simp [intOf]; omega
      · --
        have HQ2 : Hid (true = hasL X (L.take (j + 1))) := Lib.hid (by rw [hasL_snoc (by rw [HL.out]; exact hjt), ← HQ.out]; rfl)
        have HIT : Hid (insT X L (j + 1) = insT X L j ++ [mx_ L j]) := Lib.hid (by unfold insT; rw [if_pos HQ2.out.symm, if_pos HQ.out.symm, take_mx (by rw [HL.out]; exact hjt), insM_snoc_t HQ.out.symm])
        rw [if_pos rfl] at hr
        subst hr

        have HVX1 := Lib.hid (HVD.out.keep ((Below.refl wo.drew.heap.size wo.drew).alloc (Nat.le_refl _) (.cells #[.int .i64 p, .int .i64 q0, .slice aj k cj] 26)) (Nat.le_refl _))
        have HSZ1 : Hid (W.heap.size ≤ (wo.drew.alloc (.cells #[.int .i64 p, .int .i64 q0, .slice aj k cj] 26)).heap.size) := Lib.hid (Nat.le_trans HVD.out.below.size (by simp))
        have HCL1 := Lib.hid (lit3_cells wo.drew 26 (.int .i64 p) (.int .i64 q0) (.slice aj k cj))

        go_wp2_with fail
        refine wp_region_held_drew (S := (fun w' => w'.cell? ⟨mb, 2, none⟩ = some (.slice am k cm))) (by kernel_rfl) ?_ (fun hHeld => ?_)
        · exact z2
        refine wpAnyH_take (i := 0) (v := ?_) rfl (by kernel_rfl) (by kernel_rfl) (by kernel_rfl) (fun _ _ _ h => h) (Or.inl ⟨by rfl, ?_⟩) (by assumption) ?_
        rotate_left
        · ((intro w hSw; (try dsimp only at hSw); go_simp) <;> (with_reducible rfl))
        try simp only [Act.put, List.setIfInBounds_toArray, List.set_cons_zero, List.set_cons_succ, List.getElem_toArray, List.getElem_cons_zero, List.getElem_cons_succ]
        refine wpAnyH_take (i := 1) (v := ?_) rfl (by kernel_rfl) (by kernel_rfl) (by kernel_rfl) (fun _ _ _ h => h) (Or.inl ⟨by rfl, ?_⟩) (by assumption) ?_
        rotate_left
        · ((intro w hSw; (try dsimp only at hSw); go_simp) <;> (with_reducible rfl))
        try simp only [Act.put, List.setIfInBounds_toArray, List.set_cons_zero, List.set_cons_succ, List.getElem_toArray, List.getElem_cons_zero, List.getElem_cons_succ]
        refine wpAnyH_take (i := 2) (v := ?_) rfl (by kernel_rfl) (by kernel_rfl) (by kernel_rfl) (fun _ _ _ h => h) (Or.inl ⟨by rfl, ?_⟩) (by assumption) ?_
        rotate_left
        · ((intro w hSw; (try dsimp only at hSw); go_simp) <;> (with_reducible rfl))
        try simp only [Act.put, List.setIfInBounds_toArray, List.set_cons_zero, List.set_cons_succ, List.getElem_toArray, List.getElem_cons_zero, List.getElem_cons_succ]
        refine wpAnyH_take (i := 3) rfl (by kernel_rfl) (by kernel_rfl) (by kernel_rfl) (fun _ _ _ h => h) (Or.inr ⟨by rfl, rfl⟩) (by assumption) ?_
        try simp only [Act.put, List.setIfInBounds_toArray, List.set_cons_zero, List.set_cons_succ, List.getElem_toArray, List.getElem_cons_zero, List.getElem_cons_succ]
        refine wpAnyH_take (i := 4) rfl (by kernel_rfl) (by kernel_rfl) (by kernel_rfl) (fun _ _ _ h => h) (Or.inr ⟨by rfl, rfl⟩) (by assumption) ?_
        try simp only [Act.put, List.setIfInBounds_toArray, List.set_cons_zero, List.set_cons_succ, List.getElem_toArray, List.getElem_cons_zero, List.getElem_cons_succ]
        refine wpAnyH_take (i := 5) rfl (by kernel_rfl) (by kernel_rfl) (by kernel_rfl) (fun _ _ _ h => h) (Or.inr ⟨by rfl, rfl⟩) (by assumption) ?_
        try simp only [Act.put, List.setIfInBounds_toArray, List.set_cons_zero, List.set_cons_succ, List.getElem_toArray, List.getElem_cons_zero, List.getElem_cons_succ]
        refine wpAnyH_take (i := 6) rfl (by kernel_rfl) (by kernel_rfl) (by kernel_rfl) (fun _ _ _ h => h) (Or.inr ⟨by rfl, rfl⟩) (by assumption) ?_
        try simp only [Act.put, List.setIfInBounds_toArray, List.set_cons_zero, List.set_cons_succ, List.getElem_toArray, List.getElem_cons_zero, List.getElem_cons_succ]
        refine wpAnyH_take (i := 7) rfl (by kernel_rfl) (by kernel_rfl) (by kernel_rfl) (fun _ _ _ h => h) (Or.inr ⟨by rfl, rfl⟩) (by assumption) ?_
        try simp only [Act.put, List.setIfInBounds_toArray, List.set_cons_zero, List.set_cons_succ, List.getElem_toArray, List.getElem_cons_zero, List.getElem_cons_succ]
        refine wpAnyH_take (i := 8) rfl (by kernel_rfl) (by kernel_rfl) (by kernel_rfl) (fun _ _ _ h => h) (Or.inr ⟨by rfl, rfl⟩) (by assumption) ?_
        try simp only [Act.put, List.setIfInBounds_toArray, List.set_cons_zero, List.set_cons_succ, List.getElem_toArray, List.getElem_cons_zero, List.getElem_cons_succ]
        refine wpAnyH_take (i := 9) rfl (by kernel_rfl) (by kernel_rfl) (by kernel_rfl) (fun _ _ _ h => h) (Or.inr ⟨by rfl, rfl⟩) (by assumption) ?_
        try simp only [Act.put, List.setIfInBounds_toArray, List.set_cons_zero, List.set_cons_succ, List.getElem_toArray, List.getElem_cons_zero, List.getElem_cons_succ]
        refine wpAnyH_take (i := 10) rfl (by kernel_rfl) (by kernel_rfl) (by kernel_rfl) (fun _ _ _ h => h) (Or.inr ⟨by rfl, rfl⟩) (by assumption) ?_
        try simp only [Act.put, List.setIfInBounds_toArray, List.set_cons_zero, List.set_cons_succ, List.getElem_toArray, List.getElem_cons_zero, List.getElem_cons_succ]
        refine wpAnyH_take (i := 11) rfl (by kernel_rfl) (by kernel_rfl) (by kernel_rfl) (fun _ _ _ h => h) (Or.inr ⟨by rfl, rfl⟩) (by assumption) ?_
        try simp only [Act.put, List.setIfInBounds_toArray, List.set_cons_zero, List.set_cons_succ, List.getElem_toArray, List.getElem_cons_zero, List.getElem_cons_succ]
        refine wpAnyH_take (i := 12) rfl (by kernel_rfl) (by kernel_rfl) (by kernel_rfl) (fun _ _ _ h => h) (Or.inr ⟨by rfl, rfl⟩) (by assumption) ?_
        try simp only [Act.put, List.setIfInBounds_toArray, List.set_cons_zero, List.set_cons_succ, List.getElem_toArray, List.getElem_cons_zero, List.getElem_cons_succ]
        refine wpAnyH_take (i := 13) (v := ?_) rfl (by kernel_rfl) (by kernel_rfl) (by kernel_rfl) (fun _ _ _ h => h) (Or.inl ⟨by rfl, ?_⟩) (by assumption) ?_
        rotate_left
        · ((intro w hSw; (try dsimp only at hSw); go_simp) <;> (with_reducible rfl))
        try simp only [Act.put, List.setIfInBounds_toArray, List.set_cons_zero, List.set_cons_succ, List.getElem_toArray, List.getElem_cons_zero, List.getElem_cons_succ]
        refine wpAnyH_done (by kernel_rfl) ?_ _

        try simp only [World.drew_heap]
        go_wp2_with (at_builtin; refine wpList_pushK rfl (.tmp 33) (.tmp 38) 34 rfl W.heap.size 26 (.agg #[.int .i64 0, .int .i64 0, .slice none 0 0]) 3 40 Try.underlying34 Try.infoMt rfl (by decide) (by decide) [.int .i64 p, .int .i64 q0, .slice aj k cj] rfl (by intro u hu; simp at hu; rcases hu with rfl | rfl | rfl <;> rfl) _ _ _ _ rfl wo.drew.heap.size rfl HCL1.out (by exact HVX1.out.own) (by omega) HSZ1.out ?_; rintro aw4 cw4 w4 r4 q4 g4; have HN := Lib.hid ((HVX1.out.push HRJ.out HLJ.out xk r4 g4).const); clear r4 q4 g4)
        go_wp2_with fail
        go_roundw
        case rel => exact ⟨j + 1, _, _, _, _, _, true, by omega, by go_num, rfl, rfl, rfl, HQ2, Lib.hid (by rw [HIT.out]; exact HN.out)⟩
        case measure => simp [intOf]; omega
    · --
      obtain rfl : j = n := by omega
      have J1 : ¬ (j : Int) < (j : Int) := by omega
      have hall : L.take j = L := List.take_of_length_le (by rw [HL.out]; omega)
      cases q
      · rw [if_neg (by decide)] at hr
        replace hr := hr.symm
        subst hr
        have HIT : Hid (insM X L = insT X L j ++ [X]) := Lib.hid (by unfold insT; have := HQ.out; rw [hall] at this ⊢; rw [if_neg (by rw [← this]; decide), insM_f this.symm])
        have v0 := (HBX.out.keep HV.out.below).cell 0
        have v1 := (HBX.out.keep HV.out.below).cell 1
        have v2 := (HBX.out.keep HV.out.below).cell 2
        have lv := (HBX.out.keep HV.out.below).lt
        simp at v0 v1 v2
        have HVX1 := Lib.hid (HV.out.keep ((Below.refl wo.heap.size wo).alloc (Nat.le_refl _) (.cells #[.int .i64 p, .int .i64 q0, .slice am k cm] 26)) (Nat.le_refl _))
        have HSZ1 : Hid (W.heap.size ≤ (wo.alloc (.cells #[.int .i64 p, .int .i64 q0, .slice am k cm] 26)).heap.size) := Lib.hid (Nat.le_trans HV.out.below.size (by simp))
        have HCL1 := Lib.hid (lit3_cells wo 26 (.int .i64 p) (.int .i64 q0) (.slice am k cm))
        go_wp2_with (at_builtin; refine wpList_pushK rfl (.tmp 42) (.tmp 44) 34 rfl W.heap.size 26 (.agg #[.int .i64 0, .int .i64 0, .slice none 0 0]) 3 40 Try.underlying34 Try.infoMt rfl (by decide) (by decide) [.int .i64 p, .int .i64 q0, .slice am k cm] rfl (by intro u hu; simp at hu; rcases hu with rfl | rfl | rfl <;> rfl) _ _ _ _ rfl wo.heap.size rfl HCL1.out (by exact HVX1.out.own) (by omega) HSZ1.out ?_; rintro aw4 cw4 w4 r4 q4 g4; have HN := Lib.hid ((HVX1.out.push HXR.out HXL.out hk r4 g4).const); clear r4 q4 g4)
        go_wp2_with fail
        go_ret
        exact ⟨_, ⟨_, rfl⟩, by rw [HIT.out]; exact HN.out.rd, HBW.out.trans (HN.out.below.mono HBW.out.size)⟩
      · rw [if_pos rfl] at hr
        subst hr
        have HIT : Hid (insM X L = insT X L j) := Lib.hid (by unfold insT; have := HQ.out; rw [hall] at this ⊢; rw [if_pos this.symm])
        go_wp2_with fail
        go_ret
        exact ⟨_, ⟨_, rfl⟩, by rw [HIT.out]; exact HV.out.rd, HBW.out.trans (HV.out.below.mono HBW.out.size)⟩
end Go.Proofs.Ytpkdgemnddcefaa
