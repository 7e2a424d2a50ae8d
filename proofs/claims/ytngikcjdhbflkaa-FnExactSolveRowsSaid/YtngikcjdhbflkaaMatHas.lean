/- Whether a subspace has a vector: the program and the reference. -/
import Derived.Test.YtngikcjdhbflkaaMatSub
import Derived.Test.YtngikcjdhbflkaaMatSubS
import Derived.Test.YtngikcjdhbflkaaRem
import Derived.Test.YtngikcjdhbflkaaZero
import Derived.Test.YtngikcjdhbflkaaClrU
import Derived.Test.YtngikcjdhbflkaaClrU
set_option linter.unusedVariables false
set_option linter.unusedSimpArgs false
namespace Go.Proofs.Ytngikcjdhbflkaa
open Go.RowKit

theorem subB_yes {xss : List (List Int)} {p q : Int} (h : subB xss p q = true) : isMx xss p q = true ∧ IsRref p q.toNat xss xss := by
  unfold subB at h
  rw [Bool.and_eq_true] at h
  exact ⟨h.1, by simpa using h.2⟩
theorem vecB_ok {p q : Int} {xs : List Int} (h : vecB p q xs = true) : Vec p q xs := by unfold vecB at h; simpa using h
theorem Clr.congr {p : Int} {n k : Nat} {R : List (List Int)} {piv piv' : Nat → Nat} {v u : List Int} (h : Clr p n R piv v u k) (e : ∀ i, i < k → piv i = piv' i) : Clr p n R piv' v u k :=
  ⟨h.len, h.rng, fun i hi => by rw [← e i hi]; exact h.zero i hi, h.sp⟩
theorem Rref.uniqClr {p : Int} {n : Nat} {R : List (List Int)} {piv piv' : Nat → Nat} {v u u' : List Int} (hR : Rref p n R piv) (hp : 2 ≤ p) (hR' : Rref p n R piv') (h' : Clr p n R piv' v u' R.length) (h : Clr p n R piv v u R.length) : u' = u :=
  Clr.unique hR hp (h'.congr fun i hi => (hR'.isLead hi).unique (hR.isLead hi)) h
theorem ret_bi {k : IntKind} {a b : Int} {s t : Bool} (h : s = t) (h2 : a = b) : Ending.returned (.tuple #[.bool s, .int k a]) = .returned (.tuple #[.bool t, .int k b]) := by rw [h, h2]
def HasV (xss : List (List Int)) (p q : Int) (v : List Int) : Prop := subB xss p q = true ∧ vecB p q v = true ∧ ∃ piv u, Rref p q.toNat xss piv ∧ Clr p q.toNat xss piv v u xss.length ∧ AllZ u
noncomputable def hasVB (xss : List (List Int)) (p q : Int) (v : List Int) : Bool := @decide (HasV xss p q v) (Classical.propDecidable _)
noncomputable def hasVC (xss : List (List Int)) (p q : Int) (v : List Int) : Int := if subB xss p q = true ∧ vecB p q v = true then 0 else 1
theorem hasV_no {xss : List (List Int)} {p q : Int} {v : List Int} (h : ¬ (subB xss p q = true ∧ vecB p q v = true)) : hasVB xss p q v = false ∧ hasVC xss p q v = 1 := by
  refine ⟨?_, if_neg h⟩
  unfold hasVB
  simp only [decide_eq_false_iff_not]
  exact fun hh => h ⟨hh.1, hh.2.1⟩
theorem hasV_is {xss : List (List Int)} {p q : Int} {v u : List Int} {piv : Nat → Nat} (h : subB xss p q = true) (hv : vecB p q v = true) (hp : 2 ≤ p) (hR : Rref p q.toNat xss piv) (hc : Clr p q.toNat xss piv v u xss.length) : hasVB xss p q v = zeroB u ∧ hasVC xss p q v = 0 := by
  refine ⟨?_, if_pos ⟨h, hv⟩⟩
  by_cases hz : AllZ u
  · rw [zeroB_t hz]
    unfold hasVB
    simp only [decide_eq_true_eq]
    exact ⟨h, hv, piv, u, hR, hc, hz⟩
  · rw [zeroB_f hz]
    unfold hasVB
    simp only [decide_eq_false_iff_not]
    rintro ⟨_, _, piv', u', hR', hc', hz'⟩
    have e : u' = u := hR.uniqClr hp hR' hc' hc
    exact hz (e ▸ hz')

set_option maxRecDepth 20000 in
set_option maxHeartbeats 4000000 in
theorem impl_HasVector_any (p q : Int) (a : Option Addr) (n c : Nat) (xss : List (List Int)) (b : Option Addr) (m cb : Nat) (v : List Int) (w : World) (hp : I64 p) (hq : I64 q) (ha : RdR w a xss) (hl : xss.length = n) (hx : ∀ i, i < n → (rw_ xss i).length ≤ 1048576) (hn : n ≤ 1048576) (hcp : n ≤ c) (hb : RdI w b v) (hl2 : v.length = m) (hm : m ≤ 1048576) :
    Calls Try.prog 34 #[.agg #[.int .i64 p, .int .i64 q, .slice a n c], .slice b m cb] w fun e w' => e = .returned (.tuple #[.bool (hasVB xss p q v), .int .i64 (hasVC xss p q v)]) ∧ Below w.heap.size w w' := by
  have HP := Lib.hid hp
  have HQ := Lib.hid hq
  have HA := Lib.hid ha
  have HL := Lib.hid hl
  have HX := Lib.hid hx
  have HB := Lib.hid hb
  have HL2 := Lib.hid hl2
  clear hp hq ha hl hx hb hl2
  by_cases hs : subB xss p q = true
  rotate_left
  · have hsf : subB xss p q = false := by simpa using hs
    have HR := Lib.hid (hasV_no (v := v) (fun h => hs h.1))
    have HS := Lib.hid hsf
    clear hs hsf
    go_enter Try.func34, Try.ntmps34
    go_wp2_with fail
    obtain ⟨W, hW⟩ : ∃ W, W = w.alloc (.cells #[.int .i64 p, .int .i64 q, .slice a n c] 24) := ⟨_, rfl⟩
    rw [← hW]
    have p0 : W.cell? ⟨w.heap.size, 0, none⟩ = some (.int .i64 p) := by rw [hW]; simp
    have p1 : W.cell? ⟨w.heap.size, 1, none⟩ = some (.int .i64 q) := by rw [hW]; simp
    have p2 : W.cell? ⟨w.heap.size, 2, none⟩ = some (.slice a n c) := by rw [hW]; simp
    have HBW : Hid (Below w.heap.size w W) := Lib.hid (by rw [hW]; exact (Below.refl _ _).alloc (Nat.le_refl _) _)
    have HAW : Hid (RdR W a xss) := Lib.hid (HA.out.keep HBW.out (Nat.le_refl _))
    have HVW : Hid (RdI W b v) := Lib.hid (HB.out.keep HBW.out (Nat.le_refl _))
    have sW : W.heap.size = w.heap.size + 1 := by rw [hW]; simp
    clear hW
    (with_reducible refine (impl_IsSubspace_any _ _ _ _ _ xss _ HP.out HQ.out ?_ HL.out HX.out hn hcp).mono ?_)
    exact (show RdR W a xss from HAW.out)
    rintro e w1 ⟨he, hb0⟩
    rw [HS.out] at he
    obtain rfl := he
    have hb : Below W.heap.size W w1 := ⟨hb0.os, hb0.tape, hb0.output, hb0.size, hb0.block⟩
    have p0' := cell_below (p := ⟨w.heap.size, 0, none⟩) (v := .int .i64 p) p0 hb
    have p1' := cell_below (p := ⟨w.heap.size, 1, none⟩) (v := .int .i64 q) p1 hb
    have p2' := cell_below (p := ⟨w.heap.size, 2, none⟩) (v := .slice a n c) p2 hb
    have HB1 : Hid (Below w.heap.size w w1) := Lib.hid (HBW.out.trans (hb.mono HBW.out.size))
    have HV1 : Hid (RdI w1 b v) := Lib.hid (HVW.out.keep hb (Nat.le_refl _))
    have s1 : W.heap.size ≤ w1.heap.size := hb.size
    clear hb hb0
    go_wp2_with fail
    go_ret2
    exact ⟨ret_bi (by rw [HR.out.1]) (by rw [HR.out.2]), HB1.out⟩
  · have hy := subB_yes hs
    have hm0 := isMx_ok hy.1
    have q0 := hm0.q0
    have q8 := hm0.q8
    have hl8 := hm0.len
    rw [HL.out] at hl8
    have hgp : 2 ≤ p ∧ p ≤ 7 := by have := hm0.gp; unfold GP at this; omega
    obtain ⟨hp2, hp7⟩ := hgp
    obtain ⟨d, rfl⟩ : ∃ d : Nat, q = d := ⟨q.toNat, by omega⟩
    have HS := Lib.hid hs
    have HY : Hid (IsRref p d xss xss) := Lib.hid (by simpa using hy.2)
    clear hs hy hm0
    by_cases hv : vecB p d v = true
    rotate_left
    · have hvf : vecB p d v = false := by simpa using hv
      have HR := Lib.hid (hasV_no (xss := xss) (fun h => hv h.2))
      have HV := Lib.hid hvf
      clear hv hvf
      go_enter Try.func34, Try.ntmps34
      go_wp2_with fail
      obtain ⟨W, hW⟩ : ∃ W, W = w.alloc (.cells #[.int .i64 p, .int .i64 d, .slice a n c] 24) := ⟨_, rfl⟩
      rw [← hW]
      have p0 : W.cell? ⟨w.heap.size, 0, none⟩ = some (.int .i64 p) := by rw [hW]; simp
      have p1 : W.cell? ⟨w.heap.size, 1, none⟩ = some (.int .i64 d) := by rw [hW]; simp
      have p2 : W.cell? ⟨w.heap.size, 2, none⟩ = some (.slice a n c) := by rw [hW]; simp
      have HBW : Hid (Below w.heap.size w W) := Lib.hid (by rw [hW]; exact (Below.refl _ _).alloc (Nat.le_refl _) _)
      have HAW : Hid (RdR W a xss) := Lib.hid (HA.out.keep HBW.out (Nat.le_refl _))
      have HVW : Hid (RdI W b v) := Lib.hid (HB.out.keep HBW.out (Nat.le_refl _))
      have sW : W.heap.size = w.heap.size + 1 := by rw [hW]; simp
      clear hW
      (with_reducible refine (impl_IsSubspace_any _ _ _ _ _ xss _ HP.out HQ.out ?_ HL.out HX.out hn hcp).mono ?_)
      exact (show RdR W a xss from HAW.out)
      rintro e w1 ⟨he, hb0⟩
      rw [HS.out] at he
      obtain rfl := he
      have hb : Below W.heap.size W w1 := ⟨hb0.os, hb0.tape, hb0.output, hb0.size, hb0.block⟩
      have p0' := cell_below (p := ⟨w.heap.size, 0, none⟩) (v := .int .i64 p) p0 hb
      have p1' := cell_below (p := ⟨w.heap.size, 1, none⟩) (v := .int .i64 d) p1 hb
      have p2' := cell_below (p := ⟨w.heap.size, 2, none⟩) (v := .slice a n c) p2 hb
      have HB1 : Hid (Below w.heap.size w w1) := Lib.hid (HBW.out.trans (hb.mono HBW.out.size))
      have HV1 : Hid (RdI w1 b v) := Lib.hid (HVW.out.keep hb (Nat.le_refl _))
      have s1 : W.heap.size ≤ w1.heap.size := hb.size
      clear hb hb0
      go_wp2_with fail
      refine (isVector_any _ _ _ v _ _ _ (by exact HV1.out) HL2.out hm hp2 hp7 HQ.out).mono ?_
      rintro e w' ⟨rfl, rfl⟩
      rw [HV.out]
      go_wp2_with fail
      go_ret2
      exact ⟨ret_bi (by rw [HR.out.1]) (by rw [HR.out.2]), HB1.out⟩
    · have hok := vecB_ok hv
      have hmd : m = d := by have := hok.1; have := HL2.out; omega
      subst hmd
      have HV := Lib.hid hv
      have HVR : Hid (∀ j, j < m → 0 ≤ el v j ∧ el v j < p) := Lib.hid fun j hj => by have := hok.2 j (by rw [HL2.out]; exact hj); omega
      obtain ⟨piv, hR, _⟩ := HY.out
      have HRR := Lib.hid hR
      clear hv hok hR
      go_enter Try.func34, Try.ntmps34
      go_wp2_with fail
      obtain ⟨W, hW⟩ : ∃ W, W = w.alloc (.cells #[.int .i64 p, .int .i64 m, .slice a n c] 24) := ⟨_, rfl⟩
      rw [← hW]
      have p0 : W.cell? ⟨w.heap.size, 0, none⟩ = some (.int .i64 p) := by rw [hW]; simp
      have p1 : W.cell? ⟨w.heap.size, 1, none⟩ = some (.int .i64 m) := by rw [hW]; simp
      have p2 : W.cell? ⟨w.heap.size, 2, none⟩ = some (.slice a n c) := by rw [hW]; simp
      have HBW : Hid (Below w.heap.size w W) := Lib.hid (by rw [hW]; exact (Below.refl _ _).alloc (Nat.le_refl _) _)
      have HAW : Hid (RdR W a xss) := Lib.hid (HA.out.keep HBW.out (Nat.le_refl _))
      have HVW : Hid (RdI W b v) := Lib.hid (HB.out.keep HBW.out (Nat.le_refl _))
      have sW : W.heap.size = w.heap.size + 1 := by rw [hW]; simp
      clear hW
      (with_reducible refine (impl_IsSubspace_any _ _ _ _ _ xss _ HP.out HQ.out ?_ HL.out HX.out hn hcp).mono ?_)
      exact (show RdR W a xss from HAW.out)
      rintro e w1 ⟨he, hb0⟩
      rw [HS.out] at he
      obtain rfl := he
      have hb : Below W.heap.size W w1 := ⟨hb0.os, hb0.tape, hb0.output, hb0.size, hb0.block⟩
      have p0' := cell_below (p := ⟨w.heap.size, 0, none⟩) (v := .int .i64 p) p0 hb
      have p1' := cell_below (p := ⟨w.heap.size, 1, none⟩) (v := .int .i64 m) p1 hb
      have p2' := cell_below (p := ⟨w.heap.size, 2, none⟩) (v := .slice a n c) p2 hb
      have HB1 : Hid (Below w.heap.size w w1) := Lib.hid (HBW.out.trans (hb.mono HBW.out.size))
      have HV1 : Hid (RdI w1 b v) := Lib.hid (HVW.out.keep hb (Nat.le_refl _))
      have s1 : W.heap.size ≤ w1.heap.size := hb.size
      clear hb hb0
      go_wp2_with fail
      refine (isVector_any _ _ _ v _ _ _ (by exact HV1.out) HL2.out hm hp2 hp7 HQ.out).mono ?_
      rintro e w' ⟨rfl, rfl⟩
      rw [HV.out]
      go_wp2_with fail
      refine (remainderMod_any p hp2 hp7 _ _ _ n m _ _ xss piv v _ (by exact HA.out.keep HB1.out (Nat.le_refl _)) HL.out HRR.out (by exact HB.out.keep HB1.out (Nat.le_refl _)) HL2.out (by omega) (by omega) HVR.out).mono ?_
      rintro e w3 ⟨u, a3, c3, rfl, hclr, ho, hb⟩
      have HR := Lib.hid (hasV_is HS.out HV.out hp2 (by simpa using HRR.out) (by rw [HL.out]; simpa using hclr))
      have HO := Lib.hid ho
      have HLU : Hid (u.length = m) := Lib.hid hclr.len
      have HB3 : Hid (Below w.heap.size w w3) := Lib.hid (HB1.out.trans (hb.mono HB1.out.size))
      clear hclr ho hb
      go_wp2_with fail
      refine (isZero_any _ _ _ u _ (by exact HO.out.rd) HLU.out (by omega)).mono ?_
      rintro e w' ⟨rfl, rfl⟩
      go_wp2_with fail
      go_ret2
      exact ⟨ret_bi (by rw [HR.out.1]) (by rw [HR.out.2]), HB3.out⟩
set_option maxRecDepth 20000 in
set_option maxHeartbeats 4000000 in
theorem spec_HasVector_any (p q : Int) (a : Option Addr) (n c : Nat) (xss : List (List Int)) (b : Option Addr) (m cb : Nat) (v : List Int) (w : World) (hp : I64 p) (hq : I64 q) (ha : RdR w a xss) (hl : xss.length = n) (hx : ∀ i, i < n → (rw_ xss i).length ≤ 1048576) (hn : n ≤ 1048576) (hcp : n ≤ c) (hb : RdI w b v) (hl2 : v.length = m) (hm : m ≤ 1048576) :
    Calls Try.prog 32 #[.agg #[.int .i64 p, .int .i64 q, .slice a n c], .slice b m cb] w fun e w' => e = .returned (.tuple #[.bool (hasVB xss p q v), .int .i64 (hasVC xss p q v)]) ∧ Below w.heap.size w w' := by
  have HP := Lib.hid hp
  have HQ := Lib.hid hq
  have HA := Lib.hid ha
  have HL := Lib.hid hl
  have HX := Lib.hid hx
  have HB := Lib.hid hb
  have HL2 := Lib.hid hl2
  clear hp hq ha hl hx hb hl2
  by_cases hs : subB xss p q = true
  rotate_left
  · have hsf : subB xss p q = false := by simpa using hs
    have HR := Lib.hid (hasV_no (v := v) (fun h => hs h.1))
    have HS := Lib.hid hsf
    clear hs hsf
    go_enter Try.func32, Try.ntmps32
    go_wp2_with fail
    obtain ⟨W, hW⟩ : ∃ W, W = w.alloc (.cells #[.int .i64 p, .int .i64 q, .slice a n c] 24) := ⟨_, rfl⟩
    rw [← hW]
    have p0 : W.cell? ⟨w.heap.size, 0, none⟩ = some (.int .i64 p) := by rw [hW]; simp
    have p1 : W.cell? ⟨w.heap.size, 1, none⟩ = some (.int .i64 q) := by rw [hW]; simp
    have p2 : W.cell? ⟨w.heap.size, 2, none⟩ = some (.slice a n c) := by rw [hW]; simp
    have HBW : Hid (Below w.heap.size w W) := Lib.hid (by rw [hW]; exact (Below.refl _ _).alloc (Nat.le_refl _) _)
    have HAW : Hid (RdR W a xss) := Lib.hid (HA.out.keep HBW.out (Nat.le_refl _))
    have HVW : Hid (RdI W b v) := Lib.hid (HB.out.keep HBW.out (Nat.le_refl _))
    have sW : W.heap.size = w.heap.size + 1 := by rw [hW]; simp
    clear hW
    (with_reducible refine (spec_IsSubspace_any _ _ _ _ _ xss _ HP.out HQ.out ?_ HL.out HX.out hn hcp).mono ?_)
    exact (show RdR W a xss from HAW.out)
    rintro e w1 ⟨he, hb0⟩
    rw [HS.out] at he
    obtain rfl := he
    have hb : Below W.heap.size W w1 := ⟨hb0.os, hb0.tape, hb0.output, hb0.size, hb0.block⟩
    have p0' := cell_below (p := ⟨w.heap.size, 0, none⟩) (v := .int .i64 p) p0 hb
    have p1' := cell_below (p := ⟨w.heap.size, 1, none⟩) (v := .int .i64 q) p1 hb
    have p2' := cell_below (p := ⟨w.heap.size, 2, none⟩) (v := .slice a n c) p2 hb
    have HB1 : Hid (Below w.heap.size w w1) := Lib.hid (HBW.out.trans (hb.mono HBW.out.size))
    have HV1 : Hid (RdI w1 b v) := Lib.hid (HVW.out.keep hb (Nat.le_refl _))
    have s1 : W.heap.size ≤ w1.heap.size := hb.size
    clear hb hb0
    go_wp2_with fail
    go_ret2
    exact ⟨ret_bi (by rw [HR.out.1]) (by rw [HR.out.2]), HB1.out⟩
  · have hy := subB_yes hs
    have hm0 := isMx_ok hy.1
    have q0 := hm0.q0
    have q8 := hm0.q8
    have hl8 := hm0.len
    rw [HL.out] at hl8
    have hgp : 2 ≤ p ∧ p ≤ 7 := by have := hm0.gp; unfold GP at this; omega
    obtain ⟨hp2, hp7⟩ := hgp
    obtain ⟨d, rfl⟩ : ∃ d : Nat, q = d := ⟨q.toNat, by omega⟩
    have HS := Lib.hid hs
    have HY : Hid (IsRref p d xss xss) := Lib.hid (by simpa using hy.2)
    clear hs hy hm0
    by_cases hv : vecB p d v = true
    rotate_left
    · have hvf : vecB p d v = false := by simpa using hv
      have HR := Lib.hid (hasV_no (xss := xss) (fun h => hv h.2))
      have HV := Lib.hid hvf
      clear hv hvf
      go_enter Try.func32, Try.ntmps32
      go_wp2_with fail
      obtain ⟨W, hW⟩ : ∃ W, W = w.alloc (.cells #[.int .i64 p, .int .i64 d, .slice a n c] 24) := ⟨_, rfl⟩
      rw [← hW]
      have p0 : W.cell? ⟨w.heap.size, 0, none⟩ = some (.int .i64 p) := by rw [hW]; simp
      have p1 : W.cell? ⟨w.heap.size, 1, none⟩ = some (.int .i64 d) := by rw [hW]; simp
      have p2 : W.cell? ⟨w.heap.size, 2, none⟩ = some (.slice a n c) := by rw [hW]; simp
      have HBW : Hid (Below w.heap.size w W) := Lib.hid (by rw [hW]; exact (Below.refl _ _).alloc (Nat.le_refl _) _)
      have HAW : Hid (RdR W a xss) := Lib.hid (HA.out.keep HBW.out (Nat.le_refl _))
      have HVW : Hid (RdI W b v) := Lib.hid (HB.out.keep HBW.out (Nat.le_refl _))
      have sW : W.heap.size = w.heap.size + 1 := by rw [hW]; simp
      clear hW
      (with_reducible refine (spec_IsSubspace_any _ _ _ _ _ xss _ HP.out HQ.out ?_ HL.out HX.out hn hcp).mono ?_)
      exact (show RdR W a xss from HAW.out)
      rintro e w1 ⟨he, hb0⟩
      rw [HS.out] at he
      obtain rfl := he
      have hb : Below W.heap.size W w1 := ⟨hb0.os, hb0.tape, hb0.output, hb0.size, hb0.block⟩
      have p0' := cell_below (p := ⟨w.heap.size, 0, none⟩) (v := .int .i64 p) p0 hb
      have p1' := cell_below (p := ⟨w.heap.size, 1, none⟩) (v := .int .i64 d) p1 hb
      have p2' := cell_below (p := ⟨w.heap.size, 2, none⟩) (v := .slice a n c) p2 hb
      have HB1 : Hid (Below w.heap.size w w1) := Lib.hid (HBW.out.trans (hb.mono HBW.out.size))
      have HV1 : Hid (RdI w1 b v) := Lib.hid (HVW.out.keep hb (Nat.le_refl _))
      have s1 : W.heap.size ≤ w1.heap.size := hb.size
      clear hb hb0
      go_wp2_with fail
      refine (l02Vector_any _ _ _ v _ _ _ (by exact HV1.out) HL2.out hm hp2 hp7 HQ.out).mono ?_
      rintro e w' ⟨rfl, rfl⟩
      rw [HV.out]
      go_wp2_with fail
      go_ret2
      exact ⟨ret_bi (by rw [HR.out.1]) (by rw [HR.out.2]), HB1.out⟩
    · have hok := vecB_ok hv
      have hmd : m = d := by have := hok.1; have := HL2.out; omega
      subst hmd
      have HV := Lib.hid hv
      have HVR : Hid (∀ j, j < m → 0 ≤ el v j ∧ el v j < p) := Lib.hid fun j hj => by have := hok.2 j (by rw [HL2.out]; exact hj); omega
      obtain ⟨piv, hR, _⟩ := HY.out
      have HRR := Lib.hid hR
      clear hv hok hR
      go_enter Try.func32, Try.ntmps32
      go_wp2_with fail
      obtain ⟨W, hW⟩ : ∃ W, W = w.alloc (.cells #[.int .i64 p, .int .i64 m, .slice a n c] 24) := ⟨_, rfl⟩
      rw [← hW]
      have p0 : W.cell? ⟨w.heap.size, 0, none⟩ = some (.int .i64 p) := by rw [hW]; simp
      have p1 : W.cell? ⟨w.heap.size, 1, none⟩ = some (.int .i64 m) := by rw [hW]; simp
      have p2 : W.cell? ⟨w.heap.size, 2, none⟩ = some (.slice a n c) := by rw [hW]; simp
      have HBW : Hid (Below w.heap.size w W) := Lib.hid (by rw [hW]; exact (Below.refl _ _).alloc (Nat.le_refl _) _)
      have HAW : Hid (RdR W a xss) := Lib.hid (HA.out.keep HBW.out (Nat.le_refl _))
      have HVW : Hid (RdI W b v) := Lib.hid (HB.out.keep HBW.out (Nat.le_refl _))
      have sW : W.heap.size = w.heap.size + 1 := by rw [hW]; simp
      clear hW
      (with_reducible refine (spec_IsSubspace_any _ _ _ _ _ xss _ HP.out HQ.out ?_ HL.out HX.out hn hcp).mono ?_)
      exact (show RdR W a xss from HAW.out)
      rintro e w1 ⟨he, hb0⟩
      rw [HS.out] at he
      obtain rfl := he
      have hb : Below W.heap.size W w1 := ⟨hb0.os, hb0.tape, hb0.output, hb0.size, hb0.block⟩
      have p0' := cell_below (p := ⟨w.heap.size, 0, none⟩) (v := .int .i64 p) p0 hb
      have p1' := cell_below (p := ⟨w.heap.size, 1, none⟩) (v := .int .i64 m) p1 hb
      have p2' := cell_below (p := ⟨w.heap.size, 2, none⟩) (v := .slice a n c) p2 hb
      have HB1 : Hid (Below w.heap.size w w1) := Lib.hid (HBW.out.trans (hb.mono HBW.out.size))
      have HV1 : Hid (RdI w1 b v) := Lib.hid (HVW.out.keep hb (Nat.le_refl _))
      have s1 : W.heap.size ≤ w1.heap.size := hb.size
      clear hb hb0
      go_wp2_with fail
      refine (l02Vector_any _ _ _ v _ _ _ (by exact HV1.out) HL2.out hm hp2 hp7 HQ.out).mono ?_
      rintro e w' ⟨rfl, rfl⟩
      rw [HV.out]
      go_wp2_with fail
      refine (l02Clear_any p hp2 hp7 _ _ n m _ _ xss piv v _ (by exact HA.out.keep HB1.out (Nat.le_refl _)) HL.out HRR.out (by exact HB.out.keep HB1.out (Nat.le_refl _)) HL2.out (by omega) (by omega) HVR.out).mono ?_
      rintro e w3 ⟨u, a3, c3, rfl, hclr, ho, hb⟩
      have HR := Lib.hid (hasV_is HS.out HV.out hp2 (by simpa using HRR.out) (by rw [HL.out]; simpa using hclr))
      have HO := Lib.hid ho
      have HLU : Hid (u.length = m) := Lib.hid hclr.len
      have HB3 : Hid (Below w.heap.size w w3) := Lib.hid (HB1.out.trans (hb.mono HB1.out.size))
      clear hclr ho hb
      go_wp2_with fail
      refine (l01Zero_any _ _ _ u _ (by exact HO.out.rd) HLU.out (by omega)).mono ?_
      rintro e w' ⟨rfl, rfl⟩
      go_wp2_with fail
      go_ret2
      exact ⟨ret_bi (by rw [HR.out.1]) (by rw [HR.out.2]), HB3.out⟩
end Go.Proofs.Ytngikcjdhbflkaa
