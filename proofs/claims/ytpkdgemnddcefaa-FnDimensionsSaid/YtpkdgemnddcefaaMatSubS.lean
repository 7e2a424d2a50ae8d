/- Whether a matrix is a subspace: the program and the reference. -/
import Derived.Test.YtpkdgemnddcefaaSame
import Derived.Deep.RegionHeld3
set_option linter.unusedVariables false
set_option linter.unusedSimpArgs false
namespace Go.Proofs.Ytpkdgemnddcefaa
open Go.RowKit

set_option maxRecDepth 20000 in
set_option maxHeartbeats 4000000 in
theorem spec_IsSubspace_any (p q : Int) (a : Option Addr) (n c : Nat) (xss : List (List Int)) (w : World) (hp : I64 p) (hq : I64 q) (ha : RdR w a xss) (hl : xss.length = n) (hx : ∀ i, i < n → (rw_ xss i).length ≤ 1048576) (hn : n ≤ 1048576) (hcp : n ≤ c) :
    Calls Try.prog 24 #[.agg #[.int .i64 p, .int .i64 q, .slice a n c]] w fun e w' => e = .returned (.bool (subB xss p q)) ∧ Below w.heap.size w w' := by
  have HP := Lib.hid hp
  have HQ := Lib.hid hq
  have HA := Lib.hid ha
  have HL := Lib.hid hl
  have HX := Lib.hid hx
  clear hp hq ha hl hx
  cases hv : isMx xss p q
  · have HR : Hid (subB xss p q = false) := Lib.hid (subB_no hv)
    have HV := Lib.hid hv
    clear hv
    go_enter Try.func24, Try.ntmps24
    go_wp2_with fail
    have hfd : ∀ (v0 v1 v2 : Value) (w : World), Sem.run Try.prog (Instr.field 26 (Value.agg #[v0, v1, v2]) 2) w = .ok v2 w := fun _ _ _ _ => by first | rfl | kernel_rfl
    obtain ⟨W, hW⟩ : ∃ W, W = w.alloc (.cells #[.int .i64 p, .int .i64 q, .slice a n c] 26) := ⟨_, rfl⟩
    rw [← hW]
    have p0 : W.cell? ⟨w.heap.size, 0, none⟩ = some (.int .i64 p) := by rw [hW]; simp
    have p1 : W.cell? ⟨w.heap.size, 1, none⟩ = some (.int .i64 q) := by rw [hW]; simp
    have p2 : W.cell? ⟨w.heap.size, 2, none⟩ = some (.slice a n c) := by rw [hW]; simp
    have HBW : Hid (Below w.heap.size w W) := Lib.hid (by rw [hW]; exact (Below.refl _ _).alloc (Nat.le_refl _) _)
    have HAW : Hid (RdR W a xss) := Lib.hid (HA.out.keep HBW.out (Nat.le_refl _))
    have sW : W.heap.size = w.heap.size + 1 := by rw [hW]; simp
    clear hW
    first
      | go_region_law (first
          | (go_simp; go_at_call 52; (with_reducible refine (spec_IsMatrix_any _ _ _ _ _ xss _ HP.out HQ.out ?_ HL.out HX.out hn hcp).mono ?_); exact (show RdR W a xss from HAW.out); rintro e w1 ⟨he, hb0⟩; rw [HV.out] at he; obtain rfl := he; have hb : Below W.heap.size W w1 := ⟨hb0.os, hb0.tape, hb0.output, hb0.size, hb0.block⟩; have p0' := cell_below (p := ⟨w.heap.size, 0, none⟩) (v := .int .i64 p) p0 hb; have p1' := cell_below (p := ⟨w.heap.size, 1, none⟩) (v := .int .i64 q) p1 hb; have p2' := cell_below (p := ⟨w.heap.size, 2, none⟩) (v := .slice a n c) p2 hb; have HB1 : Hid (Below w.heap.size w w1) := Lib.hid (HBW.out.trans (hb.mono HBW.out.size)); clear hb hb0))
      | fail "region law fell"
    all_goals
      go_wp2_with fail
      go_ret
      exact ⟨ret_bool HR.out.symm, HB1.out⟩
  · have hm := isMx_ok hv
    have q0 := hm.q0
    have q8 := hm.q8
    have hl8 := hm.len
    rw [HL.out] at hl8
    have HV := Lib.hid hv
    obtain ⟨m, rfl⟩ : ∃ m : Nat, q = m := ⟨q.toNat, by omega⟩
    have HM := Lib.hid hm
    have HRW : Hid (Rws p m xss) := Lib.hid hm.rws
    clear hm hv
    go_enter Try.func24, Try.ntmps24
    go_wp2_with fail
    have hfd : ∀ (v0 v1 v2 : Value) (w : World), Sem.run Try.prog (Instr.field 26 (Value.agg #[v0, v1, v2]) 2) w = .ok v2 w := fun _ _ _ _ => by first | rfl | kernel_rfl
    obtain ⟨W, hW⟩ : ∃ W, W = w.alloc (.cells #[.int .i64 p, .int .i64 m, .slice a n c] 26) := ⟨_, rfl⟩
    rw [← hW]
    have p0 : W.cell? ⟨w.heap.size, 0, none⟩ = some (.int .i64 p) := by rw [hW]; simp
    have p1 : W.cell? ⟨w.heap.size, 1, none⟩ = some (.int .i64 m) := by rw [hW]; simp
    have p2 : W.cell? ⟨w.heap.size, 2, none⟩ = some (.slice a n c) := by rw [hW]; simp
    have HBW : Hid (Below w.heap.size w W) := Lib.hid (by rw [hW]; exact (Below.refl _ _).alloc (Nat.le_refl _) _)
    have HAW : Hid (RdR W a xss) := Lib.hid (HA.out.keep HBW.out (Nat.le_refl _))
    have sW : W.heap.size = w.heap.size + 1 := by rw [hW]; simp
    clear hW
    go_region_held3 (fun w' => w'.cell? ⟨w.heap.size, 0, none⟩ = some (.int .i64 p) ∧ w'.cell? ⟨w.heap.size, 1, none⟩ = some (.int .i64 m) ∧ w'.cell? ⟨w.heap.size, 2, none⟩ = some (.slice a n c)) (go_keep)
        (first
          | (go_at_call 52; (with_reducible refine (spec_IsMatrix_any _ _ _ _ _ xss _ HP.out HQ.out ?_ HL.out HX.out hn hcp).mono ?_); exact (show RdR W a xss from HAW.out); rintro e w1 ⟨he, hb0⟩; rw [HV.out] at he; obtain rfl := he; have hb : Below W.heap.size W w1 := ⟨hb0.os, hb0.tape, hb0.output, hb0.size, hb0.block⟩; have p0' := cell_below (p := ⟨w.heap.size, 0, none⟩) (v := .int .i64 p) p0 hb; have p1' := cell_below (p := ⟨w.heap.size, 1, none⟩) (v := .int .i64 m) p1 hb; have p2' := cell_below (p := ⟨w.heap.size, 2, none⟩) (v := .slice a n c) p2 hb; have HB1 : Hid (Below w.heap.size w w1) := Lib.hid (HBW.out.trans (hb.mono HBW.out.size)); have HA1 : Hid (RdR w1 a xss) := Lib.hid (HA.out.keep HB1.out (Nat.le_refl _)); clear hb hb0)
          | (go_at_call 47; (with_reducible refine (l02Reduce_any p HM.out.gp _ n _ m xss _ ?_ HL.out HRW.out (by omega) (by omega)).mono ?_); exact (show RdR w1 a xss from HA1.out); rintro e w2 ⟨R, aR, cR, rfl, hres, ho, hb0⟩; have hb : Below w1.heap.size w1 w2 := ⟨hb0.os, hb0.tape, hb0.output, hb0.size, hb0.block⟩; have p0'' := cell_below (p := ⟨w.heap.size, 0, none⟩) (v := .int .i64 p) p0' hb; have p1'' := cell_below (p := ⟨w.heap.size, 1, none⟩) (v := .int .i64 m) p1' hb; have p2'' := cell_below (p := ⟨w.heap.size, 2, none⟩) (v := .slice a n c) p2' hb; have HB2 : Hid (Below w.heap.size w w2) := Lib.hid (HB1.out.trans (hb.mono HB1.out.size)); have HA2 : Hid (RdR w2 a xss) := Lib.hid (HA.out.keep HB2.out (Nat.le_refl _)); have HRD : Hid (RdR w2 aR R) := Lib.hid ho; have hsm := (IsRref.sm hres (by omega)).1; have HSM := Lib.hid (IsRref.sm hres (by omega)).2; have HS : Hid (subB xss p m = sameR R xss) := Lib.hid (subB_same HV.out (by simpa using hres)); clear ho hb hb0 hres)
          | (go_at_call 53; (with_reducible refine (l01Same2_any _ _ _ _ _ _ R xss _ ?_ ?_ rfl HL.out hsm hn HSM.out HX.out).mono ?_); exact HRD.out; exact HA2.out; rintro e w3 ⟨rfl, hw3⟩; have hb : Below w2.heap.size w2 w3 := (by obtain ⟨t, rfl⟩ := hw3; exact ⟨rfl, rfl, rfl, Nat.le_refl _, fun _ _ => rfl⟩); have p0''' := cell_below (p := ⟨w.heap.size, 0, none⟩) (v := .int .i64 p) p0'' hb; have p1''' := cell_below (p := ⟨w.heap.size, 1, none⟩) (v := .int .i64 m) p1'' hb; have p2''' := cell_below (p := ⟨w.heap.size, 2, none⟩) (v := .slice a n c) p2'' hb; have HB3 : Hid (Below w.heap.size w w3) := Lib.hid (HB2.out.trans (hb.mono HB2.out.size)); clear hb hw3))
    go_wp2_with fail
    go_ret
    exact ⟨ret_bool HS.out.symm, HB3.out⟩
end Go.Proofs.Ytpkdgemnddcefaa
