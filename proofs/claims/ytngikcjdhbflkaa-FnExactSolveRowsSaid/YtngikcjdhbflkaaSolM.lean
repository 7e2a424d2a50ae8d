/- The least vector that rows take to another one: the outer functions. -/
import Derived.Test.YtngikcjdhbflkaaSolveI
set_option linter.unusedVariables false
set_option linter.unusedSimpArgs false
namespace Go.Proofs.Ytngikcjdhbflkaa
open Go.RowKit

def res_SolveRows (xss : List (List Int)) (p q : Int) (v R : List Int) (d : Int) : Prop :=
  (¬ (isMx xss p q = true ∧ vecB p q v = true) ∧ R = [] ∧ d = 1) ∨
  ((isMx xss p q = true ∧ vecB p q v = true) ∧ ∃ ok X, SolR p q.toNat xss v ok X ∧ ((ok = true ∧ R = X ∧ d = 0) ∨ (ok = false ∧ R = [] ∧ d = 4)))
theorem res_SolveRows_uniq {xss : List (List Int)} {p q d1 d2 : Int} {v R1 R2 : List Int} (h : res_SolveRows xss p q v R1 d1) (k : res_SolveRows xss p q v R2 d2) : R1 = R2 ∧ d1 = d2 := by
  rcases h with ⟨h0, h1, h2⟩ | ⟨h0, ok, X, h1, h2⟩ <;> rcases k with ⟨k0, k1, k2⟩ | ⟨k0, ok', X', k1, k2⟩
  · exact ⟨by rw [h1, k1], by rw [h2, k2]⟩
  · exact absurd k0 h0
  · exact absurd h0 k0
  · obtain ⟨e1, e2⟩ := h1.unique k1 (isMx_ok h0.1).gp.bd.1
    rcases h2 with ⟨a1, a2, a3⟩ | ⟨a1, a2, a3⟩ <;> rcases k2 with ⟨b1, b2, b3⟩ | ⟨b1, b2, b3⟩
    · exact ⟨by rw [a2, b2, e2], by rw [a3, b3]⟩
    · rw [a1, b1] at e1; cases e1
    · rw [a1, b1] at e1; cases e1
    · exact ⟨by rw [a2, b2], by rw [a3, b3]⟩
theorem res_SolveRows_small {xss : List (List Int)} {p q d : Int} {v R : List Int} (h : res_SolveRows xss p q v R d) : R.length ≤ 1048576 := by
  rcases h with ⟨_, h1, _⟩ | ⟨h0, ok, X, h1, h2⟩
  · rw [h1]; simp
  · have hl := (isMx_ok h0.1).len
    have := h1.len
    rcases h2 with ⟨_, a2, _⟩ | ⟨_, a2, _⟩
    · rw [a2]; omega
    · rw [a2]; simp
set_option maxRecDepth 20000 in
set_option maxHeartbeats 4000000 in
theorem impl_SolveRows_any (p q : Int) (a : Option Addr) (n c : Nat) (xss : List (List Int)) (b : Option Addr) (m cb : Nat) (v : List Int) (w : World) (hp : I64 p) (hq : I64 q) (ha : RdR w a xss) (hl : xss.length = n) (hx : ∀ i, i < n → (rw_ xss i).length ≤ 1048576) (hn : n ≤ 1048576) (hcp : n ≤ c) (hb : RdI w b v) (hl2 : v.length = m) (hm : m ≤ 1048576) (_hw : ∀ x ∈ v, I64 x) :
    Calls Try.prog 43 #[.agg #[.int .i64 p, .int .i64 q, .slice a n c], .slice b m cb] w fun e w' => ∃ (R : List Int) (d : Int) (a' : Option Addr) (c' : Nat), e = .returned (.tuple #[.slice a' R.length c', .int .i64 d]) ∧ res_SolveRows xss p q v R d ∧ OwnI 2 w' w.heap.size a' R.length c' R ∧ Below w.heap.size w w' := by
  have HP := Lib.hid hp
  have HQ := Lib.hid hq
  have HA := Lib.hid ha
  have HL := Lib.hid hl
  have HX := Lib.hid hx
  have HB := Lib.hid hb
  have HL2 := Lib.hid hl2
  clear hp hq ha hl hx hb hl2 _hw
  by_cases hs : isMx xss p q = true
  rotate_left
  · have HS : Hid (isMx xss p q = false) := Lib.hid (by simpa using hs)
    have HR : Hid (res_SolveRows xss p q v [] 1) := Lib.hid (.inl ⟨fun h => hs h.1, rfl, rfl⟩)
    clear hs
    go_enter Try.func43, Try.ntmps43
    go_wp2_with fail
    obtain ⟨W, hW⟩ : ∃ W, W = w.alloc (.cells #[.int .i64 p, .int .i64 q, .slice a n c] 24) := ⟨_, rfl⟩
    rw [← hW]
    have X0 : Hid (BX 24 W w.heap.size #[.int .i64 p, .int .i64 q, .slice a n c]) := Lib.hid (by rw [hW]; exact BX.new w _ _)
    have HBW : Hid (Below w.heap.size w W) := Lib.hid (by rw [hW]; exact (Below.refl _ _).alloc (Nat.le_refl _) _)
    have sW : W.heap.size = w.heap.size + 1 := by rw [hW]; simp
    clear hW
    have p0 : W.cell? ⟨w.heap.size, 0, none⟩ = some (.int .i64 p) := X0.out.cell 0
    have p1 : W.cell? ⟨w.heap.size, 1, none⟩ = some (.int .i64 q) := X0.out.cell 1
    have p2 : W.cell? ⟨w.heap.size, 2, none⟩ = some (.slice a n c) := X0.out.cell 2
    refine (impl_IsMatrix_any _ _ _ _ _ xss _ HP.out HQ.out (by exact HA.out.keep HBW.out (Nat.le_refl _)) HL.out HX.out hn hcp).mono ?_
    rintro e w1 ⟨he, hb⟩
    rw [HS.out] at he
    obtain rfl := he
    clear p0 p1 p2
    have HB1 : Hid (Below w.heap.size w w1) := Lib.hid (HBW.out.trans (hb.mono HBW.out.size))
    replace X0 : Hid (BX 24 w1 w.heap.size #[.int .i64 p, .int .i64 q, .slice a n c]) := Lib.hid (X0.out.keep hb)
    have s1 := hb.size
    clear hb
    have p0 : w1.cell? ⟨w.heap.size, 0, none⟩ = some (.int .i64 p) := X0.out.cell 0
    have p1 : w1.cell? ⟨w.heap.size, 1, none⟩ = some (.int .i64 q) := X0.out.cell 1
    have p2 : w1.cell? ⟨w.heap.size, 2, none⟩ = some (.slice a n c) := X0.out.cell 2
    go_wp2_with fail
    go_ret2
    exact ⟨[], 1, none, 0, rfl, HR.out, OwnI.none, HB1.out⟩
  · have hm0 := isMx_ok hs
    have q0 := hm0.q0
    have q8 := hm0.q8
    have hl8 := hm0.len
    rw [HL.out] at hl8
    obtain ⟨hp2, hp7⟩ := hm0.gp.bd
    have HM := Lib.hid hm0
    have HS := Lib.hid hs
    clear hm0
    by_cases hv : vecB p q v = true
    rotate_left
    · have HV : Hid (vecB p q v = false) := Lib.hid (by simpa using hv)
      have HR : Hid (res_SolveRows xss p q v [] 1) := Lib.hid (.inl ⟨fun h => hv h.2, rfl, rfl⟩)
      clear hs hv
      go_enter Try.func43, Try.ntmps43
      go_wp2_with fail
      obtain ⟨W, hW⟩ : ∃ W, W = w.alloc (.cells #[.int .i64 p, .int .i64 q, .slice a n c] 24) := ⟨_, rfl⟩
      rw [← hW]
      have X0 : Hid (BX 24 W w.heap.size #[.int .i64 p, .int .i64 q, .slice a n c]) := Lib.hid (by rw [hW]; exact BX.new w _ _)
      have HBW : Hid (Below w.heap.size w W) := Lib.hid (by rw [hW]; exact (Below.refl _ _).alloc (Nat.le_refl _) _)
      have sW : W.heap.size = w.heap.size + 1 := by rw [hW]; simp
      clear hW
      have p0 : W.cell? ⟨w.heap.size, 0, none⟩ = some (.int .i64 p) := X0.out.cell 0
      have p1 : W.cell? ⟨w.heap.size, 1, none⟩ = some (.int .i64 q) := X0.out.cell 1
      have p2 : W.cell? ⟨w.heap.size, 2, none⟩ = some (.slice a n c) := X0.out.cell 2
      refine (impl_IsMatrix_any _ _ _ _ _ xss _ HP.out HQ.out (by exact HA.out.keep HBW.out (Nat.le_refl _)) HL.out HX.out hn hcp).mono ?_
      rintro e w1 ⟨he, hb⟩
      rw [HS.out] at he
      obtain rfl := he
      clear p0 p1 p2
      have HB1 : Hid (Below w.heap.size w w1) := Lib.hid (HBW.out.trans (hb.mono HBW.out.size))
      replace X0 : Hid (BX 24 w1 w.heap.size #[.int .i64 p, .int .i64 q, .slice a n c]) := Lib.hid (X0.out.keep hb)
      have s1 := hb.size
      clear hb
      have p0 : w1.cell? ⟨w.heap.size, 0, none⟩ = some (.int .i64 p) := X0.out.cell 0
      have p1 : w1.cell? ⟨w.heap.size, 1, none⟩ = some (.int .i64 q) := X0.out.cell 1
      have p2 : w1.cell? ⟨w.heap.size, 2, none⟩ = some (.slice a n c) := X0.out.cell 2
      go_wp2_with fail
      refine (isVector_any _ _ _ v _ _ _ (by exact HB.out.keep HB1.out (Nat.le_refl _)) HL2.out hm hp2 hp7 HQ.out).mono ?_
      rintro e w' ⟨rfl, rfl⟩
      rw [HV.out]
      go_wp2_with fail
      go_ret2
      exact ⟨[], 1, none, 0, rfl, HR.out, OwnI.none, HB1.out⟩
    · have hok := vecB_ok hv
      have HV := Lib.hid hv
      have HVR : Hid (∀ j, j < m → 0 ≤ el v j ∧ el v j < p) := Lib.hid fun j hj => by have := hok.2 j (by rw [HL2.out]; exact hj); omega
      have hq9 : q = (m : Int) := by have := hok.1; have := HL2.out; omega
      subst hq9
      have HRW : Hid (Rws p m xss) := Lib.hid HM.out.rws
      clear hs hv hok
      go_enter Try.func43, Try.ntmps43
      go_wp2_with fail
      obtain ⟨W, hW⟩ : ∃ W, W = w.alloc (.cells #[.int .i64 p, .int .i64 m, .slice a n c] 24) := ⟨_, rfl⟩
      rw [← hW]
      have X0 : Hid (BX 24 W w.heap.size #[.int .i64 p, .int .i64 m, .slice a n c]) := Lib.hid (by rw [hW]; exact BX.new w _ _)
      have HBW : Hid (Below w.heap.size w W) := Lib.hid (by rw [hW]; exact (Below.refl _ _).alloc (Nat.le_refl _) _)
      have sW : W.heap.size = w.heap.size + 1 := by rw [hW]; simp
      clear hW
      have p0 : W.cell? ⟨w.heap.size, 0, none⟩ = some (.int .i64 p) := X0.out.cell 0
      have p1 : W.cell? ⟨w.heap.size, 1, none⟩ = some (.int .i64 m) := X0.out.cell 1
      have p2 : W.cell? ⟨w.heap.size, 2, none⟩ = some (.slice a n c) := X0.out.cell 2
      refine (impl_IsMatrix_any _ _ _ _ _ xss _ HP.out HQ.out (by exact HA.out.keep HBW.out (Nat.le_refl _)) HL.out HX.out hn hcp).mono ?_
      rintro e w1 ⟨he, hb⟩
      rw [HS.out] at he
      obtain rfl := he
      clear p0 p1 p2
      have HB1 : Hid (Below w.heap.size w w1) := Lib.hid (HBW.out.trans (hb.mono HBW.out.size))
      replace X0 : Hid (BX 24 w1 w.heap.size #[.int .i64 p, .int .i64 m, .slice a n c]) := Lib.hid (X0.out.keep hb)
      have s1 := hb.size
      clear hb
      have p0 : w1.cell? ⟨w.heap.size, 0, none⟩ = some (.int .i64 p) := X0.out.cell 0
      have p1 : w1.cell? ⟨w.heap.size, 1, none⟩ = some (.int .i64 m) := X0.out.cell 1
      have p2 : w1.cell? ⟨w.heap.size, 2, none⟩ = some (.slice a n c) := X0.out.cell 2
      go_wp2_with fail
      refine (isVector_any _ _ _ v _ _ _ (by exact HB.out.keep HB1.out (Nat.le_refl _)) HL2.out hm hp2 hp7 HQ.out).mono ?_
      rintro e w' ⟨rfl, rfl⟩
      rw [HV.out]
      go_wp2_with fail
      refine (solveRows_any p HM.out.gp _ _ n _ m _ xss v _ (by exact HA.out.keep HB1.out (Nat.le_refl _)) HL.out HRW.out (by exact HB.out.keep HB1.out (Nat.le_refl _)) HL2.out HVR.out (by omega) (by omega)).mono ?_
      rintro e w3 ⟨ok, X, a3, c3, rfl, hsol, ho, hb⟩
      have HO := Lib.hid ho
      have HSol := Lib.hid hsol
      have HB3 : Hid (Below w.heap.size w w3) := Lib.hid (HB1.out.trans (hb.mono HB1.out.size))
      have sz := HB1.out.size
      clear hsol ho hb
      cases ok
      · have HR : Hid (res_SolveRows xss p m v [] 4) := Lib.hid (.inr ⟨⟨HS.out, HV.out⟩, false, X, by rw [Int.toNat_natCast]; exact HSol.out, .inr ⟨rfl, rfl, rfl⟩⟩)
        go_wp2_with fail
        go_ret2
        exact ⟨[], 4, none, 0, rfl, HR.out, OwnI.none, HB3.out⟩
      · have HR : Hid (res_SolveRows xss p m v X 0) := Lib.hid (.inr ⟨⟨HS.out, HV.out⟩, true, X, by rw [Int.toNat_natCast]; exact HSol.out, .inl ⟨rfl, rfl, rfl⟩⟩)
        go_wp2_with fail
        go_ret2
        exact ⟨X, 0, a3, c3, rfl, HR.out, HO.out.mono sz, HB3.out⟩
set_option maxRecDepth 20000 in
set_option maxHeartbeats 4000000 in
theorem spec_SolveRows_any (p q : Int) (a : Option Addr) (n c : Nat) (xss : List (List Int)) (b : Option Addr) (m cb : Nat) (v : List Int) (w : World) (hp : I64 p) (hq : I64 q) (ha : RdR w a xss) (hl : xss.length = n) (hx : ∀ i, i < n → (rw_ xss i).length ≤ 1048576) (hn : n ≤ 1048576) (hcp : n ≤ c) (hb : RdI w b v) (hl2 : v.length = m) (hm : m ≤ 1048576) (_hw : ∀ x ∈ v, I64 x) :
    Calls Try.prog 42 #[.agg #[.int .i64 p, .int .i64 q, .slice a n c], .slice b m cb] w fun e w' => ∃ (R : List Int) (d : Int) (a' : Option Addr) (c' : Nat), e = .returned (.tuple #[.slice a' R.length c', .int .i64 d]) ∧ res_SolveRows xss p q v R d ∧ OwnI 2 w' w.heap.size a' R.length c' R ∧ Below w.heap.size w w' := by
  have HP := Lib.hid hp
  have HQ := Lib.hid hq
  have HA := Lib.hid ha
  have HL := Lib.hid hl
  have HX := Lib.hid hx
  have HB := Lib.hid hb
  have HL2 := Lib.hid hl2
  clear hp hq ha hl hx hb hl2 _hw
  by_cases hs : isMx xss p q = true
  rotate_left
  · have HS : Hid (isMx xss p q = false) := Lib.hid (by simpa using hs)
    have HR : Hid (res_SolveRows xss p q v [] 1) := Lib.hid (.inl ⟨fun h => hs h.1, rfl, rfl⟩)
    clear hs
    go_enter Try.func42, Try.ntmps42
    go_wp2_with fail
    obtain ⟨W, hW⟩ : ∃ W, W = w.alloc (.cells #[.int .i64 p, .int .i64 q, .slice a n c] 24) := ⟨_, rfl⟩
    rw [← hW]
    have X0 : Hid (BX 24 W w.heap.size #[.int .i64 p, .int .i64 q, .slice a n c]) := Lib.hid (by rw [hW]; exact BX.new w _ _)
    have HBW : Hid (Below w.heap.size w W) := Lib.hid (by rw [hW]; exact (Below.refl _ _).alloc (Nat.le_refl _) _)
    have sW : W.heap.size = w.heap.size + 1 := by rw [hW]; simp
    clear hW
    have p0 : W.cell? ⟨w.heap.size, 0, none⟩ = some (.int .i64 p) := X0.out.cell 0
    have p1 : W.cell? ⟨w.heap.size, 1, none⟩ = some (.int .i64 q) := X0.out.cell 1
    have p2 : W.cell? ⟨w.heap.size, 2, none⟩ = some (.slice a n c) := X0.out.cell 2
    refine (spec_IsMatrix_any _ _ _ _ _ xss _ HP.out HQ.out (by exact HA.out.keep HBW.out (Nat.le_refl _)) HL.out HX.out hn hcp).mono ?_
    rintro e w1 ⟨he, hb⟩
    rw [HS.out] at he
    obtain rfl := he
    clear p0 p1 p2
    have HB1 : Hid (Below w.heap.size w w1) := Lib.hid (HBW.out.trans (hb.mono HBW.out.size))
    replace X0 : Hid (BX 24 w1 w.heap.size #[.int .i64 p, .int .i64 q, .slice a n c]) := Lib.hid (X0.out.keep hb)
    have s1 := hb.size
    clear hb
    have p0 : w1.cell? ⟨w.heap.size, 0, none⟩ = some (.int .i64 p) := X0.out.cell 0
    have p1 : w1.cell? ⟨w.heap.size, 1, none⟩ = some (.int .i64 q) := X0.out.cell 1
    have p2 : w1.cell? ⟨w.heap.size, 2, none⟩ = some (.slice a n c) := X0.out.cell 2
    go_wp2_with fail
    go_ret2
    exact ⟨[], 1, none, 0, rfl, HR.out, OwnI.none, HB1.out⟩
  · have hm0 := isMx_ok hs
    have q0 := hm0.q0
    have q8 := hm0.q8
    have hl8 := hm0.len
    rw [HL.out] at hl8
    obtain ⟨hp2, hp7⟩ := hm0.gp.bd
    have HM := Lib.hid hm0
    have HS := Lib.hid hs
    clear hm0
    by_cases hv : vecB p q v = true
    rotate_left
    · have HV : Hid (vecB p q v = false) := Lib.hid (by simpa using hv)
      have HR : Hid (res_SolveRows xss p q v [] 1) := Lib.hid (.inl ⟨fun h => hv h.2, rfl, rfl⟩)
      clear hs hv
      go_enter Try.func42, Try.ntmps42
      go_wp2_with fail
      obtain ⟨W, hW⟩ : ∃ W, W = w.alloc (.cells #[.int .i64 p, .int .i64 q, .slice a n c] 24) := ⟨_, rfl⟩
      rw [← hW]
      have X0 : Hid (BX 24 W w.heap.size #[.int .i64 p, .int .i64 q, .slice a n c]) := Lib.hid (by rw [hW]; exact BX.new w _ _)
      have HBW : Hid (Below w.heap.size w W) := Lib.hid (by rw [hW]; exact (Below.refl _ _).alloc (Nat.le_refl _) _)
      have sW : W.heap.size = w.heap.size + 1 := by rw [hW]; simp
      clear hW
      have p0 : W.cell? ⟨w.heap.size, 0, none⟩ = some (.int .i64 p) := X0.out.cell 0
      have p1 : W.cell? ⟨w.heap.size, 1, none⟩ = some (.int .i64 q) := X0.out.cell 1
      have p2 : W.cell? ⟨w.heap.size, 2, none⟩ = some (.slice a n c) := X0.out.cell 2
      refine (spec_IsMatrix_any _ _ _ _ _ xss _ HP.out HQ.out (by exact HA.out.keep HBW.out (Nat.le_refl _)) HL.out HX.out hn hcp).mono ?_
      rintro e w1 ⟨he, hb⟩
      rw [HS.out] at he
      obtain rfl := he
      clear p0 p1 p2
      have HB1 : Hid (Below w.heap.size w w1) := Lib.hid (HBW.out.trans (hb.mono HBW.out.size))
      replace X0 : Hid (BX 24 w1 w.heap.size #[.int .i64 p, .int .i64 q, .slice a n c]) := Lib.hid (X0.out.keep hb)
      have s1 := hb.size
      clear hb
      have p0 : w1.cell? ⟨w.heap.size, 0, none⟩ = some (.int .i64 p) := X0.out.cell 0
      have p1 : w1.cell? ⟨w.heap.size, 1, none⟩ = some (.int .i64 q) := X0.out.cell 1
      have p2 : w1.cell? ⟨w.heap.size, 2, none⟩ = some (.slice a n c) := X0.out.cell 2
      go_wp2_with fail
      refine (l02Vector_any _ _ _ v _ _ _ (by exact HB.out.keep HB1.out (Nat.le_refl _)) HL2.out hm hp2 hp7 HQ.out).mono ?_
      rintro e w' ⟨rfl, rfl⟩
      rw [HV.out]
      go_wp2_with fail
      go_ret2
      exact ⟨[], 1, none, 0, rfl, HR.out, OwnI.none, HB1.out⟩
    · have hok := vecB_ok hv
      have HV := Lib.hid hv
      have HVR : Hid (∀ j, j < m → 0 ≤ el v j ∧ el v j < p) := Lib.hid fun j hj => by have := hok.2 j (by rw [HL2.out]; exact hj); omega
      have hq9 : q = (m : Int) := by have := hok.1; have := HL2.out; omega
      subst hq9
      have HRW : Hid (Rws p m xss) := Lib.hid HM.out.rws
      clear hs hv hok
      go_enter Try.func42, Try.ntmps42
      go_wp2_with fail
      obtain ⟨W, hW⟩ : ∃ W, W = w.alloc (.cells #[.int .i64 p, .int .i64 m, .slice a n c] 24) := ⟨_, rfl⟩
      rw [← hW]
      have X0 : Hid (BX 24 W w.heap.size #[.int .i64 p, .int .i64 m, .slice a n c]) := Lib.hid (by rw [hW]; exact BX.new w _ _)
      have HBW : Hid (Below w.heap.size w W) := Lib.hid (by rw [hW]; exact (Below.refl _ _).alloc (Nat.le_refl _) _)
      have sW : W.heap.size = w.heap.size + 1 := by rw [hW]; simp
      clear hW
      have p0 : W.cell? ⟨w.heap.size, 0, none⟩ = some (.int .i64 p) := X0.out.cell 0
      have p1 : W.cell? ⟨w.heap.size, 1, none⟩ = some (.int .i64 m) := X0.out.cell 1
      have p2 : W.cell? ⟨w.heap.size, 2, none⟩ = some (.slice a n c) := X0.out.cell 2
      refine (spec_IsMatrix_any _ _ _ _ _ xss _ HP.out HQ.out (by exact HA.out.keep HBW.out (Nat.le_refl _)) HL.out HX.out hn hcp).mono ?_
      rintro e w1 ⟨he, hb⟩
      rw [HS.out] at he
      obtain rfl := he
      clear p0 p1 p2
      have HB1 : Hid (Below w.heap.size w w1) := Lib.hid (HBW.out.trans (hb.mono HBW.out.size))
      replace X0 : Hid (BX 24 w1 w.heap.size #[.int .i64 p, .int .i64 m, .slice a n c]) := Lib.hid (X0.out.keep hb)
      have s1 := hb.size
      clear hb
      have p0 : w1.cell? ⟨w.heap.size, 0, none⟩ = some (.int .i64 p) := X0.out.cell 0
      have p1 : w1.cell? ⟨w.heap.size, 1, none⟩ = some (.int .i64 m) := X0.out.cell 1
      have p2 : w1.cell? ⟨w.heap.size, 2, none⟩ = some (.slice a n c) := X0.out.cell 2
      go_wp2_with fail
      refine (l02Vector_any _ _ _ v _ _ _ (by exact HB.out.keep HB1.out (Nat.le_refl _)) HL2.out hm hp2 hp7 HQ.out).mono ?_
      rintro e w' ⟨rfl, rfl⟩
      rw [HV.out]
      go_wp2_with fail
      refine (l02Solve_any p HM.out.gp _ _ n _ m _ xss v _ (by exact HA.out.keep HB1.out (Nat.le_refl _)) HL.out HRW.out (by exact HB.out.keep HB1.out (Nat.le_refl _)) HL2.out HVR.out (by omega) (by omega)).mono ?_
      rintro e w3 ⟨ok, X, a3, c3, rfl, hsol, ho, hb⟩
      have HO := Lib.hid ho
      have HSol := Lib.hid hsol
      have HB3 : Hid (Below w.heap.size w w3) := Lib.hid (HB1.out.trans (hb.mono HB1.out.size))
      have sz := HB1.out.size
      clear hsol ho hb
      cases ok
      · have HR : Hid (res_SolveRows xss p m v [] 4) := Lib.hid (.inr ⟨⟨HS.out, HV.out⟩, false, X, by rw [Int.toNat_natCast]; exact HSol.out, .inr ⟨rfl, rfl, rfl⟩⟩)
        go_wp2_with fail
        go_ret2
        exact ⟨[], 4, none, 0, rfl, HR.out, OwnI.none, HB3.out⟩
      · have HR : Hid (res_SolveRows xss p m v X 0) := Lib.hid (.inr ⟨⟨HS.out, HV.out⟩, true, X, by rw [Int.toNat_natCast]; exact HSol.out, .inl ⟨rfl, rfl, rfl⟩⟩)
        go_wp2_with fail
        go_ret2
        exact ⟨X, 0, a3, c3, rfl, HR.out, HO.out.mono sz, HB3.out⟩
end Go.Proofs.Ytngikcjdhbflkaa
