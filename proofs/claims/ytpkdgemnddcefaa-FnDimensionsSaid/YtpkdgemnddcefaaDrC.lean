/- Draws of subspaces. -/
import Derived.Test.YtpkdgemnddcefaaDrB
import Derived.Test.YtpkdgemnddcefaaRedO
import Derived.Test.YtpkdgemnddcefaaMatSubS
import Derived.Test.YtpkdgemnddcefaaMatHas
set_option linter.unusedVariables false
set_option linter.unusedSimpArgs false
namespace Go.Proofs.Ytpkdgemnddcefaa
open Go.RowKit
/-- a call that draws, its own memory being no matter -/
structure SC (w wr : World) (b : Nat) (a : Option Addr) (m c : Nat) (bs : List Int) : Prop where
  s0 : Src w b a m c bs
  bx : ∃ k s : Nat, BX 60 wr b #[.slice a m c, .int .i64 k, .int .i64 s] ∧ k ≤ m ∧ s < 2147483647
  chg : Chg (fun j => j = b) w wr
section
variable {w wr w2 w3 : World} {b : Nat} {a : Option Addr} {m c : Nat} {bs : List Int}
theorem SC.start (h : Src w b a m c bs) : SC w w b a m c bs := ⟨h, h.box, Chg.refl _ _⟩
theorem SC.src (h : SC w wr b a m c bs) : Src wr b a m c bs := by
  obtain ⟨k, s, h1, h2, h3⟩ := h.bx
  exact h.s0.set k s h1 h2 h3 h.chg
theorem SC.sz (h : SC w wr b a m c bs) : w.heap.size ≤ wr.heap.size := h.chg.size
theorem SC.bw (h : SC w wr b a m c bs) : b < w.heap.size := h.s0.lt
theorem SC.next (h : SC w wr b a m c bs) (hs : Src w2 b a m c bs) (hc : Chg (fun j => j = b) w3 w2) (h1 : w3.heap = wr.heap) (h2 : w3.os = wr.os) (h3 : w3.tape = wr.tape) (h4 : w3.output = wr.output) : SC w w2 b a m c bs := by
  have hsz := h.chg.size
  exact ⟨h.s0, hs.box, (hc.os.trans h2).trans h.chg.os, (hc.tape.trans h3).trans h.chg.tape, (hc.output.trans h4).trans h.chg.output, by have := hc.size; rw [h1] at this; omega, fun j hj hn => by rw [hc.block j (by rw [h1]; omega) hn, h1]; exact h.chg.block j hj hn⟩
theorem SC.low {B : Nat} (h : SC w wr b a m c bs) (hb : Below B w3 w2) (hB : w.heap.size ≤ B) (h1 : w3.heap = wr.heap) (h2 : w3.os = wr.os) (h3 : w3.tape = wr.tape) (h4 : w3.output = wr.output) : SC w w2 b a m c bs := by
  have hsz := h.chg.size
  have lb := h.s0.lt
  obtain ⟨k, s, k1, k2, k3⟩ := h.bx
  have hh : ∀ j, j < w.heap.size → w2.heap[j]? = wr.heap[j]? := fun j hj => by rw [hb.block j (by omega), h1]
  exact ⟨h.s0, ⟨k, s, (hh _ lb).trans k1, k2, k3⟩, (hb.os.trans h2).trans h.chg.os, (hb.tape.trans h3).trans h.chg.tape, (hb.output.trans h4).trans h.chg.output, by have := hb.size; rw [h1] at this; omega, fun j hj hn => (hh j hj).trans (h.chg.block j hj hn)⟩
theorem SC.al (h : SC w wr b a m c bs) (o : Obj) : SC w (wr.alloc o) b a m c bs := h.low ((Below.refl wr.heap.size wr).alloc (Nat.le_refl _) o) h.sz rfl rfl rfl rfl
theorem SC.set (h : SC w wr b a m c bs) (p : Addr) (hp : w.heap.size ≤ p.block) (v : Value) : SC w (wr.setCell p v) b a m c bs := h.low ((Below.refl w.heap.size wr).setCell hp v) (Nat.le_refl _) rfl rfl rfl rfl
theorem SC.bent {B : Nat} (h : SC w wr b a m c bs) (hs : Src w2 b a m c bs) (hc : Chg (fun j => j = b ∨ B ≤ j) wr w2) (hB : w.heap.size ≤ B) : SC w w2 b a m c bs := by
  have hsz := h.chg.size
  exact ⟨h.s0, hs.box, hc.os.trans h.chg.os, hc.tape.trans h.chg.tape, hc.output.trans h.chg.output, Nat.le_trans hsz hc.size, fun j hj hn => (hc.block j (by omega) (fun e => by rcases e with e | e <;> omega)).trans (h.chg.block j hj hn)⟩
end
/-- a box among the elder ones, behind a call that changes the source alone -/
theorem BX.src {T : TypeId} {w w2 : World} {j b : Nat} {vs : Array Value} (h : BX T w j vs) (hc : Chg (fun j => j = b) w w2) (hne : j ≠ b) : BX T w2 j vs := h.chg hc hne
theorem MadeR.kept {T1 T2 : TypeId} {S : Nat → Prop} {w w2 : World} {B : Nat} {a : Option Addr} {n cap : Nat} {xs : List (List Int)} (h : MadeR T1 T2 w B a n cap xs) (hc : Chg S w w2) (hs : ∀ k, B ≤ k → ¬ S k) : MadeR T1 T2 w2 B a n cap xs := by
  obtain ⟨A, C, h⟩ := h
  exact ⟨A, C, h.kept hc (fun p hp => hs _ (ownsRow_block h.own p hp).1) (fun i hi p hp => hs _ ((h.row i hi).block p hp).1)⟩
set_option maxRecDepth 20000 in
set_option maxHeartbeats 4000000 in
theorem l03Make_any (b : Nat) (a : Option Addr) (m c : Nat) (bs : List Int) (p : Int) (n : Nat) (w : World) (hs : Src w b a m c bs) (hmc : m ≤ c) (hp : GP p) (hn : n ≤ 8) :
    Calls Try.prog 46 #[.pointer (some ⟨b, 0, none⟩), .int .i64 p, .int .i64 n] w fun e w' => ∃ (R : List (List Int)) (a' : Option Addr) (c' : Nat), e = .returned (.agg #[.int .i64 p, .int .i64 n, .slice a' R.length c']) ∧ MadeR 52 2 w' w.heap.size a' R.length c' R ∧ Rws p n R ∧ R.length ≤ n ∧ Src w' b a m c bs ∧ Chg (fun j => j = b) w w' := by
  have HC0 := Lib.hid ((SC.start hs).al (.cells #[.int .i64 0, .int .i64 0, .slice none 0 0] 26))
  have HR0 : Hid (BX 26 (w.alloc (.cells #[.int .i64 0, .int .i64 0, .slice none 0 0] 26)) w.heap.size #[.int .i64 0, .int .i64 0, .slice none 0 0]) := Lib.hid (BX.new _ _ _)
  have lb : b < w.heap.size := hs.lt
  have HP := Lib.hid hp
  clear hs hp
  go_enter Try.func46, Try.ntmps46
  go_wp2_with fail
  refine (l01Next_any b a m c bs (n + 1) _ (by exact HC0.out.src) (by omega) hmc).mono ?_
  rintro e w1 ⟨r, rfl, hr0, hr1, hs, hc⟩
  obtain ⟨r, rfl⟩ : ∃ r' : Nat, r = r' := ⟨r.toNat, by omega⟩
  have hr : r ≤ n := by omega
  have HC1 := Lib.hid (HC0.out.next hs hc rfl rfl rfl rfl)
  have HR1 := Lib.hid (HR0.out.src hc (by omega))
  clear hs hc hr0 hr1 HC0 HR0
  go_wp2_with fail
  refine (l02DrawRows_any b a m c bs p r n w1 HC1.out.src hmc HP.out (by omega) (by omega)).mono ?_
  rintro e w2 ⟨xs, a2, c2, rfl, hm, hw, hs, hc⟩
  have HC2 := Lib.hid (HC1.out.next hs hc rfl rfl rfl rfl)
  have HR2 := Lib.hid (HR1.out.src hc (by omega))
  have HM2 := Lib.hid hm
  have HW2 := Lib.hid hw
  have s12 := hc.size
  have s1 := HC1.out.sz
  clear hs hc hm hw HC1 HR1
  go_wp2_with fail
  have hsz2 : w.heap.size < w2.heap.size := HR2.out.lt
  refine (l02Reduce_own p HP.out a2 r c2 n xs _ (by exact HM2.out.rd.keep ((Below.refl w2.heap.size w2).alloc (Nat.le_refl _) _) (Nat.le_refl _)) HM2.out.len HW2.out (by omega) (by omega)).mono ?_
  rintro e w3 ⟨R, a3, c3, rfl, hR, hm, hb⟩
  have HC3 := Lib.hid ((HC2.out.al (.cells #[.int .i64 p, .int .i64 n, .slice a2 r c2] 26)).low hb (by simp; omega) rfl rfl rfl rfl)
  have HR3 := Lib.hid ((HR2.out.alloc (.cells #[.int .i64 p, .int .i64 n, .slice a2 r c2] 26)).keep hb)
  have HM3 := Lib.hid (hm.mono (B' := w.heap.size + 1) (by simp; omega))
  have HW3 : Hid (Rws p n R ∧ R.length ≤ n) := Lib.hid (by
    have hl := hR.len
    obtain ⟨piv, hr, _⟩ := hR
    exact ⟨⟨hr.len, hr.rng⟩, hl⟩)
  have z0 := HR3.out.cell 0
  have z1 := HR3.out.cell 1
  have z2 := HR3.out.cell 2
  have f0 := HR3.out.frz 0
  have f1 := HR3.out.frz 1
  have f2 := HR3.out.frz 2
  have lr := HR3.out.lt
  simp at z0 z1 z2
  have HC4 := Lib.hid (((HC3.out.set ⟨w.heap.size, 0, none⟩ (Nat.le_refl _) (.int .i64 p)).set ⟨w.heap.size, 1, none⟩ (Nat.le_refl _) (.int .i64 n)).set ⟨w.heap.size, 2, none⟩ (Nat.le_refl _) (.slice a3 R.length c3))
  have HM4 := Lib.hid ((((HM3.out.setLow ⟨w.heap.size, 0, none⟩ (by simp) (.int .i64 p)).setLow ⟨w.heap.size, 1, none⟩ (by simp) (.int .i64 n)).setLow ⟨w.heap.size, 2, none⟩ (by simp) (.slice a3 R.length c3)).mono (B' := w.heap.size) (by omega))
  have X := ((HR3.out.set 0 (.int .i64 p)).set 1 (.int .i64 n)).set 2 (.slice a3 R.length c3)
  have q0 := X.cell 0
  have q1 := X.cell 1
  have q2 := X.cell 2
  simp at q0 q1 q2
  clear hR hm hb
  go_wp2_with fail
  refine bodyPost_ret (v := .agg #[.int .i64 p, .int .i64 n, .slice a3 R.length c3]) (by simp [results, Try.results46, go_sem, q0, q1, q2]) rfl ⟨R, a3, c3, rfl, HM4.out, HW3.out.1, HW3.out.2, HC4.out.src, HC4.out.chg⟩
--DRAWS
/-- what a call draws: a matrix of few rows and columns, its rows the call's own -/
def DrawnM (w : World) (b : Nat) (a : Option Addr) (m c : Nat) (bs : List Int) (e : Ending) (w' : World) : Prop :=
  ∃ (p' q' : Int) (a' : Option Addr) (n' c' : Nat) (ys : List (List Int)), e = .returned (.agg #[.int .i64 p', .int .i64 q', .slice a' n' c']) ∧ I64 p' ∧ I64 q' ∧ MadeR 52 2 w' w.heap.size a' n' c' ys ∧ n' ≤ 100 ∧ (∀ i, i < n' → (rw_ ys i).length ≤ 100) ∧ Src w' b a m c bs ∧ Chg (fun j => j = b) w w'
set_option maxRecDepth 20000 in
set_option maxHeartbeats 4000000 in
theorem l02Draw_any (b : Nat) (a : Option Addr) (m c : Nat) (bs : List Int) (w : World) (hs : Src w b a m c bs) (hmc : m ≤ c) :
    Calls Try.prog 44 #[.pointer (some ⟨b, 0, none⟩)] w (DrawnM w b a m c bs) := by
  have HC0 := Lib.hid ((SC.start hs).al (.cells #[.int .i64 0, .int .i64 0, .slice none 0 0] 26))
  have HR0 : Hid (BX 26 (w.alloc (.cells #[.int .i64 0, .int .i64 0, .slice none 0 0] 26)) w.heap.size #[.int .i64 0, .int .i64 0, .slice none 0 0]) := Lib.hid (BX.new _ _ _)
  have lb : b < w.heap.size := hs.lt
  clear hs
  go_enter Try.func44, Try.ntmps44
  go_wp2_with fail
  refine (l02DrawPrime_any b a m c bs _ (by exact HC0.out.src) hmc).mono ?_
  rintro e w1 ⟨p, rfl, hp, hs, hc⟩
  have HP := Lib.hid hp
  have hpb := hp.bd
  have HC1 := Lib.hid (HC0.out.next hs hc rfl rfl rfl rfl)
  have HR1 := Lib.hid (HR0.out.src hc (by omega))
  clear hs hc hp HC0 HR0
  go_wp2_with fail
  refine (l01Next_any b a m c bs 5 _ (by exact HC1.out.src) (by omega) hmc).mono ?_
  rintro e w2 ⟨r, rfl, hr0, hr1, hs, hc⟩
  obtain ⟨r, rfl⟩ : ∃ x' : Nat, r = x' := ⟨r.toNat, by omega⟩
  have hr : r < 5 := by omega
  have HC2 := Lib.hid (HC1.out.next hs hc rfl rfl rfl rfl)
  have HR2 := Lib.hid (HR1.out.src hc (by omega))
  clear hs hc hr0 hr1 HC1 HR1
  go_wp2_with fail
  refine (l01Next_any b a m c bs 5 _ (by exact HC2.out.src) (by omega) hmc).mono ?_
  rintro e w3 ⟨n, rfl, hn0, hn1, hs, hc⟩
  obtain ⟨n, rfl⟩ : ∃ x' : Nat, n = x' := ⟨n.toNat, by omega⟩
  have hn : n < 5 := by omega
  have HC3 := Lib.hid (HC2.out.next hs hc rfl rfl rfl rfl)
  have HR3 := Lib.hid (HR2.out.src hc (by omega))
  clear hs hc hn0 hn1 HC2 HR2
  go_wp2_with fail
  refine (l01Next_any b a m c bs 10 _ (by exact HC3.out.src) (by omega) hmc).mono ?_
  rintro e w4 ⟨z, rfl, hz0, hz1, hs, hc⟩
  obtain ⟨z, rfl⟩ : ∃ x' : Nat, z = x' := ⟨z.toNat, by omega⟩
  have hz : z < 10 := by omega
  have HC4 := Lib.hid (HC3.out.next hs hc rfl rfl rfl rfl)
  have HR4 := Lib.hid (HR3.out.src hc (by omega))
  clear hs hc hz0 hz1 HC3 HR3
  by_cases hz0 : z = 0
  · have e0 : ((z : Int) == 0) = true := by simp [hz0]
    clear hz0 hz
    go_wp2_with fail
    have HL5 : Hid (RdI (w4.alloc (.cells #[.int .i64 8, .int .i64 7, .int .i64 6] 2)) (some ⟨w4.heap.size, 0, none⟩) [8, 7, 6]) := Lib.hid (lit_rd w4 _ _ _ rfl (by simp [maxLen]))
    have lw5 : b < w4.heap.size := HC4.out.src.lt
    refine (l01Pick_any b a m c bs w4.heap.size 3 3 [8, 7, 6] _ (by exact HC4.out.src.al _) hmc (by exact HL5.out) rfl (by omega) (by omega) (by omega)).mono ?_
    rintro e w5 ⟨r2, rfl, hx, hs, hc⟩
    have hr2b : 6 ≤ r2 ∧ r2 ≤ 8 := by simp at hx; omega
    obtain ⟨r2, rfl⟩ : ∃ x' : Nat, r2 = x' := ⟨r2.toNat, by omega⟩
    have hr2 : r2 ≤ 8 := by omega
    have HC5 := Lib.hid ((HC4.out.al (.cells #[.int .i64 8, .int .i64 7, .int .i64 6] 2)).next hs hc rfl rfl rfl rfl)
    have HR5 := Lib.hid ((HR4.out.alloc (.cells #[.int .i64 8, .int .i64 7, .int .i64 6] 2)).src hc (by omega))
    clear hs hc hx hr2b HL5 HC4 HR4
    go_wp2_with fail
    have HL6 : Hid (RdI (w5.alloc (.cells #[.int .i64 8, .int .i64 7, .int .i64 6] 2)) (some ⟨w5.heap.size, 0, none⟩) [8, 7, 6]) := Lib.hid (lit_rd w5 _ _ _ rfl (by simp [maxLen]))
    have lw6 : b < w5.heap.size := HC5.out.src.lt
    refine (l01Pick_any b a m c bs w5.heap.size 3 3 [8, 7, 6] _ (by exact HC5.out.src.al _) hmc (by exact HL6.out) rfl (by omega) (by omega) (by omega)).mono ?_
    rintro e w6 ⟨n2, rfl, hx, hs, hc⟩
    have hn2b : 6 ≤ n2 ∧ n2 ≤ 8 := by simp at hx; omega
    obtain ⟨n2, rfl⟩ : ∃ x' : Nat, n2 = x' := ⟨n2.toNat, by omega⟩
    have hn2 : n2 ≤ 8 := by omega
    have HC6 := Lib.hid ((HC5.out.al (.cells #[.int .i64 8, .int .i64 7, .int .i64 6] 2)).next hs hc rfl rfl rfl rfl)
    have HR6 := Lib.hid ((HR5.out.alloc (.cells #[.int .i64 8, .int .i64 7, .int .i64 6] 2)).src hc (by omega))
    clear hs hc hx hn2b HL6 HC5 HR5
    go_wp2_with fail
    have HR6lt := HR6.out.lt
    refine (l02DrawRows_any b a m c bs p r2 n2 w6 HC6.out.src hmc HP.out (by omega) (by omega)).mono ?_
    rintro e wr ⟨xs, ar, cr, rfl, hm, hw, hs, hc⟩
    have HCR := Lib.hid (HC6.out.next hs hc rfl rfl rfl rfl)
    have HRR := Lib.hid (HR6.out.src hc (by omega))
    have HMR := Lib.hid hm
    have HWR := Lib.hid hw
    have hs01_wr := hc.size
    have HRRlt := HR6lt
    clear hs hc hm hw
    go_wp2_with fail

    obtain ⟨A, C, hown⟩ := HMR.out
    have HOW := Lib.hid hown
    have hcb := HC6.out.src.codeLt
    have HCB := Lib.hid hcb
    have hsb : w.heap.size < w6.heap.size := HRRlt
    have hs01 : w6.heap.size ≤ wr.heap.size := hs01_wr
    clear hown hcb
    refine (l02Bend_any b a m c bs p n2 ar r2 cr xs A C w6.heap.size wr HCR.out.src hmc (by omega) (by omega) HCB.out (by omega) (by omega) HOW.out (by omega) (fun i hi => by rw [HWR.out.row i (by rw [HOW.out.len]; exact hi)]; omega)).mono ?_
    rintro e wb hpost
    unfold BentM at hpost
    obtain ⟨P, Q, ab, nb, cb, ys, rfl, hP, hQ, hm, hn1, hn2, hs, hc⟩ := hpost
    have HCB2 := Lib.hid (HCR.out.bent hs hc (by omega))
    have HRB := Lib.hid (HRR.out.chg hc (by omega))
    have HMB := Lib.hid (hm.mono (B' := w.heap.size + 1) (by omega))
    have HPB := Lib.hid hP
    have HQB := Lib.hid hQ
    have HNB := Lib.hid hn2
    clear hs hc hm hP hQ hn2

    have z0 := HRB.out.cell 0
    have z1 := HRB.out.cell 1
    have z2 := HRB.out.cell 2
    have f0 := HRB.out.frz 0
    have f1 := HRB.out.frz 1
    have f2 := HRB.out.frz 2
    have lr := HRB.out.lt
    simp at z0 z1 z2
    have HCE := Lib.hid (((HCB2.out.set ⟨w.heap.size, 0, none⟩ (Nat.le_refl _) (.int .i64 P)).set ⟨w.heap.size, 1, none⟩ (Nat.le_refl _) (.int .i64 Q)).set ⟨w.heap.size, 2, none⟩ (Nat.le_refl _) (.slice ab nb cb))
    have HME := Lib.hid ((((HMB.out.setLow ⟨w.heap.size, 0, none⟩ (by simp) (.int .i64 P)).setLow ⟨w.heap.size, 1, none⟩ (by simp) (.int .i64 Q)).setLow ⟨w.heap.size, 2, none⟩ (by simp) (.slice ab nb cb)).mono (B' := w.heap.size) (by omega))
    have X := ((HRB.out.set 0 (.int .i64 P)).set 1 (.int .i64 Q)).set 2 (.slice ab nb cb)
    have q0 := X.cell 0
    have q1 := X.cell 1
    have q2 := X.cell 2
    simp at q0 q1 q2
    go_wp2_with fail
    refine bodyPost_ret (v := .agg #[.int .i64 P, .int .i64 Q, .slice ab nb cb]) (by simp [results, Try.results44, go_sem, q0, q1, q2]) rfl (by unfold DrawnM; exact ⟨P, Q, ab, nb, cb, ys, rfl, HPB.out, HQB.out, HME.out, hn1, HNB.out, HCE.out.src, HCE.out.chg⟩)
  · have e0 : ((z : Int) == 0) = false := beq_eq_false_iff_ne.2 (by omega)
    clear hz0 hz
    go_wp2_with fail
    have HR4lt := HR4.out.lt
    refine (l02DrawRows_any b a m c bs p r n w4 HC4.out.src hmc HP.out (by omega) (by omega)).mono ?_
    rintro e wr ⟨xs, ar, cr, rfl, hm, hw, hs, hc⟩
    have HCR := Lib.hid (HC4.out.next hs hc rfl rfl rfl rfl)
    have HRR := Lib.hid (HR4.out.src hc (by omega))
    have HMR := Lib.hid hm
    have HWR := Lib.hid hw
    have hs01_wr := hc.size
    have HRRlt := HR4lt
    clear hs hc hm hw
    go_wp2_with fail

    obtain ⟨A, C, hown⟩ := HMR.out
    have HOW := Lib.hid hown
    have hcb := HC4.out.src.codeLt
    have HCB := Lib.hid hcb
    have hsb : w.heap.size < w4.heap.size := HRRlt
    have hs01 : w4.heap.size ≤ wr.heap.size := hs01_wr
    clear hown hcb
    refine (l02Bend_any b a m c bs p n ar r cr xs A C w4.heap.size wr HCR.out.src hmc (by omega) (by omega) HCB.out (by omega) (by omega) HOW.out (by omega) (fun i hi => by rw [HWR.out.row i (by rw [HOW.out.len]; exact hi)]; omega)).mono ?_
    rintro e wb hpost
    unfold BentM at hpost
    obtain ⟨P, Q, ab, nb, cb, ys, rfl, hP, hQ, hm, hn1, hn2, hs, hc⟩ := hpost
    have HCB2 := Lib.hid (HCR.out.bent hs hc (by omega))
    have HRB := Lib.hid (HRR.out.chg hc (by omega))
    have HMB := Lib.hid (hm.mono (B' := w.heap.size + 1) (by omega))
    have HPB := Lib.hid hP
    have HQB := Lib.hid hQ
    have HNB := Lib.hid hn2
    clear hs hc hm hP hQ hn2

    have z0 := HRB.out.cell 0
    have z1 := HRB.out.cell 1
    have z2 := HRB.out.cell 2
    have f0 := HRB.out.frz 0
    have f1 := HRB.out.frz 1
    have f2 := HRB.out.frz 2
    have lr := HRB.out.lt
    simp at z0 z1 z2
    have HCE := Lib.hid (((HCB2.out.set ⟨w.heap.size, 0, none⟩ (Nat.le_refl _) (.int .i64 P)).set ⟨w.heap.size, 1, none⟩ (Nat.le_refl _) (.int .i64 Q)).set ⟨w.heap.size, 2, none⟩ (Nat.le_refl _) (.slice ab nb cb))
    have HME := Lib.hid ((((HMB.out.setLow ⟨w.heap.size, 0, none⟩ (by simp) (.int .i64 P)).setLow ⟨w.heap.size, 1, none⟩ (by simp) (.int .i64 Q)).setLow ⟨w.heap.size, 2, none⟩ (by simp) (.slice ab nb cb)).mono (B' := w.heap.size) (by omega))
    have X := ((HRB.out.set 0 (.int .i64 P)).set 1 (.int .i64 Q)).set 2 (.slice ab nb cb)
    have q0 := X.cell 0
    have q1 := X.cell 1
    have q2 := X.cell 2
    simp at q0 q1 q2
    go_wp2_with fail
    refine bodyPost_ret (v := .agg #[.int .i64 P, .int .i64 Q, .slice ab nb cb]) (by simp [results, Try.results44, go_sem, q0, q1, q2]) rfl (by unfold DrawnM; exact ⟨P, Q, ab, nb, cb, ys, rfl, HPB.out, HQB.out, HME.out, hn1, HNB.out, HCE.out.src, HCE.out.chg⟩)
set_option maxRecDepth 20000 in
set_option maxHeartbeats 4000000 in
theorem l03Draw_any (b : Nat) (a : Option Addr) (m c : Nat) (bs : List Int) (w : World) (hs : Src w b a m c bs) (hmc : m ≤ c) :
    Calls Try.prog 20 #[.pointer (some ⟨b, 0, none⟩)] w (DrawnM w b a m c bs) := by
  have HC0 := Lib.hid ((SC.start hs).al (.cells #[.int .i64 0, .int .i64 0, .slice none 0 0] 26))
  have HR0 : Hid (BX 26 (w.alloc (.cells #[.int .i64 0, .int .i64 0, .slice none 0 0] 26)) w.heap.size #[.int .i64 0, .int .i64 0, .slice none 0 0]) := Lib.hid (BX.new _ _ _)
  have lb : b < w.heap.size := hs.lt
  clear hs
  go_enter Try.func20, Try.ntmps20
  go_wp2_with fail
  refine (l02DrawPrime_any b a m c bs _ (by exact HC0.out.src) hmc).mono ?_
  rintro e w1 ⟨p, rfl, hp, hs, hc⟩
  have HP := Lib.hid hp
  have hpb := hp.bd
  have HC1 := Lib.hid (HC0.out.next hs hc rfl rfl rfl rfl)
  have HR1 := Lib.hid (HR0.out.src hc (by omega))
  clear hs hc hp HC0 HR0
  go_wp2_with fail
  refine (l01Next_any b a m c bs 5 _ (by exact HC1.out.src) (by omega) hmc).mono ?_
  rintro e w2 ⟨n, rfl, hn0, hn1, hs, hc⟩
  obtain ⟨n, rfl⟩ : ∃ x' : Nat, n = x' := ⟨n.toNat, by omega⟩
  have hn : n < 5 := by omega
  have HC2 := Lib.hid (HC1.out.next hs hc rfl rfl rfl rfl)
  have HR2 := Lib.hid (HR1.out.src hc (by omega))
  clear hs hc hn0 hn1 HC1 HR1
  go_wp2_with fail
  refine (l01Next_any b a m c bs 15 _ (by exact HC2.out.src) (by omega) hmc).mono ?_
  rintro e w3 ⟨z, rfl, hz0, hz1, hs, hc⟩
  obtain ⟨z, rfl⟩ : ∃ x' : Nat, z = x' := ⟨z.toNat, by omega⟩
  have hz : z < 15 := by omega
  have HC3 := Lib.hid (HC2.out.next hs hc rfl rfl rfl rfl)
  have HR3 := Lib.hid (HR2.out.src hc (by omega))
  clear hs hc hz0 hz1 HC2 HR2
  by_cases hz0 : z = 0
  · have e0 : ((z : Int) == 0) = true := by simp [hz0]
    clear hz0 hz
    go_wp2_with fail
    have HL4 : Hid (RdI (w3.alloc (.cells #[.int .i64 6, .int .i64 7, .int .i64 8] 2)) (some ⟨w3.heap.size, 0, none⟩) [6, 7, 8]) := Lib.hid (lit_rd w3 _ _ _ rfl (by simp [maxLen]))
    have lw4 : b < w3.heap.size := HC3.out.src.lt
    refine (l01Pick_any b a m c bs w3.heap.size 3 3 [6, 7, 8] _ (by exact HC3.out.src.al _) hmc (by exact HL4.out) rfl (by omega) (by omega) (by omega)).mono ?_
    rintro e w4 ⟨n2, rfl, hx, hs, hc⟩
    have hn2b : 6 ≤ n2 ∧ n2 ≤ 8 := by simp at hx; omega
    obtain ⟨n2, rfl⟩ : ∃ x' : Nat, n2 = x' := ⟨n2.toNat, by omega⟩
    have hn2 : n2 ≤ 8 := by omega
    have HC4 := Lib.hid ((HC3.out.al (.cells #[.int .i64 6, .int .i64 7, .int .i64 8] 2)).next hs hc rfl rfl rfl rfl)
    have HR4 := Lib.hid ((HR3.out.alloc (.cells #[.int .i64 6, .int .i64 7, .int .i64 8] 2)).src hc (by omega))
    clear hs hc hx hn2b HL4 HC3 HR3
    go_wp2_with fail
    refine (l01Next_any b a m c bs 25 _ (by exact HC4.out.src) (by omega) hmc).mono ?_
    rintro e w5 ⟨y, rfl, hy0, hy1, hs, hc⟩
    obtain ⟨y, rfl⟩ : ∃ x' : Nat, y = x' := ⟨y.toNat, by omega⟩
    have hy : y < 25 := by omega
    have HC5 := Lib.hid (HC4.out.next hs hc rfl rfl rfl rfl)
    have HR5 := Lib.hid (HR4.out.src hc (by omega))
    clear hs hc hy0 hy1 HC4 HR4


    by_cases hy0 : y = 0
    · --
      have e9 : ((y : Int) == 0) = true := by simp [hy0]
      clear hy0 hy
      go_wp2_with fail
      have HR5lt := HR5.out.lt
      refine (l02Draw_any b a m c bs w5 HC5.out.src hmc).mono ?_
      rintro e wd hpost
      unfold DrawnM at hpost
      obtain ⟨P, Q, ab, nb, cb, ys, rfl, hP, hQ, hm, hn1, hn2, hs, hc⟩ := hpost
      have HCD := Lib.hid (HC5.out.next hs hc rfl rfl rfl rfl)
      have HRD := Lib.hid (HR5.out.src hc (by omega))
      have HMD := Lib.hid (hm.mono (B' := w.heap.size + 1) (by omega))
      have HPD := Lib.hid hP
      have HQD := Lib.hid hQ
      have HND := Lib.hid hn2
      clear hs hc hm hP hQ hn2

      have z0 := HRD.out.cell 0
      have z1 := HRD.out.cell 1
      have z2 := HRD.out.cell 2
      have f0 := HRD.out.frz 0
      have f1 := HRD.out.frz 1
      have f2 := HRD.out.frz 2
      have lr := HRD.out.lt
      simp at z0 z1 z2
      have HCE := Lib.hid (((HCD.out.set ⟨w.heap.size, 0, none⟩ (Nat.le_refl _) (.int .i64 P)).set ⟨w.heap.size, 1, none⟩ (Nat.le_refl _) (.int .i64 Q)).set ⟨w.heap.size, 2, none⟩ (Nat.le_refl _) (.slice ab nb cb))
      have HME := Lib.hid ((((HMD.out.setLow ⟨w.heap.size, 0, none⟩ (by simp) (.int .i64 P)).setLow ⟨w.heap.size, 1, none⟩ (by simp) (.int .i64 Q)).setLow ⟨w.heap.size, 2, none⟩ (by simp) (.slice ab nb cb)).mono (B' := w.heap.size) (by omega))
      have X := ((HRD.out.set 0 (.int .i64 P)).set 1 (.int .i64 Q)).set 2 (.slice ab nb cb)
      have q0 := X.cell 0
      have q1 := X.cell 1
      have q2 := X.cell 2
      simp at q0 q1 q2
      go_wp2_with fail
      refine bodyPost_ret (v := .agg #[.int .i64 P, .int .i64 Q, .slice ab nb cb]) (by simp [results, Try.results20, go_sem, q0, q1, q2]) rfl (by unfold DrawnM; exact ⟨P, Q, ab, nb, cb, ys, rfl, HPD.out, HQD.out, HME.out, hn1, HND.out, HCE.out.src, HCE.out.chg⟩)
    · --
      have e9 : ((y : Int) == 0) = false := beq_eq_false_iff_ne.2 (by omega)
      clear hy0 hy
      go_wp2_with fail
      have HR5lt := HR5.out.lt
      refine (l03Make_any b a m c bs p n2 w5 HC5.out.src hmc HP.out (by omega)).mono ?_
      rintro e wr ⟨xs, ar, cr, rfl, hm, hw, hwl, hs, hc⟩
      have HCR := Lib.hid (HC5.out.next hs hc rfl rfl rfl rfl)
      have HRR := Lib.hid (HR5.out.src hc (by omega))
      have HMR := Lib.hid hm
      have HWR := Lib.hid hw
      have hs01_wr := hc.size
      have HRRlt := HR5lt
      clear hs hc hm hw
      go_wp2_with fail

      obtain ⟨A, C, hown⟩ := HMR.out
      have HOW := Lib.hid hown
      have hcb := HC5.out.src.codeLt
      have HCB := Lib.hid hcb
      have hsb : w.heap.size < w5.heap.size := HRRlt
      have hs01 : w5.heap.size ≤ wr.heap.size := hs01_wr
      clear hown hcb
      refine (l02Bend_any b a m c bs p n2 ar xs.length cr xs A C w5.heap.size wr HCR.out.src hmc (by omega) (by omega) HCB.out (by omega) (by omega) HOW.out (by omega) (fun i hi => by rw [HWR.out.row i (by rw [HOW.out.len]; exact hi)]; omega)).mono ?_
      rintro e wb hpost
      unfold BentM at hpost
      obtain ⟨P, Q, ab, nb, cb, ys, rfl, hP, hQ, hm, hn1, hn2, hs, hc⟩ := hpost
      have HCB2 := Lib.hid (HCR.out.bent hs hc (by omega))
      have HRB := Lib.hid (HRR.out.chg hc (by omega))
      have HMB := Lib.hid (hm.mono (B' := w.heap.size + 1) (by omega))
      have HPB := Lib.hid hP
      have HQB := Lib.hid hQ
      have HNB := Lib.hid hn2
      clear hs hc hm hP hQ hn2

      have z0 := HRB.out.cell 0
      have z1 := HRB.out.cell 1
      have z2 := HRB.out.cell 2
      have f0 := HRB.out.frz 0
      have f1 := HRB.out.frz 1
      have f2 := HRB.out.frz 2
      have lr := HRB.out.lt
      simp at z0 z1 z2
      have HCE := Lib.hid (((HCB2.out.set ⟨w.heap.size, 0, none⟩ (Nat.le_refl _) (.int .i64 P)).set ⟨w.heap.size, 1, none⟩ (Nat.le_refl _) (.int .i64 Q)).set ⟨w.heap.size, 2, none⟩ (Nat.le_refl _) (.slice ab nb cb))
      have HME := Lib.hid ((((HMB.out.setLow ⟨w.heap.size, 0, none⟩ (by simp) (.int .i64 P)).setLow ⟨w.heap.size, 1, none⟩ (by simp) (.int .i64 Q)).setLow ⟨w.heap.size, 2, none⟩ (by simp) (.slice ab nb cb)).mono (B' := w.heap.size) (by omega))
      have X := ((HRB.out.set 0 (.int .i64 P)).set 1 (.int .i64 Q)).set 2 (.slice ab nb cb)
      have q0 := X.cell 0
      have q1 := X.cell 1
      have q2 := X.cell 2
      simp at q0 q1 q2
      go_wp2_with fail
      refine bodyPost_ret (v := .agg #[.int .i64 P, .int .i64 Q, .slice ab nb cb]) (by simp [results, Try.results20, go_sem, q0, q1, q2]) rfl (by unfold DrawnM; exact ⟨P, Q, ab, nb, cb, ys, rfl, HPB.out, HQB.out, HME.out, hn1, HNB.out, HCE.out.src, HCE.out.chg⟩)
  · have e0 : ((z : Int) == 0) = false := beq_eq_false_iff_ne.2 (by omega)
    clear hz0 hz
    go_wp2_with fail
    refine (l01Next_any b a m c bs 25 _ (by exact HC3.out.src) (by omega) hmc).mono ?_
    rintro e w5 ⟨y, rfl, hy0, hy1, hs, hc⟩
    obtain ⟨y, rfl⟩ : ∃ x' : Nat, y = x' := ⟨y.toNat, by omega⟩
    have hy : y < 25 := by omega
    have HC5 := Lib.hid (HC3.out.next hs hc rfl rfl rfl rfl)
    have HR5 := Lib.hid (HR3.out.src hc (by omega))
    clear hs hc hy0 hy1 HC3 HR3


    by_cases hy0 : y = 0
    · --
      have e9 : ((y : Int) == 0) = true := by simp [hy0]
      clear hy0 hy
      go_wp2_with fail
      have HR5lt := HR5.out.lt
      refine (l02Draw_any b a m c bs w5 HC5.out.src hmc).mono ?_
      rintro e wd hpost
      unfold DrawnM at hpost
      obtain ⟨P, Q, ab, nb, cb, ys, rfl, hP, hQ, hm, hn1, hn2, hs, hc⟩ := hpost
      have HCD := Lib.hid (HC5.out.next hs hc rfl rfl rfl rfl)
      have HRD := Lib.hid (HR5.out.src hc (by omega))
      have HMD := Lib.hid (hm.mono (B' := w.heap.size + 1) (by omega))
      have HPD := Lib.hid hP
      have HQD := Lib.hid hQ
      have HND := Lib.hid hn2
      clear hs hc hm hP hQ hn2

      have z0 := HRD.out.cell 0
      have z1 := HRD.out.cell 1
      have z2 := HRD.out.cell 2
      have f0 := HRD.out.frz 0
      have f1 := HRD.out.frz 1
      have f2 := HRD.out.frz 2
      have lr := HRD.out.lt
      simp at z0 z1 z2
      have HCE := Lib.hid (((HCD.out.set ⟨w.heap.size, 0, none⟩ (Nat.le_refl _) (.int .i64 P)).set ⟨w.heap.size, 1, none⟩ (Nat.le_refl _) (.int .i64 Q)).set ⟨w.heap.size, 2, none⟩ (Nat.le_refl _) (.slice ab nb cb))
      have HME := Lib.hid ((((HMD.out.setLow ⟨w.heap.size, 0, none⟩ (by simp) (.int .i64 P)).setLow ⟨w.heap.size, 1, none⟩ (by simp) (.int .i64 Q)).setLow ⟨w.heap.size, 2, none⟩ (by simp) (.slice ab nb cb)).mono (B' := w.heap.size) (by omega))
      have X := ((HRD.out.set 0 (.int .i64 P)).set 1 (.int .i64 Q)).set 2 (.slice ab nb cb)
      have q0 := X.cell 0
      have q1 := X.cell 1
      have q2 := X.cell 2
      simp at q0 q1 q2
      go_wp2_with fail
      refine bodyPost_ret (v := .agg #[.int .i64 P, .int .i64 Q, .slice ab nb cb]) (by simp [results, Try.results20, go_sem, q0, q1, q2]) rfl (by unfold DrawnM; exact ⟨P, Q, ab, nb, cb, ys, rfl, HPD.out, HQD.out, HME.out, hn1, HND.out, HCE.out.src, HCE.out.chg⟩)
    · --
      have e9 : ((y : Int) == 0) = false := beq_eq_false_iff_ne.2 (by omega)
      clear hy0 hy
      go_wp2_with fail
      have HR5lt := HR5.out.lt
      refine (l03Make_any b a m c bs p n w5 HC5.out.src hmc HP.out (by omega)).mono ?_
      rintro e wr ⟨xs, ar, cr, rfl, hm, hw, hwl, hs, hc⟩
      have HCR := Lib.hid (HC5.out.next hs hc rfl rfl rfl rfl)
      have HRR := Lib.hid (HR5.out.src hc (by omega))
      have HMR := Lib.hid hm
      have HWR := Lib.hid hw
      have hs01_wr := hc.size
      have HRRlt := HR5lt
      clear hs hc hm hw
      go_wp2_with fail

      obtain ⟨A, C, hown⟩ := HMR.out
      have HOW := Lib.hid hown
      have hcb := HC5.out.src.codeLt
      have HCB := Lib.hid hcb
      have hsb : w.heap.size < w5.heap.size := HRRlt
      have hs01 : w5.heap.size ≤ wr.heap.size := hs01_wr
      clear hown hcb
      refine (l02Bend_any b a m c bs p n ar xs.length cr xs A C w5.heap.size wr HCR.out.src hmc (by omega) (by omega) HCB.out (by omega) (by omega) HOW.out (by omega) (fun i hi => by rw [HWR.out.row i (by rw [HOW.out.len]; exact hi)]; omega)).mono ?_
      rintro e wb hpost
      unfold BentM at hpost
      obtain ⟨P, Q, ab, nb, cb, ys, rfl, hP, hQ, hm, hn1, hn2, hs, hc⟩ := hpost
      have HCB2 := Lib.hid (HCR.out.bent hs hc (by omega))
      have HRB := Lib.hid (HRR.out.chg hc (by omega))
      have HMB := Lib.hid (hm.mono (B' := w.heap.size + 1) (by omega))
      have HPB := Lib.hid hP
      have HQB := Lib.hid hQ
      have HNB := Lib.hid hn2
      clear hs hc hm hP hQ hn2

      have z0 := HRB.out.cell 0
      have z1 := HRB.out.cell 1
      have z2 := HRB.out.cell 2
      have f0 := HRB.out.frz 0
      have f1 := HRB.out.frz 1
      have f2 := HRB.out.frz 2
      have lr := HRB.out.lt
      simp at z0 z1 z2
      have HCE := Lib.hid (((HCB2.out.set ⟨w.heap.size, 0, none⟩ (Nat.le_refl _) (.int .i64 P)).set ⟨w.heap.size, 1, none⟩ (Nat.le_refl _) (.int .i64 Q)).set ⟨w.heap.size, 2, none⟩ (Nat.le_refl _) (.slice ab nb cb))
      have HME := Lib.hid ((((HMB.out.setLow ⟨w.heap.size, 0, none⟩ (by simp) (.int .i64 P)).setLow ⟨w.heap.size, 1, none⟩ (by simp) (.int .i64 Q)).setLow ⟨w.heap.size, 2, none⟩ (by simp) (.slice ab nb cb)).mono (B' := w.heap.size) (by omega))
      have X := ((HRB.out.set 0 (.int .i64 P)).set 1 (.int .i64 Q)).set 2 (.slice ab nb cb)
      have q0 := X.cell 0
      have q1 := X.cell 1
      have q2 := X.cell 2
      simp at q0 q1 q2
      go_wp2_with fail
      refine bodyPost_ret (v := .agg #[.int .i64 P, .int .i64 Q, .slice ab nb cb]) (by simp [results, Try.results20, go_sem, q0, q1, q2]) rfl (by unfold DrawnM; exact ⟨P, Q, ab, nb, cb, ys, rfl, HPB.out, HQB.out, HME.out, hn1, HNB.out, HCE.out.src, HCE.out.chg⟩)
theorem RdR.likeR {w w2 : World} {a : Option Addr} {xs : List (List Int)} (h : RdR w a xs) (h1 : w2.heap = w.heap) : RdR w2 a xs := fun h0 => by
  obtain ⟨b, o, ha, hc⟩ := h h0
  refine ⟨b, o, ha, fun i hi => ?_⟩
  obtain ⟨ai, ci, h2, h3, h4⟩ := hc i hi
  refine ⟨ai, ci, ?_, h3.same (fun p hp => by rw [h1]), h4⟩
  rw [World.cell?_of_block (w := w) (a := ⟨b, o + i, none⟩) (by rw [h1])]
  exact h2
/-- a row that is not the call's own, appended to rows that are -/
theorem rdR_alias {T1 : TypeId} {w : World} {B n cap nr cr : Nat} {ad ar : Option Addr} {R : List (List Int)} {A : Nat → Option Addr} {C : Nat → Nat} {row : List Int} (hown : w.ownsRow B T1 1 (.slice ad (n + 1) cap) (n + 1) (rowVals R A C n ++ [.slice ar nr cr])) (hl : R.length = n) (hR : ∀ i, i < n → RdI w (A i) (rw_ R i) ∧ (rw_ R i).length ≤ C i) (hr : RdI w ar row) (hrl : row.length = nr) (hrc : nr ≤ cr) : RdR w ad (R ++ [row]) := fun _ => by
  obtain ⟨g, hg, hc⟩ := ownsRow_cell hown (by omega)
  refine ⟨g, 0, hg, fun i hi => ?_⟩
  simp only [List.length_append, List.length_cons, List.length_nil] at hi
  rw [Nat.zero_add]
  by_cases hin : i < n
  · refine ⟨A i, C i, ?_, ?_, ?_⟩
    · rw [hc i (by omega), List.getElem?_append_left (by rw [rowVals_len]; exact hin), rowVals_get hin, rw_append_lt (by omega)]
    · rw [rw_append_lt (by omega)]; exact (hR i hin).1
    · rw [rw_append_lt (by omega)]; exact (hR i hin).2
  · obtain rfl : i = n := by omega
    have e : rw_ (R ++ [row]) i = row := by rw [← hl]; exact rw_append_eq
    refine ⟨ar, cr, ?_, ?_, ?_⟩
    · rw [hc i (by omega), List.getElem?_append_right (by rw [rowVals_len]; omega), rowVals_len, Nat.sub_self, e, hrl]
      rfl
    · rw [e]; exact hr
    · rw [e, hrl]; exact hrc
set_option maxRecDepth 20000 in
set_option maxHeartbeats 4000000 in
theorem l03Partner_any (b : Nat) (a : Option Addr) (m c : Nat) (bs : List Int) (p q : Int) (a0 : Option Addr) (n0 c0 : Nat) (xs : List (List Int)) (L : Nat) (w : World) (hs : Src w b a m c bs) (hmc : m ≤ c) (hp : I64 p) (hq : I64 q) (hm : MadeR 52 2 w L a0 n0 c0 xs) (hL : b < L) (hn : n0 ≤ 100) (hx : ∀ i, i < n0 → (rw_ xs i).length ≤ 100) :
    Calls Try.prog 21 #[.pointer (some ⟨b, 0, none⟩), .agg #[.int .i64 p, .int .i64 q, .slice a0 n0 c0]] w (DrawnM w b a m c bs) := by
  have HC0 := Lib.hid (((SC.start hs).al (.cells #[.int .i64 p, .int .i64 q, .slice a0 n0 c0] 26)).al (.cells #[.int .i64 0, .int .i64 0, .slice none 0 0] 26))
  have HU0 : Hid (BX 26 ((w.alloc (.cells #[.int .i64 p, .int .i64 q, .slice a0 n0 c0] 26)).alloc (.cells #[.int .i64 0, .int .i64 0, .slice none 0 0] 26)) w.heap.size #[.int .i64 p, .int .i64 q, .slice a0 n0 c0]) := Lib.hid ((BX.new w _ _).alloc _)
  have HR0 : Hid (BX 26 ((w.alloc (.cells #[.int .i64 p, .int .i64 q, .slice a0 n0 c0] 26)).alloc (.cells #[.int .i64 0, .int .i64 0, .slice none 0 0] 26)) (w.heap.size + 1) #[.int .i64 0, .int .i64 0, .slice none 0 0]) := Lib.hid (by
    have := BX.new (w.alloc (.cells #[.int .i64 p, .int .i64 q, .slice a0 n0 c0] 26)) 26 #[.int .i64 0, .int .i64 0, .slice none 0 0]
    simp at this
    exact this)
  have HM0 : Hid (MadeR 52 2 ((w.alloc (.cells #[.int .i64 p, .int .i64 q, .slice a0 n0 c0] 26)).alloc (.cells #[.int .i64 0, .int .i64 0, .slice none 0 0] 26)) L a0 n0 c0 xs) := Lib.hid ((hm.alloc _).alloc _)
  have lb : b < w.heap.size := hs.lt
  have HPI := Lib.hid hp
  have HQI := Lib.hid hq
  have HXI := Lib.hid hx
  have HLO : Hid (∃ A C, OwnR 52 2 w L a0 n0 c0 xs A C) := Lib.hid hm
  have hcap := hm.capl
  have HLEN := Lib.hid hm.len
  clear hs hp hq hm hx
  go_enter Try.func21, Try.ntmps21
  go_wp2_with fail
  refine (spec_IsSubspace_any p q a0 n0 c0 xs _ HPI.out HQI.out (by exact HM0.out.rd) HLEN.out (fun i hi => Nat.le_trans (HXI.out i hi) (by omega)) (by omega) hcap).mono ?_
  rintro e w1 ⟨rfl, hb⟩
  have HC1 := Lib.hid (HC0.out.low hb (by simp; omega) rfl rfl rfl rfl)
  have HU1 := Lib.hid (HU0.out.keep hb)
  have HR1 := Lib.hid (HR0.out.keep hb)
  have HM1 := Lib.hid (HM0.out.keep hb (Nat.le_refl _))
  clear hb HC0 HU0 HR0 HM0
  cases hsub : subB xs p q
  · go_wp2_with fail
    refine (l03Draw_any b a m c bs w1 HC1.out.src hmc).mono ?_
    rintro e wd hpost
    unfold DrawnM at hpost
    obtain ⟨P, Q, ab, nb, cb, ys, rfl, hP, hQ, hm, hn1, hn2, hs, hc⟩ := hpost
    have HCD := Lib.hid (HC1.out.next hs hc rfl rfl rfl rfl)
    have HRD := Lib.hid (HR1.out.src hc (by omega))
    have hszd := HR1.out.lt
    have HMD := Lib.hid (hm.mono (B' := w.heap.size + 1 + 1) (by omega))
    have HPD := Lib.hid hP
    have HQD := Lib.hid hQ
    have HND := Lib.hid hn2
    clear hs hc hm hP hQ hn2

    have z0 := HRD.out.cell 0
    have z1 := HRD.out.cell 1
    have z2 := HRD.out.cell 2
    have f0 := HRD.out.frz 0
    have f1 := HRD.out.frz 1
    have f2 := HRD.out.frz 2
    have lr := HRD.out.lt
    simp at z0 z1 z2
    have HCE := Lib.hid (((HCD.out.set ⟨w.heap.size + 1, 0, none⟩ (by simp) (.int .i64 P)).set ⟨w.heap.size + 1, 1, none⟩ (by simp) (.int .i64 Q)).set ⟨w.heap.size + 1, 2, none⟩ (by simp) (.slice ab nb cb))
    have HME := Lib.hid ((((HMD.out.setLow ⟨w.heap.size + 1, 0, none⟩ (by simp) (.int .i64 P)).setLow ⟨w.heap.size + 1, 1, none⟩ (by simp) (.int .i64 Q)).setLow ⟨w.heap.size + 1, 2, none⟩ (by simp) (.slice ab nb cb)).mono (B' := w.heap.size) (by omega))
    have X := ((HRD.out.set 0 (.int .i64 P)).set 1 (.int .i64 Q)).set 2 (.slice ab nb cb)
    have q0 := X.cell 0
    have q1 := X.cell 1
    have q2 := X.cell 2
    simp at q0 q1 q2
    go_wp2_with fail
    refine bodyPost_ret (v := .agg #[.int .i64 P, .int .i64 Q, .slice ab nb cb]) (by simp [results, Try.results21, go_sem, q0, q1, q2]) rfl (by unfold DrawnM; exact ⟨P, Q, ab, nb, cb, ys, rfl, HPD.out, HQD.out, HME.out, hn1, HND.out, HCE.out.src, HCE.out.chg⟩)
  · have HSB := Lib.hid hsub
    have HMX := Lib.hid (isMx_ok (subB_yes hsub).1)
    clear hsub
    go_wp2_with fail
    refine (l01Next_any b a m c bs 20 w1 HC1.out.src (by omega) hmc).mono ?_
    rintro e w2 ⟨y, rfl, hy0, hy1, hs, hc⟩
    have HC2 := Lib.hid (HC1.out.next hs hc rfl rfl rfl rfl)
    have HU2 := Lib.hid (HU1.out.src hc (by omega))
    have HR2 := Lib.hid (HR1.out.src hc (by omega))
    have HM2 := Lib.hid (HM1.out.kept hc (fun k hk e => by omega))
    clear hs hc HC1 HU1 HR1 HM1
    by_cases hyz : y = 0
    · have e0 : (y == 0) = true := beq_iff_eq.2 hyz
      clear hyz hy0 hy1
      go_wp2_with fail
      refine (l03Draw_any b a m c bs w2 HC2.out.src hmc).mono ?_
      rintro e wd hpost
      unfold DrawnM at hpost
      obtain ⟨P, Q, ab, nb, cb, ys, rfl, hP, hQ, hm, hn1, hn2, hs, hc⟩ := hpost
      have HCD := Lib.hid (HC2.out.next hs hc rfl rfl rfl rfl)
      have HRD := Lib.hid (HR2.out.src hc (by omega))
      have hszd := HR2.out.lt
      have HMD := Lib.hid (hm.mono (B' := w.heap.size + 1 + 1) (by omega))
      have HPD := Lib.hid hP
      have HQD := Lib.hid hQ
      have HND := Lib.hid hn2
      clear hs hc hm hP hQ hn2

      have z0 := HRD.out.cell 0
      have z1 := HRD.out.cell 1
      have z2 := HRD.out.cell 2
      have f0 := HRD.out.frz 0
      have f1 := HRD.out.frz 1
      have f2 := HRD.out.frz 2
      have lr := HRD.out.lt
      simp at z0 z1 z2
      have HCE := Lib.hid (((HCD.out.set ⟨w.heap.size + 1, 0, none⟩ (by simp) (.int .i64 P)).set ⟨w.heap.size + 1, 1, none⟩ (by simp) (.int .i64 Q)).set ⟨w.heap.size + 1, 2, none⟩ (by simp) (.slice ab nb cb))
      have HME := Lib.hid ((((HMD.out.setLow ⟨w.heap.size + 1, 0, none⟩ (by simp) (.int .i64 P)).setLow ⟨w.heap.size + 1, 1, none⟩ (by simp) (.int .i64 Q)).setLow ⟨w.heap.size + 1, 2, none⟩ (by simp) (.slice ab nb cb)).mono (B' := w.heap.size) (by omega))
      have X := ((HRD.out.set 0 (.int .i64 P)).set 1 (.int .i64 Q)).set 2 (.slice ab nb cb)
      have q0 := X.cell 0
      have q1 := X.cell 1
      have q2 := X.cell 2
      simp at q0 q1 q2
      go_wp2_with fail
      refine bodyPost_ret (v := .agg #[.int .i64 P, .int .i64 Q, .slice ab nb cb]) (by simp [results, Try.results21, go_sem, q0, q1, q2]) rfl (by unfold DrawnM; exact ⟨P, Q, ab, nb, cb, ys, rfl, HPD.out, HQD.out, HME.out, hn1, HND.out, HCE.out.src, HCE.out.chg⟩)
    · have e0 : (y == 0) = false := beq_eq_false_iff_ne.2 hyz
      clear hyz hy0 hy1
      have hgp : 2 ≤ p ∧ p ≤ 7 := HMX.out.gp.bd
      obtain ⟨Q, hQ⟩ : ∃ Q : Nat, q = Q := ⟨q.toNat, by have := HMX.out.q0; omega⟩
      subst hQ
      have hQ8 : Q ≤ 8 := by have := HMX.out.q8; omega
      have u0 := HU2.out.cell 0
      have u1 := HU2.out.cell 1
      have u2 := HU2.out.cell 2
      have lu := HU2.out.lt
      simp at u0 u1 u2
      go_wp2_with fail
      refine (l03Make_any b a m c bs p Q w2 HC2.out.src hmc HMX.out.gp hQ8).mono ?_
      rintro e w3 ⟨R, av, cv, rfl, hm, hw, hwl, hs, hc⟩
      have HC3 := Lib.hid ((HC2.out.next hs hc rfl rfl rfl rfl).al (.cells #[.int .i64 p, .int .i64 Q, .slice av R.length cv] 26))
      have HU3 := Lib.hid ((HU2.out.src hc (by omega)).alloc (.cells #[.int .i64 p, .int .i64 Q, .slice av R.length cv] 26))
      have HR3 := Lib.hid ((HR2.out.src hc (by omega)).alloc (.cells #[.int .i64 p, .int .i64 Q, .slice av R.length cv] 26))
      have HM3 := Lib.hid ((HM2.out.kept hc (fun k hk e => by omega)).alloc (.cells #[.int .i64 p, .int .i64 Q, .slice av R.length cv] 26))
      have HV3 : Hid (BX 26 (w3.alloc (.cells #[.int .i64 p, .int .i64 Q, .slice av R.length cv] 26)) w3.heap.size #[.int .i64 p, .int .i64 Q, .slice av R.length cv]) := Lib.hid (BX.new _ _ _)
      have hs2 : w.heap.size + 1 + 1 ≤ w2.heap.size := HR2.out.lt
      have s23 := hc.size
      obtain ⟨A, C, hown⟩ := hm
      have HLV : Hid (Low av R.length A w3.heap.size) := Lib.hid ⟨fun p hp => (ownsRow_block hown.own p hp).2, fun i hi p hp => ((hown.row i hi).block p hp).2⟩
      have HOV3 : Hid (OwnR 52 2 (w3.alloc (.cells #[.int .i64 p, .int .i64 Q, .slice av R.length cv] 26)) w2.heap.size av R.length cv R A C) := Lib.hid (hown.keep ((Below.refl w3.heap.size w3).alloc (Nat.le_refl _) _) (Nat.le_refl _))
      have HW3 := Lib.hid hw
      have HLR : Hid (∀ i, i < R.length → (rw_ R i).length ≤ 100) := Lib.hid (fun i hi => by rw [hw.row i hi]; omega)
      clear hs hc hown hw HC2 HU2 HR2 HM2 u0 u1 u2 lu
      go_wp2_with fail
      refine (l01Next_any b a m c bs 3 _ (by exact HC3.out.src) (by omega) hmc).mono ?_
      rintro e w4 ⟨z, rfl, hz0, hz1, hs, hc⟩
      have HC4 := Lib.hid (HC3.out.next hs hc rfl rfl rfl rfl)
      have HU4 := Lib.hid (HU3.out.src hc (by omega))
      have HR4 := Lib.hid (HR3.out.src hc (by omega))
      have HM4 := Lib.hid (HM3.out.kept hc (fun k hk e => by omega))
      have HV4 := Lib.hid (HV3.out.src hc (by omega))
      have HOV4 := Lib.hid (HOV3.out.kept hc (fun p hp e => by have := (ownsRow_block HOV3.out.own p hp).1; omega) (fun i hi p hp e => by have := ((HOV3.out.row i hi).block p hp).1; omega))
      clear hs hc HC3 HU3 HR3 HM3 HV3 HOV3
      have HMV4 : Hid (MadeR 52 2 w4 (w.heap.size + 1 + 1) av R.length cv R) := Lib.hid ⟨A, C, HOV4.out.mono hs2⟩
      have u0 := HU4.out.cell 0
      have u1 := HU4.out.cell 1
      have u2 := HU4.out.cell 2
      have lu := HU4.out.lt
      simp at u0 u1 u2
      by_cases hzz : z = 0
      · have e1 : (z == 0) = true := beq_iff_eq.2 hzz
        clear hzz hz0 hz1
        by_cases hn0 : 0 < n0
        · have d1 : (0 : Int) < (n0 : Int) := by omega
          go_wp2_with fail
          refine (l01Next_any b a m c bs n0 _ (by exact HC4.out.src) (by omega) hmc).mono ?_
          rintro e w5 ⟨k, rfl, hk0, hk1, hs, hc⟩
          obtain ⟨k, rfl⟩ : ∃ k' : Nat, k = k' := ⟨k.toNat, by omega⟩
          have hk : k < n0 := by omega
          have K1 : (k : Int) < (n0 : Int) := by omega
          have HC5 := Lib.hid (HC4.out.next hs hc rfl rfl rfl rfl)
          have HU5 := Lib.hid (HU4.out.src hc (by omega))
          have HR5 := Lib.hid (HR4.out.src hc (by omega))
          have HM5 := Lib.hid (HM4.out.kept hc (fun k hk e => by omega))
          have hv3 := HV4.out.lt
          have HV5 := Lib.hid (HV4.out.src hc (by omega))
          have HOV5 := Lib.hid (HOV4.out.kept hc (fun p hp e => by have := (ownsRow_block HOV4.out.own p hp).1; omega) (fun i hi p hp e => by have := ((HOV4.out.row i hi).block p hp).1; omega))
          have s45 := hc.size
          clear hs hc HC4 HU4 HR4 HM4 HV4 HOV4 HMV4 hk0 hk1 u0 u1 u2 lu
          obtain ⟨Au, Cu, hou⟩ := HM5.out
          obtain ⟨Aw, Cw, how⟩ := HLO.out
          obtain ⟨g, rfl, hcl, _, _, hgl⟩ := hou.addr hn0
          have hgw : g < w.heap.size := (ownsRow_block how.own _ rfl).2
          have hck := hcl k hk
          have hrow := hou.row k hk
          have hrlen : (rw_ xs k).length = Q := by have := (HMX.out.row k (by rw [HLEN.out]; exact hk)).1; omega
          have hku := hrow.capl
          have RK5 := Lib.hid hrow.rd
          have hkb : ∀ p, Au k = some p → p.block < w.heap.size := by
            obtain ⟨g', e, hclw, _, hBw, _⟩ := how.addr hn0
            injection e with e
            injection e with e1
            subst e1
            have h1 := hclw k hk
            have h2 : w5.cell? ⟨g, k, none⟩ = w.cell? ⟨g, k, none⟩ := World.cell?_of_block (HC5.out.chg.block g hgw (by omega))
            rw [← h2, hck] at h1
            injection h1 with h1
            injection h1 with h1
            exact fun p hp => ((how.row k hk).block p (by rw [← h1]; exact hp)).2
          have HKB := Lib.hid hkb
          rw [hrlen] at hck hku
          have HRL := Lib.hid hrlen
          have HRG : Hid (∀ j, j < Q → 0 ≤ el (rw_ xs k) j ∧ el (rw_ xs k) j < p) := Lib.hid (fun j hj => by have := (HMX.out.row k (by rw [HLEN.out]; exact hk)).2 j (by rw [hrlen]; exact hj); omega)
          have HKU := Lib.hid hku
          have u0 := HU5.out.cell 0
          have u1 := HU5.out.cell 1
          have u2 := HU5.out.cell 2
          have lu := HU5.out.lt
          simp at u0 u1 u2
          have v2 := HV5.out.cell 2
          have lv := HV5.out.lt
          simp at v2
          have g2 := HV5.out.frz 2
          have s25 : w2.heap.size ≤ w5.heap.size := by omega
          have HCA : Hid ((w5.alloc (.cells #[.slice (Au k) Q (Cu k)] 52)).cell? ⟨w5.heap.size, 0, none⟩ = some (.slice (Au k) Q (Cu k))) := Lib.hid ((BX.new _ _ _).cell 0)
          have HSA : Hid (w2.heap.size ≤ (w5.alloc (.cells #[.slice (Au k) Q (Cu k)] 52)).heap.size) := Lib.hid (by simp; omega)
          clear hcl hrow hkb hrlen hou how
          go_wp2_with fail
          go_region_law (first
            | (go_simp; go_at_call 47; (refine (l02Reduce_own p HMX.out.gp a6 (R.length + 1) c6 Q (R ++ [rw_ xs k]) _ (by exact HRD6.out.likeR rfl) (by rw [List.length_append]; rfl) (HW3.out.snoc HRL.out HRG.out) (by omega) (by omega)).mono ?_; rintro e w7 ⟨R2, a7, c7, rfl, hR2, hm7, hb7⟩; have HE7 : Hid (Below w6.heap.size w6 w7) := Lib.hid ⟨hb7.os, hb7.tape, hb7.output, hb7.size, hb7.block⟩; have HC7 := Lib.hid (HC6.out.low HE7.out (by omega) rfl rfl rfl rfl); have HR7 := Lib.hid (HR6.out.keep HE7.out); have HV7 := Lib.hid (HV6.out.keep HE7.out); have HM7 : Hid (MadeR 52 2 w7 w6.heap.size a7 R2.length c7 R2) := Lib.hid hm7; have HRR := Lib.hid hR2; have v27 := HV7.out.cell 2; have g27 := HV7.out.frz 2; have lv7 := HV7.out.lt; simp at v27; clear hm7 hb7 hR2))
            | ((refine step_pushW rfl (.tmp 40) (.tmp 46) 24 rfl w2.heap.size 52 (.slice none 0 0) 24 Try.underlying24 Try.infoR rfl (by decide) (.slice (Au k) Q (Cu k)) rfl av R.length cv (rowVals R A C R.length) w5.heap.size rfl rfl ?_ ?_ ?_ ?_ ?_; (exact HCA.out); (exact (HOV5.out.keep ((Below.refl w5.heap.size w5).alloc (Nat.le_refl _) (.cells #[.slice (Au k) Q (Cu k)] 52)) (Nat.le_refl _)).own); omega; (exact HSA.out); rintro a6 c6 w6 r6 q6 g6; have hblk : ∀ j, j < w2.heap.size → ¬ (∃ p, av = some p ∧ p.block = j) := (fun j hj hx => by obtain ⟨p, hp, e⟩ := hx; have := (ownsRow_block HOV5.out.own p hp).1; omega); have g6' : Chg (fun k => ∃ p, av = some p ∧ p.block = k) (w5.alloc (.cells #[.slice (Au k) Q (Cu k)] 52)) w6 := ⟨g6.os, g6.tape, g6.output, g6.size, g6.block⟩; have HE6 : Hid (Below w2.heap.size w5 w6) := Lib.hid (((Below.refl w2.heap.size w5).alloc s25 (.cells #[.slice (Au k) Q (Cu k)] 52)).trans (g6'.below (by simp; omega) hblk)); have s56 := HE6.out.size; have HC6 := Lib.hid (HC5.out.low HE6.out (by omega) rfl rfl rfl rfl); have HU6 : Hid (BX 26 w6 w.heap.size #[.int .i64 p, .int .i64 Q, .slice (some ⟨g, 0, none⟩) n0 c0]) := Lib.hid ((HE6.out.block w.heap.size (by omega)).trans HU5.out); have HR6 : Hid (BX 26 w6 (w.heap.size + 1) #[.int .i64 0, .int .i64 0, .slice none 0 0]) := Lib.hid ((HE6.out.block (w.heap.size + 1) (by omega)).trans HR5.out); have HV6 := Lib.hid ((HV5.out.alloc (.cells #[.slice (Au k) Q (Cu k)] 52)).chg g6' (fun hx => by obtain ⟨p, hp, e⟩ := hx; have := HLV.out.o p hp; omega)); have HRD6 : Hid (RdR w6 a6 (R ++ [rw_ xs k])) := Lib.hid (rdR_alias r6 rfl (fun i hi => ⟨(((HOV5.out.row i hi).alloc (.cells #[.slice (Au k) Q (Cu k)] 52)).kept g6' (fun p hp hx => by obtain ⟨q, hq, e⟩ := hx; exact HOV5.out.apo i hi q p hq hp e)).rd, (HOV5.out.row i hi).capl⟩) (RK5.out.same (fun p hp => HE6.out.block _ (Nat.lt_of_lt_of_le (HKB.out p hp) (by omega)))) HRL.out HKU.out); have u06 := HU6.out.cell 0; have lu6 := HU6.out.lt; have v26 := HV6.out.cell 2; simp at u06 v26; clear r6 q6 g6 g6' hblk)))
          all_goals
            have HV8 := Lib.hid (HV7.out.set 2 (.slice a7 R2.length c7))
            have HC8 := Lib.hid (HC7.out.set ⟨w3.heap.size, 2, none⟩ (by simp; omega) (.slice a7 R2.length c7))
            have HR8 := Lib.hid (HR7.out.other (p := ⟨w3.heap.size, 2, none⟩) (by simp; omega) (.slice a7 R2.length c7))
            have HM8 := Lib.hid ((HM7.out.setLow ⟨w3.heap.size, 2, none⟩ (by simp; omega) (.slice a7 R2.length c7)).mono (B' := w.heap.size + 1 + 1) (by omega))
            have hlen2 : R2.length ≤ Q := HRR.out.len
            have HL2 : Hid (∀ i, i < R2.length → (rw_ R2 i).length ≤ 100) := Lib.hid (fun i hi => by obtain ⟨piv, h, _⟩ := HRR.out; rw [h.len i hi]; omega)
            obtain ⟨w8, hw8⟩ : ∃ u, u = w7.setCell ⟨w3.heap.size, 2, none⟩ (.slice a7 R2.length c7) := ⟨_, rfl⟩
            rw [← hw8] at HV8 HC8 HR8 HM8 ⊢
            clear hw8 v27 g27 lv7 v26 u06 lu6 v2 lv g2 u0 u1 u2 lu hck
            have v0 := HV8.out.cell 0
            have v1 := HV8.out.cell 1
            have v2 := HV8.out.cell 2
            have lv := HV8.out.lt
            simp at v0 v1 v2

            have z0 := HR8.out.cell 0
            have z1 := HR8.out.cell 1
            have z2 := HR8.out.cell 2
            have f0 := HR8.out.frz 0
            have f1 := HR8.out.frz 1
            have f2 := HR8.out.frz 2
            have lr := HR8.out.lt
            simp at z0 z1 z2
            have HCE := Lib.hid (((HC8.out.set ⟨w.heap.size + 1, 0, none⟩ (by simp) (.int .i64 p)).set ⟨w.heap.size + 1, 1, none⟩ (by simp) (.int .i64 Q)).set ⟨w.heap.size + 1, 2, none⟩ (by simp) (.slice a7 R2.length c7))
            have HME := Lib.hid ((((HM8.out.setLow ⟨w.heap.size + 1, 0, none⟩ (by simp) (.int .i64 p)).setLow ⟨w.heap.size + 1, 1, none⟩ (by simp) (.int .i64 Q)).setLow ⟨w.heap.size + 1, 2, none⟩ (by simp) (.slice a7 R2.length c7)).mono (B' := w.heap.size) (by omega))
            have X := ((HR8.out.set 0 (.int .i64 p)).set 1 (.int .i64 Q)).set 2 (.slice a7 R2.length c7)
            have q0 := X.cell 0
            have q1 := X.cell 1
            have q2 := X.cell 2
            simp at q0 q1 q2
            go_wp2_with fail
            refine bodyPost_ret (v := .agg #[.int .i64 p, .int .i64 Q, .slice a7 R2.length c7]) (by simp [results, Try.results21, go_sem, q0, q1, q2]) rfl (by unfold DrawnM; exact ⟨p, Q, a7, R2.length, c7, R2, rfl, HPI.out, HQI.out, HME.out, by omega, HL2.out, HCE.out.src, HCE.out.chg⟩)
        · have d1 : ¬ (0 : Int) < (n0 : Int) := by omega
          have v0 := HV4.out.cell 0
          have v1 := HV4.out.cell 1
          have v2 := HV4.out.cell 2
          have lv := HV4.out.lt
          simp at v0 v1 v2

          have z0 := HR4.out.cell 0
          have z1 := HR4.out.cell 1
          have z2 := HR4.out.cell 2
          have f0 := HR4.out.frz 0
          have f1 := HR4.out.frz 1
          have f2 := HR4.out.frz 2
          have lr := HR4.out.lt
          simp at z0 z1 z2
          have HCE := Lib.hid (((HC4.out.set ⟨w.heap.size + 1, 0, none⟩ (by simp) (.int .i64 p)).set ⟨w.heap.size + 1, 1, none⟩ (by simp) (.int .i64 Q)).set ⟨w.heap.size + 1, 2, none⟩ (by simp) (.slice av R.length cv))
          have HME := Lib.hid ((((HMV4.out.setLow ⟨w.heap.size + 1, 0, none⟩ (by simp) (.int .i64 p)).setLow ⟨w.heap.size + 1, 1, none⟩ (by simp) (.int .i64 Q)).setLow ⟨w.heap.size + 1, 2, none⟩ (by simp) (.slice av R.length cv)).mono (B' := w.heap.size) (by omega))
          have X := ((HR4.out.set 0 (.int .i64 p)).set 1 (.int .i64 Q)).set 2 (.slice av R.length cv)
          have q0 := X.cell 0
          have q1 := X.cell 1
          have q2 := X.cell 2
          simp at q0 q1 q2
          go_wp2_with fail
          refine bodyPost_ret (v := .agg #[.int .i64 p, .int .i64 Q, .slice av R.length cv]) (by simp [results, Try.results21, go_sem, q0, q1, q2]) rfl (by unfold DrawnM; exact ⟨p, Q, av, R.length, cv, R, rfl, HPI.out, HQI.out, HME.out, by omega, HLR.out, HCE.out.src, HCE.out.chg⟩)
      · have e1 : (z == 0) = false := beq_eq_false_iff_ne.2 hzz
        clear hzz hz0 hz1
        have v0 := HV4.out.cell 0
        have v1 := HV4.out.cell 1
        have v2 := HV4.out.cell 2
        have lv := HV4.out.lt
        simp at v0 v1 v2

        have z0 := HR4.out.cell 0
        have z1 := HR4.out.cell 1
        have z2 := HR4.out.cell 2
        have f0 := HR4.out.frz 0
        have f1 := HR4.out.frz 1
        have f2 := HR4.out.frz 2
        have lr := HR4.out.lt
        simp at z0 z1 z2
        have HCE := Lib.hid (((HC4.out.set ⟨w.heap.size + 1, 0, none⟩ (by simp) (.int .i64 p)).set ⟨w.heap.size + 1, 1, none⟩ (by simp) (.int .i64 Q)).set ⟨w.heap.size + 1, 2, none⟩ (by simp) (.slice av R.length cv))
        have HME := Lib.hid ((((HMV4.out.setLow ⟨w.heap.size + 1, 0, none⟩ (by simp) (.int .i64 p)).setLow ⟨w.heap.size + 1, 1, none⟩ (by simp) (.int .i64 Q)).setLow ⟨w.heap.size + 1, 2, none⟩ (by simp) (.slice av R.length cv)).mono (B' := w.heap.size) (by omega))
        have X := ((HR4.out.set 0 (.int .i64 p)).set 1 (.int .i64 Q)).set 2 (.slice av R.length cv)
        have q0 := X.cell 0
        have q1 := X.cell 1
        have q2 := X.cell 2
        simp at q0 q1 q2
        go_wp2_with fail
        refine bodyPost_ret (v := .agg #[.int .i64 p, .int .i64 Q, .slice av R.length cv]) (by simp [results, Try.results21, go_sem, q0, q1, q2]) rfl (by unfold DrawnM; exact ⟨p, Q, av, R.length, cv, R, rfl, HPI.out, HQI.out, HME.out, by omega, HLR.out, HCE.out.src, HCE.out.chg⟩)
--ENDDRAWS
end Go.Proofs.Ytpkdgemnddcefaa
