/- The least vector that rows take to another one: the program. -/
import Derived.Test.YtngikcjdhbflkaaSolve
import Derived.Test.YtngikcjdhbflkaaMatLK
import Derived.Test.YtngikcjdhbflkaaInvI
import Derived.StillTailTactics
set_option linter.unusedVariables false
set_option linter.unusedSimpArgs false
namespace Go.Proofs.Ytngikcjdhbflkaa
open Go.RowKit

set_option maxHeartbeats 400000 in
theorem solveRows1_any (x : Int) (w : World) :
    Calls Try.prog 105 #[.int .i64 x] w fun e w' => e = .returned (.bool !(x == 0)) ∧ w = w' := by
  by_cases h : x = 0
  · subst h
    go_enter Try.func105, Try.ntmps105
    go_wp2
    go_ret
    exact ⟨ret_bool (by simp), rfl⟩
  · rw [show (!(x == 0)) = true from by simp [h]]
    go_enter Try.func105, Try.ntmps105
    go_wp2
    go_ret
    refine ⟨?_, rfl⟩
    simp [h]
set_option maxHeartbeats 800000 in
theorem indexLeadS_any (a : Option Addr) (n c : Nat) (xs : List Int) (k0 : Nat) (w : World) (ha : RdI w a xs) (hl : xs.length = n) (hn : n ≤ 1048576) (hk : k0 < n) (hlead : IsLead xs k0) :
    Calls Try.prog 104 #[.slice a n c, .func (.func 105) #[] #[]] w fun e w' => e = .returned (.int .i64 k0) ∧ w = w' := by
  have HA := Lib.hid ha
  have HL := Lib.hid hl
  have HD := Lib.hid hlead
  clear ha hl hlead
  go_enter Try.func104, Try.ntmps104
  go_wp2
  go_loop [8] (fun i => ∃ k : Nat, k ≤ k0 ∧ i = .int .i64 k) (fun i => n - (intOf i).toNat)
  case atStart => exact ⟨0, Nat.zero_le _, rfl⟩
  case round =>
    obtain ⟨k, hkk, rfl⟩ := hrel
    have hlt : k < n := by omega
    obtain ⟨b, o, rfl, hc⟩ := HA.out (by rw [HL.out]; omega)
    have d := hc k (by rw [HL.out]; exact hlt)
    clear hc
    by_cases he : k = k0
    · subst he
      have H : Hid ((!(el xs k == 0)) = true) := Lib.hid (by have := HD.out.2.2 (by rw [HL.out]; exact hlt); simp [this])
      go_wp2_with (go_at_call 105; refine (solveRows1_any _ _).mono ?_; rintro e w' ⟨rfl, rfl⟩; rw [H.out])
      go_ret
      exact ⟨rfl, rfl⟩
    · have H : Hid ((!(el xs k == 0)) = false) := Lib.hid (by have := HD.out.2.1 k (by omega); simp [this])
      go_wp2_with (go_at_call 105; refine (solveRows1_any _ _).mono ?_; rintro e w' ⟨rfl, rfl⟩; rw [H.out])
      go_round
      case rel => exact ⟨k + 1, by omega, by go_num⟩
      case measure => simp [intOf]; omega
/-- the entries from place m on, the first i of them negated -/
def nmix (p : Int) (m : Nat) (u : List Int) (i : Nat) : List Int := tab u.length fun j => if m ≤ j ∧ j < m + i then (-(el u j)) % p else el u j
theorem nmix_len (p : Int) (m : Nat) (u : List Int) (i : Nat) : (nmix p m u i).length = u.length := tab_len _ _
theorem nmix_zero (p : Int) (m : Nat) (u : List Int) : nmix p m u 0 = u := by
  unfold nmix
  rw [tab_congr (g := el u) (fun i _ => if_neg (by omega)), tab_el]
theorem nmix_el {p : Int} {m : Nat} {u : List Int} {i : Nat} (h : m + i < u.length) : el (nmix p m u i) (m + i) = el u (m + i) := by
  unfold nmix
  rw [el_tab h, if_neg (by omega)]
theorem nmix_set {p : Int} {m : Nat} {u : List Int} {i : Nat} (h : m + i < u.length) : (nmix p m u i).set (m + i) ((-(el u (m + i))) % p) = nmix p m u (i + 1) := by
  refine list_ext (by simp [nmix_len]) fun j hj => ?_
  have hj' : j < u.length := by simpa [nmix_len] using hj
  rw [el_set (by rw [nmix_len]; exact h)]
  unfold nmix
  rw [el_tab hj', el_tab hj']
  by_cases h1 : j = m + i
  · subst h1; rw [if_pos rfl, if_pos (by omega)]
  · rw [if_neg h1]
    by_cases h2 : m ≤ j ∧ j < m + i
    · rw [if_pos h2, if_pos (by omega)]
    · rw [if_neg h2, if_neg (by omega)]
theorem nmix_full {p : Int} {m n : Nat} {u : List Int} (h : u.length = m + n) : (nmix p m u n).drop m = negm p (u.drop m) := by
  refine list_ext (by rw [List.length_drop, nmix_len, negm_len, List.length_drop]) fun j hj => ?_
  rw [List.length_drop, nmix_len] at hj
  rw [el_drop]
  unfold nmix negm
  rw [el_tab (by omega), if_pos (by omega), el_tab (by rw [List.length_drop]; omega), el_drop]
set_option maxRecDepth 20000 in
set_option maxHeartbeats 4000000 in
theorem solveRows_any (p : Int) (hp : GP p) (a b : Option Addr) (n c m cb : Nat) (xss : List (List Int)) (v : List Int) (w : World) (ha : RdR w a xss) (hl : xss.length = n) (hr : Rws p m xss) (hb : RdI w b v) (hl2 : v.length = m) (hv : ∀ j, j < m → 0 ≤ el v j ∧ el v j < p) (hn : n ≤ 50) (hm : m ≤ 50) :
    Calls Try.prog 82 #[.agg #[.int .i64 p, .int .i64 m, .slice a n c], .slice b m cb] w fun e w' => ∃ (ok : Bool) (X : List Int) (a' : Option Addr) (c' : Nat), e = .returned (.tuple #[.slice a' X.length c', .bool ok]) ∧ SolR p m xss v ok X ∧ OwnI 2 w' w.heap.size a' X.length c' X ∧ Below w.heap.size w w' := by
  have HA := Lib.hid ha
  have HL := Lib.hid hl
  have HR := Lib.hid hr
  have HB := Lib.hid hb
  have HL2 := Lib.hid hl2
  have HV := Lib.hid hv
  have HP := Lib.hid hp
  obtain ⟨hp2, hp7⟩ := hp.bd
  clear ha hl hr hb hl2 hv hp
  go_enter Try.func82, Try.ntmps82
  go_wp2_with fail
  obtain ⟨W0, hW⟩ : ∃ W, W = w.alloc (.cells #[.int .i64 p, .int .i64 m, .slice a n c] 24) := ⟨_, rfl⟩
  rw [← hW]
  have X0 : Hid (BX 24 W0 w.heap.size #[.int .i64 p, .int .i64 m, .slice a n c]) := Lib.hid (by rw [hW]; exact BX.new w _ _)
  have HB0 : Hid (Below w.heap.size w W0) := Lib.hid (by rw [hW]; exact (Below.refl _ _).alloc (Nat.le_refl _) _)
  have s0 : W0.heap.size = w.heap.size + 1 := by rw [hW]; simp
  clear hW
  have p0 : W0.cell? ⟨w.heap.size, 0, none⟩ = some (.int .i64 p) := X0.out.cell 0
  have p2 : W0.cell? ⟨w.heap.size, 2, none⟩ = some (.slice a n c) := X0.out.cell 2
  have HBW : Hid (RdI W0 b v) := Lib.hid (HB.out.keep HB0.out (Nat.le_refl _))
  go_region_held3 (fun w' => w'.cell? ⟨w.heap.size, 2, none⟩ = some (.slice a n c)) (first | ((try dsimp only); with_reducible assumption) | go_keep)
    (first
      | (go_at_call 99; (with_reducible refine (clone_any _ _ _ v _ ?_ HL2.out (by omega)).mono ?_); exact (show RdI W0 b v from HBW.out); rintro e w1 ⟨a1, c1, rfl, ho, hb0⟩; have hb : Below W0.heap.size W0 w1 := ⟨hb0.os, hb0.tape, hb0.output, hb0.size, hb0.block⟩; have p2' := cell_below (p := ⟨w.heap.size, 2, none⟩) p2 hb; have HO1 : Hid (OwnI 2 w1 W0.heap.size a1 m c1 v) := Lib.hid ho; have HB1 := Lib.hid hb; have s1 := hb.size; clear ho hb hb0)
      | (refine step_appZ2 rfl (.tmp 16) (.tmp 19) 38 3 rfl W0.heap.size 2 (.int .i64 0) 8 .i64 .i64 Try.underlying38 Try.underlying3 Try.info2 rfl rfl (by decide) _ _ _ _ rfl n rfl (by exact HO1.out) (by omega) (by exact s1) ?_; intro a3 c3 w3 r3 g3; rw [zeros_rep] at r3; have HO3 := Lib.hid (app_own HO1.out HB1.out s1 r3 ⟨g3.os, g3.tape, g3.output, g3.size, g3.block⟩); have p2'' := cell_below (p := ⟨w.heap.size, 2, none⟩) p2 HO3.out.2; clear r3 g3))
  have p0'' := cell_below (p := ⟨w.heap.size, 0, none⟩) p0 HO3.out.2
  have s3 := HO3.out.2.size
  have HA3 : Hid (RdR w3 a xss) := Lib.hid (HA.out.keep (HB0.out.trans (HO3.out.2.mono HB0.out.size)) (Nat.le_refl _))
  go_wp2_with fail
  go_region_held3 (fun w' => w'.cell? ⟨w.heap.size, 0, none⟩ = some (.int .i64 p) ∧ w'.cell? ⟨w.heap.size, 2, none⟩ = some (.slice a n c)) (go_keep)
    (first
      | (go_at_call 103; (with_reducible refine (withIdentity_any _ n _ m xss _ ?_ HL.out (fun i hi => HR.out.row i (by rw [HL.out]; exact hi)) (by omega) (by omega)).mono ?_); exact (show RdR w3 a xss from HA3.out); rintro e w4 ⟨aw, cw, rfl, ho, hb0⟩; have hb : Below w3.heap.size w3 w4 := ⟨hb0.os, hb0.tape, hb0.output, hb0.size, hb0.block⟩; have q0 := cell_below (p := ⟨w.heap.size, 0, none⟩) p0'' hb; have q2 := cell_below (p := ⟨w.heap.size, 2, none⟩) p2'' hb; have HB4 := Lib.hid hb; have s4 := hb.size; have HW4 := Lib.hid ho.rd; clear ho hb hb0)
      | (go_at_call 102; (with_reducible refine (reduceRows_any p HP.out _ n _ (m + n) (wideR xss) _ ?_ (by rw [wideR_len]; exact HL.out) (wideR_rws HR.out HL.out hp2) (by omega) (by omega)).mono ?_); exact HW4.out; rintro e w5 ⟨W, a5, c5, rfl, hres, ho, hb0⟩; have hb : Below w4.heap.size w4 w5 := ⟨hb0.os, hb0.tape, hb0.output, hb0.size, hb0.block⟩; have q0' := cell_below (p := ⟨w.heap.size, 0, none⟩) q0 hb; have q2' := cell_below (p := ⟨w.heap.size, 2, none⟩) q2 hb; have HB5 : Hid (Below w3.heap.size w3 w5) := Lib.hid (HB4.out.trans (hb.mono s4)); have HRes := Lib.hid hres; have HW : Hid (MadeH 2 w5 w4.heap.size a5 W.length c5 W) := Lib.hid ho; have hWl := hres.len; have s5 := hb.size; clear ho hb hb0 hres))
  have X5 : Hid (BX 24 w5 w.heap.size #[.int .i64 p, .int .i64 m, .slice a n c]) := Lib.hid ((X0.out.keep HO3.out.2).keep HB5.out)
  have HJ5 : Hid (Below w.heap.size w w5) := Lib.hid (HB0.out.trans ((HO3.out.2.trans (HB5.out.mono s3)).mono (by omega)))
  obtain ⟨piv, hRR, _⟩ := HRes.out
  have HRR := Lib.hid hRR
  obtain ⟨s, hs1, hs2, hs3⟩ := hRR.reach m
  have HC : Hid (Cut m W piv s) := Lib.hid ⟨hs1, hs2, hs3⟩
  have hle : ∀ x : Addr, a3 = some x → w.heap.size + 1 ≤ x.block ∧ x.block < w3.heap.size := fun x hx => by have := HO3.out.1.block x hx; omega
  have HLE := Lib.hid hle
  have H0 : Hid (Clr p (m + n) (W.take s) piv (padZ v n) (padZ v n) (min 0 s) ∧ OwnI 2 w5 (w.heap.size + 1) a3 (m + n) c3 (padZ v n) ∧ Chg (fun k => ∃ q, a3 = some q ∧ q.block = k) w5 w5) := Lib.hid ⟨by rw [Nat.zero_min]; exact Clr.start (by rw [padZ_len, HL2.out]) (padZ_rng hp2 HL2.out HV.out), (HO3.out.1.keep HB5.out (Nat.le_refl _)).mono (by omega), Chg.refl _ _⟩
  have HTK := Lib.hid (HRR.out.take hs1)
  have hlt : (W.take s).length = s := by rw [List.length_take]; omega
  have HLT := Lib.hid hlt
  obtain ⟨A5, C5, hh5⟩ := HW.out
  have HH := Lib.hid hh5
  clear p0 p2 p2' p0'' p2'' q0 q2 q0' q2' hRR hs2 hs3 hle hlt X0 hh5
  go_wp2_with fail
  go_loopw [28] (fun i wr => ∃ (j : Nat) (u : List Int), j ≤ W.length ∧ i = .int .i64 j ∧ Hid (Clr p (m + n) (W.take s) piv (padZ v n) u (min j s) ∧ OwnI 2 wr (w.heap.size + 1) a3 (m + n) c3 u ∧ Chg (fun k => ∃ q, a3 = some q ∧ q.block = k) w5 wr)) (fun i _ => W.length - (intOf i).toNat)
  case atStart => exact ⟨0, _, Nat.zero_le _, rfl, H0⟩
  case round =>
    obtain ⟨j, u, hj, rfl, HJ⟩ := hrel
    obtain ⟨wi, rfl⟩ : ∃ x, x = wr := ⟨wr, rfl⟩
    clear H0
    have X5i : Hid (BX 24 wi w.heap.size #[.int .i64 p, .int .i64 m, .slice a n c]) := Lib.hid (X5.out.chg HJ.out.2.2 (fun hx => by obtain ⟨x, hx, e⟩ := hx; have := (HLE.out x hx).1; omega))
    have szi := HJ.out.2.2.size
    have p0 : wi.cell? ⟨w.heap.size, 0, none⟩ = some (.int .i64 p) := X5i.out.cell 0
    by_cases hjt : j < W.length
    · have hpn := HRR.out.pn j hjt
      have hlen := HRR.out.len j hjt
      obtain ⟨g5, e5, hg1, hg2, hcc⟩ := HH.out.out (by omega)
      subst e5
      have hsame : ∀ k, w4.heap.size ≤ k → k < w5.heap.size → wi.heap[k]? = w5.heap[k]? := fun k h1 h2 => HJ.out.2.2.block k h2 (fun hx => by obtain ⟨x, hx, e⟩ := hx; have := (HLE.out x hx).2; omega)
      have dj : wi.cell? ⟨g5, j, none⟩ = some (.slice (A5 j) (m + n) (C5 j)) := by
        rw [World.cell?_of_block (w := w5) (a := ⟨g5, j, none⟩) (hsame g5 hg1 hg2), hcc j hjt, hlen]
      have RJ : Hid (RdI wi (A5 j) (rw_ W j)) := Lib.hid ((HH.out.row j hjt).rd.same fun q hq => hsame _ ((HH.out.row j hjt).block q hq).1 ((HH.out.row j hjt).block q hq).2)
      have HLN := Lib.hid hlen
      have HLD := Lib.hid (HRR.out.isLead hjt)
      have HAP : Hid (Apart a3 (A5 j)) := Lib.hid fun x y hx hy he => by have h1 := (HLE.out x hx).2; have h2 := ((HH.out.row j hjt).block y hy).1; omega
      clear hcc hsame hlen
      by_cases hjs : j < s
      · have hlt := HC.out.lo j hjs
        have b1 : decide ((piv j : Int) < (m : Int)) = true := decide_eq_true (by omega)
        have b2 : (piv j : Int) < (m : Int) := by omega
        have hm1 : min j s = j := by omega
        have hm2 : min (j + 1) s = j + 1 := by omega
        obtain ⟨g, rfl⟩ := HJ.out.2.1.addr (by omega)
        have e1 := HJ.out.2.1.cellAt hpn
        obtain ⟨u1, u2⟩ := HJ.out.1.rng _ hpn
        have W1 : IntKind.i64.wrap (-(el u (piv j))) = -(el u (piv j)) := IntWalk.i64_in _ (by omega)
        have HN : Hid (Clr p (m + n) (W.take s) piv (padZ v n) (addm p (-(el u (piv j))) u (rw_ W j)) (min (j + 1) s)) := Lib.hid (by
          have h := HJ.out.1
          rw [hm1] at h
          have h2 := h.step HTK.out (by rw [HLT.out]; exact hjs) hp2
          rw [rw_take hjs] at h2
          rw [addm_neg, hm2]; exact h2)
        have J4 : (piv j : Int) < (m : Int) + n := by omega
        go_wp2_with (go_at_call 104; refine (indexLeadS_any _ _ _ (rw_ W j) (piv j) _ (by exact RJ.out) HLN.out (by omega) hpn HLD.out).mono ?_; rintro e w' ⟨rfl, rfl⟩)
        go_still_tail 9, (by kernel_rfl)
        change wpList _ _ _ _ _ wi.drew
        go_wp2_with (go_at_call 92; refine (addMultiple_any 2 (w.heap.size + 1) _ _ (m + n) (m + n) _ _ u (rw_ W j) _ p _ (by exact HJ.out.2.1.same (fun _ _ => rfl)) (by exact RJ.out.same (fun _ _ => rfl)) HLN.out (Nat.le_refl _) (by omega) HAP.out hp2 hp7 (by omega) (by omega) HJ.out.1.rng (fun t ht => HRR.out.rng j t hjt ht)).mono ?_; rintro e w8 ⟨rfl, ho, hch⟩; have HO8 := Lib.hid ho; have HC8 : Hid (Chg (fun x => ∃ y, (some (⟨g, 0, none⟩ : Addr)) = some y ∧ y.block = x) w5 w8) := Lib.hid (HJ.out.2.2.trans ⟨hch.os, hch.tape, hch.output, hch.size, hch.block⟩); clear ho hch)
        go_roundw
        case rel => exact ⟨j + 1, _, by omega, by go_num, Lib.hid ⟨HN.out, HO8.out, HC8.out⟩⟩
        case measure => simp [intOf]; omega
      · have hlt := HC.out.hi j (by omega) hjt
        have b1 : decide ((piv j : Int) < (m : Int)) = false := decide_eq_false (by omega)
        have b2 : ¬ (piv j : Int) < (m : Int) := by omega
        have hmm : min (j + 1) s = min j s := by omega
        go_wp2_with (go_at_call 104; refine (indexLeadS_any _ _ _ (rw_ W j) (piv j) _ (by exact RJ.out) HLN.out (by omega) hpn HLD.out).mono ?_; rintro e w' ⟨rfl, rfl⟩)
        go_roundw
        case rel => exact ⟨j + 1, u, by omega, by go_num, Lib.hid (by rw [hmm]; exact HJ.out)⟩
        case measure => simp [intOf]; omega
    · --TAIL
      obtain rfl : j = W.length := by omega
      have hms : min W.length s = s := by omega
      have HCl : Hid (Clr p (m + n) (W.take s) piv (padZ v n) u s) := Lib.hid (by have h := HJ.out.1; rwa [hms] at h)
      have HU := Lib.hid HJ.out.2.1
      have HBi : Hid (Below w.heap.size w wi) := Lib.hid (HJ5.out.trans (HJ.out.2.2.below HJ5.out.size (fun k hk hx => by obtain ⟨x, hx, e⟩ := hx; have := (HLE.out x hx).1; omega)))
      have HLU : Hid (u.length = m + n) := Lib.hid HCl.out.len
      have HS : Hid ((¬ AllZ (u.take m) → SolR p m xss v false []) ∧ (AllZ (u.take m) → ∀ N pv X, NullR p m xss N → Rref p n N pv → Clr p n N pv (negm p (u.drop m)) X N.length → SolR p m xss v true X)) := Lib.hid ⟨fun h => ⟨W, piv, s, u, by rw [HL.out]; exact HRes.out, by rw [HL.out]; exact HRR.out, HC.out, by rw [HL.out]; exact HCl.out, .inl ⟨h, rfl, rfl⟩⟩,
        fun h N pv X h1 h2 h3 => ⟨W, piv, s, u, by rw [HL.out]; exact HRes.out, by rw [HL.out]; exact HRR.out, HC.out, by rw [HL.out]; exact HCl.out, .inr ⟨h, rfl, N, pv, h1, by rw [HL.out]; exact h2, by rw [HL.out]; exact h3⟩⟩⟩
      have HRU : Hid (∀ t, t < m + n → 0 ≤ el u t ∧ el u t < p) := Lib.hid HCl.out.rng
      have HW2 : Hid (∀ x : Addr, a3 = some x → w.heap.size + 1 ≤ x.block) := Lib.hid fun x hx => (HLE.out x hx).1
      have hp0 := p0
      clear HJ p0 HLE HTK HLT HH HW
      rcases HU.out.cases with ⟨rfl, hn0, rfl, _⟩ | ⟨g, cur, rfl, _, _, hle, _⟩
      · obtain rfl : n = 0 := by omega
        obtain rfl : m = 0 := by omega
        by_cases hz : AllZ (u.take 0)
        · have HZ := Lib.hid (zeroB_t hz)
          have HSY := Lib.hid (HS.out.2 hz)
          have H1 : Hid (OwnI 2 wi (w.heap.size + 1) none (0 + 0) 0 (nmix p 0 u 0) ∧ Chg (fun k => ∃ q, (none : Option Addr) = some q ∧ q.block = k) wi wi) := Lib.hid ⟨by rw [nmix_zero]; exact HU.out, Chg.refl _ _⟩
          clear hz
          go_wp2_with (go_at_call 72; refine (isZero_any _ _ _ (u.take 0) _ (by exact HU.out.rd.take 0 (by have h9 := HLU.out; omega)) (by have h9 := HLU.out; rw [List.length_take]; omega) (by omega)).mono ?_; rintro e w' ⟨rfl, rfl⟩; rw [HZ.out])
          go_loopw [58] (fun i wr => ∃ k : Nat, k ≤ 0 ∧ i = .int .i64 k ∧ Hid (OwnI 2 wr (w.heap.size + 1) none (0 + 0) 0 (nmix p 0 u k) ∧ Chg (fun k => ∃ q, (none : Option Addr) = some q ∧ q.block = k) wi wr)) (fun i _ => 0 - (intOf i).toNat)
          case atStart => exact ⟨0, Nat.zero_le _, rfl, H1⟩
          case round =>
            obtain ⟨k, hk, rfl, HK⟩ := hrel
            obtain ⟨wk, rfl⟩ : ∃ x, x = wr := ⟨wr, rfl⟩
            clear H1
            have X5k : Hid (BX 24 wk w.heap.size #[.int .i64 p, .int .i64 0, .slice a 0 c]) := Lib.hid (X5i.out.chg HK.out.2 (fun hx => by obtain ⟨x, hx, e⟩ := hx; have := HW2.out x hx; omega))
            have p0 : wk.cell? ⟨w.heap.size, 0, none⟩ = some (.int .i64 p) := X5k.out.cell 0
            by_cases hkt : k < 0
            · exact absurd hkt (by omega)
            · obtain rfl : 0 = k := by omega
              have HBk : Hid (Below w.heap.size w wk) := Lib.hid (HBi.out.trans (HK.out.2.below HBi.out.size (fun k hk hx => by obtain ⟨x, hx, e⟩ := hx; have := HW2.out x hx; omega)))
              have p1 : wk.cell? ⟨w.heap.size, 1, none⟩ = some (.int .i64 0) := X5k.out.cell 1
              have p2 : wk.cell? ⟨w.heap.size, 2, none⟩ = some (.slice a 0 c) := X5k.out.cell 2
              have HXk : Hid (RdI wk none (negm p (u.drop 0))) := Lib.hid (fun h0 => absurd h0 (by have h9 := HLU.out; rw [negm_len, List.length_drop]; omega))
              go_wp2_with (first
                | (go_at_call 75; refine (leftKernel_any p HP.out 0 _ 0 _ xss _ (by exact HA.out.keep HBk.out (Nat.le_refl _)) HL.out HR.out (by omega) (by omega)).mono ?_; rintro e w8 ⟨N, a8, c8, rfl, hnr, ho, hb⟩; have HNR := Lib.hid hnr; have HN8 := Lib.hid ho.rd; have HX8 : Hid (RdI w8 none (negm p (u.drop 0))) := Lib.hid (HXk.out.keep hb (Nat.le_refl _)); have HB8 : Hid (Below w.heap.size w w8) := Lib.hid (HBk.out.trans (hb.mono HBk.out.size)); have hnl := hnr.rref.len; rw [HL.out] at hnl; obtain ⟨pv, hpv0, _⟩ := hnr.rref; rw [HL.out] at hpv0; have HPV := Lib.hid hpv0; clear ho hb hnr hpv0)
                | (go_at_call 73; refine (remainderMod_any p hp2 hp7 _ _ _ N.length 0 _ _ N pv (negm p (u.drop 0)) _ (by exact HN8.out) rfl HPV.out (by exact HX8.out) (by have h9 := HLU.out; rw [negm_len, List.length_drop]; omega) (by omega) (by omega) (fun j hj => negm_rng hp2 _ j (by have h9 := HLU.out; rw [List.length_drop]; omega))).mono ?_; rintro e w9 ⟨X, a9, c9, rfl, hcl, ho, hb⟩; have HCX := Lib.hid hcl; have HO9 := Lib.hid ho; have HB9 : Hid (Below w.heap.size w w9) := Lib.hid (HB8.out.trans (hb.mono HB8.out.size)); clear hcl ho hb))
              go_ret2
              have hXl : X.length = 0 := HCX.out.len
              obtain rfl : X = [] := List.eq_nil_of_length_eq_zero hXl
              exact ⟨true, [], a9, c9, rfl, HSY.out N pv [] HNR.out HPV.out HCX.out, HO9.out.mono HB8.out.size, HB9.out⟩
        · have HZ := Lib.hid (zeroB_f hz)
          have HSN := Lib.hid (HS.out.1 hz)
          clear hz
          go_wp2_with (go_at_call 72; refine (isZero_any _ _ _ (u.take 0) _ (by exact HU.out.rd.take 0 (by have h9 := HLU.out; omega)) (by have h9 := HLU.out; rw [List.length_take]; omega) (by omega)).mono ?_; rintro e w' ⟨rfl, rfl⟩; rw [HZ.out])
          go_ret2
          exact ⟨false, [], none, 0, rfl, HSN.out, OwnI.none, HBi.out⟩
      · have V1 : m ≤ c3 := by omega
        by_cases hk1 : c3 = m
        · obtain rfl : n = 0 := by omega
          have hk2 := hk1.symm
          subst hk2
          by_cases hz : AllZ (u.take m)
          · have HZ := Lib.hid (zeroB_t hz)
            have HSY := Lib.hid (HS.out.2 hz)
            have H1 : Hid (OwnI 2 wi (w.heap.size + 1) (some (⟨g, 0, none⟩ : Addr)) (m + 0) m (nmix p m u 0) ∧ Chg (fun k => ∃ q, ((some (⟨g, 0, none⟩ : Addr)) : Option Addr) = some q ∧ q.block = k) wi wi) := Lib.hid ⟨by rw [nmix_zero]; exact HU.out, Chg.refl _ _⟩
            clear hz
            go_wp2_with (go_at_call 72; refine (isZero_any _ _ _ (u.take m) _ (by exact HU.out.rd.take m (by have h9 := HLU.out; omega)) (by have h9 := HLU.out; rw [List.length_take]; omega) (by omega)).mono ?_; rintro e w' ⟨rfl, rfl⟩; rw [HZ.out])
            go_loopw [58] (fun i wr => ∃ k : Nat, k ≤ 0 ∧ i = .int .i64 k ∧ Hid (OwnI 2 wr (w.heap.size + 1) (some (⟨g, 0, none⟩ : Addr)) (m + 0) m (nmix p m u k) ∧ Chg (fun k => ∃ q, ((some (⟨g, 0, none⟩ : Addr)) : Option Addr) = some q ∧ q.block = k) wi wr)) (fun i _ => 0 - (intOf i).toNat)
            case atStart => exact ⟨0, Nat.zero_le _, rfl, H1⟩
            case round =>
              obtain ⟨k, hk, rfl, HK⟩ := hrel
              obtain ⟨wk, rfl⟩ : ∃ x, x = wr := ⟨wr, rfl⟩
              clear H1
              have X5k : Hid (BX 24 wk w.heap.size #[.int .i64 p, .int .i64 m, .slice a 0 c]) := Lib.hid (X5i.out.chg HK.out.2 (fun hx => by obtain ⟨x, hx, e⟩ := hx; have := HW2.out x hx; omega))
              have p0 : wk.cell? ⟨w.heap.size, 0, none⟩ = some (.int .i64 p) := X5k.out.cell 0
              by_cases hkt : k < 0
              · exact absurd hkt (by omega)
              · obtain rfl : 0 = k := by omega
                have HBk : Hid (Below w.heap.size w wk) := Lib.hid (HBi.out.trans (HK.out.2.below HBi.out.size (fun k hk hx => by obtain ⟨x, hx, e⟩ := hx; have := HW2.out x hx; omega)))
                have p1 : wk.cell? ⟨w.heap.size, 1, none⟩ = some (.int .i64 m) := X5k.out.cell 1
                have p2 : wk.cell? ⟨w.heap.size, 2, none⟩ = some (.slice a 0 c) := X5k.out.cell 2
                have HXk : Hid (RdI wk (some ⟨g, 0, none⟩) (negm p (u.drop m))) := Lib.hid (fun h0 => absurd h0 (by have h9 := HLU.out; rw [negm_len, List.length_drop]; omega))
                go_wp2_with (first
                  | (go_at_call 75; refine (leftKernel_any p HP.out m _ 0 _ xss _ (by exact HA.out.keep HBk.out (Nat.le_refl _)) HL.out HR.out (by omega) (by omega)).mono ?_; rintro e w8 ⟨N, a8, c8, rfl, hnr, ho, hb⟩; have HNR := Lib.hid hnr; have HN8 := Lib.hid ho.rd; have HX8 : Hid (RdI w8 (some ⟨g, 0, none⟩) (negm p (u.drop m))) := Lib.hid (HXk.out.keep hb (Nat.le_refl _)); have HB8 : Hid (Below w.heap.size w w8) := Lib.hid (HBk.out.trans (hb.mono HBk.out.size)); have hnl := hnr.rref.len; rw [HL.out] at hnl; obtain ⟨pv, hpv0, _⟩ := hnr.rref; rw [HL.out] at hpv0; have HPV := Lib.hid hpv0; clear ho hb hnr hpv0)
                  | (go_at_call 73; refine (remainderMod_any p hp2 hp7 _ _ _ N.length 0 _ _ N pv (negm p (u.drop m)) _ (by exact HN8.out) rfl HPV.out (by exact HX8.out) (by have h9 := HLU.out; rw [negm_len, List.length_drop]; omega) (by omega) (by omega) (fun j hj => negm_rng hp2 _ j (by have h9 := HLU.out; rw [List.length_drop]; omega))).mono ?_; rintro e w9 ⟨X, a9, c9, rfl, hcl, ho, hb⟩; have HCX := Lib.hid hcl; have HO9 := Lib.hid ho; have HB9 : Hid (Below w.heap.size w w9) := Lib.hid (HB8.out.trans (hb.mono HB8.out.size)); clear hcl ho hb))
                go_ret2
                have hXl : X.length = 0 := HCX.out.len
                obtain rfl : X = [] := List.eq_nil_of_length_eq_zero hXl
                exact ⟨true, [], a9, c9, rfl, HSY.out N pv [] HNR.out HPV.out HCX.out, HO9.out.mono HB8.out.size, HB9.out⟩
          · have HZ := Lib.hid (zeroB_f hz)
            have HSN := Lib.hid (HS.out.1 hz)
            clear hz
            go_wp2_with (go_at_call 72; refine (isZero_any _ _ _ (u.take m) _ (by exact HU.out.rd.take m (by have h9 := HLU.out; omega)) (by have h9 := HLU.out; rw [List.length_take]; omega) (by omega)).mono ?_; rintro e w' ⟨rfl, rfl⟩; rw [HZ.out])
            go_ret2
            exact ⟨false, [], none, 0, rfl, HSN.out, OwnI.none, HBi.out⟩
        · have V2 : ¬ c3 = m := hk1
          by_cases hz : AllZ (u.take m)
          · have HZ := Lib.hid (zeroB_t hz)
            have HSY := Lib.hid (HS.out.2 hz)
            have H1 : Hid (OwnI 2 wi (w.heap.size + 1) (some (⟨g, 0, none⟩ : Addr)) (m + n) c3 (nmix p m u 0) ∧ Chg (fun k => ∃ q, ((some (⟨g, 0, none⟩ : Addr)) : Option Addr) = some q ∧ q.block = k) wi wi) := Lib.hid ⟨by rw [nmix_zero]; exact HU.out, Chg.refl _ _⟩
            clear hz
            go_wp2_with (go_at_call 72; refine (isZero_any _ _ _ (u.take m) _ (by exact HU.out.rd.take m (by have h9 := HLU.out; omega)) (by have h9 := HLU.out; rw [List.length_take]; omega) (by omega)).mono ?_; rintro e w' ⟨rfl, rfl⟩; rw [HZ.out])
            go_loopw [58] (fun i wr => ∃ k : Nat, k ≤ n ∧ i = .int .i64 k ∧ Hid (OwnI 2 wr (w.heap.size + 1) (some (⟨g, 0, none⟩ : Addr)) (m + n) c3 (nmix p m u k) ∧ Chg (fun k => ∃ q, ((some (⟨g, 0, none⟩ : Addr)) : Option Addr) = some q ∧ q.block = k) wi wr)) (fun i _ => n - (intOf i).toNat)
            case atStart => exact ⟨0, Nat.zero_le _, rfl, H1⟩
            case round =>
              obtain ⟨k, hk, rfl, HK⟩ := hrel
              obtain ⟨wk, rfl⟩ : ∃ x, x = wr := ⟨wr, rfl⟩
              clear H1
              have X5k : Hid (BX 24 wk w.heap.size #[.int .i64 p, .int .i64 m, .slice a n c]) := Lib.hid (X5i.out.chg HK.out.2 (fun hx => by obtain ⟨x, hx, e⟩ := hx; have := HW2.out x hx; omega))
              have p0 : wk.cell? ⟨w.heap.size, 0, none⟩ = some (.int .i64 p) := X5k.out.cell 0
              by_cases hkt : k < n
              · have hb := HRU.out (m + k) (by omega)
                obtain ⟨u1, u2⟩ := hb
                have e1 := HK.out.1.cellAt (show m + k < m + n by omega)
                rw [nmix_el (by have h9 := HLU.out; omega)] at e1
                have e2 := HK.out.1.frozen (m + k)
                have W1 : IntKind.i64.wrap (-(el u (m + k))) = -(el u (m + k)) := IntWalk.i64_in _ (by omega)
                have J1 : (k : Int) < (n : Int) := by omega
                go_wp2
                go_still_tail 11, (by kernel_rfl)
                still_call ((residue_any _ _ _ (by omega) (by omega) (by omega) (by omega)).mono fun _ _ h => ⟨h.1, h.2.symm⟩)
                repeat still_step
                refine wpStill_nil ?_
                change wpList _ _ _ _ _ wk.drew
                have HN2 : Hid (OwnI 2 (wk.setCell ⟨g, m + k, none⟩ (.int .i64 ((-(el u (m + k))) % p))).drew (w.heap.size + 1) (some (⟨g, 0, none⟩ : Addr)) (m + n) c3 (nmix p m u (k + 1)) ∧ Chg (fun k => ∃ q, ((some (⟨g, 0, none⟩ : Addr)) : Option Addr) = some q ∧ q.block = k) wi (wk.setCell ⟨g, m + k, none⟩ (.int .i64 ((-(el u (m + k))) % p))).drew) := Lib.hid ⟨by have := HK.out.1.set (show m + k < m + n by omega) ((-(el u (m + k))) % p); rw [nmix_set (by have h9 := HLU.out; omega)] at this; exact this, (HK.out.2.setCell ⟨g, m + k, none⟩ ⟨_, rfl, rfl⟩ _).drew⟩
                go_wp2
                go_roundw
                case rel => exact ⟨k + 1, by omega, by go_num, HN2⟩
                case measure => simp [intOf]; omega
              · obtain rfl : n = k := by omega
                have HBk : Hid (Below w.heap.size w wk) := Lib.hid (HBi.out.trans (HK.out.2.below HBi.out.size (fun k hk hx => by obtain ⟨x, hx, e⟩ := hx; have := HW2.out x hx; omega)))
                have p1 : wk.cell? ⟨w.heap.size, 1, none⟩ = some (.int .i64 m) := X5k.out.cell 1
                have p2 : wk.cell? ⟨w.heap.size, 2, none⟩ = some (.slice a n c) := X5k.out.cell 2
                have HXk : Hid (RdI wk (some ⟨g, m, none⟩) (negm p (u.drop m))) := Lib.hid (by have h := HK.out.1.rd.drop m; rw [nmix_full HLU.out, Nat.zero_add] at h; exact h)
                go_wp2_with (first
                  | (go_at_call 75; refine (leftKernel_any p HP.out m _ n _ xss _ (by exact HA.out.keep HBk.out (Nat.le_refl _)) HL.out HR.out (by omega) (by omega)).mono ?_; rintro e w8 ⟨N, a8, c8, rfl, hnr, ho, hb⟩; have HNR := Lib.hid hnr; have HN8 := Lib.hid ho.rd; have HX8 : Hid (RdI w8 (some ⟨g, m, none⟩) (negm p (u.drop m))) := Lib.hid (HXk.out.keep hb (Nat.le_refl _)); have HB8 : Hid (Below w.heap.size w w8) := Lib.hid (HBk.out.trans (hb.mono HBk.out.size)); have hnl := hnr.rref.len; rw [HL.out] at hnl; obtain ⟨pv, hpv0, _⟩ := hnr.rref; rw [HL.out] at hpv0; have HPV := Lib.hid hpv0; clear ho hb hnr hpv0)
                  | (go_at_call 73; refine (remainderMod_any p hp2 hp7 _ _ _ N.length n _ _ N pv (negm p (u.drop m)) _ (by exact HN8.out) rfl HPV.out (by exact HX8.out) (by have h9 := HLU.out; rw [negm_len, List.length_drop]; omega) (by omega) (by omega) (fun j hj => negm_rng hp2 _ j (by have h9 := HLU.out; rw [List.length_drop]; omega))).mono ?_; rintro e w9 ⟨X, a9, c9, rfl, hcl, ho, hb⟩; have HCX := Lib.hid hcl; have HO9 := Lib.hid ho; have HB9 : Hid (Below w.heap.size w w9) := Lib.hid (HB8.out.trans (hb.mono HB8.out.size)); clear hcl ho hb))
                go_ret2
                have hXl : X.length = n := HCX.out.len
                subst hXl
                exact ⟨true, X, a9, c9, rfl, HSY.out N pv X HNR.out HPV.out HCX.out, HO9.out.mono HB8.out.size, HB9.out⟩
          · have HZ := Lib.hid (zeroB_f hz)
            have HSN := Lib.hid (HS.out.1 hz)
            clear hz
            go_wp2_with (go_at_call 72; refine (isZero_any _ _ _ (u.take m) _ (by exact HU.out.rd.take m (by have h9 := HLU.out; omega)) (by have h9 := HLU.out; rw [List.length_take]; omega) (by omega)).mono ?_; rintro e w' ⟨rfl, rfl⟩; rw [HZ.out])
            go_ret2
            exact ⟨false, [], none, 0, rfl, HSN.out, OwnI.none, HBi.out⟩
end Go.Proofs.Ytngikcjdhbflkaa
