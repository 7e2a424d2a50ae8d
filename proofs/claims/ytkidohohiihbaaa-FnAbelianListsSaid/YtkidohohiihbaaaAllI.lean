/- The program's AllAbelian. -/
import Derived.Test.YtkidohohiihbaaaAllB
import Derived.Test.YtkidohohiihbaaaAbSrt
import Derived.Test.YtkidohohiihbaaaFpI
import Derived.Test.YtkidohohiihbaaaFacD
import Derived.Deep.RegionHeld3
set_option linter.unusedVariables false
set_option linter.unusedSimpArgs false
namespace Go.Proofs.Ytkidohohiihbaaa
open Go.RowKit
def chkPartLe : Bool := (List.range 10).all fun n => (partF n n n).all fun r => r.all fun k => decide (k ≤ n)
set_option maxRecDepth 100000 in
theorem chkPartLe_t : chkPartLe = true := by kernel_rfl
theorem part_le {E : Nat} (h : E ≤ 9) {q : List Int} (hq : q ∈ partF E E E) : ∀ k ∈ q, k ≤ E := fun k hk => by
  have h0 := chkPartLe_t
  unfold chkPartLe at h0
  have h1 := List.all_eq_true.1 (List.all_eq_true.1 (List.all_eq_true.1 h0 E (List.mem_range.2 (by omega))) q hq) k hk
  simpa using h1
theorem powI_mono {p : Int} (hp : 1 ≤ p) {a b : Nat} (h : a ≤ b) : p ^ a ≤ p ^ b := by
  obtain ⟨d, rfl⟩ := Nat.exists_eq_add_of_le h
  rw [Int.pow_add]
  have h5 : 0 < p ^ a := Int.pow_pos (by omega)
  have h6 : 0 < p ^ d := Int.pow_pos (by omega)
  have := Int.mul_le_mul_of_nonneg_left (show 1 ≤ p ^ d by omega) (show 0 ≤ p ^ a by omega)
  omega
theorem upd_zero (j : Nat) : upd (fun _ => (0 : Int)) j 0 = fun _ => 0 := by funext i; unfold upd; split <;> rfl
theorem Try.infoAb : (Try.prog.info? 37).map (fun i => (i.zero, i.size, i.bytes)) = some (some (.agg #[.slice none 0 0, .int .i64 0]), 2, 32) := by kernel_rfl
/-- the lists for all primes -/
def res_lists (n : Nat) (w : World) (a : Option Addr) (m c : Nat) (w' : World) : Prop := MadeR 25 2 w' w.heap.size a m c (listsN n) ∧ Below w.heap.size w w'
set_option maxRecDepth 20000 in
set_option maxHeartbeats 4000000 in
theorem impl_AllAbelian_any (n : Nat) (w : World) (h1 : 1 ≤ n) (h2 : n ≤ 1000) :
    Calls Try.prog 74 #[.int .i64 n] w fun e w' => ∃ (L : List (List Int)) (a : Option Addr) (c : Nat) (A : Nat → Option Addr) (C : Nat → Nat), e = .returned (.tuple #[.slice a L.length c, .int .i64 0]) ∧ L.Perm ((listsN n).map facG) ∧ L.Pairwise (fun x y => 0 ≤ cmpL y x) ∧
      OwnA 37 2 w' w.heap.size a L.length c L A C (fun _ => 0) ∧ Below w.heap.size w w' := by
  have HOK := Lib.hid (allOk h1 h2)
  have HLO := Lib.hid (lists_ok h1 h2)
  have z1 : (1 : Int) ≤ (n : Int) := by omega
  have z2 : (n : Int) ≤ 1000 := by omega
  have HO : Hid (OwnR 25 2 (w.alloc (.cells #[.slice none 0 0] 25)) w.heap.size (some ⟨w.heap.size, 0, none⟩) 1 1 [[]] (fun _ => none) (fun _ => 0)) := Lib.hid (clone_nilrow w)
  go_enter Try.func74, Try.ntmps74
  go_wp2_with (go_at_call 89; refine (inside_t _ _ _ _ z1 z2).mono ?_; rintro e w' ⟨rfl, rfl⟩)
  refine (factors_any n _ z1 (by omega)).mono ?_
  rintro e w1 ⟨ap, np, cp, ae, ne, ce, rfl, hop, hoe, _, hb⟩
  have hlp := hop.len
  have hle := hoe.len
  have HP : Hid (RdI w1 ap (primesOf n)) := Lib.hid hop.rd
  have HE : Hid (RdI w1 ae (expsOf n)) := Lib.hid hoe.rd
  have HLP : Hid ((primesOf n).length = np) := Lib.hid hlp
  have HLE : Hid ((expsOf n).length = ne) := Lib.hid hle
  have HLF : Hid ((facL n).length = np) := Lib.hid (by rw [← hlp]; unfold primesOf facL; rw [List.length_map])
  have hpe : ne = np := by rw [← hlp, ← hle]; unfold primesOf expsOf; rw [List.length_map, List.length_map]
  have hnp : np ≤ 10 := by rw [← HLF.out]; exact HLO.out.2.2
  have HS1 : Hid (OwnR 25 2 w1 w.heap.size (some ⟨w.heap.size, 0, none⟩) 1 1 (listsAt n 0) (fun _ => none) (fun _ => 0) ∧ Below w.heap.size w w1) := Lib.hid ⟨by rw [listsAt_zero]; exact HO.out.keep hb (Nat.le_refl _), ((Below.refl _ _).alloc (Nat.le_refl _) _).trans (hb.mono (by simp))⟩
  subst hpe
  clear hop hoe hb hlp hle HO
  go_wp2_with fail
  go_loopw [33, 4] (fun i v wr => ∃ (k : Nat) (a1 : Option Addr) (c1 m1 : Nat) (A1 : Nat → Option Addr) (C1 : Nat → Nat), k ≤ ne ∧ i = .int .i64 k ∧ v = .slice a1 m1 c1 ∧ Hid (OwnR 25 2 wr w.heap.size a1 m1 c1 (listsAt n k) A1 C1 ∧ Below w1.heap.size w1 wr)) (fun i _ _ => ne - (intOf i).toNat)
  case atStart => exact ⟨0, _, _, _, _, _, Nat.zero_le _, rfl, rfl, Lib.hid ⟨HS1.out.1, Below.refl _ _⟩⟩
  case round =>
    obtain ⟨k, a1, c1, m1, A1, C1, hk, rfl, rfl, HR⟩ := hrel
    obtain ⟨wo, rfl⟩ : ∃ x, x = wr := ⟨wr, rfl⟩
    have hm1 : m1 ≤ 100 := by rw [← HR.out.1.len]; exact (HLO.out.1 k (by rw [HLF.out]; exact hk)).1.1
    by_cases hkn : k < ne
    · have k1 : (k : Int) < ne := by omega
      have k2 : decide ((k : Int) < ne) = true := decide_eq_true k1
      have k3 : decide (k < ne) = true := decide_eq_true hkn
      obtain ⟨bp, op, rfl, cpk⟩ := rdI_at (HP.out.keep HR.out.2 (Nat.le_refl _)) (show k < (primesOf n).length by rw [HLP.out]; exact hkn)
      obtain ⟨be, oe, rfl, cek⟩ := rdI_at (HE.out.keep HR.out.2 (Nat.le_refl _)) (show k < (expsOf n).length by rw [HLE.out]; exact hkn)
      have hpe := HLO.out.2.1 k (by rw [HLF.out]; exact hkn)
      obtain ⟨p, hp⟩ : ∃ p, p = el (primesOf n) k := ⟨_, rfl⟩
      obtain ⟨E, hE⟩ : ∃ E : Nat, (E : Int) = el (expsOf n) k := ⟨(el (expsOf n) k).toNat, by omega⟩
      have hET : (el (expsOf n) k).toNat = E := by omega
      rw [hET, ← hp] at hpe
      rw [← hE] at cek hpe
      rw [← hp] at cpk
      have HLS : Hid (listsAt n (k + 1) = stepL (listsAt n k) p E) := Lib.hid (by rw [listsAt_succ (by rw [HLF.out]; exact hkn), ← hp, ← hE])
      obtain ⟨hp2, hE1, hE9, hpE⟩ := hpe
      have hE9' : E ≤ 9 := by omega
      clear hp hE hET
      go_wp2_with fail
      have lbe : be < wo.heap.size := block_lt (p := ⟨be, oe + k, none⟩) cek
      go_region_held3 (fun w' => w'.cell? ⟨be, oe + k, none⟩ = some (.int .i64 E)) (go_keep)
        (first
          | (go_at_call 139; (with_reducible refine (partitions_any E (by omega) E E (Nat.le_refl _) (by omega) _).mono ?_); rintro e w2 ⟨aq, cq, Aq, Cq, rfl, hq, hb0⟩; have hb : Below wo.heap.size wo w2 := ⟨hb0.os, hb0.tape, hb0.output, hb0.size, hb0.block⟩; have cek' := cell_below (p := ⟨be, oe + k, none⟩) cek hb; have HQ : Hid (OwnR 25 2 w2 wo.heap.size aq (partF E E E).length cq (partF E E E) Aq Cq) := Lib.hid hq; have HBW := Lib.hid hb; clear hq hb hb0))
      obtain ⟨M, hM⟩ : ∃ M, M = (partF E E E).length := ⟨_, rfl⟩
      have hM9 : M ≤ 100 := by rw [hM]; exact (part_ok (f := E) (by omega) (Nat.le_refl _) (by omega)).1
      have HPQ := Lib.hid (part_ok (f := E) (n := E) (m := E) (by omega) (Nat.le_refl _) (by omega)).2
      have HME := Lib.hid hM
      rw [← hM] at HQ ⊢
      clear hM cek cpk
      have HL2 : Hid (RdR w2 a1 (listsAt n k)) := Lib.hid (HR.out.1.rd.keep HBW.out (Nat.le_refl _))
      have HQ2 : Hid (RdR w2 aq (partF E E E)) := Lib.hid HQ.out.rd
      have HLL : Hid ((listsAt n k).length = m1) := Lib.hid HR.out.1.len
      have HLR : Hid (∀ l ∈ listsAt n k, l.length ≤ 30) := Lib.hid (HLO.out.1 k (by rw [HLF.out]; exact hk)).2
      have HNL : Hid (∀ j t, j ≤ M → t ≤ m1 → (nextT p (partF E E E) (listsAt n k) j t).length = j * m1 + t) := Lib.hid (fun j t hj ht => by rw [nextT_len _ (by rw [← HME.out]; exact hj) (by rw [HLL.out]; exact ht), HLL.out])
      go_wp2_with fail
      go_loopw [48, 9] (fun i v wr => ∃ (j : Nat) (a2 : Option Addr) (c2 m2 : Nat) (A2 : Nat → Option Addr) (C2 : Nat → Nat), j ≤ M ∧ i = .int .i64 j ∧ v = .slice a2 m2 c2 ∧ Hid (OwnR 25 2 wr w2.heap.size a2 m2 c2 (nextT p (partF E E E) (listsAt n k) j 0) A2 C2 ∧ Below w2.heap.size w2 wr)) (fun i _ _ => M - (intOf i).toNat)
      case atStart => exact ⟨0, none, 0, 0, fun _ => none, fun _ => 0, Nat.zero_le _, rfl, rfl, Lib.hid ⟨by rw [nextT_zero]; exact OwnR.none _ _, Below.refl _ _⟩⟩
      case round =>
        obtain ⟨j, a2, c2, m2, A2, C2, hj, rfl, rfl, HJ⟩ := hrel
        obtain ⟨wj, rfl⟩ : ∃ x, x = wr := ⟨wr, rfl⟩
        by_cases hjM : j < M
        · have j1 : (j : Int) < M := by omega
          have j2 : decide ((j : Int) < M) = true := decide_eq_true j1
          have j3 : decide (j < M) = true := decide_eq_true hjM
          obtain ⟨bq, oq, rq, kq, haq, dq0, hrq, _⟩ := rdR_at HQ2.out (show j < (partF E E E).length by rw [← HME.out]; exact hjM)
          have dq := cell_below (p := ⟨bq, oq + j, none⟩) dq0 HJ.out.2
          clear dq0
          subst haq
          obtain ⟨q, hq⟩ : ∃ q, q = rw_ (partF E E E) j := ⟨_, rfl⟩
          have HPR := HPQ.out q (by rw [hq]; exact rw_mem (by rw [← HME.out]; exact hjM))
          rw [← hq] at dq hrq
          obtain ⟨lq, hlq⟩ : ∃ lq, lq = q.length := ⟨_, rfl⟩
          have hlq9 : lq ≤ 10 := by rw [hlq]; exact HPR.1
          have HQR := Lib.hid HPR.2
          have HQE := Lib.hid hq
          have HQL := Lib.hid hlq
          have HRQ := Lib.hid hrq
          rw [← hlq] at dq
          clear hq hlq hrq HPR
          go_wp2_with fail
          go_loopw [54, 9] (fun i v wr => ∃ (t : Nat) (a3 : Option Addr) (c3 m3 : Nat) (A3 : Nat → Option Addr) (C3 : Nat → Nat), t ≤ m1 ∧ i = .int .i64 t ∧ v = .slice a3 m3 c3 ∧ Hid (OwnR 25 2 wr w2.heap.size a3 m3 c3 (nextT p (partF E E E) (listsAt n k) j t) A3 C3 ∧ Below w2.heap.size w2 wr)) (fun i _ _ => m1 - (intOf i).toNat)
          case atStart => exact ⟨0, _, _, _, _, _, Nat.zero_le _, rfl, rfl, Lib.hid ⟨HJ.out.1, HJ.out.2⟩⟩
          case round =>
            obtain ⟨t, a3, c3, m3, A3, C3, ht, rfl, rfl, HT⟩ := hrel
            obtain ⟨wt, rfl⟩ : ∃ x, x = wr := ⟨wr, rfl⟩
            by_cases htm : t < m1
            · have t1 : (t : Int) < m1 := by omega
              have t2 : decide ((t : Int) < m1) = true := decide_eq_true t1
              have t3 : decide (t < m1) = true := decide_eq_true htm
              obtain ⟨bl, ol, rl, kl, hal, dl, hrl, _⟩ := rdR_at (HL2.out.keep HT.out.2 (Nat.le_refl _)) (show t < (listsAt n k).length by rw [HLL.out]; exact htm)
              subst hal
              obtain ⟨l, hl⟩ : ∃ l, l = rw_ (listsAt n k) t := ⟨_, rfl⟩
              have hl30 : l.length ≤ 30 := by rw [hl]; exact HLR.out _ (rw_mem (by rw [HLL.out]; exact htm))
              rw [← hl] at dl hrl
              obtain ⟨ll, hll⟩ : ∃ ll, ll = l.length := ⟨_, rfl⟩
              rw [← hll] at dl hl30
              have HLE2 := Lib.hid hl
              have HLL2 := Lib.hid hll
              have HRL := Lib.hid hrl
              clear hl hll hrl
              have hm3 : m3 ≤ 10100 := by
                have h1 := HT.out.1.len
                rw [HNL.out j t hj ht] at h1
                have := Nat.mul_le_mul (show j ≤ 100 by omega) hm1
                omega
              have hs3 : w2.heap.size ≤ wt.heap.size := HT.out.2.size
              go_wp2_with fail
              refine (clone_any rl ll kl l _ (by exact HRL.out) HLL2.out.symm (by omega)).mono ?_
              rintro e w3 ⟨a4, c4, rfl, ho4, hb4⟩
              have H4 : Hid (OwnI 2 w3 wt.heap.size a4 ll c4 (rowT p l q 0) ∧ Below wt.heap.size wt w3) := Lib.hid ⟨by rw [rowT_zero]; exact ho4, hb4⟩
              clear ho4 hb4
              go_wp2_with fail
              go_loopw [62, 14] (fun i v wr => ∃ (s : Nat) (a5 : Option Addr) (c5 : Nat), s ≤ lq ∧ i = .int .i64 s ∧ v = .slice a5 (ll + s) c5 ∧ Hid (OwnI 2 wr wt.heap.size a5 (ll + s) c5 (rowT p l q s) ∧ Below wt.heap.size wt wr)) (fun i _ _ => lq - (intOf i).toNat)
              case atStart => exact ⟨0, _, _, Nat.zero_le _, rfl, rfl, H4⟩
              case round =>
                obtain ⟨s, a5, c5, hs, rfl, rfl, H5⟩ := hrel
                obtain ⟨ws, rfl⟩ : ∃ x, x = wr := ⟨wr, rfl⟩
                by_cases hsq : s < lq
                · have s1 : (s : Int) < lq := by omega
                  have s2 : decide ((s : Int) < lq) = true := decide_eq_true s1
                  have s3 : decide (s < lq) = true := decide_eq_true hsq
                  obtain ⟨bx, ox, hax, cx⟩ := rdI_at ((HRQ.out.keep HT.out.2 (Nat.le_refl _)).keep H5.out.2 (Nat.le_refl _)) (show s < q.length by rw [← HQL.out]; exact hsq)
                  subst hax
                  have hx := HQR.out _ (el_mem (xs := q) (i := s) (by rw [← HQL.out]; exact hsq))
                  obtain ⟨X, hX⟩ : ∃ X : Nat, (X : Int) = el q s := ⟨(el q s).toNat, by omega⟩
                  rw [← hX] at cx hx
                  have HRS : Hid (rowT p l q (s + 1) = rowT p l q s ++ [p ^ X]) := Lib.hid (by rw [rowT_succ (by rw [← HQL.out]; exact hsq), ← hX]; rfl)
                  have hXE : X ≤ E := by
                    have h1 := part_le hE9' (q := q) (by rw [HQE.out]; exact rw_mem (by rw [← HME.out]; exact hjM)) _ (el_mem (xs := q) (i := s) (by rw [← HQL.out]; exact hsq))
                    omega
                  have HPX : Hid (p ^ X ≤ 1000000000000000000) := Lib.hid (by
                    have h1 := powI_mono (show 1 ≤ p by omega) hXE
                    have h2 : p ^ ((E : Int)).toNat ≤ 1000 := hpE
                    rw [Int.toNat_natCast] at h2
                    omega)
                  have hsz5 : wt.heap.size ≤ ws.heap.size := H5.out.2.size
                  clear hX
                  go_wp2_with (first
                    | (go_at_call 141; refine (integerPower_any p X _ (by omega) HPX.out (by omega)).mono ?_; rintro e w' ⟨rfl, rfl⟩)
                    | (at_builtin; refine wpList_push rfl (.tmp 66) (.tmp 70) 25 rfl wt.heap.size 2 (.int .i64 0) 8 Try.underlying25 Try.info2f rfl (by decide) (.int .i64 (p ^ X)) rfl _ _ _ _ rfl rfl (by exact H5.out.1) (by omega) (by exact hsz5) ?_; rintro a6 c6 w6 r4 q4 g4; have HN6 : Hid (OwnI 2 w6 wt.heap.size a6 (ll + (s + 1)) c6 (rowT p l q (s + 1)) ∧ Below wt.heap.size wt w6) := Lib.hid ⟨by rw [HRS.out]; exact OwnI.pushed r4, H5.out.2.trans (g4.below hsz5 (fun b hb hx => by obtain ⟨y, hy, e⟩ := hx; have := (H5.out.1.block y hy).1; omega))⟩; clear r4 q4 g4))
                  go_roundw
                  case rel => exact ⟨s + 1, a6, c6, by omega, by go_num, rfl, HN6⟩
                  case measure => simp [intOf]; omega
                · have hsq' : s = lq := by omega
                  have s1 : ¬ (s : Int) < lq := by omega
                  have s2 : decide ((s : Int) < lq) = false := decide_eq_false s1
                  have s3 : decide (s < lq) = false := decide_eq_false hsq
                  have HROW : Hid (OwnI 2 ws wt.heap.size a5 (ll + s) c5 (rowT p (rw_ (listsAt n k) t) (rw_ (partF E E E) j) (rw_ (partF E E E) j).length)) := Lib.hid (by
                    have h := H5.out.1
                    rw [hsq', HLE2.out, HQL.out, HQE.out] at h
                    rw [hsq', HQL.out, HQE.out]
                    exact h)
                  have hsz5 : wt.heap.size ≤ ws.heap.size := H5.out.2.size
                  clear hsq'
                  go_wp2_with (at_builtin; refine wpList_push rfl (.tmp 73) (.tmp 75) 46 rfl w2.heap.size 25 (.slice none 0 0) 24 Try.underlying46 Try.infoR rfl (by decide) (.slice a5 (ll + s) c5) rfl _ _ _ _ rfl rfl (by exact (HT.out.1.keep H5.out.2 (Nat.le_refl _)).own) (by omega) (by exact Nat.le_trans hs3 hsz5) ?_; rintro a7 c7 w7 r4 q4 g4; have HN := Lib.hid (HT.out.1.pushNew2 hs3 H5.out.2 HROW.out (Nat.le_refl _) r4 q4 g4); clear r4 q4 g4)
                  have HN2 : Hid (OwnR 25 2 w7 w2.heap.size a7 (m3 + 1) c7 (nextT p (partF E E E) (listsAt n k) j (t + 1)) (upd A3 m3 a5) (upd C3 m3 c5)) := Lib.hid (by
                    rw [nextT_in (by rw [HLL.out]; exact htm)]
                    exact HN.out.1)
                  go_roundw
                  case rel => exact ⟨t + 1, a7, c7, m3 + 1, _, _, by omega, by go_num, rfl, Lib.hid ⟨HN2.out, HT.out.2.trans HN.out.2⟩⟩
                  case measure => simp [intOf]; omega
            · have htm' : t = m1 := by omega
              have t1 : ¬ (t : Int) < m1 := by omega
              have t2 : decide ((t : Int) < m1) = false := decide_eq_false t1
              have t3 : decide (t < m1) = false := decide_eq_false htm
              have HN3 : Hid (OwnR 25 2 wt w2.heap.size a3 m3 c3 (nextT p (partF E E E) (listsAt n k) (j + 1) 0) A3 C3) := Lib.hid (by
                rw [← nextT_out (by rw [← HME.out]; exact hjM) HLL.out, ← htm']
                exact HT.out.1)
              clear htm'
              go_wp2_with fail
              go_roundw
              case rel => exact ⟨j + 1, a3, c3, m3, A3, C3, by omega, by go_num, rfl, Lib.hid ⟨HN3.out, HT.out.2⟩⟩
              case measure => simp [intOf]; omega
        · have hjM' : j = M := by omega
          have j1 : ¬ (j : Int) < M := by omega
          have j2 : decide ((j : Int) < M) = false := decide_eq_false j1
          have j3 : decide (j < M) = false := decide_eq_false hjM
          have HN4 : Hid (OwnR 25 2 wj w.heap.size a2 m2 c2 (listsAt n (k + 1)) A2 C2 ∧ Below w1.heap.size w1 wj) := Lib.hid (by
            have h := HJ.out.1
            have e9 : nextT p (partF E E E) (listsAt n k) M 0 = stepL (listsAt n k) p E := nextT_full (e := (E : Int)) HME.out.symm
            rw [hjM', e9, ← HLS.out] at h
            have s1 := HR.out.2.size
            have s2 := HBW.out.size
            have s3 := HS1.out.2.size
            exact ⟨h.mono (by omega), (HR.out.2.trans (HBW.out.mono s1)).trans (HJ.out.2.mono (by omega))⟩)
          clear hjM'
          go_wp2_with fail
          go_roundw
          case rel => exact ⟨k + 1, a2, c2, m2, A2, C2, by omega, by go_num, rfl, HN4⟩
          case measure => simp [intOf]; omega
    · have hkn' : k = ne := by omega
      have k1 : ¬ (k : Int) < ne := by omega
      have k2 : decide ((k : Int) < ne) = false := decide_eq_false k1
      have k3 : decide (k < ne) = false := decide_eq_false hkn
      have HRL : Hid (RdR wo a1 (listsN n)) := Lib.hid (by rw [← listsAt_full n (k := k) (by rw [HLF.out, hkn'])]; exact HR.out.1.rd)
      have HLN : Hid ((listsN n).length = m1) := Lib.hid (by rw [← listsAt_full n (k := k) (by rw [HLF.out, hkn'])]; exact HR.out.1.len)
      have hm1p : 1 ≤ m1 := by
        have h := (HLO.out.1 k (by rw [HLF.out]; exact hk)).1.2
        rwa [HR.out.1.len] at h
      have HBo : Hid (Below w.heap.size w wo) := Lib.hid (HS1.out.2.trans (HR.out.2.mono HS1.out.2.size))
      clear hkn' HS1 HP HE HR
      go_wp2_with fail
      go_loopw [83, 17] (fun i v wr => ∃ (j : Nat) (a2 : Option Addr) (c2 : Nat) (A2 : Nat → Option Addr) (C2 : Nat → Nat), j ≤ m1 ∧ i = .int .i64 j ∧ v = .slice a2 j c2 ∧ Hid (OwnA 37 2 wr wo.heap.size a2 j c2 (((listsN n).take j).map facG) A2 C2 (fun _ => 0) ∧ Below wo.heap.size wo wr)) (fun i _ _ => m1 - (intOf i).toNat)
      case atStart => exact ⟨0, none, 0, fun _ => none, fun _ => 0, Nat.zero_le _, rfl, rfl, Lib.hid ⟨OwnA.none _ _ _, Below.refl _ _⟩⟩
      case round =>
        obtain ⟨j, a2, c2, A2, C2, hj, rfl, rfl, HJ⟩ := hrel
        obtain ⟨wj, rfl⟩ : ∃ x, x = wr := ⟨wr, rfl⟩
        by_cases hjm : j < m1
        · have j1 : (j : Int) < m1 := by omega
          have j2 : decide ((j : Int) < m1) = true := decide_eq_true j1
          have j3 : decide (j < m1) = true := decide_eq_true hjm
          obtain ⟨bl, ol, rl, kl, hal, dl, hrl, _⟩ := rdR_at (HRL.out.keep HJ.out.2 (Nat.le_refl _)) (show j < (listsN n).length by rw [HLN.out]; exact hjm)
          subst hal
          obtain ⟨l, hl⟩ : ∃ l, l = rw_ (listsN n) j := ⟨_, rfl⟩
          have hpp := HOK.out.pp l (by rw [hl]; exact rw_mem (by rw [HLN.out]; exact hjm))
          rw [← hl] at dl hrl
          obtain ⟨ll, hll⟩ : ∃ ll, ll = l.length := ⟨_, rfl⟩
          rw [← hll] at dl hpp
          have HPP := Lib.hid hpp
          have hl30 : ll ≤ 30 := hpp.2.1
          have HLE2 := Lib.hid hl
          have HLL2 := Lib.hid hll
          have HRL2 := Lib.hid hrl
          clear hl hll hrl hpp
          have hsz : wo.heap.size ≤ wj.heap.size := HJ.out.2.size
          go_wp2_with fail
          refine (fromPrimary_any rl ll kl l 0 _ (by exact HRL2.out) HLL2.out.symm (by omega) HPP.out.1 (by omega) (by omega)).mono ?_
          rintro e w3 ⟨R, K, d, a4, c4, rfl, hres, ho, hb⟩
          have hres2 : (R, K, d) = (facG l, 0, 0) := by
            unfold res_fp fpV at hres
            rw [if_pos ⟨HPP.out.2.2.1, HPP.out.2.2.2⟩] at hres
            exact hres
          injection hres2 with eR e2
          injection e2 with eK eD
          subst eK
          subst eD
          obtain ⟨nr, hnr⟩ : ∃ nr, nr = R.length := ⟨_, rfl⟩
          rw [← hnr] at ho ⊢
          have HRE := Lib.hid eR
          have HO4 := Lib.hid ho
          have HB4 := Lib.hid hb
          have hsz3 : wj.heap.size ≤ w3.heap.size := hb.size
          clear hres hnr eR ho hb
          have HBX1 : Hid (Below wj.heap.size wj (w3.alloc (.cells #[.slice a4 nr c4, .int .i64 0] 37))) := Lib.hid (HB4.out.alloc hsz3 _)
          have HSZ : Hid (wo.heap.size ≤ ((w3.alloc (.cells #[.slice a4 nr c4, .int .i64 0] 37)).alloc (.cells #[.slice a4 nr c4, .int .i64 0] 37)).heap.size) := Lib.hid (by simp; omega)
          have HOX : Hid (OwnA 37 2 ((w3.alloc (.cells #[.slice a4 nr c4, .int .i64 0] 37)).alloc (.cells #[.slice a4 nr c4, .int .i64 0] 37)) wo.heap.size a2 j c2 (((listsN n).take j).map facG) A2 C2 (fun _ => 0)) := Lib.hid ((HJ.out.1.keep HB4.out (Nat.le_refl _)).keep (((Below.refl _ _).alloc (Nat.le_refl _) _).alloc (by simp) _) (Nat.le_refl _))
          have HBY : Hid (Below wj.heap.size wj ((w3.alloc (.cells #[.slice a4 nr c4, .int .i64 0] 37)).alloc (.cells #[.slice a4 nr c4, .int .i64 0] 37))) := Lib.hid (HBX1.out.alloc (by simp; omega) _)
          have HCL : Hid (∀ t u, [(.slice a4 nr c4 : Value), .int .i64 0][t]? = some u → ((w3.alloc (.cells #[.slice a4 nr c4, .int .i64 0] 37)).alloc (.cells #[.slice a4 nr c4, .int .i64 0] 37)).cell? ⟨w3.heap.size + 1, t, none⟩ = some u) := Lib.hid (fun t u ht => by
            have h : ((w3.alloc (.cells #[.slice a4 nr c4, .int .i64 0] 37)).alloc (.cells #[.slice a4 nr c4, .int .i64 0] 37)).cell? ⟨w3.heap.size + 1, t, none⟩ = (#[.slice a4 nr c4, .int .i64 0] : Array Value)[t]? := by
              rw [show w3.heap.size + 1 = (w3.alloc (.cells #[.slice a4 nr c4, .int .i64 0] 37)).heap.size by simp]
              exact (BX.new _ _ _).cell t
            rw [h, ← ht, ← Array.getElem?_toList])
          go_wp2_with (at_builtin; refine wpList_pushK rfl (.tmp 92) (.tmp 94) 81 rfl wo.heap.size 37 (.agg #[.slice none 0 0, .int .i64 0]) 2 32 Try.underlying81 Try.infoAb rfl (by decide) (by decide) [.slice a4 nr c4, .int .i64 0] rfl (by intro u hu; simp at hu; rcases hu with rfl | rfl <;> rfl) _ _ _ _ rfl (w3.heap.size + 1) rfl HCL.out (by exact HOX.out.own) (by omega) HSZ.out ?_; rintro a6 c6 w6 r4 q4 g4; have HN := Lib.hid (HJ.out.1.push hsz HBY.out ((HO4.out.alloc _).alloc _) (Nat.le_refl _) r4 q4 g4); clear r4 q4 g4)
          have HN2 : Hid (OwnA 37 2 w6 wo.heap.size a6 (j + 1) c6 (((listsN n).take (j + 1)).map facG) (upd A2 j a4) (upd C2 j c4) (fun _ => 0) ∧ Below wo.heap.size wo w6) := Lib.hid (by
            have h := HN.out.1
            rw [upd_zero, HRE.out, HLE2.out] at h
            refine ⟨?_, HJ.out.2.trans HN.out.2⟩
            rw [take_rowA (by rw [HLN.out]; exact hjm), List.map_append]
            exact h)
          go_roundw
          case rel => exact ⟨j + 1, a6, c6, _, _, by omega, by go_num, rfl, HN2⟩
          case measure => simp [intOf]; omega
        · have hjm' : j = m1 := by omega
          have j1 : ¬ (j : Int) < m1 := by omega
          have j2 : decide ((j : Int) < m1) = false := decide_eq_false j1
          have j3 : decide (j < m1) = false := decide_eq_false hjm
          have HF : Hid (OwnA 37 2 wj wo.heap.size a2 j c2 ((listsN n).map facG) A2 C2 (fun _ => 0) ∧ Below wo.heap.size wo wj) := Lib.hid (by
            have h := HJ.out
            rwa [List.take_of_length_le (by rw [HLN.out]; omega)] at h)
          have HX9 : Hid (∀ i, (rw_ ((listsN n).map facG) i).length ≤ 1000) := Lib.hid (fun i => by
            by_cases hi : i < ((listsN n).map facG).length
            · obtain ⟨l, hl, e⟩ := List.mem_map.1 (rw_mem hi)
              have h1 := (isAb_ok (HOK.out.pp l hl).2.2.2).2.2.1
              rw [e] at h1
              omega
            · unfold rw_; rw [List.getElem?_eq_none (by omega)]; simp)
          obtain ⟨m, hm⟩ : ∃ m, j = m + 1 := ⟨j - 1, by omega⟩
          subst hm
          clear hjm' HJ
          obtain ⟨g, hg⟩ : ∃ g, a2 = some ⟨g, 0, none⟩ := by
            rcases owns2_cases HF.out.1.own with ⟨_, h, _⟩ | ⟨g, _, h, _⟩
            · omega
            · exact ⟨g, h⟩
          subst hg
          have hsz : wo.heap.size ≤ wj.heap.size := HF.out.2.size
          go_wp2_with fail
          refine (sortAb_any 2 wo.heap.size g m c2 _ A2 C2 _ HF.out.1 (by omega) HX9.out).mono ?_
          rintro e w3 ⟨rfl, L', A', C', hp, hs, ho, hc⟩
          have HPM := Lib.hid hp
          have HSS := Lib.hid hs
          have HLL : Hid (m + 1 = L'.length) := Lib.hid ho.len.symm
          have HO9 : Hid (OwnA 37 2 w3 w.heap.size (some ⟨g, 0, none⟩) (m + 1) c2 L' A' C' (fun _ => 0)) := Lib.hid (ho.mono HBo.out.size)
          have HB9 : Hid (Below w.heap.size w w3) := Lib.hid (by
            have h1 := owns2_block HF.out.1.own ⟨g, 0, none⟩ rfl
            have h2 := HBo.out.size
            exact (HBo.out.trans (HF.out.2.mono h2)).trans (hc.below (by omega) (fun b hb e => by have h3 : wo.heap.size ≤ g := h1.1; omega)))
          clear hp hs ho hc
          go_wp2_with fail
          go_ret2
          have h := HO9.out
          rw [HLL.out] at h
          exact ⟨L', some ⟨g, 0, none⟩, c2, A', C', by rw [← HLL.out]; rfl, HPM.out, HSS.out.imp (fun hh => by omega), h, HB9.out⟩
theorem impl_AllAbelian_bad (n : Int) (w : World) (h : n < 1 ∨ 1000 < n) :
    Calls Try.prog 74 #[.int .i64 n] w fun e w' => e = .returned (.tuple #[.slice none 0 0, .int .i64 2]) ∧ w = w' := by
  go_enter Try.func74, Try.ntmps74
  go_wp2_with (go_at_call 89; refine (inside_f _ _ _ _ h).mono ?_; rintro e w' ⟨rfl, rfl⟩)
  go_ret2
  exact ⟨rfl, rfl⟩
end Go.Proofs.Ytkidohohiihbaaa
