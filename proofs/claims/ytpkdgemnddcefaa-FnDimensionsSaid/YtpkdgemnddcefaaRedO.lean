/- The reference's reduction of rows modulo p: the rows that it hands back are the call's own. -/
import Derived.Test.YtpkdgemnddcefaaRedS3
set_option linter.unusedVariables false
set_option linter.unusedSimpArgs false
namespace Go.Proofs.Ytpkdgemnddcefaa
open Go.RowKit
set_option maxRecDepth 100000 in
set_option maxHeartbeats 16000000 in
theorem l02Reduce_own (p : Int) (hp : GP p) (a : Option Addr) (m ca n : Nat) (rows : List (List Int)) (w : World) (ha : RdR w a rows) (hl : rows.length = m) (hr : Rws p n rows) (hm : m ≤ 100) (hn : n ≤ 100) :
    Calls Try.prog 47 #[.int .i64 p, .slice a m ca] w fun e w' => ∃ (R : List (List Int)) (a' : Option Addr) (c' : Nat), e = .returned (.slice a' R.length c') ∧ IsRref p n rows R ∧ MadeR 52 2 w' w.heap.size a' R.length c' R ∧ Below w.heap.size w w' := by
  have hpb := hp.bd
  obtain ⟨hp2, hp7⟩ := hpb
  have HP := Lib.hid hp
  have HA := Lib.hid ha
  have HL := Lib.hid hl
  have HR := Lib.hid hr
  clear hp ha hl hr
  go_enter Try.func47, Try.ntmps47
  go_wp2_with fail
  go_loopw [6, 5] (fun i o wr => ∃ (i1 : Nat) (R : List (List Int)) (a1 : Option Addr) (c1 : Nat) (piv : Nat → Nat), i1 ≤ m ∧ i = .int .i64 i1 ∧ o = .slice a1 R.length c1 ∧ Hid (Rref p n R piv ∧ SpEq p (rows.take i1) R ∧ MadeR 52 2 wr w.heap.size a1 R.length c1 R ∧ Below w.heap.size w wr)) (fun i _ _ => m - (intOf i).toNat)
  case atStart => exact ⟨0, [], _, _, fun _ => 0, Nat.zero_le _, rfl, rfl, Lib.hid ⟨Rref.nil _ _ _, by simpa using SpEq.refl p [], ⟨fun _ => none, fun _ => 0, OwnR.empty w _ _ _ _⟩, (Below.refl _ _).alloc (Nat.le_refl _) _⟩⟩
  case round =>
    obtain ⟨i1, R, a1, c1, piv, hi, rfl, rfl, HJ⟩ := hrel
    obtain ⟨wo, rfl⟩ : ∃ x, x = wr := ⟨wr, rfl⟩
    by_cases hit : i1 < m
    · have hiR : i1 < rows.length := by rw [HL.out]; exact hit
      obtain ⟨b1, o1, rfl, hc⟩ := (HA.out.keep HJ.out.2.2.2 (Nat.le_refl _)) (by omega)
      obtain ⟨ai, ci, di, ri, _⟩ := hc i1 hiR
      have RI := Lib.hid ri
      have hli : (rw_ rows i1).length = n := HR.out.row i1 hiR
      have HLI := Lib.hid hli
      have HIR := Lib.hid hiR
      rw [hli] at di
      have hRn : R.length ≤ n := IsRref.len (p := p) (rows := rows.take i1) ⟨piv, HJ.out.1, HJ.out.2.1⟩
      have b0 : decide ((i1 : Int) < (m : Int)) = true := decide_eq_true (by omega)
      have HRF : Hid (Rref p n R piv) := Lib.hid HJ.out.1
      clear hc ri hli hiR
      go_wp2_with fail
      refine (l02Clear_any p hp2 hp7 _ _ R.length n _ _ R piv (rw_ rows i1) _ (by exact HJ.out.2.2.1.rd) rfl HRF.out (by exact RI.out) HLI.out hn (by omega) (fun j hj => HR.out.rng i1 j HIR.out hj)).mono ?_
      rintro e w2 ⟨u, au, cu, rfl, hclr, ho, hb⟩
      have HCL := Lib.hid hclr
      have HOu := Lib.hid ho
      have HB2 : Hid (Below w.heap.size w w2) := Lib.hid (HJ.out.2.2.2.trans (hb.mono HJ.out.2.2.2.size))
      have HMD2 : Hid (MadeR 52 2 w2 w.heap.size a1 R.length c1 R) := Lib.hid (HJ.out.2.2.1.keep hb (Nat.le_refl _))
      have HRD2 : Hid (RdR w2 a1 R) := Lib.hid HMD2.out.rd
      have s12 := hb.size
      clear hclr ho hb di
      go_wp2_with fail
      refine (l02Lead_any _ _ _ u _ (by exact HOu.out.rd) HCL.out.len (by omega)).mono ?_
      rintro e w' ⟨k, rfl, hk, rfl⟩
      have HK := Lib.hid hk
      have hkle := hk.1
      rw [HCL.out.len] at hkle
      clear hk
      by_cases hkn : k = n
      · subst hkn
        have b1 : ((k : Int) == (k : Int)) = true := by simp
        have HN : Hid (SpEq p (rows.take (i1 + 1)) R) := Lib.hid (Clr.none_left HIR.out HJ.out.2.1 HCL.out HK.out)
        go_wp2_with fail
        go_roundw
        case rel => exact ⟨i1 + 1, R, a1, c1, piv, by omega, by go_num, rfl, Lib.hid ⟨HRF.out, HN.out, HMD2.out, HB2.out⟩⟩
        case measure => simp [intOf]; omega
      · have b1 : ((k : Int) == (n : Int)) = false := beq_eq_false_iff_ne.2 (by omega)
        have hklt : k < n := by omega
        have HKN := Lib.hid hkn
        clear hkn
        have hnz := HK.out.2.2 (by rw [HCL.out.len]; exact hklt)
        obtain ⟨u1, u2⟩ := HCL.out.rng k hklt
        have hgc := gp_gcd HP.out (show 0 < el u k by omega) u2
        obtain ⟨x, hx⟩ := inv_exists hgc (by omega)
        obtain ⟨x0, x1, _⟩ := id hx
        have HXI := Lib.hid hx
        obtain ⟨s, hput⟩ := Put.of HRF.out HCL.out HK.out hklt hp2 hx
        have HPUT := Lib.hid hput
        have hsr := hput.sr
        obtain ⟨gu, rfl⟩ := HOu.out.addr (by omega)
        have eu := HOu.out.cellAt hklt
        clear hgc hx hput hnz
        go_wp2_with fail
        refine (l01Inv_yes _ _ _ (by omega) (by omega) hp2 (by omega) x HXI.out).mono ?_
        rintro e w' ⟨rfl, rfl⟩
        go_wp2_with fail
        refine (l02Scale_any _ n _ u _ _ _ (by exact HOu.out.rd) HCL.out.len (by omega) hp2 hp7 (by omega) (by omega) HCL.out.rng).mono ?_
        rintro e w3 ⟨av, cv, rfl, ho, hb⟩
        have hfin := Put.fin HIR.out HRF.out HJ.out.2.1 HCL.out hp2 HXI.out HPUT.out
        have HFIN := Lib.hid hfin
        clear hfin
        generalize scalem p x u = v9 at *
        have HOv := Lib.hid ho
        have HB3 : Hid (Below w.heap.size w w3) := Lib.hid (HB2.out.trans (hb.mono HB2.out.size))
        have HRD3 : Hid (RdR w3 a1 R) := Lib.hid (HRD2.out.keep hb (Nat.le_refl _))
        have s23 := hb.size
        have HV9 : Hid (v9.length = n) := Lib.hid HPUT.out.len
        have HVR : Hid (∀ j, j < n → 0 ≤ el v9 j ∧ el v9 j < p) := Lib.hid HPUT.out.rng
        clear ho hb eu
        go_wp2_with fail
        go_loopw [11, 9, 10] (fun j o t wr => ∃ (j1 : Nat) (a2 : Option Addr) (c2 : Nat) (A : Nat → Option Addr) (C : Nat → Nat), j1 ≤ R.length ∧ j = .int .i64 j1 ∧ ((t = .bool false ∧ j1 ≤ s ∧ o = .slice a2 j1 c2 ∧ Hid (OwnR 52 2 wr w3.heap.size a2 j1 c2 (tab j1 (insG s v9 (insF p R v9 k))) A C ∧ Below w3.heap.size w3 wr ∧ ∀ q, a2 = some q → w3.heap.size ≤ q.block)) ∨ (t = .bool true ∧ s < j1 ∧ o = .slice a2 (j1 + 1) c2 ∧ Hid (OwnR 52 2 wr w2.heap.size a2 (j1 + 1) c2 (tab (j1 + 1) (insG s v9 (insF p R v9 k))) A C ∧ Below w3.heap.size w3 wr ∧ ∀ q, a2 = some q → w3.heap.size ≤ q.block)))) (fun j _ _ _ => R.length - (intOf j).toNat)
        case atStart => exact ⟨0, _, 0, fun _ => none, fun _ => 0, Nat.zero_le _, rfl, .inl ⟨rfl, Nat.zero_le _, rfl, Lib.hid ⟨by simpa [tab] using OwnR.empty w3 _ _ _ _, (Below.refl _ _).alloc (Nat.le_refl _) _, fun q hq => by injection hq with hq; subst hq; exact Nat.le_refl _⟩⟩⟩
        case round =>
          obtain ⟨j, a2, c2, A, C, hj, rfl, hcase⟩ := hrel
          obtain ⟨wi, rfl⟩ : ∃ x, x = wr := ⟨wr, rfl⟩
          rcases hcase with ⟨rfl, hjs, rfl, HQ⟩ | ⟨rfl, hjs, rfl, HQ⟩
          · by_cases hjt : j < R.length
            · have HJR := Lib.hid hjt
              obtain ⟨b4, o4, rfl, hc4⟩ := HRD3.out (by omega)
              obtain ⟨aj, cj, d3, r3, _⟩ := hc4 j hjt
              have hlj : (rw_ R j).length = n := HRF.out.len j hjt
              rw [hlj] at d3
              obtain ⟨bj, oj, hbj, hcj⟩ := id r3 (by omega)
              have e3 := hcj k (by omega)
              subst hbj
              have D3 := Lib.hid d3
              have E3 := Lib.hid e3
              have R3 := Lib.hid r3
              have HLJ := Lib.hid hlj
              obtain ⟨z1, z2⟩ := HRF.out.rng j k hjt hklt
              have W1 : IntKind.i64.wrap (p - el (rw_ R j) k) = p - el (rw_ R j) k := IntWalk.i64_in _ (by omega)
              have J1 : (k : Int) < (n : Int) := by omega
              have J2 : (j : Int) < (R.length : Int) := by omega
              have b3 : decide ((j : Int) < (R.length : Int)) = true := decide_eq_true J2
              clear hc4 hcj r3 hlj d3 e3
              have RJ : Hid (RdI wi (some ⟨bj, oj, none⟩) (rw_ R j)) := Lib.hid (R3.out.keep HQ.out.2.1 (Nat.le_refl _))
              have RV : Hid (RdI wi av v9) := Lib.hid (HOv.out.rd.keep HQ.out.2.1 (Nat.le_refl _))
              have hszW : w3.heap.size ≤ wi.heap.size := (HQ.out.2.1).size
              have dj : wi.cell? ⟨b4, o4 + j, none⟩ = some (.slice (some ⟨bj, oj, none⟩) n cj) := cell_below (p := ⟨b4, o4 + j, none⟩) D3.out HQ.out.2.1
              have ej : wi.cell? ⟨bj, oj + k, none⟩ = some (.int .i64 (el (rw_ R j) k)) := cell_below (p := ⟨bj, oj + k, none⟩) E3.out HQ.out.2.1
              go_wp2_with fail
              refine (l02Lead_any _ _ _ (rw_ R j) _ (by exact RJ.out) HLJ.out (by omega)).mono ?_
              rintro e w' ⟨kj, rfl, hkj, rfl⟩
              have hkp : piv j = kj := (HRF.out.isLead hjt).unique hkj
              clear hkj
              by_cases hs : j = s
              · have hgt : k < kj := by have := HPUT.out.hi j (by omega) hjt; omega
                have bk4 : decide ((k : Int) < (kj : Int)) = true := decide_eq_true (by omega)
                have HS := Lib.hid hs
                clear hkp hs
                have HOv2 : Hid (OwnI 2 wi w2.heap.size av n cv v9) := Lib.hid (HOv.out.keep HQ.out.2.1 (Nat.le_refl _))
                go_wp2_with (at_builtin; refine wpList_push rfl (.tmp 59) (.tmp 61) 24 rfl w2.heap.size 52 (.slice none 0 0) 24 Try.underlying24 Try.infoR rfl (by decide) (.slice av n cv) rfl _ _ _ _ rfl rfl (by exact (HQ.out.1.mono s23).own) (by omega) (by exact Nat.le_trans s23 hszW) ?_; rintro a5 c5 w5 r5 q5 g5; have h6 := (HQ.out.1.mono s23).pushed (ar := av) (cr := cv) (xs := v9) (by rw [HV9.out]; exact HOv2.out) (fun i hi p q hp hq e => by have h1 := ((HQ.out.1.row i hi).block p hp).1; have h2 := (HOv.out.block q hq).2; omega) (fun p q hp hq e => by have h1 := (ownsRow_block HQ.out.1.own p hp).1; have h2 := (HOv.out.block q hq).2; omega) (by rw [HV9.out]; exact r5) q5 g5; have HQ5 := Lib.hid h6; have hb5 : Below w3.heap.size w3 w5 := HQ.out.2.1.trans (g5.below hszW (fun m hm hx => by obtain ⟨x, hx, e⟩ := hx; have := HQ.out.2.2 x hx; omega)); have HB5 := Lib.hid hb5; have HO5 : Hid (∀ q, a5 = some q → w3.heap.size ≤ q.block) := Lib.hid (push_out2 hszW HQ.out.2.2 q5); clear h6 hb5 r5 q5 g5 dj ej; have dj : w5.cell? ⟨b4, o4 + j, none⟩ = some (.slice (some ⟨bj, oj, none⟩) n cj) := cell_below (p := ⟨b4, o4 + j, none⟩) D3.out HB5.out; have ej : w5.cell? ⟨bj, oj + k, none⟩ = some (.int .i64 (el (rw_ R j) k)) := cell_below (p := ⟨bj, oj + k, none⟩) E3.out HB5.out)
                clear RJ RV hszW
                have RJ : Hid (RdI w5 (some ⟨bj, oj, none⟩) (rw_ R j)) := Lib.hid (R3.out.keep HB5.out (Nat.le_refl _))
                have RV : Hid (RdI w5 av v9) := Lib.hid (HOv.out.rd.keep HB5.out (Nat.le_refl _))
                have hszW : w3.heap.size ≤ w5.heap.size := (HB5.out).size
                have s25 : w2.heap.size ≤ w5.heap.size := Nat.le_trans s23 hszW
                go_region_law (first
                  | (refine step_pushW rfl (.tmp 63) (.tmp 80) 24 rfl w2.heap.size 52 (.slice none 0 0) 24 Try.underlying24 Try.infoR rfl (by decide) (.slice ac n cc) rfl _ _ _ _ _ rfl rfl (by exact (World.cell?_alloc_at _ _ _ _ rfl).trans rfl) (by exact (ownsRow_same (HQ5.out.keep HBc.out (Nat.le_refl _)).own (fun p hp => Below.heap_alloc _ _ _ (ownsRow_block (HQ5.out.keep HBc.out (Nat.le_refl _)).own p hp).2))) (by omega) (by exact Nat.le_trans s25 (Nat.le_trans HBc.out.size (by simp))) ?_; rintro a4 c4 w4 r4 q4 g4; have HN := Lib.hid (HQ5.out.pushNew s25 HBc.out HOc.out (by simp) r4 q4 g4); have HB4 := Lib.hid (push_below HBc.out hszW HO5.out g4); have HO4 := Lib.hid (push_out HBc.out hszW HO5.out q4); clear r4 q4 g4)
                  | (go_simp; go_at_call 87; refine (l02Add_any _ _ n _ _ (rw_ R j) v9 _ _ _ (by exact RJ.out.same (fun _ _ => rfl)) (by exact RV.out.same (fun _ _ => rfl)) HLJ.out HV9.out (by omega) hp2 hp7 (by omega) (by omega) (fun q hq => HRF.out.rng j q HJR.out hq) HVR.out).mono ?_; rintro e wc ⟨ac, cc, rfl, ho, hb⟩; have HOc := Lib.hid ho; have HBc : Hid (Below w5.heap.size w5 wc) := Lib.hid (below_drw hb); clear ho hb))
                all_goals
                  have HN2 : Hid (OwnR 52 2 w4 w2.heap.size a4 (j + 1 + 1) c4 (tab (j + 1 + 1) (insG s v9 (insF p R v9 k))) (upd (upd A j av) (j + 1) ac) (upd (upd C j cv) (j + 1) cc) ∧ Below w3.heap.size w3 w4 ∧ ∀ q, a4 = some q → w3.heap.size ≤ q.block) := Lib.hid ⟨by rw [tab_succ, tab_succ, insG_gt (by have := HS.out; omega), show insG s v9 (insF p R v9 k) j = v9 by rw [HS.out]; exact insG_eq]; exact HN.out.1, HB5.out.trans HB4.out, HO4.out⟩
                  go_wp2_with fail
                  go_roundw
                  case rel => exact ⟨j + 1, a4, c4, _, _, by omega, by go_num, .inr ⟨rfl, by have := HS.out; omega, rfl, HN2⟩⟩
                  case measure => simp [intOf]; omega
              · have hlt2 : j < s := by omega
                have hgt : kj < k := by have := HPUT.out.lo j hlt2; omega
                have bk4 : decide ((k : Int) < (kj : Int)) = false := by simp; omega
                clear hkp hs
                go_wp2_with fail
                go_region_law (first
                  | (refine step_pushW rfl (.tmp 63) (.tmp 80) 24 rfl w3.heap.size 52 (.slice none 0 0) 24 Try.underlying24 Try.infoR rfl (by decide) (.slice ac n cc) rfl _ _ _ _ _ rfl rfl (by exact (World.cell?_alloc_at _ _ _ _ rfl).trans rfl) (by exact (ownsRow_same (HQ.out.1.keep HBc.out (Nat.le_refl _)).own (fun p hp => Below.heap_alloc _ _ _ (ownsRow_block (HQ.out.1.keep HBc.out (Nat.le_refl _)).own p hp).2))) (by omega) (by exact Nat.le_trans hszW (Nat.le_trans HBc.out.size (by simp))) ?_; rintro a4 c4 w4 r4 q4 g4; have HN := Lib.hid (HQ.out.1.pushNew hszW HBc.out HOc.out (by simp) r4 q4 g4); have HB4 := Lib.hid (push_below HBc.out hszW HQ.out.2.2 g4); have HO4 := Lib.hid (push_out HBc.out hszW HQ.out.2.2 q4); clear r4 q4 g4)
                  | (go_simp; go_at_call 87; refine (l02Add_any _ _ n _ _ (rw_ R j) v9 _ _ _ (by exact RJ.out.same (fun _ _ => rfl)) (by exact RV.out.same (fun _ _ => rfl)) HLJ.out HV9.out (by omega) hp2 hp7 (by omega) (by omega) (fun q hq => HRF.out.rng j q HJR.out hq) HVR.out).mono ?_; rintro e wc ⟨ac, cc, rfl, ho, hb⟩; have HOc := Lib.hid ho; have HBc : Hid (Below wi.heap.size wi wc) := Lib.hid (below_drw hb); clear ho hb))
                all_goals
                  have HN2 : Hid (OwnR 52 2 w4 w3.heap.size a4 (j + 1) c4 (tab (j + 1) (insG s v9 (insF p R v9 k))) (upd A j ac) (upd C j cc) ∧ Below w3.heap.size w3 w4 ∧ ∀ q, a4 = some q → w3.heap.size ≤ q.block) := Lib.hid ⟨by rw [tab_succ, insG_lt hlt2]; exact HN.out.1, HQ.out.2.1.trans HB4.out, HO4.out⟩
                  go_wp2_with fail
                  go_roundw
                  case rel => exact ⟨j + 1, a4, c4, _, _, by omega, by go_num, .inl ⟨rfl, by omega, rfl, HN2⟩⟩
                  case measure => simp [intOf]; omega
            · have hjr : R.length = j := by omega
              have hsj : j = s := by omega
              have hszW : w3.heap.size ≤ wi.heap.size := HQ.out.2.1.size
              have b3 : decide ((j : Int) < (R.length : Int)) = false := by simp; omega
              have HJ9 := Lib.hid hjr
              have HS := Lib.hid hsj
              clear hjr hsj
              have HOv2 : Hid (OwnI 2 wi w2.heap.size av n cv v9) := Lib.hid (HOv.out.keep HQ.out.2.1 (Nat.le_refl _))
              go_wp2_with (at_builtin; refine wpList_push rfl (.tmp 84) (.tmp 86) 24 rfl w2.heap.size 52 (.slice none 0 0) 24 Try.underlying24 Try.infoR rfl (by decide) (.slice av n cv) rfl _ _ _ _ rfl rfl (by exact (HQ.out.1.mono s23).own) (by omega) (by exact Nat.le_trans s23 hszW) ?_; rintro a5 c5 w5 r5 q5 g5; have h6 := (HQ.out.1.mono s23).pushed (ar := av) (cr := cv) (xs := v9) (by rw [HV9.out]; exact HOv2.out) (fun i hi p q hp hq e => by have h1 := ((HQ.out.1.row i hi).block p hp).1; have h2 := (HOv.out.block q hq).2; omega) (fun p q hp hq e => by have h1 := (ownsRow_block HQ.out.1.own p hp).1; have h2 := (HOv.out.block q hq).2; omega) (by rw [HV9.out]; exact r5) q5 g5; have HQ5 := Lib.hid h6; have hb5 : Below w3.heap.size w3 w5 := HQ.out.2.1.trans (g5.below hszW (fun m hm hx => by obtain ⟨x, hx, e⟩ := hx; have := HQ.out.2.2 x hx; omega)); have HB5 := Lib.hid hb5; clear h6 hb5 r5 q5 g5)
              have HRD : Hid (MadeR 52 2 w5 w.heap.size a5 (insR p R v9 k s).length c5 (insR p R v9 k s)) := Lib.hid (by
                have h := HQ5.out.mono HB2.out.size
                rw [insR_len, HJ9.out]
                unfold insR
                rw [HJ9.out, tab_succ, show insG s v9 (insF p R v9 k) j = v9 by rw [HS.out]; exact insG_eq]
                exact ⟨_, _, h⟩)
              have HB6 : Hid (Below w.heap.size w w5) := Lib.hid (HB3.out.trans (HB5.out.mono HB3.out.size))
              go_roundw
              case rel => exact ⟨i1 + 1, insR p R v9 k s, a5, c5, insP s k piv, by omega, by go_num, by rw [insR_len, HJ9.out], Lib.hid ⟨HFIN.out.1, HFIN.out.2, HRD.out, HB6.out⟩⟩
              case measure => simp [intOf]; omega
          · by_cases hjt : j < R.length
            · have HJR := Lib.hid hjt
              obtain ⟨b4, o4, rfl, hc4⟩ := HRD3.out (by omega)
              obtain ⟨aj, cj, d3, r3, _⟩ := hc4 j hjt
              have hlj : (rw_ R j).length = n := HRF.out.len j hjt
              rw [hlj] at d3
              obtain ⟨bj, oj, hbj, hcj⟩ := id r3 (by omega)
              have e3 := hcj k (by omega)
              subst hbj
              have D3 := Lib.hid d3
              have E3 := Lib.hid e3
              have R3 := Lib.hid r3
              have HLJ := Lib.hid hlj
              obtain ⟨z1, z2⟩ := HRF.out.rng j k hjt hklt
              have W1 : IntKind.i64.wrap (p - el (rw_ R j) k) = p - el (rw_ R j) k := IntWalk.i64_in _ (by omega)
              have J1 : (k : Int) < (n : Int) := by omega
              have J2 : (j : Int) < (R.length : Int) := by omega
              have b3 : decide ((j : Int) < (R.length : Int)) = true := decide_eq_true J2
              clear hc4 hcj r3 hlj d3 e3
              have RJ : Hid (RdI wi (some ⟨bj, oj, none⟩) (rw_ R j)) := Lib.hid (R3.out.keep HQ.out.2.1 (Nat.le_refl _))
              have RV : Hid (RdI wi av v9) := Lib.hid (HOv.out.rd.keep HQ.out.2.1 (Nat.le_refl _))
              have hszW : w3.heap.size ≤ wi.heap.size := (HQ.out.2.1).size
              have dj : wi.cell? ⟨b4, o4 + j, none⟩ = some (.slice (some ⟨bj, oj, none⟩) n cj) := cell_below (p := ⟨b4, o4 + j, none⟩) D3.out HQ.out.2.1
              have ej : wi.cell? ⟨bj, oj + k, none⟩ = some (.int .i64 (el (rw_ R j) k)) := cell_below (p := ⟨bj, oj + k, none⟩) E3.out HQ.out.2.1
              have s2i : w2.heap.size ≤ wi.heap.size := Nat.le_trans s23 hszW
              go_wp2_with fail
              go_region_law (first
                | (refine step_pushW rfl (.tmp 63) (.tmp 80) 24 rfl w2.heap.size 52 (.slice none 0 0) 24 Try.underlying24 Try.infoR rfl (by decide) (.slice ac n cc) rfl _ _ _ _ _ rfl rfl (by exact (World.cell?_alloc_at _ _ _ _ rfl).trans rfl) (by exact (ownsRow_same (HQ.out.1.keep HBc.out (Nat.le_refl _)).own (fun p hp => Below.heap_alloc _ _ _ (ownsRow_block (HQ.out.1.keep HBc.out (Nat.le_refl _)).own p hp).2))) (by omega) (by exact Nat.le_trans s2i (Nat.le_trans HBc.out.size (by simp))) ?_; rintro a4 c4 w4 r4 q4 g4; have HN := Lib.hid (HQ.out.1.pushNew s2i HBc.out HOc.out (by simp) r4 q4 g4); have HB4 := Lib.hid (push_below HBc.out hszW HQ.out.2.2 g4); have HO4 := Lib.hid (push_out HBc.out hszW HQ.out.2.2 q4); clear r4 q4 g4)
                | (go_simp; go_at_call 87; refine (l02Add_any _ _ n _ _ (rw_ R j) v9 _ _ _ (by exact RJ.out.same (fun _ _ => rfl)) (by exact RV.out.same (fun _ _ => rfl)) HLJ.out HV9.out (by omega) hp2 hp7 (by omega) (by omega) (fun q hq => HRF.out.rng j q HJR.out hq) HVR.out).mono ?_; rintro e wc ⟨ac, cc, rfl, ho, hb⟩; have HOc := Lib.hid ho; have HBc : Hid (Below wi.heap.size wi wc) := Lib.hid (below_drw hb); clear ho hb))
              all_goals
                have HN2 : Hid (OwnR 52 2 w4 w2.heap.size a4 (j + 1 + 1) c4 (tab (j + 1 + 1) (insG s v9 (insF p R v9 k))) (upd A (j + 1) ac) (upd C (j + 1) cc) ∧ Below w3.heap.size w3 w4 ∧ ∀ q, a4 = some q → w3.heap.size ≤ q.block) := Lib.hid ⟨by rw [tab_succ, insG_gt (by omega)]; exact HN.out.1, HQ.out.2.1.trans HB4.out, HO4.out⟩
                go_wp2_with fail
                go_roundw
                case rel => exact ⟨j + 1, a4, c4, _, _, by omega, by go_num, .inr ⟨rfl, by omega, rfl, HN2⟩⟩
                case measure => simp [intOf]; omega
            · have hjr : R.length = j := by omega
              have b3 : decide ((j : Int) < (R.length : Int)) = false := by simp; omega
              have HJ9 := Lib.hid hjr
              clear hjr
              have HRD : Hid (MadeR 52 2 wi w.heap.size a2 (insR p R v9 k s).length c2 (insR p R v9 k s)) := Lib.hid (by
                have h := HQ.out.1.mono HB2.out.size
                rw [insR_len, HJ9.out]
                unfold insR
                rw [HJ9.out]
                exact ⟨_, _, h⟩)
              have HB6 : Hid (Below w.heap.size w wi) := Lib.hid (HB3.out.trans (HQ.out.2.1.mono HB3.out.size))
              go_wp2_with fail
              go_roundw
              case rel => exact ⟨i1 + 1, insR p R v9 k s, a2, c2, insP s k piv, by omega, by go_num, by rw [insR_len, HJ9.out], Lib.hid ⟨HFIN.out.1, HFIN.out.2, HRD.out, HB6.out⟩⟩
              case measure => simp [intOf]; omega
    · obtain rfl : m = i1 := by omega
      have HF : Hid (IsRref p n rows R) := Lib.hid ⟨piv, HJ.out.1, by have := HJ.out.2.1; rwa [List.take_of_length_le (by rw [HL.out]; omega)] at this⟩
      go_wp2_with fail
      go_ret
      exact ⟨R, a1, c1, rfl, HF.out, HJ.out.2.2⟩
end Go.Proofs.Ytpkdgemnddcefaa
