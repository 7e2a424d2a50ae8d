/- The reference's l03Fill: all matrices of given pivots put into an ascending list. -/
import Derived.Test.YtpkdgemnddcefaaAsS2
set_option linter.unusedVariables false
set_option linter.unusedSimpArgs false
namespace Go.Proofs.Ytpkdgemnddcefaa
open Go.RowKit
/-- the list after x matrices -/
def insF (p n : Nat) (piv : List Int) (L : List (List (List Int))) : Nat → List (List (List Int))
  | 0 => L
  | x + 1 => insM (matD p n piv (x : Nat)) (insF p n piv L x)
theorem insF_fold (p n : Nat) (piv : List Int) (L : List (List (List Int))) : ∀ x, insF p n piv L x = (((List.range x).map fun (t : Nat) => matD p n piv (t : Int))).foldl (fun L m => insM m L) L
  | 0 => rfl
  | x + 1 => by rw [List.range_succ, List.map_append, List.foldl_append, ← insF_fold p n piv L x]; rfl
theorem insF_all (p n : Nat) (piv : List Int) (L : List (List (List Int))) : insF p n piv L (p ^ freeN piv n piv.length) = (matsD p n piv).foldl (fun L m => insM m L) L := insF_fold p n piv L _
theorem matD_sh (p : Int) (n : Nat) (piv : List Int) (x : Int) : ShM n piv.length (matD p n piv x) := by
  refine ⟨tab_len _ _, fun r hr => ?_⟩
  obtain ⟨i, hi, rfl⟩ := List.mem_map.1 hr
  exact rowD_len _ _ _ _ _
theorem insM_sh {n k : Nat} {X : List (List Int)} {L : List (List (List Int))} (hX : ShM n k X) (hL : ∀ m ∈ L, ShM n k m) : ∀ m ∈ insM X L, ShM n k m := fun m hm => by
  rcases List.mem_cons.1 ((insM_perm X L).mem_iff.1 hm) with rfl | h
  · exact hX
  · exact hL m h
theorem insF_sh {p n k : Nat} {piv : List Int} {L : List (List (List Int))} (hk : piv.length = k) (hL : ∀ m ∈ L, ShM n k m) : ∀ x, ∀ m ∈ insF p n piv L x, ShM n k m
  | 0 => hL
  | x + 1 => insM_sh (by rw [← hk]; exact matD_sh _ _ _ _) (insF_sh hk hL x)
theorem insM_len (X : List (List Int)) (L : List (List (List Int))) : (insM X L).length = L.length + 1 := by rw [(insM_perm X L).length_eq]; rfl
theorem insF_len (p n : Nat) (piv : List Int) (L : List (List (List Int))) : ∀ x, (insF p n piv L x).length = L.length + x
  | 0 => rfl
  | x + 1 => by rw [insF, insM_len, insF_len p n piv L x]; rfl
theorem InS.of {n k : Nat} {L : List (List (List Int))} (h : ∀ m ∈ L, ShM n k m) : InS n k L :=
  ⟨fun i hi => (h _ (mx_mem hi)).1, fun i hi j hj => (h _ (mx_mem hi)).2 _ (rw_mem (by rw [(h _ (mx_mem hi)).1]; exact hj))⟩
theorem freeN_mono (piv : List Int) (n : Nat) {i j : Nat} (h : i ≤ j) : freeN piv n i ≤ freeN piv n j := by
  induction h with
  | refl => exact Nat.le_refl _
  | step _ ih => rw [freeN]; omega
/-- pivots as they come -/
structure PvS (piv : List Int) (n k : Nat) : Prop where
  len : piv.length = k
  lo : ∀ i, i < k → 0 ≤ el piv i
  hi : ∀ i, i < k → el piv i < n
  k8 : k ≤ 8
  n8 : n ≤ 8
theorem freeI_mem {piv : List Int} {i n : Nat} {c : Int} (h : c ∈ freeI piv i n) : 0 ≤ c ∧ c < n := by
  obtain ⟨j, hj, rfl⟩ := List.mem_map.1 h
  have : j < n := by simpa using (List.mem_filter.1 hj).1
  omega
theorem freeI_le (piv : List Int) (i n : Nat) : (freeI piv i n).length ≤ n := by
  unfold freeI; rw [List.length_map]; exact Nat.le_trans (List.length_filter_le _ _) (by simp)
theorem dig_bd {p M : Int} (hp : 1 ≤ p) : ∀ (js : List Int) (s : List Int × Int), 0 ≤ s.2 → s.2 ≤ M → 0 ≤ (dig p js s).2 ∧ (dig p js s).2 ≤ M
  | [], s, h, h2 => ⟨h, h2⟩
  | j :: js, s, h, h2 => by
    have := dig_bd hp js (s.1.set j.toNat (s.2 % p), s.2 / p) (Int.ediv_nonneg h (by omega)) (Int.le_trans (Int.ediv_le_self _ h) h2)
    unfold dig at this ⊢
    rw [List.foldl_cons]; exact this
theorem rst_bd {p M : Int} {n : Nat} {piv : List Int} {x : Int} (hp : 1 ≤ p) (hx : 0 ≤ x) (h2 : x ≤ M) : ∀ i, 0 ≤ rst p n piv x i ∧ rst p n piv x i ≤ M
  | 0 => ⟨hx, h2⟩
  | i + 1 => dig_bd hp _ _ (rst_bd hp hx h2 i).1 (rst_bd hp hx h2 i).2
theorem take_snoc {xs : List Int} {k : Nat} (h : k < xs.length) : xs.take (k + 1) = xs.take k ++ [el xs k] := by rw [List.take_add_one, el_get h]; rfl
set_option maxRecDepth 20000 in
set_option maxHeartbeats 8000000 in
theorem l03Fill_any (a ap : Option Addr) (n c k cp q0 p : Nat) (L : List (List (List Int))) (piv : List Int) (w : World) (ha : RdM w a n (fun _ => (p : Int)) (fun _ => (q0 : Int)) L) (hp : RdI w ap piv) (hL : L.length = n) (hP : PvS piv q0 k) (hS : ∀ m ∈ L, ShM q0 k m) (hp2 : 2 ≤ p) (hp7 : p ≤ 7) (hf : p ^ freeN piv q0 k ≤ 200) (hn : n ≤ 400) :
    Calls Try.prog 35 #[.slice a n c, .int .i64 (p : Int), .int .i64 q0, .slice ap k cp] w fun e w' => ∃ a' c', e = .returned (.slice a' (n + p ^ freeN piv q0 k) c') ∧ RdM w' a' (n + p ^ freeN piv q0 k) (fun _ => (p : Int)) (fun _ => (q0 : Int)) (insF p q0 piv L (p ^ freeN piv q0 k)) ∧ Below w.heap.size w w' := by
  have HA := Lib.hid ha
  have HPV := Lib.hid hp
  have HL := Lib.hid hL
  have HP := Lib.hid hP
  have HSH := Lib.hid hS
  have k8 := hP.k8
  have n8 := hP.n8
  have HPW : Hid (∀ i, i ≤ k → p ^ freeN piv q0 i ≤ 200) := Lib.hid (fun i hi => Nat.le_trans (Nat.pow_le_pow_right (by omega) (freeN_mono piv q0 hi)) hf)
  clear ha hp hL hP hS
  go_enter Try.func35, Try.ntmps35
  go_wp2_with fail
  go_loopw [10, 9] (fun i t wr => ∃ I : Nat, I ≤ k ∧ i = .int .i64 I ∧ t = .int .i64 ((p ^ freeN piv q0 I : Nat) : Int) ∧ Hid (Below w.heap.size w wr)) (fun i _ _ => k - (intOf i).toNat)
  case atStart => exact ⟨0, Nat.zero_le _, rfl, rfl, Lib.hid (Below.refl _ _)⟩
  case round =>
    obtain ⟨I, hI, rfl, rfl, HB⟩ := hrel
    obtain ⟨wo, rfl⟩ : ∃ x, x = wr := ⟨wr, rfl⟩
    by_cases hIk : I < k
    · have J1 : (I : Int) < (k : Int) := by omega
      have HFS : Hid (freeN piv q0 (I + 1) = freeN piv q0 I + (freeI piv I q0).length) := Lib.hid rfl
      have HPI := Lib.hid (HPW.out (I + 1) (by omega))
      go_wp2_with fail
      refine (l03Free_any ap k cp piv I q0 wo (by exact HPV.out.keep HB.out (Nat.le_refl _)) HP.out.len hIk (by omega) (by omega) (HP.out.lo I hIk) (HP.out.hi I hIk)).mono ?_
      rintro e w5 ⟨af, cf, rfl, hof, hbf⟩
      have HB5 := Lib.hid (HB.out.trans (hbf.mono HB.out.size))
      clear hof hbf
      obtain ⟨F, hF⟩ : ∃ F, F = (freeI piv I q0).length := ⟨_, rfl⟩
      have hF8 : F ≤ 8 := by rw [hF]; exact Nat.le_trans (freeI_le _ _ _) n8
      rw [← hF] at HFS ⊢
      clear hF
      have W0 : freeN piv q0 I + 0 = freeN piv q0 I := rfl
      go_wp2_with fail
      go_loopw [29, 9] (fun j t wr => ∃ J : Nat, J ≤ F ∧ j = .int .i64 J ∧ t = .int .i64 ((p ^ (freeN piv q0 I + J) : Nat) : Int) ∧ wr = w5) (fun j _ _ => F - (intOf j).toNat)
      case atStart => exact ⟨0, Nat.zero_le _, rfl, rfl, rfl⟩
      case round =>
        obtain ⟨J, hJ, rfl, rfl, hw⟩ := hrel
        subst hw
        by_cases hJF : J < F
        · have J2 : (J : Int) < (F : Int) := by omega
          have hb2 : p ^ (freeN piv q0 I + F) ≤ 200 := by have := HPI.out; rwa [HFS.out] at this
          have hb : p ^ (freeN piv q0 I + (J + 1)) ≤ 200 := Nat.le_trans (Nat.pow_le_pow_right (by omega) (show freeN piv q0 I + (J + 1) ≤ freeN piv q0 I + F by omega)) hb2
          clear hb2
          have hm : p ^ (freeN piv q0 I + J) * p = p ^ (freeN piv q0 I + (J + 1)) := by rw [← Nat.add_assoc, Nat.pow_succ]
          have W1 : IntKind.i64.wrap (((p ^ (freeN piv q0 I + J) : Nat) : Int) * (p : Int)) = ((p ^ (freeN piv q0 I + (J + 1)) : Nat) : Int) := by
            rw [← Int.natCast_mul, hm]; exact IntWalk.i64_in _ (by omega)
          clear hm W0
          generalize p ^ (freeN piv q0 I + J) = T0 at *
          obtain ⟨T1, hT1⟩ : ∃ T1, T1 = p ^ (freeN piv q0 I + (J + 1)) := ⟨_, rfl⟩
          rw [← hT1] at W1 hb
          have HT1 := Lib.hid hT1
          clear hT1
          go_wp2_with fail
          go_roundw
          case rel => exact ⟨J + 1, by omega, by go_num, by rw [HT1.out], (by first | rfl | trivial)⟩
          case measure => simp [intOf]; omega
        · obtain rfl : J = F := by omega
          have J2 : ¬ (J : Int) < (J : Int) := by omega
          have HE : Hid (p ^ (freeN piv q0 I + J) = p ^ freeN piv q0 (I + 1)) := Lib.hid (by rw [HFS.out])
          clear W0
          generalize p ^ (freeN piv q0 I + J) = T0 at *
          go_wp2_with fail
          go_roundw
          case rel => exact ⟨I + 1, by omega, by go_num, by rw [HE.out], HB5⟩
          case measure => simp [intOf]; omega
    · obtain rfl : I = k := by omega
      have J1 : ¬ (I : Int) < (I : Int) := by omega
      obtain ⟨N, hN⟩ : ∃ N, N = p ^ freeN piv q0 I := ⟨_, rfl⟩
      rw [← hN] at hf ⊢
      have HN := Lib.hid hN
      clear hN
      have HRD0 : Hid (RdM wo a (n + 0) (fun _ => (p : Int)) (fun _ => (q0 : Int)) (insF p q0 piv L 0)) := Lib.hid (HA.out.keep HB.out (Nat.le_refl _))
      have HMK := Lib.hid (run_make_row' (P := Try.prog) 52 2 (.int .i64 0) 8 Try.underlying52 Try.info2 rfl .i64 .i64 q0 (by omega) (by omega))
      have HPW2 := HPW
      clear HPW
      go_wp2_with fail
      go_loopw [11, 0] (fun x v wr => ∃ (x1 : Nat) (aL : Option Addr) (cL : Nat), x1 ≤ N ∧ x = .int .i64 x1 ∧ v = .slice aL (n + x1) cL ∧ Hid (RdM wr aL (n + x1) (fun _ => (p : Int)) (fun _ => (q0 : Int)) (insF p q0 piv L x1) ∧ Below w.heap.size w wr)) (fun x _ _ => N - (intOf x).toNat)
      case atStart => exact ⟨0, a, c, Nat.zero_le _, rfl, rfl, Lib.hid ⟨HRD0.out, HB.out⟩⟩
      case round =>
        obtain ⟨x1, aL, cL, hx1, rfl, rfl, HX⟩ := hrel
        obtain ⟨wx, rfl⟩ : ∃ x, x = wr := ⟨wr, rfl⟩
        clear HRD0
        by_cases hxN : x1 < N
        · have J3 : (x1 : Int) < (N : Int) := by omega
          have HR0 : Hid (OwnR 52 2 (wx.alloc (.cells #[] 52)) wx.heap.size (some ⟨wx.heap.size, 0, none⟩) 0 0 (tab 0 (rowD p q0 piv x1)) (fun _ => none) (fun _ => 0) ∧ Below wx.heap.size wx (wx.alloc (.cells #[] 52))) := Lib.hid ⟨OwnR.empty wx _ _ _ _, (Below.refl _ _).alloc (Nat.le_refl _) _⟩
          obtain ⟨Lx, hLx⟩ : ∃ x, x = wx.heap.size := ⟨_, rfl⟩
          rw [← hLx] at HR0
          have HLX := Lib.hid hLx
          have hmk := HMK.out
          clear hLx
          go_wp2_with fail
          rw [← HLX.out]
          go_loopw [14, 12, 13] (fun i v r wr => ∃ (i1 : Nat) (aR : Option Addr) (cR : Nat) (A : Nat → Option Addr) (C : Nat → Nat), i1 ≤ I ∧ i = .int .i64 i1 ∧ v = .slice aR i1 cR ∧ r = .int .i64 (rst p q0 piv x1 i1) ∧ Hid (OwnR 52 2 wr Lx aR i1 cR (tab i1 (rowD p q0 piv x1)) A C ∧ Below Lx wx wr)) (fun i _ _ _ => I - (intOf i).toNat)
          case atStart => exact ⟨0, _, 0, _, _, Nat.zero_le _, rfl, rfl, rfl, HR0⟩
          case round =>
            obtain ⟨i1, aR, cR, A, C, hi1, rfl, rfl, rfl, HR⟩ := hrel
            obtain ⟨wi, rfl⟩ : ∃ x, x = wr := ⟨wr, rfl⟩
            clear HR0
            by_cases hiI : i1 < I
            · have J4 : (i1 : Int) < (I : Int) := by omega
              obtain ⟨cv, hcv⟩ : ∃ cv : Nat, (cv : Int) = el piv i1 := ⟨(el piv i1).toNat, by have := HP.out.lo i1 hiI; omega⟩
              have hcq : cv < q0 := by have := HP.out.hi i1 hiI; omega
              have J5 : (cv : Int) < (q0 : Int) := by omega
              have hmk := HMK.out
              obtain ⟨bp, op, hap, hcp⟩ := id HPV.out (by rw [HP.out.len]; omega)
              have ep0 := hcp i1 (by rw [HP.out.len]; exact hiI)
              rw [← hcv] at ep0
              subst hap
              have HBi : Hid (Below w.heap.size w wi) := Lib.hid (HX.out.2.trans (HR.out.2.mono (by rw [HLX.out]; exact HX.out.2.size)))
              have ep := cell_below (p := ⟨bp, op + i1, none⟩) ep0 HBi.out
              have lpi : bp < wi.heap.size := block_lt (p := ⟨bp, op + i1, none⟩) ep
              have HO := (OwnI.made wi 2 q0 (by unfold maxLen; omega)).set hcq 1
              rw [World.setCell_alloc_at _ _ _ _ _ rfl] at HO
              have e1 := (OwnI.made wi 2 q0 (by unfold maxLen; omega)).cellAt hcq
              rw [el_tab hcq] at e1
              have e2 := (OwnI.made wi 2 q0 (by unfold maxLen; omega)).frozen cv
              obtain ⟨W1, hW1⟩ : ∃ x, x = wi.alloc (.cells ((madeCells #[.int .i64 0] q0).setIfInBounds cv (.int .i64 1)) 2) := ⟨_, rfl⟩
              have HW1 := Lib.hid hW1
              have HUN : Hid (unitL q0 (el piv i1) = (tab q0 fun _ => (0 : Int)).set cv 1) := Lib.hid (by unfold unitL; rw [← hcv]; rfl)
              have HO1 : Hid (OwnI 2 W1 wi.heap.size (some ⟨wi.heap.size, 0, none⟩) q0 q0 (unitL q0 (el piv i1))) := Lib.hid (by rw [hW1, HUN.out]; exact HO)
              have HBW : Hid (Below wi.heap.size wi W1) := Lib.hid (by rw [hW1]; exact (Below.refl _ _).alloc (Nat.le_refl _) _)
              have lw1 : W1.heap.size = wi.heap.size + 1 := by rw [hW1]; simp
              have HCV := Lib.hid hcv
              have HPW1 : Hid (RdI W1 (some ⟨bp, op, none⟩) piv) := Lib.hid (HPV.out.keep (HBi.out.trans (HBW.out.mono HBi.out.size)) (Nat.le_refl _))
              clear HO hW1 hcv ep0 hcp
              go_wp2_with fail
              rw [← HW1.out]
              refine (l03Free_any (some ⟨bp, op, none⟩) I cp piv i1 q0 W1 (by exact HPW1.out) HP.out.len hiI (by omega) (by omega) (HP.out.lo i1 hiI) (HP.out.hi i1 hiI)).mono ?_
              rintro e wf ⟨af, cf, rfl, hof, hbf⟩
              obtain ⟨rb, hrb⟩ : ∃ x, x = wi.heap.size := ⟨_, rfl⟩
              rw [← hrb] at HO1 lw1 ⊢
              have HRB := Lib.hid hrb
              have HOF := Lib.hid hof
              have HBF := Lib.hid hbf
              obtain ⟨R0, hR0⟩ : ∃ R0, R0 = rst p q0 piv x1 i1 := ⟨_, rfl⟩
              rw [← hR0]
              have HR0 := Lib.hid hR0
              obtain ⟨fr, hfr⟩ : ∃ fr, fr = freeI piv i1 q0 := ⟨_, rfl⟩
              have HFR := Lib.hid hfr
              rw [← hfr] at HOF ⊢
              have hF8 : fr.length ≤ 8 := by rw [hfr]; exact Nat.le_trans (freeI_le _ _ _) n8
              have HFM : Hid (∀ c ∈ fr, 0 ≤ c ∧ c < q0) := Lib.hid (by rw [hfr]; exact fun c hc => freeI_mem hc)
              have HD0 : Hid (OwnI 2 wf rb (some ⟨rb, 0, none⟩) q0 q0 (dig p (fr.take 0) (unitL q0 (el piv i1), R0)).1 ∧ Chg (fun m => m = rb) wf wf) := Lib.hid ⟨HO1.out.keep hbf (Nat.le_refl _), Chg.refl _ _⟩
              have hR0b : 0 ≤ R0 ∧ R0 ≤ 200 := by rw [hR0]; exact rst_bd (by omega) (by omega) (by omega) _
              clear hof hbf hrb hR0 hfr ep e1 e2
              go_wp2_with fail
              go_loopw [17, 13] (fun j r wr => ∃ j1 : Nat, j1 ≤ fr.length ∧ j = .int .i64 j1 ∧ r = .int .i64 (dig p (fr.take j1) (unitL q0 (el piv i1), R0)).2 ∧ Hid (OwnI 2 wr rb (some ⟨rb, 0, none⟩) q0 q0 (dig p (fr.take j1) (unitL q0 (el piv i1), R0)).1 ∧ Chg (fun m => m = rb) wf wr)) (fun j _ _ => fr.length - (intOf j).toNat)
              case atStart => exact ⟨0, Nat.zero_le _, rfl, rfl, HD0⟩
              case round =>
                obtain ⟨j1, hj1, rfl, rfl, HD⟩ := hrel
                obtain ⟨wj, rfl⟩ : ∃ x, x = wr := ⟨wr, rfl⟩
                clear HD0
                by_cases hjF : j1 < fr.length
                · have J6 : (j1 : Int) < (fr.length : Int) := by omega
                  have hfm := HFM.out (el fr j1) (el_mem hjF)
                  obtain ⟨cN, hcN⟩ : ∃ cN : Nat, (cN : Int) = el fr j1 := ⟨(el fr j1).toNat, by omega⟩
                  have hcNq : cN < q0 := by omega
                  have J7 : (cN : Int) < (q0 : Int) := by omega
                  have hofj := HOF.out.kept HD.out.2 (fun q hq e => by have h1 := (HOF.out.block q hq).1; rw [lw1] at h1; omega)
                  obtain ⟨gf, rfl⟩ := hofj.addr (by omega)
                  have cf0 := hofj.cellAt hjF
                  rw [← hcN] at cf0
                  have cr0 := HD.out.1.cellAt hcNq
                  have fr0 := HD.out.1.frozen cN
                  have HTS := Lib.hid (take_snoc (xs := fr) (k := j1) hjF)
                  have HSN := Lib.hid (dig_snoc p (fr.take j1) (el fr j1) (unitL q0 (el piv i1), R0))
                  have hSb := dig_bd (p := (p : Int)) (M := 200) (by omega) (fr.take j1) (unitL q0 (el piv i1), R0) hR0b.1 hR0b.2
                  generalize dig p (fr.take j1) (unitL q0 (el piv i1), R0) = S at *
                  have hpz : (p : Int) ≠ 0 := by omega
                  have hpz2 : ¬ p = 0 := by omega
                  have WR : S.2.tmod p = S.2 % p := Int.tmod_eq_emod_of_nonneg hSb.1
                  have WQ : IntKind.i64.wrap (S.2.tdiv p) = S.2 / p := by
                    rw [Int.tdiv_eq_ediv_of_nonneg hSb.1]
                    have h1 := Int.ediv_nonneg hSb.1 (show 0 ≤ (p : Int) by omega)
                    have h2 := Int.ediv_le_self (p : Int) hSb.1
                    exact IntWalk.i64_in _ (by omega)
                  have HNX : Hid (OwnI 2 (wj.setCell ⟨rb, cN, none⟩ (.int .i64 (S.2 % p))).drew rb (some ⟨rb, 0, none⟩) q0 q0 (dig p (fr.take (j1 + 1)) (unitL q0 (el piv i1), R0)).1 ∧ Chg (fun m => m = rb) wf (wj.setCell ⟨rb, cN, none⟩ (.int .i64 (S.2 % p))).drew) := Lib.hid (by
                    rw [HTS.out, HSN.out, ← hcN]
                    exact ⟨HD.out.1.set hcNq _, (HD.out.2.setCell ⟨rb, cN, none⟩ rfl _).drew⟩)
                  have HRX : Hid ((dig p (fr.take (j1 + 1)) (unitL q0 (el piv i1), R0)).2 = S.2 / p) := Lib.hid (by rw [HTS.out, HSN.out])
                  clear hofj hfm hcN
                  go_wp2_with fail
                  go_still_tail 8, (by kernel_rfl)
                  repeat still_step
                  change wpList _ _ _ _ _ wj.drew
                  go_wp2_with fail
                  go_roundw
                  case rel => exact ⟨j1 + 1, by omega, by go_num, by rw [HRX.out], HNX⟩
                  case measure => simp [intOf]; omega
                · obtain rfl : j1 = fr.length := by omega
                  have J6 : ¬ (fr.length : Int) < (fr.length : Int) := by omega
                  have HTA : Hid (fr.take fr.length = fr) := Lib.hid (List.take_of_length_le (Nat.le_refl _))
                  have HE1 : Hid ((dig p fr (unitL q0 (el piv i1), R0)).1 = rowD p q0 piv x1 i1) := Lib.hid (by unfold rowD; rw [HFR.out, HR0.out])
                  have HE2 : Hid ((dig p fr (unitL q0 (el piv i1), R0)).2 = rst p q0 piv x1 (i1 + 1)) := Lib.hid (by rw [HFR.out, HR0.out]; exact rst_succ _ _ _ _ _ _)
                  rw [HTA.out] at HD ⊢
                  rw [HE2.out]
                  have HRW : Hid (OwnI 2 wj rb (some ⟨rb, 0, none⟩) q0 q0 (rowD p q0 piv x1 i1)) := Lib.hid (by rw [← HE1.out]; exact HD.out.1)
                  have hrbl : rb < W1.heap.size := by rw [lw1]; omega
                  have HBJ : Hid (Below wi.heap.size wi wj) := Lib.hid ((HBW.out.trans (HBF.out.mono (by rw [lw1]; have := HRB.out; omega))).trans (HD.out.2.below (Nat.le_trans (by rw [← HRB.out]; omega) HBF.out.size) (fun m hm e => by have := HRB.out; omega)))
                  have HRi := Lib.hid (HR.out.1.keep HBJ.out (Nat.le_refl _))
                  have hLi : Lx ≤ wi.heap.size := by rw [HLX.out]; exact HR.out.2.size
                  have hszj : Lx ≤ wj.heap.size := Nat.le_trans hLi HBJ.out.size
                  have HTS : Hid (tab (i1 + 1) (rowD p q0 piv x1) = tab i1 (rowD p q0 piv x1) ++ [rowD p q0 piv x1 i1]) := Lib.hid (tab_succ _ _)
                  clear HD
                  go_wp2_with (at_builtin; refine wpList_push rfl (.tmp 78) (.tmp 80) 24 rfl Lx 52 (.slice none 0 0) 24 Try.underlying24 Try.infoR rfl (by decide) (.slice (some ⟨rb, 0, none⟩) q0 q0) rfl _ _ _ _ rfl rfl (by exact HRi.out.own) (by omega) (by exact hszj) ?_; rintro a4 c4 w4 r4 q4 g4; have HN := Lib.hid (HR.out.1.pushNew2 hLi HBJ.out HRW.out (by rw [HRB.out]; exact Nat.le_refl _) r4 q4 g4); clear r4 q4 g4)
                  have HNN : Hid (OwnR 52 2 w4 Lx a4 (i1 + 1) c4 (tab (i1 + 1) (rowD p q0 piv x1)) (upd A i1 (some ⟨rb, 0, none⟩)) (upd C i1 q0) ∧ Below Lx wx w4) := Lib.hid (by rw [HTS.out]; exact ⟨HN.out.1, HR.out.2.trans HN.out.2⟩)
                  go_wp2_with fail
                  go_roundw
                  case rel => exact ⟨i1 + 1, a4, c4, _, _, by omega, by go_num, rfl, rfl, HNN⟩
                  case measure => simp [intOf]; omega
            · obtain rfl : i1 = I := by omega
              have J4 : ¬ (i1 : Int) < (i1 : Int) := by omega
              have HMD : Hid (tab i1 (rowD p q0 piv x1) = matD p q0 piv x1) := Lib.hid (by unfold matD; rw [HP.out.len])
              have HRM : Hid (RdR wi aR (matD p q0 piv x1)) := Lib.hid (by rw [← HMD.out]; exact HR.out.1.rd)
              have hcap := HR.out.1.capl
              have HXi : Hid (RdM wi aL (n + x1) (fun _ => (p : Int)) (fun _ => (q0 : Int)) (insF p q0 piv L x1)) := Lib.hid (HX.out.1.keep HR.out.2 (by rw [HLX.out]; exact Nat.le_refl _))
              have HBi : Hid (Below w.heap.size w wi) := Lib.hid (HX.out.2.trans (HR.out.2.mono (by rw [HLX.out]; exact HX.out.2.size)))
              have HSX := Lib.hid (matD_sh (p : Int) q0 piv (x1 : Int))
              clear HR HX
              go_wp2_with fail
              refine (l03Insert_any aL aR (n + x1) cL i1 cR q0 p (insF p q0 piv L x1) (matD p q0 piv x1) wi (by exact HXi.out) (by exact HRM.out) (by rw [insF_len, HL.out]) (by rw [HSX.out.1, HP.out.len]) hcap (fun j hj => HSX.out.2 _ (rw_mem (by rw [HSX.out.1, HP.out.len]; exact hj))) (InS.of (insF_sh HP.out.len HSH.out x1)) (by omega) (by omega) (by omega)).mono ?_
              rintro e w7 ⟨a7, c7, rfl, hr7, hb7⟩
              have HN : Hid (RdM w7 a7 (n + (x1 + 1)) (fun _ => (p : Int)) (fun _ => (q0 : Int)) (insF p q0 piv L (x1 + 1)) ∧ Below w.heap.size w w7) := Lib.hid ⟨hr7, HBi.out.trans (hb7.mono HBi.out.size)⟩
              clear hr7 hb7
              go_wp2_with fail
              go_roundw
              case rel => exact ⟨x1 + 1, a7, c7, by omega, by go_num, rfl, HN⟩
              case measure => simp [intOf]; omega
        · obtain rfl : x1 = N := by omega
          have J3 : ¬ (x1 : Int) < (x1 : Int) := by omega
          go_wp2_with fail
          go_ret
          exact ⟨aL, ⟨cL, by rw [← HN.out]; rfl⟩, by rw [← HN.out]; exact HX.out.1, HX.out.2⟩
end Go.Proofs.Ytpkdgemnddcefaa
