/- The program's allSubspaces. -/
import Derived.Test.YtpkdgemnddcefaaAsI0
set_option linter.unusedVariables false
set_option linter.unusedSimpArgs false
namespace Go.Proofs.Ytpkdgemnddcefaa
open Go.RowKit
theorem Try.infoPr : (Try.prog.info? 82).map (fun i => (i.zero, i.size, i.bytes)) = some (some (.agg #[.int .i64 0, .int .i64 0]), 2, 16) := by kernel_rfl
/-- the program's list before the i-th choice -/
def impI (p n k i : Nat) : List (List (List Int)) := ((chs n k).take i).flatMap (matsD p n)
theorem impI_succ {p n k i : Nat} (h : i < (chs n k).length) : impI p n k (i + 1) = impI p n k i ++ matsD p n (rw_ (chs n k) i) := by
  unfold impI
  rw [List.take_add_one, rw_get h, List.flatMap_append]; simp
theorem impI_all (p n k : Nat) : impI p n k (chs n k).length = implQ p n k := by unfold impI implQ; rw [List.take_of_length_le (Nat.le_refl _)]
theorem impI_mono {p n k i j : Nat} (h : i ≤ j) (hj : j ≤ (chs n k).length) : (impI p n k i).length ≤ (impI p n k j).length := by
  induction h with
  | refl => exact Nat.le_refl _
  | @step m h2 ih => have := ih (by omega); rw [impI_succ (by omega), List.length_append]; omega
theorem impI_small {p n k i : Nat} (hp : GP (p : Int)) (hn : n ≤ 8) (hk : k ≤ n) (hg : gauss p n k ≤ 200) (hi : i ≤ (chs n k).length) : (impI p n k i).length ≤ 200 := by
  have h1 := impI_mono (p := p) hi (Nat.le_refl _)
  rw [impI_all, implQ_len] at h1
  have := cnt_small hp hn hk hg
  omega
theorem impP_small {p n k i : Nat} (hp : GP (p : Int)) (hn : n ≤ 8) (hk : k ≤ n) (hg : gauss p n k ≤ 200) (hi : i < (chs n k).length) : p ^ freeN (rw_ (chs n k) i) n k ≤ 200 := by
  have h1 := impI_small (i := i + 1) hp hn hk hg (by omega)
  rw [impI_succ hi, List.length_append] at h1
  unfold matsD at h1
  rw [List.length_map, List.length_range, chs_row (rw_mem hi)] at h1
  omega
theorem freeN_le (piv : List Int) (n : Nat) : ∀ i, freeN piv n i ≤ i * n
  | 0 => by simp [freeN]
  | i + 1 => by have := freeN_le piv n i; have := freeI_le piv i n; rw [freeN, Nat.succ_mul]; omega
theorem lit2_cells (w : World) (T : TypeId) (x y : Value) : ∀ t u, [x, y][t]? = some u → (w.alloc (.cells #[x, y] T)).cell? ⟨w.heap.size, t, none⟩ = some u := fun t u ht => by
  rw [(BX.new w T #[x, y]).cell t, ← ht, ← Array.getElem?_toList]
def freeT (c : List Int) (n t j : Nat) : List (Nat × Int) := freeA c n t ++ (freeI c t j).map fun j => (t, j)
theorem freeT_start {c : List Int} {n t s : Nat} (h : (s : Int) ≤ el c t + 1) : freeT c n t s = freeA c n t := by unfold freeT; rw [freeI_zero h]; simp
theorem freeT_no {c : List Int} {n t j : Nat} (h : freeI c t (j + 1) = freeI c t j ++ if c.contains (j : Int) then [] else [(j : Int)]) (hc : c.contains (j : Int) = false) : freeT c n t (j + 1) = freeT c n t j ++ [(t, (j : Int))] := by
  unfold freeT; rw [h, hc, if_neg (by decide), List.map_append, List.append_assoc]; rfl
theorem freeT_yes {c : List Int} {n t j : Nat} (h : freeI c t (j + 1) = freeI c t j ++ if c.contains (j : Int) then [] else [(j : Int)]) (hc : c.contains (j : Int) = true) : freeT c n t (j + 1) = freeT c n t j := by
  unfold freeT; rw [h, hc, if_pos rfl, List.append_nil]
theorem freeT_len {c : List Int} {n t j : Nat} (ht : t ≤ 8 ∧ j ≤ 8) (hn : n ≤ 8) : (freeT c n t j).length ≤ 1000 := by
  unfold freeT
  rw [List.length_append, List.length_map, freeA_len]
  have h1 := freeN_le c n t
  have h2 := freeI_le c t j
  have h3 : t * n ≤ 8 * 8 := Nat.mul_le_mul ht.1 hn
  omega
/-- the program's list before the x-th matrix of the i-th choice -/
def impX (p n k i x : Nat) : List (List (List Int)) := impI p n k i ++ (List.range x).map fun (y : Nat) => matD p n (rw_ (chs n k) i) (y : Int)
theorem impX_zero (p n k i : Nat) : impX p n k i 0 = impI p n k i := by simp [impX]
theorem impX_succ (p n k i x : Nat) : impX p n k i (x + 1) = impX p n k i x ++ [matD p n (rw_ (chs n k) i) (x : Int)] := by
  unfold impX; rw [List.range_succ, List.map_append, List.append_assoc]; rfl
theorem impX_len (p n k i x : Nat) : (impX p n k i x).length = (impI p n k i).length + x := by unfold impX; simp
theorem impX_all {p n k i : Nat} (h : i < (chs n k).length) : impX p n k i (p ^ freeN (rw_ (chs n k) i) n k) = impI p n k (i + 1) := by
  rw [impI_succ h, impX, matsD, chs_row (rw_mem h)]
theorem freeA_mem {c : List Int} {n : Nat} : ∀ {t : Nat} {q : Nat × Int}, q ∈ freeA c n t → q.1 < t ∧ 0 ≤ q.2 ∧ q.2 < n
  | 0, _, h => by simp [freeA] at h
  | t + 1, q, h => by
    rcases List.mem_append.1 h with h | h
    · have := freeA_mem h; omega
    · obtain ⟨j, hj, rfl⟩ := List.mem_map.1 h
      have := freeI_mem hj
      exact ⟨Nat.lt_succ_self _, this.1, this.2⟩
theorem digA_bd {p M : Int} (hp : 1 ≤ p) : ∀ (ps : List (Nat × Int)) (s : List (List Int) × Int), 0 ≤ s.2 → s.2 ≤ M → 0 ≤ (digA p ps s).2 ∧ (digA p ps s).2 ≤ M
  | [], s, h, h2 => ⟨h, h2⟩
  | q :: ps, s, h, h2 => by
    have := digA_bd hp ps (tab s.1.length fun i => if i = q.1 then (rw_ s.1 i).set q.2.toNat (s.2 % p) else rw_ s.1 i, s.2 / p) (Int.ediv_nonneg h (by omega)) (Int.le_trans (Int.ediv_le_self _ h) h2)
    unfold digA at this ⊢
    rw [List.foldl_cons]; exact this
theorem digA_rows (p : Int) (n : Nat) : ∀ (ps : List (Nat × Int)) (s : List (List Int) × Int), (∀ i, i < s.1.length → (rw_ s.1 i).length = n) → ∀ i, i < s.1.length → (rw_ (digA p ps s).1 i).length = n
  | [], s, h => h
  | q :: ps, s, h => by
    have := digA_rows p n ps (tab s.1.length fun i => if i = q.1 then (rw_ s.1 i).set q.2.toNat (s.2 % p) else rw_ s.1 i, s.2 / p) (fun i hi => by
      simp only [tab_len] at hi ⊢
      rw [rw_tab hi]
      split
      · rw [List.length_set]; exact h i hi
      · exact h i hi)
    unfold digA at this ⊢
    rw [List.foldl_cons]
    simp only [tab_len] at this
    exact this
def DG (p n : Nat) (c : List Int) (ps : List (Nat × Int)) (x u : Nat) : List (List Int) × Int := digA p (ps.take u) (units n c, (x : Int))
theorem DG_succ {p n : Nat} {c : List Int} {ps : List (Nat × Int)} {x u : Nat} {q : Nat × Int} (h : ps[u]? = some q) : DG p n c ps x (u + 1) = (tab (DG p n c ps x u).1.length fun i => if i = q.1 then (rw_ (DG p n c ps x u).1 i).set q.2.toNat ((DG p n c ps x u).2 % p) else rw_ (DG p n c ps x u).1 i, (DG p n c ps x u).2 / p) := by
  unfold DG
  rw [List.take_add_one, h, Option.toList_some, digA_snoc]
theorem DG_len {p n : Nat} {c : List Int} {ps : List (Nat × Int)} {x u : Nat} : (DG p n c ps x u).1.length = c.length := by unfold DG; rw [digA_len]; exact tab_len _ _
theorem DG_row {p n : Nat} {c : List Int} {ps : List (Nat × Int)} {x u i : Nat} (h : i < c.length) : (rw_ (DG p n c ps x u).1 i).length = n :=
  digA_rows _ _ _ _ (fun j hj => by unfold units at hj ⊢; rw [tab_len] at hj; rw [rw_tab hj]; exact unitL_len _ _) _ (by unfold units; rw [tab_len]; exact h)
theorem DG_bd {p n : Nat} {c : List Int} {ps : List (Nat × Int)} {x u : Nat} (hp : 1 ≤ (p : Int)) (hx : x ≤ 200) : 0 ≤ (DG p n c ps x u).2 ∧ (DG p n c ps x u).2 ≤ 200 := digA_bd hp _ _ (show (0 : Int) ≤ (x : Int) by omega) (show (x : Int) ≤ 200 by omega)
theorem DG_zero (p n : Nat) (c : List Int) (ps : List (Nat × Int)) (x : Nat) : DG p n c ps x 0 = (units n c, (x : Int)) := rfl
theorem DG_all {p n t : Nat} {c : List Int} {x u : Nat} (h : c.length = t) (hu : u = (freeA c n t).length) : (DG p n c (freeA c n t) x u).1 = matD p n c x := by
  subst hu
  unfold DG
  rw [List.take_of_length_le (Nat.le_refl _), ← h]; exact digA_mat _ _ _ _
section
variable {T0 T1 T2 : TypeId} {w wr : World} {p q : Int} {ad : Option Addr} {n cap : Nat} {xs : List (List Int)} {A : Nat → Option Addr} {C : Nat → Nat}
theorem MS.drew (h : MS T0 T1 T2 w wr p q ad n cap xs A C) : MS T0 T1 T2 w wr.drew p q ad n cap xs A C := h.keep ⟨rfl, rfl, rfl, Nat.le_refl _, fun _ _ => rfl⟩
end
theorem OwnP.chg {S : Nat → Prop} {T : TypeId} {w w' : World} {B : Nat} {a : Option Addr} {n cap : Nat} {ps : List (Nat × Int)} (h : OwnP T w B a n cap ps) (hc : Chg S w w') (hs : ∀ p, a = some p → ¬ S p.block) : OwnP T w' B a n cap ps :=
  ⟨h.len, ownsK_same h.own (fun p hp => hc.block _ (ownsK_block (by omega) h.own p hp).2 (hs p hp))⟩
theorem implQ_pos {p n k : Nat} (hp : 0 < p) (h : 0 < (chs n k).length) : 0 < (implQ p n k).length := by
  have h1 := impI_mono (p := p) (n := n) (k := k) (i := 1) (j := (chs n k).length) h (Nat.le_refl _)
  rw [impI_all, impI_succ h, List.length_append] at h1
  unfold matsD at h1
  rw [List.length_map, List.length_range] at h1
  have := Nat.pow_pos (n := freeN (rw_ (chs n k) 0) n (rw_ (chs n k) 0).length) hp
  omega
theorem implQ_sh {p n k : Nat} {m : List (List Int)} (h : m ∈ implQ p n k) : ShM n k m := by
  obtain ⟨c, hc, hm⟩ := List.mem_flatMap.1 h
  have := matsD_sh hm
  rwa [chs_row hc] at this
theorem cmR_sh {n k : Nat} {m : List (List Int)} (hn : n ≤ 8) (hk : k ≤ n) (h : ShM n k m) : CmR m := by
  have hr : ∀ i, i < m.length → (rw_ m i).length = n := fun i hi => h.2 _ (rw_mem hi)
  refine ⟨fun i hi => by rw [hr i hi]; have := h.1; omega, by have := h.1; omega, ?_⟩
  rw [offs_const _ hr, h.1]
  have : k * n ≤ 8 * 8 := Nat.mul_le_mul (by omega) hn
  omega
def UnT (n : Nat) (c : List Int) (j : Nat) : List (List Int) := tab j fun i => unitL n (el c i)
theorem UnT_succ (n : Nat) (c : List Int) (j : Nat) : UnT n c (j + 1) = UnT n c j ++ [unitL n (el c j)] := tab_succ _ _
theorem UnT_all {n : Nat} {c : List Int} {j : Nat} (h : c.length = j) : UnT n c j = units n c := by unfold UnT units; rw [h]
theorem UnT_row {n : Nat} {c : List Int} {j i : Nat} (h : i < j) : rw_ (UnT n c j) i = unitL n (el c i) := rw_tab h
set_option maxRecDepth 20000 in
set_option maxHeartbeats 8000000 in
theorem allSubspaces_any (p n k : Nat) (w : World) (hp : GP (p : Int)) (hn : n ≤ 8) (hk : k ≤ n) (hg : gauss p n k ≤ 200) :
    Calls Try.prog 37 #[.int .i64 (p : Int), .int .i64 n, .int .i64 k] w fun e w' => ∃ (a : Option Addr) (c : Nat) (A : Nat → Option Addr) (C : Nat → Nat) (AA : Nat → Nat → Option Addr) (CC : Nat → Nat → Nat) (lo hi : Nat → Nat), e = .returned (.slice a (specL p n k (2 ^ n)).length c) ∧ OwnM 26 52 2 w' w.heap.size a (specL p n k (2 ^ n)).length c (fun _ => (p : Int)) (fun _ => (n : Int)) (specL p n k (2 ^ n)) A C AA CC lo hi ∧ Below w.heap.size w w' := by
  have HP := Lib.hid hp
  have hpb := hp.bd
  have HG := Lib.hid hg
  have HCO := Lib.hid (chs_ok hn hk)
  have hcs : (chs n k).length ≤ 256 := Nat.le_trans (chs_len n k) (Nat.le_trans (Nat.pow_le_pow_right (by omega) hn) (by decide))
  clear hp hg
  go_enter Try.func37, Try.ntmps37
  go_wp2_with fail
  refine (choices_any k (by omega) n (by omega) w).mono ?_
  rintro e w1 ⟨ac, cc, _, _, rfl, hoc, hbc⟩
  have HRC := Lib.hid hoc.rd
  have HB1 := Lib.hid hbc
  obtain ⟨NC, hNC⟩ : ∃ x, x = (chs n k).length := ⟨_, rfl⟩
  rw [← hNC] at hcs ⊢
  have HNC := Lib.hid hNC
  clear hoc hbc hNC
  have HM0 : Hid (OwnM 26 52 2 w1 w1.heap.size none (impI p n k 0).length 0 (fun _ => (p : Int)) (fun _ => (n : Int)) (impI p n k 0) (fun _ => none) (fun _ => 0) (fun _ _ => none) (fun _ _ => 0) (fun _ => 0) (fun _ => 0) ∧ Below w1.heap.size w1 w1) := Lib.hid ⟨OwnM.none _ _ _ _ _ _ _ _, Below.refl _ _⟩
  go_wp2_with fail
  go_loopw [25, 7] (fun x v wr => ∃ (i : Nat) (aO : Option Addr) (cO : Nat) (A : Nat → Option Addr) (C : Nat → Nat) (AA : Nat → Nat → Option Addr) (CC : Nat → Nat → Nat) (lo hi : Nat → Nat), i ≤ NC ∧ x = .int .i64 i ∧ v = .slice aO (impI p n k i).length cO ∧ Hid (OwnM 26 52 2 wr w1.heap.size aO (impI p n k i).length cO (fun _ => (p : Int)) (fun _ => (n : Int)) (impI p n k i) A C AA CC lo hi ∧ Below w1.heap.size w1 wr)) (fun x _ _ => NC - (intOf x).toNat)
  case atStart => exact ⟨0, _, _, _, _, _, _, _, _, Nat.zero_le _, rfl, rfl, HM0⟩
  case round =>
    obtain ⟨i, aO, cO, A, C, AA, CC, lo, hi, hi1, rfl, rfl, HM⟩ := hrel
    obtain ⟨wo, rfl⟩ : ∃ x, x = wr := ⟨wr, rfl⟩
    clear HM0
    by_cases hiN : i < NC
    · have J1 : (i : Int) < (NC : Int) := by omega
      have hic : i < (chs n k).length := by rw [← HNC.out]; exact hiN
      obtain ⟨bA, oA, aI, cI, rfl, dI1, rI1, kI⟩ := rdR_at HRC.out hic
      have dI := cell_below (p := ⟨bA, oA + i, none⟩) dI1 HM.out.2
      have rI := rI1.keep HM.out.2 (Nat.le_refl _)
      obtain ⟨c, hc⟩ : ∃ c, c = rw_ (chs n k) i := ⟨_, rfl⟩
      have hPV : PvS c n k := by rw [hc]; exact HCO.out.2 _ (rw_mem hic)
      have HPV := Lib.hid hPV
      rw [← hc] at dI rI kI rI1
      have HRI1 := Lib.hid rI1
      clear dI1 rI1
      rw [hPV.len] at dI kI
      have HC := Lib.hid hc
      have HRI := Lib.hid rI
      have hN200 : p ^ freeN c n k ≤ 200 := by rw [hc]; exact impP_small HP.out hn hk HG.out hic
      have hl200 := impI_small (i := i) HP.out hn hk HG.out (by omega)
      have hfN := freeN_le c n k
      have HF0 : Hid (OwnP 82 wo wo.heap.size none (freeA c n 0).length 0 (freeA c n 0) ∧ Below wo.heap.size wo wo) := Lib.hid ⟨OwnP.none, Below.refl _ _⟩
      clear hc rI hic hPV
      go_wp2_with fail
      go_loopw [31, 10] (fun x v wr => ∃ (t : Nat) (aF : Option Addr) (cF : Nat), t ≤ k ∧ x = .int .i64 t ∧ v = .slice aF (freeA c n t).length cF ∧ Hid (OwnP 82 wr wo.heap.size aF (freeA c n t).length cF (freeA c n t) ∧ Below wo.heap.size wo wr)) (fun x _ _ => k - (intOf x).toNat)
      case atStart => exact ⟨0, _, _, Nat.zero_le _, rfl, rfl, HF0⟩
      case round =>
        obtain ⟨t, aF, cF, ht, rfl, rfl, HF⟩ := hrel
        obtain ⟨wt, rfl⟩ : ∃ x, x = wr := ⟨wr, rfl⟩
        clear HF0
        by_cases htk : t < k
        · have J2 : (t : Int) < (k : Int) := by omega
          obtain ⟨bI, oI, rfl, hcI⟩ := (HRI.out.keep HF.out.2 (Nat.le_refl _)) (by rw [HPV.out.len]; omega)
          have eI := hcI t (by rw [HPV.out.len]; exact htk)
          obtain ⟨s, hs⟩ : ∃ s : Nat, (s : Int) = el c t + 1 := ⟨(el c t + 1).toNat, by have := HPV.out.lo t htk; omega⟩
          have hsn : s ≤ n := by have := HPV.out.hi t htk; omega
          have W1 : IntKind.i64.wrap (el c t + 1) = (s : Int) := by rw [hs]; exact IntWalk.i64_in _ (by have := HPV.out.hi t htk; have := HPV.out.lo t htk; omega)
          have HSE := Lib.hid hs
          have HG0 : Hid (OwnP 82 wt wo.heap.size aF (freeT c n t s).length cF (freeT c n t s) ∧ Below wo.heap.size wo wt) := Lib.hid (by rw [freeT_start (by omega)]; exact HF.out)
          have HG1 : Hid ((freeT c n t s).length = (freeA c n t).length) := Lib.hid (by rw [freeT_start (by omega)])
          clear hcI hs HF
          go_wp2_with fail
          go_loopw [13, 10] (fun x v wr => ∃ (j : Nat) (aF : Option Addr) (cF : Nat), s ≤ j ∧ j ≤ n ∧ x = .int .i64 j ∧ v = .slice aF (freeT c n t j).length cF ∧ Hid (OwnP 82 wr wo.heap.size aF (freeT c n t j).length cF (freeT c n t j) ∧ Below wo.heap.size wo wr)) (fun x _ _ => n - (intOf x).toNat)
          case atStart => exact ⟨s, _, _, Nat.le_refl _, hsn, rfl, by rw [HG1.out], HG0⟩
          case round =>
            obtain ⟨j, aF, cF, hsj, hj, rfl, rfl, HF⟩ := hrel
            obtain ⟨wj, rfl⟩ : ∃ x, x = wr := ⟨wr, rfl⟩
            clear HG0 eI
            by_cases hjn : j < n
            · have J3 : (j : Int) < (n : Int) := by omega
              have HFI := Lib.hid (freeI_succ (piv := c) (i := t) (j := j) (by have := HSE.out; omega))
              have hfl : (freeT c n t j).length ≤ 1000 := freeT_len (by omega) hn
              cases hct : c.contains (j : Int)
              · have HCT := Lib.hid hct
                have HFE : Hid ((freeT c n t (j + 1)) = (freeT c n t j) ++ [(t, (j : Int))]) := Lib.hid (freeT_no HFI.out hct)
                have HFL : Hid ((freeT c n t (j + 1)).length = (freeT c n t j).length + 1) := Lib.hid (by rw [HFE.out, List.length_append]; rfl)
                have HFX := Lib.hid (HF.out.1.keep ((Below.refl wj.heap.size wj).alloc (Nat.le_refl _) (.cells #[.int .i64 (t : Int), .int .i64 (j : Int)] 82)) (Nat.le_refl _))
                have HSZ : Hid (wo.heap.size ≤ (wj.alloc (.cells #[.int .i64 (t : Int), .int .i64 (j : Int)] 82)).heap.size) := Lib.hid (Nat.le_trans HF.out.2.size (by simp))
                have HCL := Lib.hid (lit2_cells wj 82 (.int .i64 (t : Int)) (.int .i64 (j : Int)))
                have HRJ : Hid (RdI wj (some ⟨bI, oI, none⟩) c) := Lib.hid (HRI.out.keep HF.out.2 (Nat.le_refl _))
                clear hct
                go_wp2_with (first
                  | (go_at_call 33; refine (containsInt_any _ k _ c _ _ (by exact HRJ.out) HPV.out.len (by omega)).mono ?_; rw [HCT.out]; rintro e w' ⟨rfl, rfl⟩)
                  | (at_builtin; refine wpList_pushK rfl (.tmp 47) (.tmp 51) 81 rfl wo.heap.size 82 (.agg #[.int .i64 0, .int .i64 0]) 2 16 Try.underlying81 Try.infoPr rfl (by decide) (by decide) [.int .i64 (t : Int), .int .i64 (j : Int)] rfl (by intro u hu; simp at hu; rcases hu with rfl | rfl <;> rfl) _ _ _ _ rfl wj.heap.size rfl HCL.out (by exact HFX.out.own) (by omega) HSZ.out ?_; rintro a4 c4 w4 r4 q4 g4; have HNP : Hid (OwnP 82 w4 wo.heap.size a4 ((freeT c n t j).length + 1) c4 ((freeT c n t j) ++ [(t, (j : Int))])) := Lib.hid (OwnP.push r4 HFX.out); have HNB : Hid (Below wo.heap.size wo w4) := Lib.hid ((HF.out.2.alloc HF.out.2.size _).trans (g4.below HSZ.out (fun m hm hx => by obtain ⟨x, hx, e⟩ := hx; have := (ownsK_block (by omega) HFX.out.own x hx).1; omega))); clear r4 q4 g4))
                go_wp2_with fail
                go_roundw
                case rel => exact ⟨j + 1, a4, c4, by omega, by omega, by go_num, by rw [HFL.out], Lib.hid ⟨by rw [HFL.out, HFE.out]; exact HNP.out, HNB.out⟩⟩
                case measure => simp [intOf]; omega
              · have HCT := Lib.hid hct
                have HFE : Hid ((freeT c n t (j + 1)) = (freeT c n t j)) := Lib.hid (freeT_yes HFI.out hct)
                have HRJ : Hid (RdI wj (some ⟨bI, oI, none⟩) c) := Lib.hid (HRI.out.keep HF.out.2 (Nat.le_refl _))
                clear hct
                go_wp2_with (go_at_call 33; refine (containsInt_any _ k _ c _ _ (by exact HRJ.out) HPV.out.len (by omega)).mono ?_; rw [HCT.out]; rintro e w' ⟨rfl, rfl⟩)
                go_roundw
                case rel => exact ⟨j + 1, aF, cF, by omega, by omega, by go_num, by rw [HFE.out], Lib.hid (by rw [HFE.out]; exact HF.out)⟩
                case measure => simp [intOf]; omega
            · obtain rfl : j = n := by omega
              have J3 : ¬ (j : Int) < (j : Int) := by omega
              have HFE : Hid (freeA c j (t + 1) = freeT c j t j) := Lib.hid rfl
              go_wp2_with fail
              go_roundw
              case rel => exact ⟨t + 1, aF, cF, by omega, by go_num, by rw [HFE.out], Lib.hid (by rw [HFE.out]; exact HF.out)⟩
              case measure => simp [intOf]; omega
        · obtain rfl : t = k := by omega
          have J2 : ¬ (t : Int) < (t : Int) := by omega
          have HFL := Lib.hid (freeA_len c n t)
          rw [HFL.out] at HF ⊢
          obtain ⟨f, hf⟩ : ∃ f, f = freeN c n t := ⟨_, rfl⟩
          rw [← hf] at hN200 hfN HF ⊢
          have hf64 : f ≤ 64 := Nat.le_trans hfN (Nat.mul_le_mul (show t ≤ 8 by omega) hn)
          obtain ⟨N, hN⟩ : ∃ N, N = p ^ f := ⟨_, rfl⟩
          rw [← hN] at hN200
          have HNI : Hid (((p : Int) ^ f) = (N : Int)) := Lib.hid (by rw [hN]; exact (Int.natCast_pow p f).symm)
          have HN := Lib.hid hN
          have HFE := Lib.hid hf
          clear hN hf hfN
          go_wp2_with (go_at_call 73; refine (integerPower_any (p : Int) f _ (by omega) (by rw [HNI.out]; omega) (by omega)).mono ?_; rw [HNI.out]; rintro e w' ⟨rfl, rfl⟩)
          have HX0 : Hid (OwnM 26 52 2 wt w1.heap.size aO (impX p n t i 0).length cO (fun _ => (p : Int)) (fun _ => (n : Int)) (impX p n t i 0) A C AA CC lo hi ∧ Below w1.heap.size w1 wt ∧ OwnP 82 wt wo.heap.size aF f cF (freeA c n t) ∧ ∀ p q, aO = some p → aF = some q → p.block ≠ q.block) := Lib.hid ⟨by rw [impX_zero]; exact HM.out.1.keep HF.out.2 (Nat.le_refl _), HM.out.2.trans (HF.out.2.mono HM.out.2.size), HF.out.1, fun p q hp hq e => by have h1 := (ownsK_block (by omega) HM.out.1.own p hp).2; have h2 := (ownsK_block (by omega) HF.out.1.own q hq).1; omega⟩
          have HXL : Hid ((impX p n t i 0).length = (impI p n t i).length) := Lib.hid (by rw [impX_zero])
          have HMK := Lib.hid (run_make_row' (P := Try.prog) 52 2 (.int .i64 0) 8 Try.underlying52 Try.info2 rfl .i64 .i64 n (by omega) (by omega))
          have HLN := Lib.hid (impX_len p n t i)
          clear HF
          go_wp2_with fail
          go_loopw [58, 7] (fun x v wr => ∃ (x1 : Nat) (aO : Option Addr) (cO : Nat) (A : Nat → Option Addr) (C : Nat → Nat) (AA : Nat → Nat → Option Addr) (CC : Nat → Nat → Nat) (lo hi : Nat → Nat), x1 ≤ N ∧ x = .int .i64 x1 ∧ v = .slice aO (impX p n t i x1).length cO ∧ Hid (OwnM 26 52 2 wr w1.heap.size aO (impX p n t i x1).length cO (fun _ => (p : Int)) (fun _ => (n : Int)) (impX p n t i x1) A C AA CC lo hi ∧ Below w1.heap.size w1 wr ∧ OwnP 82 wr wo.heap.size aF f cF (freeA c n t) ∧ ∀ p q, aO = some p → aF = some q → p.block ≠ q.block)) (fun x _ _ => N - (intOf x).toNat)
          case atStart => exact ⟨0, aO, cO, A, C, AA, CC, lo, hi, Nat.zero_le _, rfl, by rw [HXL.out], HX0⟩
          case round =>
            obtain ⟨x1, aO, cO, A, C, AA, CC, lo, hi, hx1, rfl, rfl, HX⟩ := hrel
            obtain ⟨wx, rfl⟩ : ∃ x, x = wr := ⟨wr, rfl⟩
            clear HX0 HM
            by_cases hxN : x1 < N
            · have J3 : (x1 : Int) < (N : Int) := by omega
              have HS0 := Lib.hid (MS.start wx 26 52 2 (p : Int) (n : Int) (fun _ => none) (fun _ => 0))
              have hlx : (impX p n t i x1).length ≤ 400 := by rw [HLN.out x1]; omega
              go_wp2_with fail
              go_loopw [66] (fun x wr => ∃ (j1 : Nat) (ad : Option Addr) (cap : Nat) (A : Nat → Option Addr) (C : Nat → Nat), j1 ≤ t ∧ x = .int .i64 j1 ∧ Hid (MS 26 52 2 wx wr (p : Int) (n : Int) ad j1 cap (UnT n c j1) A C)) (fun x _ => t - (intOf x).toNat)
              case atStart => exact ⟨0, _, _, _, _, Nat.zero_le _, rfl, HS0⟩
              case round =>
                obtain ⟨j1, ad, cap, A1, C1, hj1, rfl, HS⟩ := hrel
                obtain ⟨wi, rfl⟩ : ∃ x, x = wr := ⟨wr, rfl⟩
                clear HS0
                by_cases hjt : j1 < t
                · have J4 : (j1 : Int) < (t : Int) := by omega
                  obtain ⟨cv, hcv⟩ : ∃ cv : Nat, (cv : Int) = el c j1 := ⟨(el c j1).toNat, by have := HPV.out.lo j1 hjt; omega⟩
                  have hcq : cv < n := by have := HPV.out.hi j1 hjt; omega
                  have J5 : (cv : Int) < (n : Int) := by omega
                  have hmk := HMK.out
                  obtain ⟨bp, op, rfl, hcp⟩ := (HRI1.out.keep (HX.out.2.1.trans (HS.out.low.mono HX.out.2.1.size)) (Nat.le_refl _)) (by rw [HPV.out.len]; omega)
                  have ep := hcp j1 (by rw [HPV.out.len]; exact hjt)
                  rw [← hcv] at ep
                  have lpi : bp < wi.heap.size := block_lt (p := ⟨bp, op + j1, none⟩) ep
                  have HO := (OwnI.made wi 2 n (by unfold maxLen; omega)).set hcq 1
                  rw [World.setCell_alloc_at _ _ _ _ _ rfl] at HO
                  have e1 := (OwnI.made wi 2 n (by unfold maxLen; omega)).cellAt hcq
                  rw [el_tab hcq] at e1
                  have e2 := (OwnI.made wi 2 n (by unfold maxLen; omega)).frozen cv
                  obtain ⟨W1, hW1⟩ : ∃ x, x = wi.alloc (.cells ((madeCells #[.int .i64 0] n).setIfInBounds cv (.int .i64 1)) 2) := ⟨_, rfl⟩
                  have HW1 := Lib.hid hW1
                  have HUN : Hid (unitL n (el c j1) = (tab n fun _ => (0 : Int)).set cv 1) := Lib.hid (by unfold unitL; rw [← hcv]; rfl)
                  have HO1 : Hid (OwnI 2 W1 wi.heap.size (some ⟨wi.heap.size, 0, none⟩) n n (unitL n (el c j1))) := Lib.hid (by rw [hW1, HUN.out]; exact HO)
                  have HBW : Hid (Below wi.heap.size wi W1) := Lib.hid (by rw [hW1]; exact (Below.refl _ _).alloc (Nat.le_refl _) _)
                  have lw1 : W1.heap.size = wi.heap.size + 1 := by rw [hW1]; simp
                  have HBX := Lib.hid (HS.out.bx.keep HBW.out)
                  have HBi := Lib.hid HS.out.bx
                  have z2 := HBi.out.cell 2
                  have zl := HBi.out.lt
                  have HSW := Lib.hid (HS.out.own.keep HBW.out (Nat.le_refl _))
                  have hsz := HS.out.sz
                  have HUS := Lib.hid (UnT_succ n c j1)
                  clear HO hW1 hcv hcp
                  go_wp2_with (at_builtin; rw [← HW1.out]; refine wpList_pushB rfl (.tmp 76) (.tmp 78) 24 rfl (wx.heap.size + 1) 52 (.slice none 0 0) 24 Try.underlying24 Try.infoR rfl (by decide) (.slice (some ⟨wi.heap.size, 0, none⟩) n n) rfl _ _ _ _ _ rfl rfl (by rw [lw1]) (by exact HSW.out.own) (by omega) (by rw [lw1]; omega) ?_; rintro a4 c4 w4 r4 q4 g4; have HN := Lib.hid (HS.out.push HBW.out HO1.out (Nat.le_refl _) r4 q4 g4); have y2 := HN.out.2.cell 2; have yf := HN.out.2.frz 2; have yl := HN.out.2.lt; clear r4 q4 g4)
                  go_wp2_with fail
                  go_roundw
                  case rel => exact ⟨j1 + 1, a4, c4, _, _, by omega, by go_num, Lib.hid (by rw [HUS.out]; exact HN.out.1)⟩
                  case measure => simp [intOf]; omega
                · obtain rfl : j1 = t := by omega
                  have J4 : ¬ (j1 : Int) < (j1 : Int) := by omega
                  have HUA : Hid (UnT n c j1 = (DG p n c (freeA c n j1) x1 0).1) := Lib.hid (UnT_all HPV.out.len)
                  have HG0 : Hid (MS 26 52 2 wx wi (p : Int) (n : Int) ad j1 cap (DG p n c (freeA c n j1) x1 0).1 A1 C1) := Lib.hid (by rw [← HUA.out]; exact HS.out)
                  have HG2 : Hid ((DG p n c (freeA c n j1) x1 0).2 = (x1 : Int)) := Lib.hid rfl
                  clear HS
                  go_wp2_with fail
                  go_loopw [84, 14] (fun x v wr => ∃ u : Nat, u ≤ f ∧ x = .int .i64 u ∧ v = .int .i64 (DG p n c (freeA c n j1) x1 u).2 ∧ Hid (MS 26 52 2 wx wr (p : Int) (n : Int) ad j1 cap (DG p n c (freeA c n j1) x1 u).1 A1 C1)) (fun x _ _ => f - (intOf x).toNat)
                  case atStart => exact ⟨0, Nat.zero_le _, rfl, by rw [HG2.out], HG0⟩
                  case round =>
                    obtain ⟨u, hu, rfl, rfl, HD⟩ := hrel
                    obtain ⟨wj, rfl⟩ : ∃ x, x = wr := ⟨wr, rfl⟩
                    clear HG0 HG2 HUA
                    by_cases huf : u < f
                    · have J5 : (u : Int) < (f : Int) := by omega
                      obtain ⟨gp, q, rfl, hq, c1, c2⟩ := (HX.out.2.2.1.keep HD.out.low (Nat.le_refl _)).at_ huf
                      have lgp : gp < wj.heap.size := block_lt (p := ⟨gp, u * 2, none⟩) c1
                      have hqm := freeA_mem (List.mem_of_getElem? hq)
                      obtain ⟨I, K⟩ := q
                      obtain ⟨cN, hcN⟩ : ∃ cN : Nat, (cN : Int) = K := ⟨K.toNat, by omega⟩
                      subst hcN
                      dsimp only at hqm c1 c2
                      have HDS := Lib.hid (DG_succ (p := p) (n := n) (c := c) (x := x1) hq)
                      have hIj : I < j1 := hqm.1
                      have hcn : cN < n := by omega
                      have HDL := Lib.hid (DG_len (p := p) (n := n) (c := c) (ps := freeA c n j1) (x := x1) (u := u))
                      have HDR := Lib.hid (DG_row (p := p) (n := n) (c := c) (ps := freeA c n j1) (x := x1) (u := u) (i := I) (by rw [HPV.out.len]; exact hIj))
                      have hSb := DG_bd (p := p) (n := n) (c := c) (ps := freeA c n j1) (x := x1) (u := u) (by omega) (by omega)
                      generalize hSS : DG p n c (freeA c n j1) x1 u = S at *
                      clear hq hSS
                      go_wp2_with fail
                      obtain ⟨W2, hW2⟩ : ∃ x, x = wj.alloc (.cells #[.int .i64 (I : Int), .int .i64 (cN : Int)] 82) := ⟨_, rfl⟩
                      rw [← hW2]
                      obtain ⟨b20, hb20⟩ : ∃ x, x = wj.heap.size := ⟨_, rfl⟩
                      rw [← hb20]
                      have HM2 : Hid (MS 26 52 2 wx W2 (p : Int) (n : Int) ad j1 cap S.1 A1 C1) := Lib.hid (by rw [hW2]; exact HD.out.al _)
                      have g0 : W2.cell? ⟨b20, 0, none⟩ = some (.int .i64 (I : Int)) := by rw [hW2, hb20]; exact (BX.new _ _ _).cell 0
                      have g1 : W2.cell? ⟨b20, 1, none⟩ = some (.int .i64 (cN : Int)) := by rw [hW2, hb20]; exact (BX.new _ _ _).cell 1
                      have lb : b20 < W2.heap.size := block_lt (p := ⟨b20, 0, none⟩) g0
                      clear hW2 hb20 c1 c2 HD
                      have z2 := HM2.out.bx.cell 2
                      have zl := HM2.out.bx.lt
                      obtain ⟨gO, rfl, hco, _, _, gol⟩ := HM2.out.own.addr (by omega)
                      have y2 := hco I hIj
                      rw [HDR.out] at y2
                      obtain ⟨gR, hgR⟩ := (HM2.out.own.row I hIj).addr (by rw [HDR.out]; omega)
                      rw [hgR] at y2
                      have hrI := HM2.out.own.row I hIj
                      rw [hgR] at hrI
                      have yr := hrI.cellAt (i := cN) (by rw [HDR.out]; exact hcn)
                      have yf := hrI.frozen cN
                      have yl := (hrI.block _ rfl).2
                      have hpz : (p : Int) ≠ 0 := by omega
                      have hpz2 : ¬ p = 0 := by omega
                      have J6 : (I : Int) < (j1 : Int) := by omega
                      have J7 : (cN : Int) < (n : Int) := by omega
                      have WR : S.2.tmod p = S.2 % p := Int.tmod_eq_emod_of_nonneg hSb.1
                      have WQ : IntKind.i64.wrap (S.2.tdiv p) = S.2 / p := by
                        rw [Int.tdiv_eq_ediv_of_nonneg hSb.1]
                        have h1 := Int.ediv_nonneg hSb.1 (show 0 ≤ (p : Int) by omega)
                        have h2 := Int.ediv_le_self (p : Int) hSb.1
                        exact IntWalk.i64_in _ (by omega)
                      have HNX : Hid (MS 26 52 2 wx (W2.setCell ⟨gR, cN, none⟩ (.int .i64 (S.2 % p))).drew (p : Int) (n : Int) (some ⟨gO, 0, none⟩) j1 cap (DG p n c (freeA c n j1) x1 (u + 1)).1 A1 C1) := Lib.hid (by
                        rw [HDS.out]
                        exact (HM2.out.setInt hIj hgR (x := S.2 % p) (by rw [HDR.out]; exact hcn)).drew)
                      have HRX : Hid ((DG p n c (freeA c n j1) x1 (u + 1)).2 = S.2 / p) := Lib.hid (by rw [HDS.out])
                      clear hrI hco hgR hqm
                      go_wp2_with fail
                      go_still_tail 11, (by kernel_rfl)
                      repeat still_step
                      change wpList _ _ _ _ _ W2.drew
                      go_wp2_with fail
                      go_roundw
                      case rel => exact ⟨u + 1, by omega, by go_num, by rw [HRX.out], HNX⟩
                      case measure => simp [intOf]; omega
                    · obtain rfl : u = f := by omega
                      have J5 : ¬ (u : Int) < (u : Int) := by omega
                      have HDM : Hid (MS 26 52 2 wx wj (p : Int) (n : Int) ad j1 cap (matD p n c (x1 : Int)) A1 C1) := Lib.hid (by
                        have h := HD.out
                        rw [DG_all HPV.out.len (by rw [HFL.out]; exact HFE.out)] at h; exact h)
                      clear HD
                      have z0 := HDM.out.bx.cell 0
                      have z1 := HDM.out.bx.cell 1
                      have z2 := HDM.out.bx.cell 2
                      have zl := HDM.out.bx.lt
                      have HBC : Hid (Below wx.heap.size wx (wj.alloc (.cells #[.int .i64 (p : Int), .int .i64 (n : Int), .slice ad j1 cap] 26))) := Lib.hid (HDM.out.low.alloc HDM.out.low.size _)
                      have HVX := Lib.hid (HX.out.1.keep HBC.out (Nat.le_refl _))
                      have HSZ : Hid (w1.heap.size ≤ (wj.alloc (.cells #[.int .i64 (p : Int), .int .i64 (n : Int), .slice ad j1 cap] 26)).heap.size) := Lib.hid (Nat.le_trans HX.out.2.1.size HBC.out.size)
                      have HCL := Lib.hid (lit3_cells wj 26 (.int .i64 (p : Int)) (.int .i64 (n : Int)) (.slice ad j1 cap))
                      have HOX := Lib.hid ((HDM.out.own.keep ((Below.refl wj.heap.size wj).alloc (Nat.le_refl _) (.cells #[.int .i64 (p : Int), .int .i64 (n : Int), .slice ad j1 cap] 26)) (Nat.le_refl _)).mono (Nat.le_succ wx.heap.size))
                      have HIS : Hid (impX p n j1 i (x1 + 1) = impX p n j1 i x1 ++ [matD p n c (x1 : Int)]) := Lib.hid (by rw [impX_succ, ← HC.out])
                      have HLS : Hid ((impX p n j1 i (x1 + 1)).length = (impX p n j1 i x1).length + 1) := Lib.hid (by rw [HIS.out, List.length_append]; rfl)
                      go_wp2_with (at_builtin; refine wpList_pushK rfl (.tmp 104) (.tmp 106) 34 rfl w1.heap.size 26 (.agg #[.int .i64 0, .int .i64 0, .slice none 0 0]) 3 40 Try.underlying34 Try.infoMt rfl (by decide) (by decide) [.int .i64 (p : Int), .int .i64 (n : Int), .slice ad j1 cap] rfl (by intro y hy; simp at hy; rcases hy with rfl | rfl | rfl <;> rfl) _ _ _ _ rfl wj.heap.size rfl HCL.out (by exact HVX.out.own) (by omega) HSZ.out ?_; rintro a4 c4 w4 r4 q4 g4; have HN := Lib.hid (HX.out.1.push HX.out.2.1.size HBC.out HOX.out r4 q4 g4); have HP4 : Hid (OwnP 82 w4 wo.heap.size aF u cF (freeA c n j1)) := Lib.hid ((HX.out.2.2.1.keep HBC.out (Nat.le_refl _)).chg g4 (fun y hy hz => by obtain ⟨x, hx, e⟩ := hz; exact HX.out.2.2.2 x y hx hy e)); have HNE : Hid (∀ y z, a4 = some y → aF = some z → y.block ≠ z.block) := Lib.hid (fun y z hy hz e => by rcases q4 with q4 | q4; (exact HX.out.2.2.2 y z (q4.symm.trans hy) hz e); (rw [hy] at q4; injection q4 with q4; subst q4; have h1 := (ownsK_block (by omega) HX.out.2.2.1.own z hz).2; have h2 := HBC.out.size; simp only at e; omega)); clear r4 q4 g4)
                      go_wp2_with fail
                      go_roundw
                      case rel => exact ⟨x1 + 1, a4, c4, _, _, _, _, _, _, by omega, by go_num, by rw [HLS.out], Lib.hid ⟨by rw [HLS.out, HIS.out]; exact HN.out.1.const, HX.out.2.1.trans HN.out.2, HP4.out, HNE.out⟩⟩
                      case measure => simp [intOf]; omega
            · obtain rfl : x1 = N := by omega
              have J3 : ¬ (x1 : Int) < (x1 : Int) := by omega
              have HIA : Hid (impX p n t i x1 = impI p n t (i + 1)) := Lib.hid (by rw [HN.out, HFE.out, HC.out]; exact impX_all (by rw [← HNC.out]; exact hiN))
              go_wp2_with fail
              go_roundw
              case rel => exact ⟨i + 1, aO, cO, A, C, AA, CC, lo, hi, by omega, by go_num, by rw [HIA.out], Lib.hid ⟨by rw [← HIA.out]; exact HX.out.1, HX.out.2.1⟩⟩
              case measure => simp [intOf]; omega
    · obtain rfl : i = NC := by omega
      have J1 : ¬ (i : Int) < (i : Int) := by omega
      have HIQ : Hid (impI p n k i = implQ p n k) := Lib.hid (by rw [HNC.out]; exact impI_all p n k)
      obtain ⟨m, hm⟩ : ∃ m, (implQ p n k).length = m + 1 := ⟨(implQ p n k).length - 1, by have := implQ_pos (p := p) (n := n) (k := k) (by omega) HCO.out.1; omega⟩
      have hm2 : m + 1 ≤ 200 := by rw [← hm, implQ_len]; exact cnt_small HP.out hn hk HG.out
      have HSH : Hid (∀ j, j < m + 1 → CmR (mx_ (implQ p n k) j)) := Lib.hid (fun j hj => cmR_sh hn hk (implQ_sh (mx_mem (by omega))))
      rw [HIQ.out, hm] at HM ⊢
      have HML := Lib.hid hm
      obtain ⟨g, rfl, hcg⟩ := ownsK_cell (by omega) HM.out.1.own (Nat.succ_pos m)
      have HGB := Lib.hid (ownsK_block (by omega) HM.out.1.own _ rfl)
      clear hcg hm
      go_wp2_with (go_at_call 74; refine (sortMt_any 52 2 w1.heap.size g m cO (p : Int) (n : Int) (implQ p n k) A C AA CC lo hi _ (by exact HM.out.1) (by omega) HSH.out).mono ?_; rintro e w' ⟨rfl, L', A', C', AA', CC', lo', hi', hpm, hst, hom, hch⟩; have HPM := Lib.hid hpm; have HST := Lib.hid hst; have HOM := Lib.hid hom; have HCH := Lib.hid hch; clear hpm hst hom hch)
      have HEQ : Hid (L' = specL p n k (2 ^ n)) := Lib.hid (asp_eq hn hk HPM.out HST.out)
      have HLE : Hid ((specL p n k (2 ^ n)).length = m + 1) := Lib.hid (by rw [← HEQ.out]; exact HOM.out.len)
      have hz := HB1.out.size
      have HFO : Hid (OwnM 26 52 2 w' w.heap.size (some ⟨g, 0, none⟩) (m + 1) cO (fun _ => (p : Int)) (fun _ => (n : Int)) (specL p n k (2 ^ n)) A' C' AA' CC' lo' hi') := Lib.hid (by rw [← HEQ.out]; exact HOM.out.mono hz)
      have HFB : Hid (Below w.heap.size w w') := Lib.hid ((HB1.out.trans (HM.out.2.mono hz)).trans (HCH.out.below (by have := HM.out.2.size; omega) (fun y hy e => by have := HGB.out.1; omega)))
      rw [HLE.out]
      go_wp2_with fail
      go_ret
      exact ⟨some ⟨g, 0, none⟩, cO, A', C', AA', CC', lo', hi', rfl, HFO.out, HFB.out⟩
end Go.Proofs.Ytpkdgemnddcefaa
