/- The program's reduction of rows modulo p: what it hands back is the reduced form. -/
import Derived.Test.YtpkdgemnddcefaaRowOps
import Derived.BigRegion
set_option linter.unusedVariables false
set_option linter.unusedSimpArgs false
namespace Go.Proofs.Ytpkdgemnddcefaa
open Go.RowKit

theorem gp_gcd {p a : Int} (hp : GP p) (h0 : 0 < a) (h1 : a < p) : Int.gcd a p = 1 := by
  unfold GP at hp
  have h6 : a = 1 ∨ a = 2 ∨ a = 3 ∨ a = 4 ∨ a = 5 ∨ a = 6 := by omega
  rcases hp with rfl | rfl | rfl | rfl <;> rcases h6 with rfl | rfl | rfl | rfl | rfl | rfl <;> first | rfl | (exfalso; omega)
/-- lengths and entries of rows modulo p -/
structure Rws (p : Int) (n : Nat) (xss : List (List Int)) : Prop where
  row : ∀ i, i < xss.length → (rw_ xss i).length = n
  rng : ∀ i j, i < xss.length → j < n → 0 ≤ el (rw_ xss i) j ∧ el (rw_ xss i) j < p
theorem Rws.sw {p : Int} {n d e : Nat} {xss : List (List Int)} (h : Rws p n xss) (hd : d < xss.length) (he : e < xss.length) : Rws p n (swR xss d e) := by
  refine ⟨fun i hi => ?_, fun i j hi hj => ?_⟩
  · rw [swR_len] at hi; rw [swR_row hi]; exact h.row _ (swi_lt hd he hi)
  · rw [swR_len] at hi; rw [swR_row hi]; exact h.rng _ _ (swi_lt hd he hi) hj
theorem Rws.sc {p x : Int} {n d : Nat} {xss : List (List Int)} (h : Rws p n xss) (hp : 2 ≤ p) : Rws p n (scR p x xss d) := by
  have hr : ∀ i, i < xss.length → rw_ (scR p x xss d) i = if i = d then scalem p x (rw_ xss d) else rw_ xss i := fun i hi => rw_tab hi
  refine ⟨fun i hi => ?_, fun i j hi hj => ?_⟩
  · rw [scR_len] at hi
    rw [hr i hi]
    by_cases e : i = d
    · subst e; rw [if_pos rfl, scalem_len]; exact h.row i hi
    · rw [if_neg e]; exact h.row i hi
  · rw [scR_len] at hi
    rw [hr i hi]
    by_cases e : i = d
    · subst e; rw [if_pos rfl, el_scalem (by rw [h.row i hi]; exact hj)]; exact emod_bd _ _ (by omega)
    · rw [if_neg e]; exact h.rng i j hi hj
theorem Red.rws {p : Int} {n c d : Nat} {rows0 xss : List (List Int)} {piv : Nat → Nat} (h : Red p n rows0 xss c d piv) : Rws p n xss := ⟨h.row, h.rng⟩

section
variable {T1 T2 : TypeId} {w w' : World} {B n cap : Nat} {a : Option Addr} {xss S T : List (List Int)} {A : Nat → Option Addr} {C : Nat → Nat} {p x : Int} {c d j k g gd : Nat}
theorem OwnR.at_ (h : OwnR T1 T2 w B (some ⟨g, 0, Option.none⟩) n cap xss A C) {i : Nat} (hi : i < n) : w.cell? ⟨g, i, Option.none⟩ = some (.slice (A i) (rw_ xss i).length (C i)) ∧ w.frozen? ⟨g, i, Option.none⟩ = false ∧ g < w.heap.size ∧ B ≤ g := by
  obtain ⟨g', e, hc, hf, hb, hs⟩ := h.addr (by omega)
  injection e with e; injection e with e1; subst e1
  exact ⟨hc i hi, hf i, hs, hb⟩
theorem OwnR.drew (h : OwnR T1 T2 w B a n cap xss A C) : OwnR T1 T2 w.drew B a n cap xss A C := h.same (fun _ _ => rfl) (fun _ _ _ _ => rfl)
theorem OwnR.drewN (h : OwnR T1 T2 w B a n cap xss A C) (q : Nat) : OwnR T1 T2 (w.drewN q) B a n cap xss A C := h.same (fun _ _ => rfl) (fun _ _ _ _ => rfl)
theorem OwnR.rowAt (h : OwnR T1 T2 w B a n cap xss A C) (hd : d < n) (hgd : A d = some ⟨gd, 0, Option.none⟩) : OwnI T2 w B (some ⟨gd, 0, Option.none⟩) (rw_ xss d).length (C d) (rw_ xss d) := by
  have := h.row d hd
  rwa [hgd] at this
theorem scale_step (h : OwnR T1 T2 w B a n cap (rowSet S d (mixs p x (rw_ S d) j)) A C) (hd : d < n) (hS : S.length = n) (hgd : A d = some ⟨gd, 0, none⟩) (hj : j < (rw_ S d).length) :
    OwnR T1 T2 (w.setCell ⟨gd, j, none⟩ (.int .i64 (el (rw_ S d) j * x % p))).drew B a n cap (rowSet S d (mixs p x (rw_ S d) (j + 1))) A C := by
  have e : rw_ (rowSet S d (mixs p x (rw_ S d) j)) d = mixs p x (rw_ S d) j := rowSet_eq (by omega)
  have hr := h.rowAt hd hgd
  rw [e] at hr
  have hs := hr.set (k := j) (by rw [mixs_len]; exact hj) (el (rw_ S d) j * x % p)
  rw [mixs_set hj] at hs
  have h2 := h.setRow (i := d) (r := mixs p x (rw_ S d) (j + 1)) hd (by rw [hgd, e]; exact hs) ((Chg.refl _ _).setCell ⟨gd, j, none⟩ ⟨_, hgd, rfl⟩ _)
  rw [rowSet_set] at h2
  exact h2.drew
theorem elim_step (h : OwnR T1 T2 w B a n cap (elR p T d c k) A C) (hT : T.length = n) (hk : k < n) (hd : k ≠ d)
    (hr : OwnI T2 w' B (A k) (rw_ T k).length (C k) (addm p (-(el (rw_ T k) c)) (rw_ T k) (rw_ T d))) (hc : Chg (fun j => ∃ q, A k = some q ∧ q.block = j) w w') :
    OwnR T1 T2 w' B a n cap (elR p T d c (k + 1)) A C := by
  have e : rw_ (elR p T d c k) k = rw_ T k := elR_no (by omega) (.inl (Nat.le_refl _))
  have h2 := h.setRow (i := k) (r := addm p (-(el (rw_ T k) c)) (rw_ T k) (rw_ T d)) hk (by rw [e]; exact hr) hc
  rwa [elR_succ (by omega) hd] at h2
end
set_option maxRecDepth 100000 in
set_option maxHeartbeats 16000000 in
theorem reduceRows_any (p : Int) (hp : GP p) (a : Option Addr) (n1 c1 n : Nat) (rows : List (List Int)) (w : World) (ha : RdR w a rows) (hl : rows.length = n1) (hr : Rws p n rows) (h1 : n1 ≤ 100) (hn : n ≤ 100) :
    Calls Try.prog 88 #[.int .i64 p, .slice a n1 c1] w fun e w' => ∃ (R : List (List Int)) (a' : Option Addr) (c' : Nat), e = .returned (.slice a' R.length c') ∧ IsRref p n rows R ∧ MadeH 2 w' w.heap.size a' R.length c' R ∧ Below w.heap.size w w' := by
  have HP := Lib.hid hp
  have hp2 := hp.bd
  obtain ⟨p2, p7⟩ := hp2
  have HA := Lib.hid ha
  have HL := Lib.hid hl
  have HR := Lib.hid hr
  clear hp ha hl hr
  go_enter Try.func88, Try.ntmps88
  go_wp2_with fail
  refine (copyRows_any _ _ _ rows _ (by exact HA.out) HL.out (fun i hi => by rw [HR.out.row i (by rw [HL.out]; exact hi)]; omega) (by omega)).mono ?_
  rintro e w1 ⟨a2, c2, rfl, ho, hb⟩
  obtain ⟨A0, C0, ho⟩ := ho
  have hcap := ho.capl
  have H0 : Hid (OwnR 52 2 w1 w.heap.size a2 n1 c2 rows A0 C0 ∧ Red p n rows rows 0 0 (fun _ => 0) ∧ Below w.heap.size w w1) := Lib.hid ⟨ho, Red.start HR.out.row HR.out.rng _, hb⟩
  clear ho hb
  go_wp2_with fail
  go_loopw [6, 5] (fun cc dd wr => ∃ (c d : Nat) (xss : List (List Int)) (A : Nat → Option Addr) (C : Nat → Nat) (piv : Nat → Nat), cc = .int .i64 c ∧ dd = .int .i64 d ∧ c ≤ n ∧ d ≤ n1 ∧ Hid (OwnR 52 2 wr w.heap.size a2 n1 c2 xss A C ∧ Red p n rows xss c d piv ∧ Below w.heap.size w wr)) (fun cc _ _ => n - (intOf cc).toNat)
  case atStart => exact ⟨0, 0, rows, A0, C0, _, rfl, rfl, Nat.zero_le _, Nat.zero_le _, H0⟩
  case round =>
    obtain ⟨c, d, xss, A, C, piv, rfl, rfl, hcn, hdn, HJ⟩ := hrel
    obtain ⟨wo, rfl⟩ : ∃ x, x = wr := ⟨wr, rfl⟩
    clear H0
    by_cases hcond : c < n ∧ d < n1
    · obtain ⟨hc, hd⟩ := hcond
      have hxl := HJ.out.1.len
      have HXL := Lib.hid hxl
      clear hxl
      have b0 : decide ((0 : Int) < (n1 : Int)) = true := decide_eq_true (by omega)
      have b1 : decide ((c : Int) < (n : Int)) = true := decide_eq_true (by omega)
      have b2 : decide ((d : Int) < (n1 : Int)) = true := decide_eq_true (by omega)
      obtain ⟨g, rfl, hcell, hfrz, _, hgs⟩ := HJ.out.1.addr (by omega)
      have HC : Hid (∀ i, i < n1 → wo.cell? ⟨g, i, none⟩ = some (.slice (A i) n (C i))) := Lib.hid fun i hi => by rw [hcell i hi, HJ.out.2.1.row i (by rw [HXL.out]; exact hi)]
      have HFZ := Lib.hid hfrz
      have d0 := HC.out 0 (by omega)
      clear hcell hfrz
      have HZ0 : Hid (∀ i, d ≤ i → i < d → el (rw_ xss i) c = 0) := Lib.hid fun i h1 h2 => absurd h2 (by omega)
      go_wp2_with fail
      go_loop [7] (fun t => ∃ m : Nat, d ≤ m ∧ m ≤ n1 ∧ t = .int .i64 m ∧ Hid (∀ i, d ≤ i → i < m → el (rw_ xss i) c = 0)) (fun t => n1 - (intOf t).toNat)
      case atStart => exact ⟨d, Nat.le_refl _, by omega, rfl, HZ0⟩
      case round =>
        obtain ⟨m, hdm, hm, rfl, HZ⟩ := hrel
        clear HZ0
        by_cases hmt : m < n1
        · have cm := HC.out m hmt
          obtain ⟨bm, om, hA, hcm⟩ := (HJ.out.1.row m hmt).rd (by rw [HJ.out.2.1.row m (by rw [HXL.out]; exact hmt)]; omega)
          have em := hcm c (by rw [HJ.out.2.1.row m (by rw [HXL.out]; exact hmt)]; exact hc)
          clear hcm
          rw [hA] at cm
          have b3 : decide ((m : Int) < (n1 : Int)) = true := decide_eq_true (by omega)
          have HAm := Lib.hid hA
          clear hA
          by_cases hz : el (rw_ xss m) c = 0
          · have HZ1 : Hid (∀ i, d ≤ i → i < m + 1 → el (rw_ xss i) c = 0) := Lib.hid fun i h1 h2 => by
              by_cases he : i = m
              · subst he; exact hz
              · exact HZ.out i h1 (by omega)
            have b4 : (el (rw_ xss m) c == 0) = true := beq_iff_eq.2 hz
            clear hz
            go_wp2_with fail
            go_round
            case rel => exact ⟨m + 1, by omega, by omega, by go_num, HZ1⟩
            case measure => simp [intOf]; omega
          · have b4 : (el (rw_ xss m) c == 0) = false := beq_eq_false_iff_ne.2 hz
            have b5 : ((m : Int) == (n1 : Int)) = false := beq_eq_false_iff_ne.2 (by omega)
            have hrg := HJ.out.2.1.rng m c (by rw [HXL.out]; exact hmt) hc
            obtain ⟨r1, r2⟩ := hrg
            have cd := HC.out d (by omega)
            have fd := HFZ.out d
            have fm := HFZ.out m
            have J1 : (d : Int) < (n1 : Int) := by omega
            have J2 : (m : Int) < (n1 : Int) := by omega
            go_wp2_with fail
            obtain ⟨v9, hy9⟩ := cell?_setCell_some (w := wo) (p := ⟨g, d, none⟩) (x := .slice (some ⟨bm, om, none⟩) n (C m)) (q := ⟨g, m, none⟩) (v := .slice (some ⟨bm, om, none⟩) n (C m)) cm
            go_region
            have HS : Hid (OwnR 52 2 ((wo.setCell ⟨g, d, none⟩ (.slice (some ⟨bm, om, none⟩) n (C m))).setCell ⟨g, m, none⟩ (.slice (A d) n (C d))).drew w.heap.size (some ⟨g, 0, none⟩) n1 c2 (swR xss d m) (fun i => A (swi d m i)) (fun i => C (swi d m i)) ∧ Below w.heap.size w ((wo.setCell ⟨g, d, none⟩ (.slice (some ⟨bm, om, none⟩) n (C m))).setCell ⟨g, m, none⟩ (.slice (A d) n (C d))).drew) := by
              refine Lib.hid ⟨?_, ?_⟩
              · have h := HJ.out.1.swap hd hmt
                rw [HJ.out.2.1.row m (by rw [HXL.out]; exact hmt), HJ.out.2.1.row d (by rw [HXL.out]; exact hd), HAm.out] at h
                exact h.drew
              · have hg := (ownsRow_block HJ.out.1.own _ rfl).1
                exact ((HJ.out.2.2.setCell (p := ⟨g, d, none⟩) hg _).setCell (p := ⟨g, m, none⟩) hg _).drew
            generalize ((wo.setCell ⟨g, d, none⟩ (.slice (some ⟨bm, om, none⟩) n (C m))).setCell ⟨g, m, none⟩ (.slice (A d) n (C d))).drew = w5 at HS ⊢
            have HSl : Hid ((swR xss d m).length = n1) := Lib.hid (by rw [swR_len]; exact HXL.out)
            have HRS : Hid (Rws p n (swR xss d m)) := Lib.hid ((HJ.out.2.1.rws).sw (by rw [HXL.out]; exact hd) (by rw [HXL.out]; exact hmt))
            have hel : el (rw_ (swR xss d m) d) c = el (rw_ xss m) c := by rw [swR_row (by rw [HXL.out]; exact hd), swi_d]
            have HSQ : Hid (∀ x, IsInv (el (rw_ xss m) c) p x → Red p n rows (elR p (scR p x (swR xss d m) d) d c n1) (c + 1) (d + 1) (upd piv d c)) := Lib.hid fun x hx => by
              have := HJ.out.2.1.step p2 hc hdm (by rw [HXL.out]; exact hmt) hx
              unfold stepR at this
              rwa [HXL.out] at this
            generalize swR xss d m = S at *
            generalize (fun i => A (swi d m i)) = A1 at HS
            generalize (fun i => C (swi d m i)) = C1 at HS
            rw [← hel] at r1 r2 b4 HSQ
            clear hel cm em cd fd fm hy9 d0 HC HFZ
            have hne : el (rw_ S d) c ≠ 0 := fun h => by rw [h] at b4; simp at b4
            have hgc : Int.gcd (el (rw_ S d) c) p = 1 := gp_gcd HP.out (by omega) r2
            have hgb : ((el (rw_ S d) c).gcd p == 1) = true := beq_iff_eq.2 hgc
            have HGC := Lib.hid hgc
            clear hne hgc
            have HLd : Hid ((rw_ S d).length = n) := Lib.hid (HRS.out.row d (by rw [HSl.out]; exact hd))
            obtain ⟨gd, hgd⟩ := (HS.out.1.row d hd).addr (by rw [HLd.out]; omega)
            have HGD := Lib.hid hgd
            have c5 := (HS.out.1.at_ hd).1
            rw [hgd, HLd.out] at c5
            have e5 := (HS.out.1.rowAt hd hgd).cellAt (i := c) (by rw [HLd.out]; exact hc)
            clear hgd
            go_wp2_with fail
            refine (inverseMod_any _ _ _ r1 r2 (by omega)).mono ?_
            rintro e w6 ⟨x, rfl, hinv, q, hq⟩
            have hiv := hinv HGC.out
            obtain ⟨x0, x1, _⟩ := id hiv
            have HIV := Lib.hid hiv
            have HS6 : Hid (OwnR 52 2 w6 w.heap.size (some ⟨g, 0, none⟩) n1 c2 (rowSet S d (mixs p x (rw_ S d) 0)) A1 C1 ∧ Below w.heap.size w w6) := Lib.hid (by rw [hq, mixs_zero, rowSet_same]; exact ⟨HS.out.1.drewN q, below_drewN' HS.out.2 q⟩)
            have c6 : w6.cell? ⟨g, d, none⟩ = some (.slice (some ⟨gd, 0, none⟩) n (C1 d)) := by rw [hq]; exact c5
            clear hinv hq hiv c5 e5
            go_wp2_with fail
            go_loopw [85] (fun i wr => ∃ j : Nat, j ≤ n ∧ i = .int .i64 j ∧ Hid (OwnR 52 2 wr w.heap.size (some ⟨g, 0, none⟩) n1 c2 (rowSet S d (mixs p x (rw_ S d) j)) A1 C1 ∧ Below w.heap.size w wr)) (fun i _ => n - (intOf i).toNat)
            case atStart => exact ⟨0, Nat.zero_le _, rfl, HS6⟩
            case round =>
              obtain ⟨j, hj, rfl, HQ⟩ := hrel
              obtain ⟨ws, rfl⟩ : ∃ x, x = wr := ⟨wr, rfl⟩
              clear HS6 c6
              by_cases hjt : j < n
              · have hb7 := HQ.out.1.at_ hd
                have c7 := hb7.1
                rw [HGD.out, rowSet_eq (by rw [HSl.out]; exact hd), mixs_len, HLd.out] at c7
                have h7 := HQ.out.1.rowAt hd HGD.out
                rw [rowSet_eq (by rw [HSl.out]; exact hd)] at h7
                have e7 := h7.cellAt (i := j) (by rw [mixs_len, HLd.out]; exact hjt)
                rw [mixs_el (by rw [HLd.out]; exact hjt) (Nat.le_refl _)] at e7
                have f7 := h7.frozen j
                have hB7 := (h7.block _ rfl).1
                obtain ⟨v1, v2⟩ := HRS.out.rng d j (by rw [HSl.out]; exact hd) hjt
                obtain ⟨z1, z2⟩ := prod_bd (k := el (rw_ S d) j) (x := x) (by omega) (by omega) (by omega) (by omega)
                have z0 : 0 ≤ el (rw_ S d) j * x := Int.mul_nonneg v1 x0
                have W1 : IntKind.i64.wrap (el (rw_ S d) j * x) = el (rw_ S d) j * x := IntWalk.i64_in _ (by omega)
                have W2 : (el (rw_ S d) j * x).tmod p = el (rw_ S d) j * x % p := Int.tmod_eq_emod_of_nonneg z0
                have J1 : (j : Int) < (n : Int) := by omega
                have J2 : (d : Int) < (n1 : Int) := by omega
                have J3 : ¬ p = 0 := by omega
                have HN : Hid (OwnR 52 2 (ws.setCell ⟨gd, j, none⟩ (.int .i64 (el (rw_ S d) j * x % p))).drew w.heap.size (some ⟨g, 0, none⟩) n1 c2 (rowSet S d (mixs p x (rw_ S d) (j + 1))) A1 C1 ∧ Below w.heap.size w (ws.setCell ⟨gd, j, none⟩ (.int .i64 (el (rw_ S d) j * x % p))).drew) := Lib.hid ⟨scale_step HQ.out.1 hd HSl.out HGD.out (by rw [HLd.out]; exact hjt), (HQ.out.2.setCell (p := ⟨gd, j, none⟩) hB7 _).drew⟩
                clear hb7 h7 HQ
                go_wp2_with fail
                go_still_tail 17, (by kernel_rfl)
                change wpList _ _ _ _ _ ws.drew
                go_wp2_with fail
                go_roundw
                case rel => exact ⟨j + 1, by omega, by go_num, HN⟩
                case measure => simp [intOf]; omega
              · obtain rfl : n = j := by omega
                have HT : Hid (OwnR 52 2 ws w.heap.size (some ⟨g, 0, none⟩) n1 c2 (elR p (scR p x S d) d c 0) A1 C1 ∧ Below w.heap.size w ws) := Lib.hid (by have := HQ.out; rw [show n = (rw_ S d).length from HLd.out.symm, mixs_full, ← scR_rowSet] at this; rw [elR_zero]; exact this)
                have HTl : Hid ((scR p x S d).length = n1) := Lib.hid (by rw [scR_len]; exact HSl.out)
                have HTR : Hid (Rws p n (scR p x S d)) := Lib.hid (HRS.out.sc p2)
                have HTQ := Lib.hid (HSQ.out x HIV.out)
                generalize scR p x S d = T at HT HTl HTR HTQ
                clear HQ
                go_wp2_with fail
                go_loopw [108] (fun i wr => ∃ k : Nat, k ≤ n1 ∧ i = .int .i64 k ∧ Hid (OwnR 52 2 wr w.heap.size (some ⟨g, 0, none⟩) n1 c2 (elR p T d c k) A1 C1 ∧ Below w.heap.size w wr)) (fun i _ => n1 - (intOf i).toNat)
                case atStart => exact ⟨0, Nat.zero_le _, rfl, HT⟩
                case round =>
                  obtain ⟨k, hk, rfl, HE⟩ := hrel
                  obtain ⟨we, rfl⟩ : ∃ x, x = wr := ⟨wr, rfl⟩
                  clear HT
                  by_cases hkt : k < n1
                  · by_cases hkd : k = d
                    · have b6 : ((k : Int) != (d : Int)) = false := by rw [hkd]; simp
                      have HN : Hid (OwnR 52 2 we w.heap.size (some ⟨g, 0, none⟩) n1 c2 (elR p T d c (k + 1)) A1 C1 ∧ Below w.heap.size w we) := Lib.hid (by have := HE.out; rw [hkd] at this ⊢; rw [elR_succ_d]; exact this)
                      clear hkd HE
                      go_wp2_with fail
                      go_roundw
                      case rel => exact ⟨k + 1, by omega, by go_num, HN⟩
                      case measure => simp [intOf]; omega
                    · have b6 : ((k : Int) != (d : Int)) = true := bne_iff_ne.2 (by omega)
                      have HKD := Lib.hid hkd
                      have rk : rw_ (elR p T d c k) k = rw_ T k := elR_no (by rw [HTl.out]; exact hkt) (.inl (Nat.le_refl _))
                      have rd : rw_ (elR p T d c k) d = rw_ T d := elR_no (by rw [HTl.out]; exact hd) (.inr rfl)
                      have lk : (rw_ T k).length = n := HTR.out.row k (by rw [HTl.out]; exact hkt)
                      have ld : (rw_ T d).length = n := HTR.out.row d (by rw [HTl.out]; exact hd)
                      obtain ⟨gk, hgk⟩ := (HE.out.1.row k hkt).addr (by rw [rk, lk]; omega)
                      have ck := (HE.out.1.at_ hkt).1
                      have cd := (HE.out.1.at_ hd).1
                      rw [hgk, rk, lk] at ck
                      rw [HGD.out, rd, ld] at cd
                      have hk7 := HE.out.1.rowAt hkt hgk
                      have hd7 := HE.out.1.rowAt hd HGD.out
                      rw [rk, lk] at hk7
                      rw [rd, ld] at hd7
                      have ek := hk7.cellAt hc
                      have HK7 := Lib.hid hk7
                      have HD7 := Lib.hid hd7.rd
                      have HAP := Lib.hid (HE.out.1.ap k d hkt hd hkd)
                      rw [hgk, HGD.out] at HAP
                      have HGK := Lib.hid hgk
                      have LK := Lib.hid lk
                      have LD := Lib.hid ld
                      obtain ⟨v1, v2⟩ := HTR.out.rng k c (by rw [HTl.out]; exact hkt) hc
                      have W1 : IntKind.i64.wrap (-(el (rw_ T k) c)) = -(el (rw_ T k) c) := IntWalk.i64_in _ (by omega)
                      have J1 : (k : Int) < (n1 : Int) := by omega
                      have J2 : (d : Int) < (n1 : Int) := by omega
                      have J4 : (c : Int) < (n : Int) := by omega
                      clear hk7 hd7 hgk lk ld rk rd hkd
                      go_wp2_with fail
                      go_still_tail 17, (by kernel_rfl)
                      change wpList _ _ _ _ _ we.drew
                      go_wp2_with (go_at_call 105; refine (addMultiple_any 2 w.heap.size _ _ n n _ _ (rw_ T k) (rw_ T d) _ p _ (by exact HK7.out.same (fun _ _ => rfl)) (by exact HD7.out.same (fun _ _ => rfl)) LD.out (Nat.le_refl _) (by omega) HAP.out p2 p7 (by omega) (by omega) (fun j hj => HTR.out.rng k j (by rw [HTl.out]; exact hkt) hj) (fun j hj => HTR.out.rng d j (by rw [HTl.out]; exact hd) hj)).mono ?_; rintro e w8 ⟨rfl, ho, hch⟩; have HO8 := Lib.hid ho; have HC8 := Lib.hid hch; clear ho hch)
                      have HN : Hid (OwnR 52 2 w8 w.heap.size (some ⟨g, 0, none⟩) n1 c2 (elR p T d c (k + 1)) A1 C1 ∧ Below w.heap.size w w8) := Lib.hid ⟨elim_step HE.out.1.drew HTl.out hkt HKD.out (by rw [HGK.out, LK.out]; exact HO8.out) (by rw [HGK.out]; exact HC8.out), HE.out.2.drew.trans (HC8.out.below (by have := HE.out.2.size; exact this) (fun b hb hx => by obtain ⟨y, hy, e⟩ := hx; have := (HK7.out.block y hy).1; omega))⟩
                      go_roundw
                      case rel => exact ⟨k + 1, by omega, by go_num, HN⟩
                      case measure => simp [intOf]; omega
                  · obtain rfl : n1 = k := by omega
                    go_wp2_with fail
                    go_roundw
                    case rel => exact ⟨c + 1, d + 1, elR p T d c n1, A1, C1, upd piv d c, by go_num, by go_num, by omega, by omega, Lib.hid ⟨HE.out.1, HTQ.out, HE.out.2⟩⟩
                    case measure => simp [intOf]; omega
        · obtain rfl : m = n1 := by omega
          have b3 : decide ((m : Int) < (m : Int)) = false := by simp
          have HN : Hid (Red p n rows xss (c + 1) d piv) := Lib.hid (HJ.out.2.1.skip hc (fun i h1 h2 => HZ.out i h1 (by rw [HXL.out] at h2; exact h2)))
          go_wp2_with fail
          go_roundw
          case rel => exact ⟨c + 1, d, xss, A, C, piv, by go_num, rfl, by omega, by omega, Lib.hid ⟨HJ.out.1, HN.out, HJ.out.2.2⟩⟩
          case measure => simp [intOf]; omega
    · have HF : Hid (IsRref p n rows (xss.take d)) := by
        refine Lib.hid (HJ.out.2.1.fin ?_)
        have := HJ.out.1.len
        omega
      have HM : Hid (MadeH 2 wo w.heap.size a2 d d (xss.take d)) := Lib.hid ⟨A, C, HJ.out.1.cut hdn⟩
      have hlt : (xss.take d).length = d := by have := HJ.out.1.len; simp; omega
      have HLT := Lib.hid hlt
      have V1 : d ≤ c2 := by omega
      clear hlt
      by_cases hz : n1 = 0
      · have e0 : decide ((0 : Int) < (n1 : Int)) = false := by simp; omega
        go_wp2_with fail
        go_ret
        exact ⟨xss.take d, a2, d, by rw [HLT.out]; rfl, HF.out, by rw [HLT.out]; exact HM.out, HJ.out.2.2⟩
      · have e0 : decide ((0 : Int) < (n1 : Int)) = true := decide_eq_true (by omega)
        obtain ⟨g, rfl, hc, _, _, _⟩ := HJ.out.1.addr (by omega)
        have d0 := hc 0 (by omega)
        rw [HJ.out.2.1.row 0 (by have := HJ.out.1.len; omega)] at d0
        clear hc
        by_cases hcc : c < n
        · have e1 : decide ((c : Int) < (n : Int)) = true := decide_eq_true (by omega)
          have e2 : decide ((d : Int) < (n1 : Int)) = false := by simp; omega
          go_wp2_with fail
          go_ret
          exact ⟨xss.take d, _, d, by rw [HLT.out]; rfl, HF.out, by rw [HLT.out]; exact HM.out, HJ.out.2.2⟩
        · have e1 : decide ((c : Int) < (n : Int)) = false := by simp; omega
          go_wp2_with fail
          go_ret
          exact ⟨xss.take d, _, d, by rw [HLT.out]; rfl, HF.out, by rw [HLT.out]; exact HM.out, HJ.out.2.2⟩
end Go.Proofs.Ytpkdgemnddcefaa
