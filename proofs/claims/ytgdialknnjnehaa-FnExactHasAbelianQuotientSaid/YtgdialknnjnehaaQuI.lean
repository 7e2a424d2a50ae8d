/- When one abelian group is a quotient of another: the program's function. -/
import Derived.Test.YtgdialknnjnehaaQuR
import Derived.Test.YtgdialknnjnehaaQuM
import Derived.Test.YtgdialknnjnehaaPpW
import Derived.Deep.RegionLaw
import Derived.BigQuiet
set_option linter.unusedVariables false
set_option linter.unusedSimpArgs false
namespace Go.Proofs.Ytgdialknnjnehaa
open Go.RowKit Go.Maps
theorem sQ_PP {xs : List Int} {r : Int} (h : isAb xs r = true) : ∀ q ∈ sQ xs, isPP q := fun q hq => partsL_PP (isAb_rng1 h) q (sortP_mem.1 hq)
theorem sQ_len {xs : List Int} {r : Int} (h : isAb xs r = true) : (sQ xs).length ≤ 10020 := by
  have := (isAb_ok h)
  have h1 := this.1
  have h2 := this.2.2.1
  have h3 := partsL_len xs
  show (sortP (partsL xs)).length ≤ 10020
  rw [sortP_len]
  omega
theorem sQ_dsc (xs : List Int) (p : Int) : dsc (sQ xs) p = (grp (sQ xs) p).reverse := dsc_srt (sortP_sorted _) p
/-- what the program asks of one prime -/
def okP (us vs : List Int) (F : Nat) (p : Int) (i : Nat) : Prop := F ≤ i → i - F < (grp us p).length ∧ el (grp vs p).reverse i ≤ el (grp us p).reverse (i - F)
theorem prg_of {xs ys : List Int} {R T : Nat} (h1 : T ≤ R) (h : ∀ p ∈ prs (sQ ys), ∀ i, i < (grp (sQ ys) p).length → okP (sQ xs) (sQ ys) (R - T) p i) : prgQ xs R ys T := by
  refine ⟨by omega, fun p hp i hi hf => ?_⟩
  have e : ((R : Int) - T).toNat = R - T := by omega
  rw [sQ_dsc, List.length_reverse] at hi
  rw [e] at hf ⊢
  rw [sQ_dsc, sQ_dsc, List.length_reverse]
  exact h p hp i hi hf
theorem prg_bad {xs ys : List Int} {R T : Nat} {p : Int} {i : Nat} (hp : grp (sQ ys) p ≠ []) (hi : i < (grp (sQ ys) p).length) (hb : ¬ okP (sQ xs) (sQ ys) (R - T) p i) : ¬ prgQ xs R ys T := fun h => by
  apply hb
  intro hf
  obtain ⟨q, h1, h2⟩ := grp_ne.1 hp
  have e : ((R : Int) - T).toNat = R - T := by have := h.1; omega
  have h3 := h.2 p (prs_mem.2 ⟨q, h1, h2⟩) i (by rw [sQ_dsc, List.length_reverse]; exact hi) (by rw [e]; exact hf)
  rwa [sQ_dsc, sQ_dsc, List.length_reverse, e] at h3
/-- what holds in the last loop: left says whose turn is still to come -/
structure G4 (wb wr : World) (Bb mb : Nat) (Db : DataW Unit) (us vs : List Int) (F : Nat) (left : Lit → Bool) (cnt : Nat) : Prop where
  rg : wr.ranges Try.prog 2 codeS Bb wb.heap.size mb Db left cnt
  lf : ∀ p, -9223372036854775808 ≤ p ∧ p ≤ 9223372036854775807 → left (.int .i64 p) = true → grp vs p ≠ []
  dn : ∀ p, -9223372036854775808 ≤ p ∧ p ≤ 9223372036854775807 → grp vs p ≠ [] → left (.int .i64 p) = false → ∀ i, i < (grp vs p).length → okP us vs F p i
  bel : Below wb.heap.size wb wr
  sz : wb.heap.size < wr.heap.size
theorem el_rev {xs : List Int} {n i : Nat} (hl : xs.length = n) (h : i < n) : el xs.reverse i = el xs (n - 1 - i) := by
  subst hl
  unfold el
  rw [List.getElem?_reverse h]
theorem ranges_like {w w' : World} {B r n cnt : Nat} {D : DataW Unit} {left : Lit → Bool} (h : w.ranges Try.prog 2 codeS B r n D left cnt) (e : w'.heap = w.heap) : w'.ranges Try.prog 2 codeS B r n D left cnt := ranges_same h (by rw [e]) (by rw [e])
set_option maxRecDepth 20000 in
set_option maxHeartbeats 4000000 in
theorem impl_HasAbelianQuotient_any (a : Option Addr) (n c : Nat) (xs : List Int) (r : Int) (b : Option Addr) (m d : Nat) (ys : List Int) (s : Int) (w : World) (ha : RdI w a xs) (hl : xs.length = n) (hb : RdI w b ys) (hl2 : ys.length = m) (hn : n ≤ 1048576) (hm : m ≤ 1048576) :
    Calls Try.prog 42 #[.agg #[.slice a n c, .int .i64 r], .agg #[.slice b m d, .int .i64 s]] w fun e w' => e = .returned (.tuple #[.bool (quV xs r ys s).1, .int .i64 (quV xs r ys s).2]) ∧ Below w.heap.size w w' := by
  have HA := Lib.hid ha
  have HL := Lib.hid hl
  have HA2 := Lib.hid hb
  have HL2 := Lib.hid hl2
  clear ha hl hb hl2
  cases hv : isAb xs r
  · rw [quV_no1 hv]
    go_enter Try.func42, Try.ntmps42
    go_wp2_with fail
    refine (impl_IsAbelian_any _ _ _ xs _ _ (by exact (HA.out.alloc _).alloc _) HL.out (by omega)).mono ?_
    rw [hv]
    rintro e w1 ⟨rfl, hb⟩
    have HB : Hid (Below w.heap.size w w1) := Lib.hid ((((Below.refl _ _).alloc (Nat.le_refl _) _).alloc (by simp) _).trans (hb.mono (by simp; omega)))
    have p0 := cell_keep (p := ⟨w.heap.size, 0, none⟩) (v := .slice a n c) (by simp) hb
    have p1 := cell_keep (p := ⟨w.heap.size, 1, none⟩) (v := .int .i64 r) (by simp) hb
    have p2 := cell_keep (p := ⟨w.heap.size + 1, 0, none⟩) (v := .slice b m d) (by simp) hb
    have p3 := cell_keep (p := ⟨w.heap.size + 1, 1, none⟩) (v := .int .i64 s) (by simp) hb
    have sz1 : w.heap.size + 2 ≤ w1.heap.size := by have := hb.size; simp at this; omega
    clear hb
    clear hv
    go_wp2_with fail
    go_ret2
    exact ⟨rfl, HB.out⟩
  cases hu : isAb ys s
  · rw [quV_no2 hu]
    go_enter Try.func42, Try.ntmps42
    go_wp2_with fail
    refine (impl_IsAbelian_any _ _ _ xs _ _ (by exact (HA.out.alloc _).alloc _) HL.out (by omega)).mono ?_
    rw [hv]
    rintro e w1 ⟨rfl, hb⟩
    have HB : Hid (Below w.heap.size w w1) := Lib.hid ((((Below.refl _ _).alloc (Nat.le_refl _) _).alloc (by simp) _).trans (hb.mono (by simp; omega)))
    have p0 := cell_keep (p := ⟨w.heap.size, 0, none⟩) (v := .slice a n c) (by simp) hb
    have p1 := cell_keep (p := ⟨w.heap.size, 1, none⟩) (v := .int .i64 r) (by simp) hb
    have p2 := cell_keep (p := ⟨w.heap.size + 1, 0, none⟩) (v := .slice b m d) (by simp) hb
    have p3 := cell_keep (p := ⟨w.heap.size + 1, 1, none⟩) (v := .int .i64 s) (by simp) hb
    have sz1 : w.heap.size + 2 ≤ w1.heap.size := by have := hb.size; simp at this; omega
    clear hb
    go_wp2_with fail
    refine (impl_IsAbelian_any _ _ _ ys _ _ (by exact HA2.out.keep HB.out (Nat.le_refl _)) HL2.out (by omega)).mono ?_
    rw [hu]
    rintro e w2 ⟨rfl, hb⟩
    replace HB : Hid (Below w.heap.size w w2) := Lib.hid (HB.out.trans (hb.mono HB.out.size))
    replace p0 := cell_keep p0 hb
    replace p1 := cell_keep p1 hb
    replace p2 := cell_keep p2 hb
    replace p3 := cell_keep p3 hb
    replace sz1 : w.heap.size + 2 ≤ w2.heap.size := Nat.le_trans sz1 hb.size
    clear hb
    clear hv hu
    go_wp2_with fail
    go_ret2
    exact ⟨rfl, HB.out⟩
  rw [quV_ok hv hu]
  have HV := Lib.hid hv
  have HU := Lib.hid hu
  have hv9 := isAb_ok hv
  have hu9 := isAb_ok hu
  have r0 : 0 ≤ r := hv9.1
  have r10 : r ≤ 10 := hv9.2.1
  have s0 : 0 ≤ s := hu9.1
  have s10 : s ≤ 10 := hu9.2.1
  have n10 : n ≤ 10 := by have h1 := hv9.2.2.1; have h2 := HL.out; omega
  have m10 : m ≤ 10 := by have h1 := hu9.2.2.1; have h2 := HL2.out; omega
  clear hv9 hu9
  obtain ⟨R, rfl⟩ : ∃ R : Nat, r = R := ⟨r.toNat, by omega⟩
  obtain ⟨T, rfl⟩ : ∃ T : Nat, s = T := ⟨s.toNat, by omega⟩
  have HIF : Hid (refQ xs R ys T ↔ prgQ xs R ys T) := Lib.hid (quot_iff HV.out HU.out)
  obtain ⟨q, hq⟩ : ∃ q, q = quB xs R ys T := ⟨_, rfl⟩
  rw [← hq]
  have HQ := Lib.hid hq
  clear hq
  have hmm := @run_makeMap Try.prog
  go_enter Try.func42, Try.ntmps42
  go_wp2_with fail
  refine (impl_IsAbelian_any _ _ _ xs _ _ (by exact (HA.out.alloc _).alloc _) HL.out (by omega)).mono ?_
  rw [hv]
  rintro e w1 ⟨rfl, hb⟩
  have HB : Hid (Below w.heap.size w w1) := Lib.hid ((((Below.refl _ _).alloc (Nat.le_refl _) _).alloc (by simp) _).trans (hb.mono (by simp; omega)))
  have p0 := cell_keep (p := ⟨w.heap.size, 0, none⟩) (v := .slice a n c) (by simp) hb
  have p1 := cell_keep (p := ⟨w.heap.size, 1, none⟩) (v := .int .i64 R) (by simp) hb
  have p2 := cell_keep (p := ⟨w.heap.size + 1, 0, none⟩) (v := .slice b m d) (by simp) hb
  have p3 := cell_keep (p := ⟨w.heap.size + 1, 1, none⟩) (v := .int .i64 T) (by simp) hb
  have sz1 : w.heap.size + 2 ≤ w1.heap.size := by have := hb.size; simp at this; omega
  clear hb
  go_wp2_with fail
  refine (impl_IsAbelian_any _ _ _ ys _ _ (by exact HA2.out.keep HB.out (Nat.le_refl _)) HL2.out (by omega)).mono ?_
  rw [hu]
  rintro e w2 ⟨rfl, hb⟩
  replace HB : Hid (Below w.heap.size w w2) := Lib.hid (HB.out.trans (hb.mono HB.out.size))
  replace p0 := cell_keep p0 hb
  replace p1 := cell_keep p1 hb
  replace p2 := cell_keep p2 hb
  replace p3 := cell_keep p3 hb
  replace sz1 : w.heap.size + 2 ≤ w2.heap.size := Nat.le_trans sz1 hb.size
  clear hb
  clear hv hu
  by_cases hrt : R < T
  · obtain rfl : q = false := by rw [HQ.out]; exact quB_f (fun h => by have := (HIF.out.1 h).1; omega)
    have l1 : (R : Int) < T := by omega
    have l2 : decide ((R : Int) < T) = true := decide_eq_true l1
    have l3 : decide (R < T) = true := decide_eq_true hrt
    go_wp2_with fail
    go_ret2
    exact ⟨rfl, HB.out⟩
  have l1 : ¬ (R : Int) < T := by omega
  have l2 : decide ((R : Int) < T) = false := decide_eq_false l1
  have l3 : decide (R < T) = false := decide_eq_false hrt
  have HR1 : Hid (RdI w2 a xs) := Lib.hid (HA.out.keep HB.out (Nat.le_refl _))
  have HX := Lib.hid (isAb_rng1 HV.out)
  have HY := Lib.hid (isAb_rng1 HU.out)
  have HPQa := Lib.hid (sQ_PP HV.out)
  have HPQb := Lib.hid (sQ_PP HU.out)
  have HSa := Lib.hid (sQ_len HV.out)
  have HSb := Lib.hid (sQ_len HU.out)
  have hm1 := World.ownsMap_made (H := Unit) w2 Try.prog 2 codeS
  have HM1 := Lib.hid hm1
  clear hm1
  have a0 : (w2.alloc (.map #[] 0)).cell? ⟨w.heap.size, 0, none⟩ = some (.slice a n c) := (World.cell?_of_block (Below.heap_alloc _ _ _ (block_lt p0))).trans p0
  have a1 : (w2.alloc (.map #[] 0)).cell? ⟨w.heap.size, 1, none⟩ = some (.int .i64 R) := (World.cell?_of_block (Below.heap_alloc _ _ _ (block_lt p1))).trans p1
  go_wp2_with fail
  refine (primaryParts_any a n c xs R _ (by exact HR1.out.alloc _) HL.out n10 HX.out).mono ?_
  rintro e w3 ⟨al, nl, cl, rfl, ho, hb⟩
  have HOa : Hid (OwnI 2 w3 (w2.heap.size + 1) al nl cl (sQ xs)) := Lib.hid (ho.mono (by simp))
  have HLa : Hid ((sQ xs).length = nl) := Lib.hid ho.len
  have hna : nl ≤ 10020 := by have h1 := HLa.out; have h2 := HSa.out; omega
  have hB3 : w2.heap.size < w3.heap.size := by have := hb.size; simp at this; omega
  have HSTa : Hid (G3 w3 w2.heap.size w3 (sQ xs) 0 (fun _ => (0, 0, 0)) (.map [])) := Lib.hid (G3.start _ (ownsMap_same HM1.out (hb.block _ (by simp))) hB3)
  have HB3 : Hid (Below w.heap.size w w3) := Lib.hid (HB.out.trans (((Below.refl w2.heap.size w2).alloc (Nat.le_refl _) _).trans (hb.mono (by simp)) |>.mono HB.out.size))
  have q0 := cell_below a0 hb
  have q1' := cell_below a1 hb
  have q2 := cell_below ((World.cell?_of_block (Below.heap_alloc w2 (.map #[] 0) _ (block_lt p2))).trans p2) hb
  have q3 := cell_below ((World.cell?_of_block (Below.heap_alloc w2 (.map #[] 0) _ (block_lt p3))).trans p3) hb
  clear ho hb a0 a1 p0 p1 p2 p3 HM1 HR1
  go_wp2_with fail
  go_loopw [39] (fun i wr => ∃ (k : Nat), i = .int .i64 k ∧ k ≤ nl ∧ Hid (∃ hd D, G3 w3 (w2.heap.size) wr (sQ xs) k hd D)) (fun i _ => nl - (intOf i).toNat)
  case atStart => exact ⟨0, rfl, Nat.zero_le _, Lib.hid ⟨_, _, HSTa.out⟩⟩
  case round =>
    obtain ⟨k, rfl, hk, HR⟩ := hrel
    by_cases hkn : k < nl
    · have k1 : (k : Int) < nl := by omega
      have k2 : decide ((k : Int) < nl) = true := decide_eq_true k1
      have k3 : decide (k < nl) = true := decide_eq_true hkn
      obtain ⟨hd, D, HG0⟩ := HR.out
      have HG := Lib.hid HG0
      clear HG0 HR
      obtain ⟨b0, o0, hal, cx⟩ := rdI_at ((HOa.out.kept HG.out.2.2.1 (fun p hp e => by have := (HOa.out.block p hp).1; omega)).rd) (show k < (sQ xs).length by rw [HLa.out]; exact hkn)
      subst hal
      have HPk := Lib.hid (HPQa.out (el (sQ xs) k) (el_mem (by rw [HLa.out]; exact hkn)))
      have hx2 : 2 ≤ el (sQ xs) k ∧ el (sQ xs) k ≤ 1000000 := ⟨HPk.out.1, HPk.out.2.1⟩
      obtain ⟨x, hxe⟩ : ∃ x, x = el (sQ xs) k := ⟨_, rfl⟩
      have HXE := Lib.hid hxe
      rw [← hxe] at cx hx2
      clear hxe
      obtain ⟨wo, rfl⟩ : ∃ x, x = wr := ⟨wr, rfl⟩
      go_wp2_with fail
      refine (factors_any x wo (by omega) hx2.2).mono ?_
      rintro e v2 ⟨f1, nf1, cf1, f2, nf2, cf2, rfl, ho1, ho2, _, hb⟩
      have px := primes_pos hx2.1 hx2.2
      have hn1 := ho1.len
      have hn0 : 0 < nf1 := by omega
      obtain ⟨g1, o1, rfl, q1⟩ := ho1.rd px
      have HG1 : Hid (wo.heap.size ≤ g1) := Lib.hid (ho1.block _ rfl).1
      have y1 : v2.cell? ⟨g1, o1, none⟩ = some (.int .i64 (lpf x)) := q1 0 px
      have lg1 : g1 < v2.heap.size := by simpa using block_lt y1
      have HG2 : Hid (G3 w3 (w2.heap.size) v2 (sQ xs) k hd D) := Lib.hid (HG.out.keep hb)
      clear ho1 ho2 hb q1 px hn1
      have HP64 : Hid (-9223372036854775808 ≤ lpf x ∧ lpf x ≤ 9223372036854775807) := Lib.hid (by
        have h9 := primes_bd hx2.1 hx2.2
        omega)
      obtain ⟨ag, ng, cg, hat, hown, hloc⟩ := HG2.out.1.at (lpf x)
      have HAT := Lib.hid hat
      have HOG := Lib.hid hown
      have HLOC := Lib.hid hloc
      have HGB : Hid (∀ q, ag = some q → q.block ≠ g1) := Lib.hid (fun q hq => by
        obtain ⟨e1, e2⟩ := hloc q hq
        have h1 := (HG.out.1.blk e1).2
        have h2 := HG1.out
        rw [e2]
        show (hd (lpf x)).1 ≠ g1
        omega)
      have HN9 : Hid (ng ≤ 100000) := Lib.hid (by
        have h1 := hown.len
        have h2 := List.length_filter_le (fun q => lpf q == lpf x) ((sQ xs).take k)
        unfold grp at h1
        rw [List.length_take] at h2
        have := HLa.out
        omega)
      have HS2 : Hid (w3.heap.size ≤ v2.heap.size) := Lib.hid HG2.out.2.2.1.size
      clear hat hown hloc
      obtain ⟨p, hpe⟩ : ∃ p, p = lpf x := ⟨_, rfl⟩
      have HPE := Lib.hid hpe
      rw [← hpe] at y1 HP64 HAT HOG HLOC
      clear hpe
      go_wp2_with fail
      have look0 : ∀ W : World, W.heap = v2.heap ∨ W.heap = (v2.alloc (.cells #[.int .i64 x] 2)).heap → (Instr.lookup 66 (.map (some (w2.heap.size))) (.int .i64 p) false).run Try.prog W = .ok (.slice ag ng cg) W := fun W hW => by
        rw [← HAT.out]
        rcases hW with hW | hW
        · exact lookupS (HG2.out.1.like hW) (ownsMap_like HG2.out.2.1 hW) HP64.out
        · exact lookupS ((HG2.out.1.alloc _).like hW) (ownsMap_like (ownsMap_same HG2.out.2.1 (Below.heap_alloc v2 _ _ (by have := HS2.out; omega))) hW) HP64.out
      have look1 := look0 v2.drew (.inl rfl)
      have look2 := look0 (v2.drew.alloc (.cells #[.int .i64 x] 2)) (.inr rfl)
      have look3 := look0 (v2.alloc (.cells #[.int .i64 x] 2)).drew (.inr rfl)
      clear look0
      go_region_law (first
        | (refine step_pushW rfl (.tmp 56) (.tmp 58) 22 rfl w3.heap.size 2 (.int .i64 0) 8 Try.underlying22 Try.info2f rfl (by decide) (.int .i64 x) rfl ag ng cg ((grp ((sQ xs).take k) p).map (Value.int .i64)) v2.heap.size rfl rfl ?_ ?_ ?_ ?_ ?_; (simp); (exact (HOG.out.alloc _)); (exact Nat.le_trans HN9.out (by omega)); (exact Nat.le_trans HS2.out (by simp)); rintro a4 c4 v4 r4 q4 g4; obtain ⟨ga, hga⟩ := (OwnI.pushed r4).addr (by omega); subst hga; have hB9 : w2.heap.size < v2.heap.size := (by have := HS2.out; omega); have ho4 : v4.ownsMap Try.prog 2 codeS (w2.heap.size) k D := ownsMap_same HG2.out.2.1 ((g4.block (w2.heap.size) (by simp; omega) (fun hx => by obtain ⟨q, hq, e⟩ := hx; have h9 := (HOG.out.block q hq).1; omega)).trans (Below.heap_alloc v2 _ _ hB9)); obtain ⟨v5, hrun5, hm5, hg5⟩ := ho4.update (val := .slice (some ⟨ga, 0, none⟩) (ng + 1) c4) (d := hdD (ga, ng + 1, c4)) (ps := []) keyLaw Try.underlying66 (by unfold maxLen; omega) (keyOfP HP64.out) rfl; have y4 : v4.cell? ⟨g1, o1, none⟩ = some (.int .i64 p) := (World.cell?_of_block (w := v2) (a := ⟨g1, o1, none⟩) ((g4.block g1 (by simp; omega) (fun hx => by obtain ⟨q, hq, e⟩ := hx; exact HGB.out q hq e)).trans (Below.heap_alloc v2 _ _ lg1))).trans y1; have HN : Hid (∃ hd D, G3 w3 (w2.heap.size) v5 (sQ xs) (k + 1) hd D) := Lib.hid (by have h1 := HXE.out; have h2 := HPE.out; subst h2; subst h1; exact ⟨_, _, G3.step (W := v2.alloc (.cells #[.int .i64 (el (sQ xs) k)] 2)) HG2.out (by rw [HLa.out]; exact hkn) HP64.out HLOC.out ((Below.refl _ _).alloc (Nat.le_refl _) _) (by simp) r4 q4 ⟨g4.os, g4.tape, g4.output, g4.size, g4.block⟩ hm5 hg5⟩); clear r4 q4 g4 ho4 hm5 hg5 hB9)
        | fail)
      all_goals
        go_wp2_with fail
        go_roundw
        case rel => exact ⟨k + 1, by go_num, by omega, HN⟩
        case measure => simp [intOf]; omega
    · have hkn' : k = nl := by omega
      have k1 : ¬ (k : Int) < nl := by omega
      have k2 : decide ((k : Int) < nl) = false := decide_eq_false k1
      have k3 : decide (k < nl) = false := decide_eq_false hkn
      obtain ⟨hda, Da, HG0⟩ := HR.out
      have HFa := Lib.hid HG0
      rw [hkn'] at HFa
      clear HG0 HR hkn'
      clear HSTa
      obtain ⟨wa, rfl⟩ : ∃ x, x = wr := ⟨wr, rfl⟩
      have d0 := HFa.out.cell q0 (by simp; omega)
      have d1 := HFa.out.cell q1' (by simp; omega)
      have d2 := HFa.out.cell q2 (by simp; omega)
      have d3 := HFa.out.cell q3 (by simp; omega)
      have sza : w3.heap.size ≤ wa.heap.size := HFa.out.2.2.1.size
      have HBa : Hid (Below w.heap.size w wa) := Lib.hid (HB3.out.trans (HFa.out.2.2.1.below (by omega) (fun t ht e => by omega)))
      clear q0 q1' q2 q3
      have HM2 := Lib.hid (World.ownsMap_made (H := Unit) wa Try.prog 2 codeS)
      have e2 : (wa.alloc (.map #[] 0)).cell? ⟨w.heap.size + 1, 0, none⟩ = some (.slice b m d) := (World.cell?_of_block (Below.heap_alloc _ _ _ (block_lt d2))).trans d2
      have e3 : (wa.alloc (.map #[] 0)).cell? ⟨w.heap.size + 1, 1, none⟩ = some (.int .i64 T) := (World.cell?_of_block (Below.heap_alloc _ _ _ (block_lt d3))).trans d3
      have HR2 : Hid (RdI wa b ys) := Lib.hid (HA2.out.keep HBa.out (Nat.le_refl _))
      go_wp2_with fail
      refine (primaryParts_any b m d ys T _ (by exact HR2.out.alloc _) HL2.out m10 HY.out).mono ?_
      rintro e w6 ⟨bl, ml, dl, rfl, ho, hb⟩
      have HOb : Hid (OwnI 2 w6 (wa.heap.size + 1) bl ml dl (sQ ys)) := Lib.hid (ho.mono (by simp))
      have HLb : Hid ((sQ ys).length = ml) := Lib.hid ho.len
      have hnb : ml ≤ 10020 := by have h1 := HLb.out; have h2 := HSb.out; omega
      have hB6 : wa.heap.size < w6.heap.size := by have := hb.size; simp at this; omega
      have hba : Below wa.heap.size wa w6 := ((Below.refl wa.heap.size wa).alloc (Nat.le_refl _) _).trans (hb.mono (by simp))
      have HSTb : Hid (G3 w6 wa.heap.size w6 (sQ ys) 0 (fun _ => (0, 0, 0)) (.map [])) := Lib.hid (G3.start _ (ownsMap_same HM2.out (hb.block _ (by simp))) hB6)
      have HGa : Hid (G3 w3 w2.heap.size w6 (sQ xs) nl hda Da) := Lib.hid (HFa.out.keep hba)
      have HB6 : Hid (Below w.heap.size w w6) := Lib.hid (HBa.out.trans (hba.mono HBa.out.size))
      have c0 := cell_below d0 hba
      have c1 := cell_below d1 hba
      have c2 := cell_below d2 hba
      have c3 := cell_below d3 hba
      clear ho hb hba e2 e3 d0 d1 d2 d3 HM2 HR2
      go_wp2_with fail
      go_loopw [65] (fun i wr => ∃ (k : Nat), i = .int .i64 k ∧ k ≤ ml ∧ Hid (∃ hd D, G3 w6 (wa.heap.size) wr (sQ ys) k hd D)) (fun i _ => ml - (intOf i).toNat)
      case atStart => exact ⟨0, rfl, Nat.zero_le _, Lib.hid ⟨_, _, HSTb.out⟩⟩
      case round =>
        obtain ⟨k, rfl, hk, HR⟩ := hrel
        by_cases hkn : k < ml
        · have k1 : (k : Int) < ml := by omega
          have k2 : decide ((k : Int) < ml) = true := decide_eq_true k1
          have k3 : decide (k < ml) = true := decide_eq_true hkn
          obtain ⟨hd, D, HG0⟩ := HR.out
          have HG := Lib.hid HG0
          clear HG0 HR
          obtain ⟨b0, o0, hal, cx⟩ := rdI_at ((HOb.out.kept HG.out.2.2.1 (fun p hp e => by have := (HOb.out.block p hp).1; omega)).rd) (show k < (sQ ys).length by rw [HLb.out]; exact hkn)
          subst hal
          have HPk := Lib.hid (HPQb.out (el (sQ ys) k) (el_mem (by rw [HLb.out]; exact hkn)))
          have hx2 : 2 ≤ el (sQ ys) k ∧ el (sQ ys) k ≤ 1000000 := ⟨HPk.out.1, HPk.out.2.1⟩
          obtain ⟨x, hxe⟩ : ∃ x, x = el (sQ ys) k := ⟨_, rfl⟩
          have HXE := Lib.hid hxe
          rw [← hxe] at cx hx2
          clear hxe
          obtain ⟨wo, rfl⟩ : ∃ x, x = wr := ⟨wr, rfl⟩
          go_wp2_with fail
          refine (factors_any x wo (by omega) hx2.2).mono ?_
          rintro e v2 ⟨f1, nf1, cf1, f2, nf2, cf2, rfl, ho1, ho2, _, hb⟩
          have px := primes_pos hx2.1 hx2.2
          have hn1 := ho1.len
          have hn0 : 0 < nf1 := by omega
          obtain ⟨g1, o1, rfl, q1⟩ := ho1.rd px
          have HG1 : Hid (wo.heap.size ≤ g1) := Lib.hid (ho1.block _ rfl).1
          have y1 : v2.cell? ⟨g1, o1, none⟩ = some (.int .i64 (lpf x)) := q1 0 px
          have lg1 : g1 < v2.heap.size := by simpa using block_lt y1
          have HG2 : Hid (G3 w6 (wa.heap.size) v2 (sQ ys) k hd D) := Lib.hid (HG.out.keep hb)
          clear ho1 ho2 hb q1 px hn1
          have HP64 : Hid (-9223372036854775808 ≤ lpf x ∧ lpf x ≤ 9223372036854775807) := Lib.hid (by
            have h9 := primes_bd hx2.1 hx2.2
            omega)
          obtain ⟨ag, ng, cg, hat, hown, hloc⟩ := HG2.out.1.at (lpf x)
          have HAT := Lib.hid hat
          have HOG := Lib.hid hown
          have HLOC := Lib.hid hloc
          have HGB : Hid (∀ q, ag = some q → q.block ≠ g1) := Lib.hid (fun q hq => by
            obtain ⟨e1, e2⟩ := hloc q hq
            have h1 := (HG.out.1.blk e1).2
            have h2 := HG1.out
            rw [e2]
            show (hd (lpf x)).1 ≠ g1
            omega)
          have HN9 : Hid (ng ≤ 100000) := Lib.hid (by
            have h1 := hown.len
            have h2 := List.length_filter_le (fun q => lpf q == lpf x) ((sQ ys).take k)
            unfold grp at h1
            rw [List.length_take] at h2
            have := HLb.out
            omega)
          have HS2 : Hid (w6.heap.size ≤ v2.heap.size) := Lib.hid HG2.out.2.2.1.size
          clear hat hown hloc
          obtain ⟨p, hpe⟩ : ∃ p, p = lpf x := ⟨_, rfl⟩
          have HPE := Lib.hid hpe
          rw [← hpe] at y1 HP64 HAT HOG HLOC
          clear hpe
          go_wp2_with fail
          have look0 : ∀ W : World, W.heap = v2.heap ∨ W.heap = (v2.alloc (.cells #[.int .i64 x] 2)).heap → (Instr.lookup 66 (.map (some (wa.heap.size))) (.int .i64 p) false).run Try.prog W = .ok (.slice ag ng cg) W := fun W hW => by
            rw [← HAT.out]
            rcases hW with hW | hW
            · exact lookupS (HG2.out.1.like hW) (ownsMap_like HG2.out.2.1 hW) HP64.out
            · exact lookupS ((HG2.out.1.alloc _).like hW) (ownsMap_like (ownsMap_same HG2.out.2.1 (Below.heap_alloc v2 _ _ (by have := HS2.out; omega))) hW) HP64.out
          have look1 := look0 v2.drew (.inl rfl)
          have look2 := look0 (v2.drew.alloc (.cells #[.int .i64 x] 2)) (.inr rfl)
          have look3 := look0 (v2.alloc (.cells #[.int .i64 x] 2)).drew (.inr rfl)
          clear look0
          go_region_law (first
            | (refine step_pushW rfl (.tmp 82) (.tmp 84) 22 rfl w6.heap.size 2 (.int .i64 0) 8 Try.underlying22 Try.info2f rfl (by decide) (.int .i64 x) rfl ag ng cg ((grp ((sQ ys).take k) p).map (Value.int .i64)) v2.heap.size rfl rfl ?_ ?_ ?_ ?_ ?_; (simp); (exact (HOG.out.alloc _)); (exact Nat.le_trans HN9.out (by omega)); (exact Nat.le_trans HS2.out (by simp)); rintro a4 c4 v4 r4 q4 g4; obtain ⟨ga, hga⟩ := (OwnI.pushed r4).addr (by omega); subst hga; have hB9 : wa.heap.size < v2.heap.size := (by have := HS2.out; omega); have ho4 : v4.ownsMap Try.prog 2 codeS (wa.heap.size) k D := ownsMap_same HG2.out.2.1 ((g4.block (wa.heap.size) (by simp; omega) (fun hx => by obtain ⟨q, hq, e⟩ := hx; have h9 := (HOG.out.block q hq).1; omega)).trans (Below.heap_alloc v2 _ _ hB9)); obtain ⟨v5, hrun5, hm5, hg5⟩ := ho4.update (val := .slice (some ⟨ga, 0, none⟩) (ng + 1) c4) (d := hdD (ga, ng + 1, c4)) (ps := []) keyLaw Try.underlying66 (by unfold maxLen; omega) (keyOfP HP64.out) rfl; have y4 : v4.cell? ⟨g1, o1, none⟩ = some (.int .i64 p) := (World.cell?_of_block (w := v2) (a := ⟨g1, o1, none⟩) ((g4.block g1 (by simp; omega) (fun hx => by obtain ⟨q, hq, e⟩ := hx; exact HGB.out q hq e)).trans (Below.heap_alloc v2 _ _ lg1))).trans y1; have HN : Hid (∃ hd D, G3 w6 (wa.heap.size) v5 (sQ ys) (k + 1) hd D) := Lib.hid (by have h1 := HXE.out; have h2 := HPE.out; subst h2; subst h1; exact ⟨_, _, G3.step (W := v2.alloc (.cells #[.int .i64 (el (sQ ys) k)] 2)) HG2.out (by rw [HLb.out]; exact hkn) HP64.out HLOC.out ((Below.refl _ _).alloc (Nat.le_refl _) _) (by simp) r4 q4 ⟨g4.os, g4.tape, g4.output, g4.size, g4.block⟩ hm5 hg5⟩); clear r4 q4 g4 ho4 hm5 hg5 hB9)
            | fail)
          all_goals
            go_wp2_with fail
            go_roundw
            case rel => exact ⟨k + 1, by go_num, by omega, HN⟩
            case measure => simp [intOf]; omega
        · have hkn' : k = ml := by omega
          have k1 : ¬ (k : Int) < ml := by omega
          have k2 : decide ((k : Int) < ml) = false := decide_eq_false k1
          have k3 : decide (k < ml) = false := decide_eq_false hkn
          obtain ⟨hdb, Db, HG0⟩ := HR.out
          have HFb := Lib.hid HG0
          rw [hkn'] at HFb
          clear HG0 HR hkn'
          clear HSTb
          obtain ⟨wb, rfl⟩ : ∃ x, x = wr := ⟨wr, rfl⟩
          have d0 := HFb.out.cell c0 (by simp; omega)
          have d1 := HFb.out.cell c1 (by simp; omega)
          have d2 := HFb.out.cell c2 (by simp; omega)
          have d3 := HFb.out.cell c3 (by simp; omega)
          clear c0 c1 c2 c3
          have szb : w6.heap.size ≤ wb.heap.size := HFb.out.2.2.1.size
          have HBb : Hid (Below w.heap.size w wb) := Lib.hid (HB6.out.trans (HFb.out.2.2.1.below (by omega) (fun t ht e => by omega)))
          have HMa : Hid (MG wb w3.heap.size (grp (sQ xs)) hda Da ∧ wb.ownsMap Try.prog 2 codeS w2.heap.size nl Da) := Lib.hid (by
            obtain ⟨h1, h2, h3, h4⟩ := HFa.out.full HLa.out
            obtain ⟨g1, g2, g3, g4⟩ := HGa.out.full HLa.out
            exact ⟨g1.kept HFb.out.2.2.1 (fun p hp e => by have := (h1.blk hp).2; omega), ownsMap_same g2 (HFb.out.2.2.1.block _ (by omega) (by omega))⟩)
          have HMb : Hid (MG wb w6.heap.size (grp (sQ ys)) hdb Db ∧ wb.ownsMap Try.prog 2 codeS wa.heap.size ml Db) := Lib.hid (by
            obtain ⟨h1, h2, h3, h4⟩ := HFb.out.full HLb.out
            exact ⟨h1, h2⟩)
          have hF1 : ((R : Int) - T) = ((R - T : Nat) : Int) := by omega
          have hF9 : R - T ≤ 10 := by omega
          obtain ⟨F, hF⟩ : ∃ F, F = R - T := ⟨_, rfl⟩
          rw [← hF] at hF1 hF9
          have HFE := Lib.hid hF
          clear hF
          go_wp2_with (at_range; refine wpList_range_own _ rfl _ 66 rfl 2 22 keyLaw Try.underlying66 codeS wa.heap.size ml Db rfl HMb.out.2 ?_; intro w0 hrg0 hg0 hs0)
          (try go_frame)
          have HB0 : Hid (Below wb.heap.size wb w0) := Lib.hid ⟨hg0.os, hg0.tape, hg0.output, hg0.size, fun k hk => hg0.block k hk (by simp)⟩
          have HRG0 := Lib.hid hrg0
          have hs0' : wb.heap.size < w0.heap.size := by first | exact hs0 | omega | (simp at hs0; omega)
          clear hrg0 hg0
          have HST : Hid (∃ left cnt, G4 wb w0 wa.heap.size ml Db (sQ xs) (sQ ys) F left cnt) := Lib.hid ⟨_, _, HRG0.out, fun p hp hl hg => (by rw [(HMb.out.1.no p hp hg).1] at hl; cases hl), fun p hp hg hl => (by rw [(HMb.out.1.yes p hp hg).1] at hl; cases hl), HB0.out, hs0'⟩
          clear HRG0 HB0 hs0 hs0'
          have sz2 : w2.heap.size < w3.heap.size := hB3
          have szw : w3.heap.size ≤ wb.heap.size := Nat.le_trans sza (Nat.le_trans (Nat.le_of_lt hB6) szb)
          go_loopw [21] (fun _ wr => Hid (∃ left cnt, G4 wb wr wa.heap.size ml Db (sQ xs) (sQ ys) F left cnt)) (fun _ wr => wr.rangeLeft wa.heap.size wb.heap.size)
          case atStart => exact HST.out
          case round =>
            have HE := hrel
            clear hrel
            obtain ⟨left, cnt, HS0⟩ := HE.out
            have HS := Lib.hid HS0
            clear HS0 HE HST
            obtain ⟨wi, rfl⟩ : ∃ x, x = wr := ⟨wr, rfl⟩
            go_wp2_with (at_next; refine wpList_next_ranges _ rfl _ rfl 2 keyLaw codeS (Value.int .i64) (fun c : Option Addr × Nat × Nat => Value.slice c.1 c.2.1 c.2.2) (fun key kl hk => by obtain ⟨x, h1, _⟩ := Maps.keyOf_int_inv Try.underlying2 hk; exact ⟨x, h1⟩) (fun v y h => codeS_slice h) wa.heap.size wb.heap.size ml Db left cnt rfl HS.out.rg ?_ ?_)
            · intro hc0 hl0
              have HALL : Hid (prgQ xs R ys T) := Lib.hid (prg_of (by omega) (fun p hp i hi => by
                obtain ⟨q, h1, h2⟩ := prs_mem.1 hp
                have h3 : grp (sQ ys) p ≠ [] := grp_ne.2 ⟨q, h1, h2⟩
                have h4 := primes_bd (HPQb.out q h1).1 (HPQb.out q h1).2.1
                rw [h2] at h4
                have h5 := HS.out.dn p (by omega) h3 (hl0 _) i hi
                rwa [HFE.out] at h5))
              have HBB : Hid (Below w.heap.size w wi) := Lib.hid (HBb.out.trans (HS.out.bel.mono HBb.out.size))
              obtain rfl : q = true := by rw [HQ.out]; exact quB_t (HIF.out.2 HALL.out)
              clear hc0 hl0
              go_wp2_with fail
              go_ret2
              exact ⟨rfl, HBB.out⟩
            · intro x ac nc cc kl yd yp w1 cnt1 hkey hlk hv hat hrg1 hlt hg1 hs1 hen
              obtain ⟨x', hx1, hx2, hx3⟩ := Maps.keyOf_int_inv Try.underlying2 hkey
              injection hx1 with _ hx1
              subst hx1
              subst hx2
              have hx64 : -9223372036854775808 ≤ x ∧ x ≤ 9223372036854775807 := by
                simp [Lit.wf, IntKind.min, IntKind.max, IntKind.signed, IntKind.bits] at hx3
                omega
              have hgx := HS.out.lf x hx64 hlk
              have hyd : yd = hdD (hdb x) := by
                have h1 := hat noD
                rw [(HMb.out.1.yes x hx64 hgx).2] at h1
                exact h1.symm
              have hval := codeS_hd (v := .slice ac nc cc) (h := hdb x) (ps := yp) (by rw [← hyd]; exact hv)
              have hc1 := grown_chg hg1
              have HB1 : Hid (Below wb.heap.size wb w1) := Lib.hid (HS.out.bel.trans (hc1.below HS.out.bel.size (fun j hj e => by omega)))
              have hrow := (HMb.out.1.row x hgx).keep HB1.out (Nat.le_refl _)
              obtain ⟨t, htt⟩ : ∃ t, t = hdb x := ⟨_, rfl⟩
              rw [← htt] at hval hrow
              clear htt hyd hat hv hx3 hkey
              obtain ⟨G, N, C⟩ := t
              simp only at hval hrow
              injection hval with e1 e2 e3
              have e1' := e1.symm
              clear e1
              have e2' := e2.symm
              clear e2
              have e3' := e3.symm
              clear e3
              first | subst e1' | subst e1'.symm
              subst e2'
              subst e3'
              have HRW := Lib.hid hrow
              have HNL : Hid ((grp (sQ ys) x).length = N) := Lib.hid hrow.len
              have hN : N ≤ 100000 := by
                have h1 := List.length_filter_le (fun q => lpf q == x) (sQ ys)
                have h2 := HNL.out
                have h3 := HLb.out
                unfold grp at h2
                omega
              have HMX : Hid (MG w1 w3.heap.size (grp (sQ xs)) hda Da ∧ w1.ownsMap Try.prog 2 codeS w2.heap.size nl Da) := Lib.hid ⟨HMa.out.1.keep HB1.out, ownsMap_same HMa.out.2 (HB1.out.block _ (by omega))⟩
              obtain ⟨ag, ng, cg, hat, hown, hloc⟩ := HMX.out.1.at x
              clear hloc
              have HOG := Lib.hid hown
              have HNG : Hid ((grp (sQ xs) x).length = ng) := Lib.hid hown.len
              have hng : ng ≤ 100000 := by
                have h1 := List.length_filter_le (fun q => lpf q == x) (sQ xs)
                have h2 := HNG.out
                have h3 := HLa.out
                unfold grp at h2
                omega
              have look1 : (Instr.lookup 66 (.map (some w2.heap.size)) (.int .i64 x) false).run Try.prog w1 = .ok (.slice ag ng cg) w1 := by
                rw [← hat]
                exact lookupS HMX.out.1 HMX.out.2 hx64
              have HX64 := Lib.hid hx64
              have HGX := Lib.hid hgx
              have HLK := Lib.hid hlk
              have HC1 := Lib.hid hc1
              have HRG1 := Lib.hid hrg1
              have HLT := Lib.hid hlt
              have HS1 := Lib.hid hs1
              clear hrow hx64 hgx hlk hc1 hrg1 hg1 hlt hat hown
              have hN0 : (0 : Int) ≤ N := by omega
              go_wp2_with fail
              clear look1
              go_loopw [104] (fun i wr => ∃ (i' : Nat), i = .int .i64 i' ∧ i' ≤ N ∧ Hid ((∀ j, j < i' → okP (sQ xs) (sQ ys) F x j) ∧ wr.heap = w1.heap ∧ Below w1.heap.size w1 wr)) (fun i _ => N - (intOf i).toNat)
              case atStart => exact ⟨0, rfl, Nat.zero_le _, Lib.hid ⟨fun j hj => absurd hj (Nat.not_lt_zero _), rfl, Below.refl _ _⟩⟩
              case round =>
                obtain ⟨i, rfl, hi, HI⟩ := hrel
                obtain ⟨wj, rfl⟩ : ∃ x, x = wr := ⟨wr, rfl⟩
                by_cases hiN : i < N
                · have i1 : (i : Int) < N := by omega
                  have i2 : decide ((i : Int) < N) = true := decide_eq_true i1
                  have i3 : decide (i < N) = true := decide_eq_true hiN
                  have HBW : Hid (Below w.heap.size w wj) := Lib.hid ((HBb.out.trans (HB1.out.mono HBb.out.size)).trans (HI.out.2.2.mono (by have := HB1.out.size; have := HBb.out.size; omega)))
                  by_cases hF : i < F
                  · have HOK : Hid (okP (sQ xs) (sQ ys) F x i) := Lib.hid (fun h => absurd h (by omega))
                    obtain ⟨kk, hkk⟩ : ∃ kk : Int, (i : Int) - F = kk := ⟨_, rfl⟩
                    have f1 : ¬ (0 : Int) ≤ kk := by omega
                    have f2 : decide ((0 : Int) ≤ kk) = false := decide_eq_false f1
                    have f4 : kk < 0 := by omega
                    go_wp2_with fail
                    go_quiet (fail)
                    go_wp2_with fail
                    go_roundw
                    case rel => exact ⟨i + 1, by go_num, by omega, Lib.hid ⟨fun j hj => by
                      rcases Nat.lt_or_ge j i with h | h
                      · exact HI.out.1 j h
                      · have : j = i := by omega
                        subst this; exact HOK.out, HI.out.2.1, below_drewN' HI.out.2.2 _⟩⟩
                    case measure => simp [intOf]; omega
                  · obtain ⟨K, hK⟩ : ∃ K : Nat, K = i - F := ⟨_, rfl⟩
                    have hK2 : (i : Int) - F = (K : Int) := by omega
                    have HKE := Lib.hid hK
                    clear hK
                    have hK0 : (0 : Int) ≤ (K : Int) := by omega
                    have f2 : decide ((0 : Int) ≤ (K : Int)) = true := decide_eq_true hK0
                    have f3 : decide ((K : Int) ≥ 0) = true := decide_eq_true hK0
                    by_cases hKn : K < ng
                    · have g1 : ¬ (ng : Int) ≤ K := by omega
                      have g2 : decide ((ng : Int) ≤ K) = false := decide_eq_false g1
                      have g3 : decide (ng ≤ K) = false := decide_eq_false (by omega)
                      have g4 : (K : Int) < ng := by omega
                      obtain ⟨gg, hgg⟩ := HOG.out.addr (by omega)
                      subst hgg
                      have HOGj : Hid (OwnI 2 wj w3.heap.size (some ⟨gg, 0, none⟩) ng cg (grp (sQ xs) x)) := Lib.hid (HOG.out.same (fun p hp => by rw [HI.out.2.1]))
                      have HRWj : Hid (OwnI 2 wj w6.heap.size (some ⟨G, 0, none⟩) N C (grp (sQ ys) x)) := Lib.hid (HRW.out.same (fun p hp => by rw [HI.out.2.1]))
                      obtain ⟨J1, hJ1⟩ : ∃ J : Nat, J = ng - 1 - K := ⟨_, rfl⟩
                      obtain ⟨J2, hJ2⟩ : ∃ J : Nat, J = N - 1 - i := ⟨_, rfl⟩
                      have c1 := HOGj.out.cellAt (i := J1) (by omega)
                      have c2 := HRWj.out.cellAt (i := J2) (by omega)
                      have j1 : (ng : Int) - 1 - K = (J1 : Int) := by omega
                      have j2 : (N : Int) - 1 - i = (J2 : Int) := by omega
                      have j3 : J1 < ng := by omega
                      have j4 : J2 < N := by omega
                      have HE1 : Hid (el (grp (sQ xs) x) J1 = el (grp (sQ xs) x).reverse (i - F)) := Lib.hid (by rw [el_rev HNG.out (by rw [← HKE.out]; exact hKn), hJ1, HKE.out])
                      have HE2 : Hid (el (grp (sQ ys) x) J2 = el (grp (sQ ys) x).reverse i) := Lib.hid (by rw [el_rev HNL.out hiN, hJ2])
                      have hm1 := HPQa.out _ (grp_mem.1 (el_mem (xs := grp (sQ xs) x) (i := J1) (by rw [HNG.out]; exact j3))).1
                      have hm2 := HPQb.out _ (grp_mem.1 (el_mem (xs := grp (sQ ys) x) (i := J2) (by rw [HNL.out]; exact j4))).1
                      obtain ⟨X1, hX1⟩ : ∃ X, X = el (grp (sQ xs) x) J1 := ⟨_, rfl⟩
                      obtain ⟨X2, hX2⟩ : ∃ X, X = el (grp (sQ ys) x) J2 := ⟨_, rfl⟩
                      have HX1 := Lib.hid hX1
                      have HX2 := Lib.hid hX2
                      rw [← hX1] at c1 hm1
                      rw [← hX2] at c2 hm2
                      clear hJ1 hJ2 hX1 hX2
                      obtain ⟨m1, m2, _⟩ := hm1
                      obtain ⟨n1, n2, _⟩ := hm2
                      by_cases hlt2 : X1 < X2
                      · have t1 : decide (X1 < X2) = true := decide_eq_true hlt2
                        have HBAD : Hid (¬ okP (sQ xs) (sQ ys) F x i) := Lib.hid (fun h => by
                          have h1 := (h (by omega)).2
                          rw [← HE1.out, ← HE2.out, ← HX1.out, ← HX2.out] at h1
                          omega)
                        obtain rfl : q = false := by
                          rw [HQ.out]
                          refine quB_f (fun h => ?_)
                          have hb9 := HBAD.out
                          rw [HFE.out] at hb9
                          exact prg_bad HGX.out (by rw [HNL.out]; exact hiN) hb9 (HIF.out.1 h)
                        go_wp2_with fail
                        go_quiet (fail)
                        go_wp2_with fail
                        go_ret2
                        exact ⟨rfl, below_drewN' HBW.out _⟩
                      · have t1 : decide (X1 < X2) = false := decide_eq_false hlt2
                        have HOK : Hid (okP (sQ xs) (sQ ys) F x i) := Lib.hid (fun h => by
                          refine ⟨by rw [HNG.out]; have := HKE.out; omega, ?_⟩
                          rw [← HE1.out, ← HE2.out, ← HX1.out, ← HX2.out]
                          omega)
                        go_wp2_with fail
                        go_quiet (fail)
                        go_wp2_with fail
                        go_roundw
                        case rel => exact ⟨i + 1, by go_num, by omega, Lib.hid ⟨fun j hj => by
                          rcases Nat.lt_or_ge j i with h | h
                          · exact HI.out.1 j h
                          · have : j = i := by omega
                            subst this; exact HOK.out, HI.out.2.1, below_drewN' HI.out.2.2 _⟩⟩
                        case measure => simp [intOf]; omega
                    · have g1 : (ng : Int) ≤ K := by omega
                      have g2 : decide ((ng : Int) ≤ K) = true := decide_eq_true g1
                      have g3 : decide (ng ≤ K) = true := decide_eq_true (by omega)
                      have HBAD : Hid (¬ okP (sQ xs) (sQ ys) F x i) := Lib.hid (fun h => by
                        have h1 := (h (by omega)).1
                        have h2 := HNG.out
                        have h3 := HKE.out
                        omega)
                      obtain rfl : q = false := by
                        rw [HQ.out]
                        refine quB_f (fun h => ?_)
                        have hb9 := HBAD.out
                        rw [HFE.out] at hb9
                        exact prg_bad HGX.out (by rw [HNL.out]; exact hiN) hb9 (HIF.out.1 h)
                      go_wp2_with fail
                      go_quiet (fail)
                      go_wp2_with fail
                      go_ret2
                      exact ⟨rfl, below_drewN' HBW.out _⟩
                · have hiN' : i = N := by omega
                  have i1 : ¬ (i : Int) < N := by omega
                  have i2 : decide ((i : Int) < N) = false := decide_eq_false i1
                  have i3 : decide (i < N) = false := decide_eq_false hiN
                  have HNX : Hid (G4 wb wj wa.heap.size ml Db (sQ xs) (sQ ys) F (fun z => left z && !z.sameKey (.int .i64 x)) cnt1) := Lib.hid (by
                    have HK : ∀ p, -9223372036854775808 ≤ p ∧ p ≤ 9223372036854775807 → (left (.int .i64 p) && !(Lit.int .i64 p).sameKey (.int .i64 x)) = if p = x then false else left (.int .i64 p) := fun p hp => by
                      by_cases e : p = x
                      · rw [if_pos e, e, WideAt.sameKey_self (isKeyP HX64.out)]; simp
                      · rw [if_neg e, Maps.sameKey_ne (fun e1 => e (by injection e1))]; simp
                    refine ⟨ranges_like HRG1.out HI.out.2.1, fun p hp hl => ?_, fun p hp hg hl k hk => ?_, HB1.out.trans (HI.out.2.2.mono HB1.out.size), ?_⟩
                    · rw [HK p hp] at hl
                      by_cases e : p = x
                      · rw [if_pos e] at hl; cases hl
                      · rw [if_neg e] at hl; exact HS.out.lf p hp hl
                    · rw [HK p hp] at hl
                      by_cases e : p = x
                      · subst e; exact HI.out.1 k (by rw [HNL.out] at hk; omega)
                      · rw [if_neg e] at hl; exact HS.out.dn p hp hg hl k hk
                    · have := HS.out.sz; have h2 := HC1.out.size; have h3 := HI.out.2.2.size; omega)
                  go_wp2_with fail
                  go_roundw
                  case rel => exact ⟨_, _, HNX.out⟩
                  case measure =>
                    rw [HS.out.rg.left_eq, HNX.out.rg.left_eq]; exact HLT.out
end Go.Proofs.Ytgdialknnjnehaa
