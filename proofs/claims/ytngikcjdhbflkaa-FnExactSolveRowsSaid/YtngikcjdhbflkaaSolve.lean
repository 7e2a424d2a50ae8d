/- The least vector that rows take to another one: plain law, and the reference. -/
import Derived.Test.YtngikcjdhbflkaaNullW
import Derived.Test.YtngikcjdhbflkaaRem
import Derived.Test.YtngikcjdhbflkaaClrU
import Derived.Test.YtngikcjdhbflkaaAppZ
import Derived.Test.YtngikcjdhbflkaaMatHas
set_option linter.unusedVariables false
set_option linter.unusedSimpArgs false
namespace Go.Proofs.Ytngikcjdhbflkaa
open Go.RowKit

theorem rw_take {R : List (List Int)} {s i : Nat} (h : i < s) : rw_ (R.take s) i = rw_ R i := by simp [rw_, List.getElem?_take, h]
theorem Rref.take {p : Int} {n s : Nat} {R : List (List Int)} {piv : Nat → Nat} (h : Rref p n R piv) (hs : s ≤ R.length) : Rref p n (R.take s) piv := by
  have hl : (R.take s).length = s := by rw [List.length_take]; omega
  refine ⟨fun i hi => ?_, fun i j hi hj => ?_, fun i hi => ?_, fun i j hij hj => ?_, fun i j hi hj => ?_, fun i hi => ?_, fun i j hi hj hne => ?_⟩
  · rw [hl] at hi; rw [rw_take hi]; exact h.len i (by omega)
  · rw [hl] at hi; rw [rw_take hi]; exact h.rng i j (by omega) hj
  · rw [hl] at hi; exact h.pn i (by omega)
  · rw [hl] at hj; exact h.mono i j hij (by omega)
  · rw [hl] at hi; rw [rw_take hi]; exact h.lead i j (by omega) hj
  · rw [hl] at hi; rw [rw_take hi]; exact h.one i (by omega)
  · rw [hl] at hi hj; rw [rw_take hi]; exact h.clr i j (by omega) (by omega) hne
def negm (p : Int) (xs : List Int) : List Int := tab xs.length fun j => (-(el xs j)) % p
theorem negm_len (p : Int) (xs : List Int) : (negm p xs).length = xs.length := tab_len _ _
theorem negm_rng {p : Int} (hp : 2 ≤ p) (xs : List Int) (j : Nat) (hj : j < xs.length) : 0 ≤ el (negm p xs) j ∧ el (negm p xs) j < p := by
  unfold negm
  rw [el_tab hj]; exact emod_bd _ _ (by omega)
theorem scalem_neg (p : Int) (xs : List Int) : scalem p (p - 1) xs = negm p xs := by
  unfold scalem negm
  refine tab_congr fun j _ => ?_
  have e : el xs j * (p - 1) = -(el xs j) + p * el xs j := by grind
  rw [e, Int.add_mul_emod_self_left]
theorem zeros_rep (n : Nat) : (List.replicate n (Value.int .i64 0)) = (tab n fun _ => (0 : Int)).map (Value.int .i64) := by
  refine List.ext_getElem? fun i => ?_
  by_cases hi : i < n
  · simp [tab, hi]
  · simp [tab, hi]
/-- b with zeros behind it -/
def padZ (b : List Int) (n : Nat) : List Int := b ++ tab n fun _ => 0
theorem padZ_len (b : List Int) (n : Nat) : (padZ b n).length = b.length + n := by unfold padZ; rw [List.length_append, tab_len]
theorem padZ_rng {p : Int} {b : List Int} {n m : Nat} (hp : 2 ≤ p) (hl : b.length = m) (hb : ∀ j, j < m → 0 ≤ el b j ∧ el b j < p) : ∀ j, j < m + n → 0 ≤ el (padZ b n) j ∧ el (padZ b n) j < p := fun j hj => by
  unfold padZ
  by_cases h : j < m
  · rw [el_app_l (by omega)]; exact hb j h
  · rw [el_app_r (by omega), el_tab (by omega)]; omega
/-- where the pivots reach m -/
structure Cut (m : Nat) (W : List (List Int)) (piv : Nat → Nat) (s : Nat) : Prop where
  le : s ≤ W.length
  lo : ∀ i, i < s → piv i < m
  hi : ∀ i, s ≤ i → i < W.length → m ≤ piv i
def SolR (p : Int) (m : Nat) (xss : List (List Int)) (b : List Int) (ok : Bool) (X : List Int) : Prop :=
  ∃ W piv s u, IsRref p (m + xss.length) (wideR xss) W ∧ Rref p (m + xss.length) W piv ∧ Cut m W piv s ∧ Clr p (m + xss.length) (W.take s) piv (padZ b xss.length) u s ∧
    ((¬ AllZ (u.take m) ∧ ok = false ∧ X = []) ∨ (AllZ (u.take m) ∧ ok = true ∧ ∃ N pv, NullR p m xss N ∧ Rref p xss.length N pv ∧ Clr p xss.length N pv (negm p (u.drop m)) X N.length))
theorem SolR.unique {p : Int} {m : Nat} {xss : List (List Int)} {b X X' : List Int} {ok ok' : Bool} (h : SolR p m xss b ok X) (h' : SolR p m xss b ok' X') (hp : 2 ≤ p) : ok = ok' ∧ X = X' := by
  obtain ⟨W, piv, s, u, h1, h2, h3, h4, h5⟩ := h
  obtain ⟨W', piv', s', u', k1, k2, k3, k4, k5⟩ := h'
  obtain rfl := h1.unique k1 hp
  have hpv : ∀ i, i < W.length → piv i = piv' i := fun i hi => (h2.isLead hi).unique (k2.isLead hi)
  have hs : s = s' := by
    rcases Nat.lt_trichotomy s s' with h | h | h
    · have a := k3.lo s h
      have b := h3.hi s (Nat.le_refl _) (by have := k3.le; omega)
      have := hpv s (by have := k3.le; omega)
      omega
    · exact h
    · have a := h3.lo s' h
      have b := k3.hi s' (Nat.le_refl _) (by have := h3.le; omega)
      have := hpv s' (by have := h3.le; omega)
      omega
  subst hs
  have hl : (W.take s).length = s := by rw [List.length_take]; have := h3.le; omega
  have hu : u' = u := (h2.take h3.le).uniqClr hp (k2.take h3.le) (by rw [hl]; exact k4) (by rw [hl]; exact h4)
  subst hu
  rcases h5 with ⟨a1, a2, a3⟩ | ⟨a1, a2, N, pv, a3, a4, a5⟩ <;> rcases k5 with ⟨b1, b2, b3⟩ | ⟨b1, b2, N', pv', b3, b4, b5⟩
  · exact ⟨by rw [a2, b2], by rw [a3, b3]⟩
  · exact absurd b1 a1
  · exact absurd a1 b1
  · obtain rfl := a3.unique b3 hp
    exact ⟨by rw [a2, b2], (b4.uniqClr hp a4 a5 b5)⟩
theorem SolR.len {p : Int} {m : Nat} {xss : List (List Int)} {b X : List Int} {ok : Bool} (h : SolR p m xss b ok X) : X.length ≤ xss.length := by
  obtain ⟨W, piv, s, u, _, _, _, _, ⟨_, _, rfl⟩ | ⟨_, _, N, pv, _, _, a5⟩⟩ := h
  · exact Nat.zero_le _
  · exact Nat.le_of_eq a5.len
theorem cut_take {m s j : Nat} (h : j < s) : min (j + 1) s = min j s + 1 := by omega
theorem take_min {W : List (List Int)} {s j : Nat} (hs : s ≤ W.length) (h : j < s) : W.take (min (j + 1) s) = W.take (min j s) ++ [rw_ W j] := by
  rw [show min (j + 1) s = j + 1 by omega, show min j s = j by omega]
  exact take_row2 (by omega)
set_option maxRecDepth 20000 in
set_option maxHeartbeats 4000000 in
theorem l02Solve_any (p : Int) (hp : GP p) (a b : Option Addr) (n c m cb : Nat) (xss : List (List Int)) (v : List Int) (w : World) (ha : RdR w a xss) (hl : xss.length = n) (hr : Rws p m xss) (hb : RdI w b v) (hl2 : v.length = m) (hv : ∀ j, j < m → 0 ≤ el v j ∧ el v j < p) (hn : n ≤ 50) (hm : m ≤ 50) :
    Calls Try.prog 81 #[.int .i64 p, .slice a n c, .int .i64 m, .slice b m cb] w fun e w' => ∃ (ok : Bool) (X : List Int) (a' : Option Addr) (c' : Nat), e = .returned (.tuple #[.slice a' X.length c', .bool ok]) ∧ SolR p m xss v ok X ∧ OwnI 2 w' w.heap.size a' X.length c' X ∧ Below w.heap.size w w' := by
  have HA := Lib.hid ha
  have HL := Lib.hid hl
  have HR := Lib.hid hr
  have HB := Lib.hid hb
  have HL2 := Lib.hid hl2
  have HV := Lib.hid hv
  have HP := Lib.hid hp
  obtain ⟨hp2, hp7⟩ := hp.bd
  clear ha hl hr hb hl2 hv hp
  go_enter Try.func81, Try.ntmps81
  go_wp2_with fail
  refine (l02Wide_any p HP.out _ n _ m xss _ (by exact HA.out) HL.out HR.out (by omega) (by omega)).mono ?_
  rintro e w1 ⟨W, a1, c1, rfl, hres, ho, hb⟩
  have HRes := Lib.hid hres
  have HW := Lib.hid ho
  have HB1 := Lib.hid hb
  have hWl := hres.len
  obtain ⟨piv, hRR, _⟩ := hres
  have HRR := Lib.hid hRR
  obtain ⟨s, hs1, hs2, hs3⟩ := hRR.reach m
  have HC : Hid (Cut m W piv s) := Lib.hid ⟨hs1, hs2, hs3⟩
  clear ho hb hRR hs2 hs3
  have hin : (Try.prog.info? 2).map (·.size) = some 1 := by kernel_rfl
  go_wp2_with (first
    | (go_at_call 98; refine (l01Own_any _ _ _ v _ (by exact HB.out.keep HB1.out (Nat.le_refl _)) HL2.out (by omega)).mono ?_; rintro e w2 ⟨a2, c2, rfl, ho, hb⟩; have HO2 := Lib.hid ho; have HB2 := Lib.hid hb; have s2 := hb.size; clear ho hb)
    | (at_builtin; refine wpList_appZ2 rfl (.tmp 19) (.tmp 21) 38 3 rfl w1.heap.size 2 (.int .i64 0) 8 .i64 .i64 Try.underlying38 Try.underlying3 Try.info2 rfl rfl (by decide) _ _ _ _ rfl n rfl (by exact HO2.out) (by omega) (by exact s2) ?_; intro a3 c3 w3 r3 g3; rw [zeros_rep] at r3; have HO3 := Lib.hid (app_own HO2.out HB2.out s2 r3 g3); clear r3 g3))
  go_loopw [13, 12] (fun i x wr => ∃ (j : Nat) (al : Option Addr) (cl : Nat) (A : Nat → Option Addr) (C : Nat → Nat), j ≤ W.length ∧ i = .int .i64 j ∧ x = .slice al (min j s) cl ∧ Hid (Vw 38 w3 wr al (min j s) cl (W.take (min j s)) A C)) (fun i _ _ => W.length - (intOf i).toNat)
  case atStart => exact ⟨0, _, 0, fun _ => none, fun _ => 0, Nat.zero_le _, rfl, by rw [Nat.zero_min], Lib.hid (by rw [Nat.zero_min]; exact ⟨rfl, (OwnR.empty w3 _ 2 (fun _ => none) (fun _ => 0)).own, fun i hi => absurd hi (by omega), (Below.refl _ _).alloc (Nat.le_refl _) _⟩)⟩
  case round =>
    obtain ⟨j, al, cl, A, C, hj, rfl, rfl, HVw⟩ := hrel
    obtain ⟨wi, rfl⟩ : ∃ x, x = wr := ⟨wr, rfl⟩
    have HBv := Lib.hid HVw.out.below
    have hsz := HBv.out.size
    by_cases hjt : j < W.length
    · have hpn := HRR.out.pn j hjt
      have hlen := HRR.out.len j hjt
      obtain ⟨b0, o0, rfl, hc⟩ := (HW.out.keep HO3.out.2 (Nat.le_refl _)) (by omega)
      obtain ⟨aj, cj, dj0, rj, kj⟩ := hc j hjt
      rw [hlen] at dj0 kj
      have dj := cell_below (p := ⟨b0, o0 + j, none⟩) dj0 HBv.out
      have RJ := Lib.hid rj
      have RJi : Hid (RdI wi aj (rw_ W j)) := Lib.hid (rj.keep HBv.out (Nat.le_refl _))
      have HLN := Lib.hid hlen
      have HLD := Lib.hid (HRR.out.isLead hjt)
      clear hc rj hlen dj0
      by_cases hjs : j < s
      · have hlt := HC.out.lo j hjs
        have b1 : decide ((piv j : Int) < (m : Int)) = true := decide_eq_true (by omega)
        have b2 : (piv j : Int) < (m : Int) := by omega
        have HT := Lib.hid (take_min hs1 hjs)
        have hmm : min (j + 1) s = min j s + 1 := by omega
        go_wp2_with (first
          | (go_at_call 83; refine (l02Lead_any _ _ _ (rw_ W j) _ (by exact RJi.out) HLN.out (by omega)).mono ?_; rintro e w' ⟨k1, rfl, hk, rfl⟩; obtain rfl : k1 = piv j := hk.unique HLD.out; clear hk)
          | (at_builtin; refine wpList_push rfl (.tmp 37) (.tmp 42) 22 rfl w3.heap.size 38 (.slice none 0 0) 24 Try.underlying22 Try.infoR rfl (by decide) (.slice aj (m + n) cj) rfl _ _ _ _ rfl rfl (by exact HVw.out.own) (by omega) (by exact hsz) ?_; rintro a4 c4 w4 r4 q4 g4; have HN := Lib.hid (HVw.out.push RJ.out HLN.out kj r4 g4); clear r4 q4 g4))
        have HN2 : Hid (Vw 38 w3 w4 a4 (min (j + 1) s) c4 (W.take (min (j + 1) s)) (upd A (min j s) aj) (upd C (min j s) cj)) := Lib.hid (by rw [HT.out, hmm]; exact HN.out)
        go_roundw
        case rel => exact ⟨j + 1, a4, c4, _, _, by omega, by go_num, by rw [hmm], HN2⟩
        case measure => simp [intOf]; omega
      · have hlt := HC.out.hi j (by omega) hjt
        have b1 : decide ((piv j : Int) < (m : Int)) = false := decide_eq_false (by omega)
        have b2 : ¬ (piv j : Int) < (m : Int) := by omega
        have hmm : min (j + 1) s = min j s := by omega
        go_wp2_with (go_at_call 83; refine (l02Lead_any _ _ _ (rw_ W j) _ (by exact RJi.out) HLN.out (by omega)).mono ?_; rintro e w' ⟨k1, rfl, hk, rfl⟩; obtain rfl : k1 = piv j := hk.unique HLD.out; clear hk)
        have HN2 : Hid (Vw 38 w3 wi al (min (j + 1) s) cl (W.take (min (j + 1) s)) A C) := Lib.hid (by rw [hmm]; exact HVw.out)
        go_roundw
        case rel => exact ⟨j + 1, al, cl, A, C, by omega, by go_num, by rw [hmm], HN2⟩
        case measure => simp [intOf]; omega
    · have hms : min j s = s := by omega
      have HV1 := HVw.out
      rw [hms] at HV1
      have HV2 := Lib.hid HV1.rd
      have hlt : (W.take s).length = s := by rw [List.length_take]; omega
      have HO3i : Hid (RdI wi a3 (padZ v n)) := Lib.hid (HO3.out.1.rd.keep HBv.out (Nat.le_refl _))
      have HB3 : Hid (Below w.heap.size w wi) := Lib.hid (HB1.out.trans ((HO3.out.2.trans (HBv.out.mono HO3.out.2.size)).mono HB1.out.size))
      rw [hms]
      clear HV1
      go_wp2_with fail
      refine (l02Clear_any p hp2 hp7 _ _ s (m + n) _ _ (W.take s) piv (padZ v n) _ (by exact HV2.out) hlt (HRR.out.take hs1) (by exact HO3i.out) (by rw [padZ_len, HL2.out]) (by omega) (by omega) (padZ_rng hp2 HL2.out HV.out)).mono ?_
      rintro e w4 ⟨u, a4, c4, rfl, hcl, ho, hb⟩
      have HU := Lib.hid ho
      have HB4 : Hid (Below w.heap.size w w4) := Lib.hid (HB3.out.trans (hb.mono HB3.out.size))
      have HLU : Hid (u.length = m + n) := Lib.hid hcl.len
      have HDR : Hid (∀ j, j < n → 0 ≤ el (u.drop m) j ∧ el (u.drop m) j < p) := Lib.hid fun j hj => by rw [el_drop]; exact hcl.rng _ (by omega)
      have HS : Hid ((¬ AllZ (u.take m) → SolR p m xss v false []) ∧ (AllZ (u.take m) → ∀ N pv X, NullR p m xss N → Rref p n N pv → Clr p n N pv (negm p (u.drop m)) X N.length → SolR p m xss v true X)) := Lib.hid ⟨fun h => ⟨W, piv, s, u, by rw [HL.out]; exact HRes.out, by rw [HL.out]; exact HRR.out, HC.out, by rw [HL.out]; exact hcl, .inl ⟨h, rfl, rfl⟩⟩,
        fun h N pv X h1 h2 h3 => ⟨W, piv, s, u, by rw [HL.out]; exact HRes.out, by rw [HL.out]; exact HRR.out, HC.out, by rw [HL.out]; exact hcl, .inr ⟨h, rfl, N, pv, h1, by rw [HL.out]; exact h2, by rw [HL.out]; exact h3⟩⟩⟩
      clear hcl ho hb
      rcases HU.out.cases with ⟨rfl, hn0, rfl, _⟩ | ⟨g, cur, rfl, _, _, hle, _⟩
      · obtain rfl : n = 0 := by omega
        obtain rfl : m = 0 := by omega
        by_cases hz : AllZ (u.take 0)
        · have HZ := Lib.hid (zeroB_t hz)
          have HSY := Lib.hid (HS.out.2 hz)
          have RX : Hid (RdI w4 none (u.drop 0)) := Lib.hid (fun h0 => absurd h0 (by have h9 := HLU.out; rw [List.length_drop]; omega))
          clear hz
          go_wp2_with (first
            | (go_at_call 70; refine (l01Zero_any _ _ _ (u.take 0) _ (by exact HU.out.rd.take 0 (by have h9 := HLU.out; omega)) (by have h9 := HLU.out; rw [List.length_take]; omega) (by omega)).mono ?_; rintro e w' ⟨rfl, rfl⟩; rw [HZ.out])
            | (go_at_call 94; refine (l02Scale_any _ 0 _ (u.drop 0) _ p _ (by exact RX.out) (by have h9 := HLU.out; rw [List.length_drop]; omega) (by omega) hp2 hp7 (by omega) (by omega) HDR.out).mono ?_; rintro e w5 ⟨a5, c5, rfl, ho, hb⟩; rw [scalem_neg] at ho; have HX5 := Lib.hid ho; have HB5 : Hid (Below w.heap.size w w5) := Lib.hid (HB4.out.trans (hb.mono HB4.out.size)); clear ho hb)
            | (go_at_call 74; refine (l02Null_any p HP.out _ 0 _ 0 xss _ (by exact HA.out.keep HB5.out (Nat.le_refl _)) HL.out HR.out (by omega) (by omega)).mono ?_; rintro e w6 ⟨N, a6, c6, rfl, hnr, ho, hb⟩; have HNR := Lib.hid hnr; have HN6 := Lib.hid ho.rd; have HX6 : Hid (RdI w6 a5 (negm p (u.drop 0))) := Lib.hid (HX5.out.rd.keep hb (Nat.le_refl _)); have HB6 : Hid (Below w.heap.size w w6) := Lib.hid (HB5.out.trans (hb.mono HB5.out.size)); have hnl := hnr.rref.len; rw [HL.out] at hnl; obtain ⟨pv, hpv0, _⟩ := hnr.rref; rw [HL.out] at hpv0; have HPV := Lib.hid hpv0; clear ho hb hnr hpv0)
            | (go_at_call 71; refine (l02Clear_any p hp2 hp7 _ _ N.length 0 _ _ N pv (negm p (u.drop 0)) _ (by exact HN6.out) rfl HPV.out (by exact HX6.out) (by have h9 := HLU.out; rw [negm_len, List.length_drop]; omega) (by omega) (by omega) (fun j hj => negm_rng hp2 _ j (by have h9 := HLU.out; rw [List.length_drop]; omega))).mono ?_; rintro e w7 ⟨X, a7, c7, rfl, hcl, ho, hb⟩; have HCX := Lib.hid hcl; have HO7 := Lib.hid ho; have HB7 : Hid (Below w.heap.size w w7) := Lib.hid (HB6.out.trans (hb.mono HB6.out.size)); clear hcl ho hb))
          go_ret2
          have hXl : X.length = 0 := HCX.out.len
          obtain rfl : X = [] := List.eq_nil_of_length_eq_zero hXl
          exact ⟨true, [], a7, c7, rfl, HSY.out N pv [] HNR.out HPV.out HCX.out, HO7.out.mono HB6.out.size, HB7.out⟩
        · have HZ := Lib.hid (zeroB_f hz)
          have HSN := Lib.hid (HS.out.1 hz)
          clear hz
          go_wp2_with (go_at_call 70; refine (l01Zero_any _ _ _ (u.take 0) _ (by exact HU.out.rd.take 0 (by have h9 := HLU.out; omega)) (by have h9 := HLU.out; rw [List.length_take]; omega) (by omega)).mono ?_; rintro e w' ⟨rfl, rfl⟩; rw [HZ.out])
          go_ret2
          exact ⟨false, [], none, 0, rfl, HSN.out, OwnI.none, HB4.out⟩
      · have V1 : m ≤ c4 := by omega
        by_cases hk1 : c4 = m
        · obtain rfl : n = 0 := by omega
          have hk2 := hk1.symm
          subst hk2
          by_cases hz : AllZ (u.take m)
          · have HZ := Lib.hid (zeroB_t hz)
            have HSY := Lib.hid (HS.out.2 hz)
            have RX : Hid (RdI w4 (some ⟨g, 0, none⟩) (u.drop m)) := Lib.hid (fun h0 => absurd h0 (by have h9 := HLU.out; rw [List.length_drop]; omega))
            clear hz
            go_wp2_with (first
              | (go_at_call 70; refine (l01Zero_any _ _ _ (u.take m) _ (by exact HU.out.rd.take m (by have h9 := HLU.out; omega)) (by have h9 := HLU.out; rw [List.length_take]; omega) (by omega)).mono ?_; rintro e w' ⟨rfl, rfl⟩; rw [HZ.out])
              | (go_at_call 94; refine (l02Scale_any _ 0 _ (u.drop m) _ p _ (by exact RX.out) (by have h9 := HLU.out; rw [List.length_drop]; omega) (by omega) hp2 hp7 (by omega) (by omega) HDR.out).mono ?_; rintro e w5 ⟨a5, c5, rfl, ho, hb⟩; rw [scalem_neg] at ho; have HX5 := Lib.hid ho; have HB5 : Hid (Below w.heap.size w w5) := Lib.hid (HB4.out.trans (hb.mono HB4.out.size)); clear ho hb)
              | (go_at_call 74; refine (l02Null_any p HP.out _ 0 _ m xss _ (by exact HA.out.keep HB5.out (Nat.le_refl _)) HL.out HR.out (by omega) (by omega)).mono ?_; rintro e w6 ⟨N, a6, c6, rfl, hnr, ho, hb⟩; have HNR := Lib.hid hnr; have HN6 := Lib.hid ho.rd; have HX6 : Hid (RdI w6 a5 (negm p (u.drop m))) := Lib.hid (HX5.out.rd.keep hb (Nat.le_refl _)); have HB6 : Hid (Below w.heap.size w w6) := Lib.hid (HB5.out.trans (hb.mono HB5.out.size)); have hnl := hnr.rref.len; rw [HL.out] at hnl; obtain ⟨pv, hpv0, _⟩ := hnr.rref; rw [HL.out] at hpv0; have HPV := Lib.hid hpv0; clear ho hb hnr hpv0)
              | (go_at_call 71; refine (l02Clear_any p hp2 hp7 _ _ N.length 0 _ _ N pv (negm p (u.drop m)) _ (by exact HN6.out) rfl HPV.out (by exact HX6.out) (by have h9 := HLU.out; rw [negm_len, List.length_drop]; omega) (by omega) (by omega) (fun j hj => negm_rng hp2 _ j (by have h9 := HLU.out; rw [List.length_drop]; omega))).mono ?_; rintro e w7 ⟨X, a7, c7, rfl, hcl, ho, hb⟩; have HCX := Lib.hid hcl; have HO7 := Lib.hid ho; have HB7 : Hid (Below w.heap.size w w7) := Lib.hid (HB6.out.trans (hb.mono HB6.out.size)); clear hcl ho hb))
            go_ret2
            have hXl : X.length = 0 := HCX.out.len
            obtain rfl : X = [] := List.eq_nil_of_length_eq_zero hXl
            exact ⟨true, [], a7, c7, rfl, HSY.out N pv [] HNR.out HPV.out HCX.out, HO7.out.mono HB6.out.size, HB7.out⟩
          · have HZ := Lib.hid (zeroB_f hz)
            have HSN := Lib.hid (HS.out.1 hz)
            clear hz
            go_wp2_with (go_at_call 70; refine (l01Zero_any _ _ _ (u.take m) _ (by exact HU.out.rd.take m (by have h9 := HLU.out; omega)) (by have h9 := HLU.out; rw [List.length_take]; omega) (by omega)).mono ?_; rintro e w' ⟨rfl, rfl⟩; rw [HZ.out])
            go_ret2
            exact ⟨false, [], none, 0, rfl, HSN.out, OwnI.none, HB4.out⟩
        · have V2 : ¬ c4 = m := hk1
          by_cases hz : AllZ (u.take m)
          · have HZ := Lib.hid (zeroB_t hz)
            have HSY := Lib.hid (HS.out.2 hz)
            have RX : Hid (RdI w4 (some ⟨g, m, none⟩) (u.drop m)) := Lib.hid (by have := HU.out.rd.drop m; rwa [Nat.zero_add] at this)
            clear hz
            go_wp2_with (first
              | (go_at_call 70; refine (l01Zero_any _ _ _ (u.take m) _ (by exact HU.out.rd.take m (by have h9 := HLU.out; omega)) (by have h9 := HLU.out; rw [List.length_take]; omega) (by omega)).mono ?_; rintro e w' ⟨rfl, rfl⟩; rw [HZ.out])
              | (go_at_call 94; refine (l02Scale_any _ n _ (u.drop m) _ p _ (by exact RX.out) (by have h9 := HLU.out; rw [List.length_drop]; omega) (by omega) hp2 hp7 (by omega) (by omega) HDR.out).mono ?_; rintro e w5 ⟨a5, c5, rfl, ho, hb⟩; rw [scalem_neg] at ho; have HX5 := Lib.hid ho; have HB5 : Hid (Below w.heap.size w w5) := Lib.hid (HB4.out.trans (hb.mono HB4.out.size)); clear ho hb)
              | (go_at_call 74; refine (l02Null_any p HP.out _ n _ m xss _ (by exact HA.out.keep HB5.out (Nat.le_refl _)) HL.out HR.out (by omega) (by omega)).mono ?_; rintro e w6 ⟨N, a6, c6, rfl, hnr, ho, hb⟩; have HNR := Lib.hid hnr; have HN6 := Lib.hid ho.rd; have HX6 : Hid (RdI w6 a5 (negm p (u.drop m))) := Lib.hid (HX5.out.rd.keep hb (Nat.le_refl _)); have HB6 : Hid (Below w.heap.size w w6) := Lib.hid (HB5.out.trans (hb.mono HB5.out.size)); have hnl := hnr.rref.len; rw [HL.out] at hnl; obtain ⟨pv, hpv0, _⟩ := hnr.rref; rw [HL.out] at hpv0; have HPV := Lib.hid hpv0; clear ho hb hnr hpv0)
              | (go_at_call 71; refine (l02Clear_any p hp2 hp7 _ _ N.length n _ _ N pv (negm p (u.drop m)) _ (by exact HN6.out) rfl HPV.out (by exact HX6.out) (by have h9 := HLU.out; rw [negm_len, List.length_drop]; omega) (by omega) (by omega) (fun j hj => negm_rng hp2 _ j (by have h9 := HLU.out; rw [List.length_drop]; omega))).mono ?_; rintro e w7 ⟨X, a7, c7, rfl, hcl, ho, hb⟩; have HCX := Lib.hid hcl; have HO7 := Lib.hid ho; have HB7 : Hid (Below w.heap.size w w7) := Lib.hid (HB6.out.trans (hb.mono HB6.out.size)); clear hcl ho hb))
            go_ret2
            have hXl : X.length = n := HCX.out.len
            subst hXl
            exact ⟨true, X, a7, c7, rfl, HSY.out N pv X HNR.out HPV.out HCX.out, HO7.out.mono HB6.out.size, HB7.out⟩
          · have HZ := Lib.hid (zeroB_f hz)
            have HSN := Lib.hid (HS.out.1 hz)
            clear hz
            go_wp2_with (go_at_call 70; refine (l01Zero_any _ _ _ (u.take m) _ (by exact HU.out.rd.take m (by have h9 := HLU.out; omega)) (by have h9 := HLU.out; rw [List.length_take]; omega) (by omega)).mono ?_; rintro e w' ⟨rfl, rfl⟩; rw [HZ.out])
            go_ret2
            exact ⟨false, [], none, 0, rfl, HSN.out, OwnI.none, HB4.out⟩
end Go.Proofs.Ytngikcjdhbflkaa
