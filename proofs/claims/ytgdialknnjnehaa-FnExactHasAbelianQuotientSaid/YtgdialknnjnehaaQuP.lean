/- When one abelian group is a quotient of another: plain law. No program in sight. -/
import Derived.Test.YtgdialknnjnehaaFpP
set_option linter.unusedVariables false
set_option linter.unusedSimpArgs false
namespace Go.Proofs.Ytgdialknnjnehaa
open Go.RowKit

theorem ent_part {n g e : Int} (h1 : 1 ≤ n) (h2 : n ≤ 1000000) (he : (g, e) ∈ facL n) : ppart g 20 n = g ^ e.toNat := by
  obtain ⟨s1, s2⟩ := facL_spec h1 h2
  rw [← part_ppart h1 h2 (s2.ent _ he).2.1]
  obtain ⟨A, B, hAB⟩ := List.append_of_mem he
  have hinc := s2.inc
  rw [hAB, List.pairwise_append] at hinc
  obtain ⟨i1, i2, i3⟩ := hinc
  rw [List.pairwise_cons] at i2
  unfold partOf
  rw [hAB, List.foldl_append, List.foldl_cons, fold_no B _ (fun x hx => by have := i2.1 x hx; simp only at this; omega)]
  simp
theorem ent_of_dvd {n g : Int} (h1 : 1 ≤ n) (h2 : n ≤ 1000000) (hg : Prm g) (hd : g ∣ n) : ∃ e, (g, e) ∈ facL n := by
  obtain ⟨s1, s2⟩ := facL_spec h1 h2
  apply Classical.byContradiction
  intro hm
  have hno : ∀ x ∈ facL n, Prm x.1 ∧ x.1 ≠ g := fun x hx => ⟨(s2.ent x hx).2.1, fun e => hm ⟨x.2, by rw [← e]; exact hx⟩⟩
  have h4 := prm_prod hg _ hno
  rw [s1] at h4
  exact h4 hd
theorem pow_split {g : Int} (hg : 1 ≤ g) {k l : Nat} (h : k ≤ l) : g ^ k ∣ g ^ l ∧ g ^ k ≤ g ^ l := by
  obtain ⟨m, rfl⟩ : ∃ m, l = k + m := ⟨l - k, by omega⟩
  have e : g ^ (k + m) = g ^ k * g ^ m := by rw [Int.pow_add]
  refine ⟨⟨g ^ m, e⟩, ?_⟩
  rw [e]
  have h1 := pow_pos' hg k
  have h2 := pow_pos' hg m
  have := Int.mul_le_mul_of_nonneg_left h2 (show 0 ≤ g ^ k by omega)
  omega
theorem pow_lt_of {g : Int} (hg : 2 ≤ g) {k l : Nat} (h : g ^ k ≤ g ^ l) : k ≤ l := by
  rcases Nat.lt_or_ge l k with h1 | h1
  · exfalso
    have h2 := (pow_split (show 1 ≤ g by omega) (show l + 1 ≤ k by omega)).2
    rw [Int.pow_succ] at h2
    have h3 := pow_pos' (show 1 ≤ g by omega) l
    have := Int.mul_le_mul_of_nonneg_left hg (show 0 ≤ g ^ l by omega)
    omega
  · exact h1
theorem pp_form {p x : Int} (hp : Prm p) (h1 : 1 ≤ x) (h2 : x ≤ 1000000) : ∃ (k : Nat) (r : Int), x = p ^ k * r ∧ ¬ p ∣ r ∧ ppart p 20 x = p ^ k := by
  obtain ⟨s1, s2⟩ := strip_spec hp.1 20 x h1 (by have : (2 : Int) ^ 20 = 1048576 := by decide
                                                 omega)
  have hr := (strip_bd hp.1 20 x h1)
  have hpk := pow_pos' (show 1 ≤ p by have := hp.1; omega) (strip p 20 x).2.toNat
  have hle : p ^ (strip p 20 x).2.toNat ≤ 1000000 := by
    have := Int.mul_le_mul_of_nonneg_right hr.1 (show 0 ≤ p ^ (strip p 20 x).2.toNat by omega)
    omega
  refine ⟨(strip p 20 x).2.toNat, (strip p 20 x).1, by rw [Int.mul_comm]; exact s1, fun h => s2 (Int.emod_eq_zero_of_dvd h), ?_⟩
  have e := ppart_of hp.1 (strip p 20 x).2.toNat 20 (strip p 20 x).1 (exp_bd hp.1 hle) s2
  rwa [Int.mul_comm, ← s1] at e
theorem pp_one {p x : Int} (h : ¬ p ∣ x) : ppart p 20 x = 1 := ppart_no (fun e => h (Int.dvd_of_emod_eq_zero e)) 20
theorem exp_le_of_dvd {p s : Int} (hp : 2 ≤ p) (hs : ¬ p ∣ s) {k l : Nat} (h : p ^ k ∣ p ^ l * s) : k ≤ l := by
  rcases Nat.lt_or_ge l k with h1 | h1
  · exfalso
    have h2 := Int.dvd_trans (pow_split (show 1 ≤ p by omega) (show l + 1 ≤ k by omega)).1 h
    rw [Int.pow_succ] at h2
    have h3 := pow_pos' (show 1 ≤ p by omega) l
    exact hs (Int.dvd_of_mul_dvd_mul_left (show p ^ l ≠ 0 by omega) h2)
  · exact h1
theorem pp_mono {p x y : Int} (hp : Prm p) (hx1 : 1 ≤ x) (hx2 : x ≤ 1000000) (hy1 : 1 ≤ y) (hy2 : y ≤ 1000000) (hd : x ∣ y) : ppart p 20 x ≤ ppart p 20 y := by
  obtain ⟨k, r, e1, e2, e3⟩ := pp_form hp hx1 hx2
  obtain ⟨l, s, f1, f2, f3⟩ := pp_form hp hy1 hy2
  rw [e3, f3]
  refine (pow_split (by have := hp.1; omega) ?_).2
  refine exp_le_of_dvd hp.1 f2 (k := k) ?_
  rw [← f1]
  exact Int.dvd_trans ⟨r, e1⟩ hd
theorem cop_mul {g r y : Int} (hg : Prm g) (hr : ¬ g ∣ r) (hy : r ∣ y) : ∀ k : Nat, g ^ k ∣ y → g ^ k * r ∣ y
  | 0, _ => by simpa using hy
  | k + 1, h => by
    have h3 := pow_pos' (show 1 ≤ g by have := hg.1; omega) k
    obtain ⟨z, hz⟩ := cop_mul hg hr hy k (Int.dvd_trans (pow_split (show 1 ≤ g by have := hg.1; omega) (Nat.le_succ k)).1 h)
    rw [hz, Int.pow_succ, Int.mul_assoc] at h
    have h4 := Int.dvd_of_mul_dvd_mul_left (show g ^ k ≠ 0 by omega) h
    rcases hg.mul h4 with h5 | ⟨t, ht⟩
    · exact absurd h5 hr
    · exact ⟨t, by rw [hz, ht, Int.pow_succ]; grind⟩
theorem prod_dvd {y p : Int} : ∀ (L : List (Int × Int)), FL p L → (∀ x ∈ L, x.1 ^ x.2.toNat ∣ y) → prodL L ∣ y
  | [], _, _ => Int.one_dvd y
  | x :: L, hF, h => by
    have hi := List.pairwise_cons.1 hF.inc
    have hL : FL p L := ⟨fun z hz => hF.ent z (List.mem_cons_of_mem _ hz), hi.2⟩
    have ih := prod_dvd L hL (fun z hz => h z (List.mem_cons_of_mem _ hz))
    have hx := (hF.ent x List.mem_cons_self).2.1
    exact cop_mul hx (prm_prod hx L (fun z hz => ⟨(hL.ent z hz).2.1, by have := hi.1 z hz; omega⟩)) ih _ (h x List.mem_cons_self)
theorem dvd_of_parts {x y : Int} (hx1 : 1 ≤ x) (hx2 : x ≤ 1000000) (hy1 : 1 ≤ y) (hy2 : y ≤ 1000000) (h : ∀ p, Prm p → p ∣ x → ppart p 20 x ≤ ppart p 20 y) : x ∣ y := by
  obtain ⟨s1, s2⟩ := facL_spec hx1 hx2
  rw [← s1]
  refine prod_dvd _ s2 (fun e he => ?_)
  have hp := (s2.ent e he).2.1
  have h2 := ent_part hx1 hx2 (g := e.1) (e := e.2) he
  have hd : e.1 ∣ x := by
    obtain ⟨A, B, hAB⟩ := List.append_of_mem he
    have h3 := (s2.ent e he).2.2
    obtain ⟨k, hk⟩ : ∃ k, e.2.toNat = k + 1 := ⟨e.2.toNat - 1, by omega⟩
    rw [← s1, hAB, prodL_app]
    refine Int.dvd_trans ?_ (Int.dvd_mul_left _ _)
    show e.1 ∣ e.1 ^ e.2.toNat * prodL B
    rw [hk, Int.pow_succ]
    exact Int.dvd_trans (Int.dvd_mul_left _ _) (Int.dvd_mul_right _ _)
  have h4 := h _ hp hd
  obtain ⟨l, s, f1, f2, f3⟩ := pp_form hp hy1 hy2
  rw [h2, f3] at h4
  have h5 := pow_lt_of hp.1 h4
  rw [f1]
  exact Int.dvd_trans (pow_split (by have := hp.1; omega) h5).1 (Int.dvd_mul_right _ _)
/-- the part of a number at a prime, in its list of parts -/
theorem grp_parts {x p : Int} (hp : Prm p) (h1 : 1 ≤ x) (h2 : x ≤ 1000000) : grp (partsOf x) p = if p ∣ x then [ppart p 20 x] else [] := by
  obtain ⟨s1, s2⟩ := facL_spec h1 h2
  have hf : ∀ e ∈ facL x, (lpf (e.1 ^ e.2.toNat) == p) = (e.1 == p) := fun e he => by rw [(ent_isPP h1 h2 he).2]
  have e0 : grp (partsOf x) p = ((facL x).filter fun e => e.1 == p).map fun e => e.1 ^ e.2.toNat := by
    unfold grp partsOf
    rw [List.filter_map]
    congr 1
    exact List.filter_congr (fun e he => hf e he)
  rw [e0]
  split
  · rename_i hd
    obtain ⟨e, he⟩ := ent_of_dvd h1 h2 hp hd
    rw [ent_part h1 h2 he]
    obtain ⟨A, B, hAB⟩ := List.append_of_mem he
    have hinc := s2.inc
    rw [hAB, List.pairwise_append] at hinc
    obtain ⟨i1, i2, i3⟩ := hinc
    rw [List.pairwise_cons] at i2
    have fA : A.filter (fun e => e.1 == p) = [] := List.filter_eq_nil_iff.2 fun z hz => by have := i3 z hz _ List.mem_cons_self; simp only at this; simp; omega
    have fB : B.filter (fun e => e.1 == p) = [] := List.filter_eq_nil_iff.2 fun z hz => by have := i2.1 z hz; simp only at this; simp; omega
    rw [hAB, List.filter_append, fA, List.filter_cons, fB]
    simp
  · rename_i hd
    have : (facL x).filter (fun e => e.1 == p) = [] := List.filter_eq_nil_iff.2 fun e he => by
      simp
      intro e1
      apply hd
      obtain ⟨A, B, hAB⟩ := List.append_of_mem he
      have h3 := (s2.ent e he).2.2
      obtain ⟨k, hk⟩ : ∃ k, e.2.toNat = k + 1 := ⟨e.2.toNat - 1, by omega⟩
      rw [← s1, hAB, prodL_app]
      refine Int.dvd_trans ?_ (Int.dvd_mul_left _ _)
      show p ∣ e.1 ^ e.2.toNat * prodL B
      rw [hk, Int.pow_succ, e1]
      exact Int.dvd_trans (Int.dvd_mul_left _ _) (Int.dvd_mul_right _ _)
    rw [this]; rfl
theorem grp_partsL {p : Int} (hp : Prm p) : ∀ (xs : List Int), (∀ x ∈ xs, 1 ≤ x ∧ x ≤ 1000000) → grp (partsL xs) p = (xs.filter fun x => decide (p ∣ x)).map fun x => ppart p 20 x
  | [], _ => rfl
  | x :: xs, h => by
    have ih := grp_partsL hp xs (fun z hz => h z (List.mem_cons_of_mem _ hz))
    have e : grp (partsL (x :: xs)) p = grp (partsOf x) p ++ grp (partsL xs) p := by unfold grp partsL; rw [List.flatMap_cons, List.filter_append]
    rw [e, ih, grp_parts hp (h x List.mem_cons_self).1 (h x List.mem_cons_self).2, List.filter_cons]
    by_cases hd : p ∣ x <;> simp [hd]
/-- the numbers of a falling chain that a prime divides stand ahead -/
theorem filt_chain {p : Int} : ∀ {d : List Int}, d.Pairwise (fun x y => y ∣ x) → ∀ i, (i < (d.filter fun x => decide (p ∣ x)).length ↔ i < d.length ∧ p ∣ el d i) ∧ (i < (d.filter fun x => decide (p ∣ x)).length → el (d.filter fun x => decide (p ∣ x)) i = el d i)
  | [], _, i => by simp
  | x :: t, hc, i => by
    obtain ⟨h1, h2⟩ := List.pairwise_cons.1 hc
    by_cases hd : p ∣ x
    · rw [List.filter_cons, if_pos (by simpa using hd)]
      cases i with
      | zero => simp [el, hd]
      | succ j =>
        have ih := filt_chain (p := p) h2 j
        simp only [List.length_cons, Nat.add_lt_add_iff_right]
        exact ih
    · rw [List.filter_cons, if_neg (by simpa using hd)]
      have e : (t.filter fun x => decide (p ∣ x)) = [] := List.filter_eq_nil_iff.2 fun z hz => by simp; exact fun hz2 => hd (Int.dvd_trans hz2 (h1 z hz))
      rw [e]
      refine ⟨⟨fun h => by simp at h, fun ⟨a, b⟩ => ?_⟩, fun h => by simp at h⟩
      exfalso
      have hm := el_mem a
      rcases List.mem_cons.1 hm with h | h
      · rw [h] at b; exact hd b
      · exact hd (Int.dvd_trans b (h1 _ h))
theorem ab_rng {xs : List Int} {r : Int} (h : isAb xs r = true) {i : Nat} (hi : i < xs.length) : 2 ≤ el xs i ∧ el xs i ≤ 1000000 := by
  have := (isAb_ok h).2.2.2 i hi
  exact ⟨this.1, this.2.1⟩
theorem ab_chain {xs : List Int} {r : Int} (h : isAb xs r = true) : xs.Pairwise (fun x y => x ∣ y) := by
  have hs : ∀ i, i < xs.length → 0 < i → el xs (i - 1) ∣ el xs i := fun i hi h0 => Int.dvd_of_emod_eq_zero (((isAb_ok h).2.2.2 i hi).2.2 h0)
  have hk : ∀ k i, i + k < xs.length → el xs i ∣ el xs (i + k) := by
    intro k
    induction k with
    | zero => intro i _; exact Int.dvd_refl _
    | succ k ih => intro i hi; exact Int.dvd_trans (ih i (by omega)) (by have := hs (i + (k + 1)) hi (by omega); simpa using this)
  rw [List.pairwise_iff_getElem]
  intro i j hi hj hij
  have := hk (j - i) i (by omega)
  rw [show i + (j - i) = j by omega, el_eq hi, el_eq hj] at this
  exact this
theorem ab_mem {xs : List Int} {r : Int} (h : isAb xs r = true) : ∀ x ∈ xs, 2 ≤ x ∧ x ≤ 1000000 := fun x hx => by
  obtain ⟨j, hj, e⟩ := List.mem_iff_getElem.1 hx
  have := ab_rng h hj
  rwa [el_eq hj, e] at this
abbrev sQ (xs : List Int) : List Int := sortP (partsL xs)
theorem dsc_chain {xs : List Int} {r p : Int} (h : isAb xs r = true) (hp : Prm p) : dsc (sQ xs) p = (xs.reverse.filter fun x => decide (p ∣ x)).map fun x => ppart p 20 x := by
  have hm := ab_mem h
  rw [dsc_perm (sortP_perm (partsL xs)) p]
  have e : sortA (grp (partsL xs) p) = grp (partsL xs) p := by
    refine sortA_eq (List.Perm.refl _) ?_
    rw [grp_partsL hp xs (fun x hx => by have := hm x hx; omega)]
    refine List.Pairwise.map _ (R := fun x y => ppart p 20 x ≤ ppart p 20 y) (fun a b h => h) ?_
    refine List.Pairwise.filter _ ?_
    refine List.Pairwise.imp_of_mem ?_ (ab_chain h)
    intro a b ha hb hab
    have h1 := hm a ha
    have h2 := hm b hb
    exact pp_mono hp (by omega) h1.2 (by omega) h2.2 hab
  unfold dsc
  rw [e, grp_partsL hp xs (fun x hx => by have := hm x hx; omega), ← List.map_reverse, List.filter_reverse]
theorem dsc_at {xs : List Int} {r p : Int} (h : isAb xs r = true) (hp : Prm p) (i : Nat) : (i < (dsc (sQ xs) p).length ↔ i < xs.length ∧ p ∣ el xs.reverse i) ∧ (i < (dsc (sQ xs) p).length → el (dsc (sQ xs) p) i = ppart p 20 (el xs.reverse i)) := by
  have hc : xs.reverse.Pairwise (fun x y => y ∣ x) := List.pairwise_reverse.2 (ab_chain h)
  obtain ⟨k1, k2⟩ := filt_chain (p := p) hc i
  rw [dsc_chain h hp, List.length_map]
  refine ⟨by rw [k1, List.length_reverse], fun hi => ?_⟩
  rw [← k2 hi, el_eq (by rw [List.length_map]; exact hi), el_eq hi, List.getElem_map]
def dnL (xs : List Int) (r : Int) : List Int := List.replicate r.toNat 0 ++ xs.reverse
theorem dnL_len (xs : List Int) (r : Int) : (dnL xs r).length = r.toNat + xs.length := by unfold dnL; simp
theorem dnL_lo {xs : List Int} {r : Int} {i : Nat} (h : i < r.toNat) : el (dnL xs r) i = 0 := by
  unfold dnL el; rw [List.getElem?_append_left (by simpa using h)]; simp [h]
theorem dnL_hi {xs : List Int} {r : Int} {i : Nat} : el (dnL xs r) (r.toNat + i) = el xs.reverse i := by
  unfold dnL el; rw [List.getElem?_append_right (by simp)]; simp
def refQ (xs : List Int) (r : Int) (ys : List Int) (s : Int) : Prop :=
  (dnL ys s).length ≤ (dnL xs r).length ∧ ∀ i, i < (dnL ys s).length → el (dnL xs r) i = 0 ∨ (el (dnL ys s) i ≠ 0 ∧ el (dnL xs r) i % el (dnL ys s) i = 0)
def prgQ (xs : List Int) (r : Int) (ys : List Int) (s : Int) : Prop :=
  s ≤ r ∧ ∀ p ∈ prs (sQ ys), ∀ i, i < (dsc (sQ ys) p).length → (r - s).toNat ≤ i → i - (r - s).toNat < (dsc (sQ xs) p).length ∧ el (dsc (sQ ys) p) i ≤ el (dsc (sQ xs) p) (i - (r - s).toNat)
theorem rev_rng {xs : List Int} {r : Int} (h : isAb xs r = true) {i : Nat} (hi : i < xs.length) : 2 ≤ el xs.reverse i ∧ el xs.reverse i ≤ 1000000 := by
  have := el_mem (xs := xs.reverse) (i := i) (by rw [List.length_reverse]; exact hi)
  exact ab_mem h _ (List.mem_reverse.1 this)
theorem prs_prm {ys : List Int} {s p : Int} (h : isAb ys s = true) (hp : p ∈ prs (sQ ys)) : Prm p := by
  obtain ⟨q, hq, rfl⟩ := prs_mem.1 hp
  obtain ⟨x, hx, hq2⟩ := List.mem_flatMap.1 (sortP_mem.1 hq)
  obtain ⟨e, he, rfl⟩ := List.mem_map.1 hq2
  have hm := ab_mem h x hx
  have h1 := (ent_isPP (show 1 ≤ x by omega) hm.2 he).2
  show Prm (lpf (e.1 ^ e.2.toNat))
  rw [h1]
  exact ((facL_spec (show 1 ≤ x by omega) hm.2).2.ent e he).2.1
theorem prime_of {x : Int} (h1 : 2 ≤ x) (h2 : x ≤ 1000000) : ∃ p, Prm p ∧ p ∣ x := by
  obtain ⟨s1, s2⟩ := facL_spec (show 1 ≤ x by omega) h2
  obtain ⟨e, L, hL⟩ : ∃ e L, facL x = e :: L := by
    cases hl : facL x with
    | nil => rw [hl] at s1; simp [prodL] at s1; omega
    | cons e L => exact ⟨e, L, rfl⟩
  have he := s2.ent e (by rw [hL]; exact List.mem_cons_self)
  refine ⟨e.1, he.2.1, ?_⟩
  obtain ⟨k, hk⟩ : ∃ k, e.2.toNat = k + 1 := ⟨e.2.toNat - 1, by omega⟩
  rw [← s1, hL]
  show e.1 ∣ e.1 ^ e.2.toNat * prodL L
  rw [hk, Int.pow_succ]
  exact Int.dvd_trans (Int.dvd_mul_left _ _) (Int.dvd_mul_right _ _)
theorem prs_of {ys : List Int} {s p : Int} (h : isAb ys s = true) (hp : Prm p) {i : Nat} (hi : i < ys.length) (hd : p ∣ el ys.reverse i) : p ∈ prs (sQ ys) ∧ i < (dsc (sQ ys) p).length := by
  have h1 := (dsc_at h hp i).1.2 ⟨hi, hd⟩
  refine ⟨?_, h1⟩
  apply Classical.byContradiction
  intro hn
  rw [dsc_nil hn] at h1
  simp at h1
theorem quot_iff {xs ys : List Int} {r s : Int} (hx : isAb xs r = true) (hy : isAb ys s = true) : refQ xs r ys s ↔ prgQ xs r ys s := by
  have r0 := (isAb_ok hx).1
  have s0 := (isAb_ok hy).1
  obtain ⟨R, rfl⟩ : ∃ R : Nat, r = R := ⟨r.toNat, by omega⟩
  obtain ⟨S, rfl⟩ : ∃ S : Nat, s = S := ⟨s.toNat, by omega⟩
  unfold refQ prgQ
  rw [dnL_len, dnL_len]
  simp only [Int.toNat_natCast]
  constructor
  · rintro ⟨h1, h2⟩
    have hle : (S : Int) ≤ R := by
      rcases Nat.lt_or_ge R S with hlt | hge
      · exfalso
        have hn : 0 < xs.length := by omega
        have h3 := h2 R (by omega)
        have e1 := dnL_hi (xs := xs) (r := (R : Int)) (i := 0)
        have e2 := dnL_lo (xs := ys) (r := (S : Int)) (i := R) (by simpa using hlt)
        simp only [Int.toNat_natCast, Nat.add_zero] at e1
        have h4 := rev_rng hx hn
        rw [e1, e2] at h3
        rcases h3 with h3 | h3
        · omega
        · exact h3.1 rfl
      · omega
    refine ⟨hle, fun p hp i hi hf => ?_⟩
    have hpr := prs_prm hy hp
    obtain ⟨k1, k2⟩ := dsc_at hy hpr i
    obtain ⟨hi1, hi2⟩ := k1.1 hi
    have hft : ((R : Int) - S).toNat = R - S := by omega
    rw [hft] at hf ⊢
    have h3 := h2 (S + i) (by omega)
    have e1 := dnL_hi (xs := ys) (r := (S : Int)) (i := i)
    have e2 := dnL_hi (xs := xs) (r := (R : Int)) (i := i - (R - S))
    simp only [Int.toNat_natCast] at e1 e2
    rw [show R + (i - (R - S)) = S + i by omega] at e2
    rw [e1, e2] at h3
    have hn : i - (R - S) < xs.length := by omega
    have b1 := rev_rng hx hn
    have b2 := rev_rng hy hi1
    rcases h3 with h3 | ⟨_, h3⟩
    · omega
    · have hd := Int.dvd_of_emod_eq_zero h3
      obtain ⟨m1, m2⟩ := dsc_at hx hpr (i - (R - S))
      have m3 := m1.2 ⟨hn, Int.dvd_trans hi2 hd⟩
      refine ⟨m3, ?_⟩
      rw [k2 hi, m2 m3]
      exact pp_mono hpr (by omega) b2.2 (by omega) b1.2 hd
  · rintro ⟨hle, h2⟩
    have hft : ((R : Int) - S).toNat = R - S := by omega
    rw [hft] at h2
    have hlen : S + ys.length ≤ R + xs.length := by
      rcases Nat.lt_or_ge (R + xs.length) (S + ys.length) with hlt | hge
      · exfalso
        have hi : xs.length + (R - S) < ys.length := by omega
        have b2 := rev_rng hy hi
        obtain ⟨p, hp, hd⟩ := prime_of b2.1 b2.2
        obtain ⟨c1, c2⟩ := prs_of hy hp hi hd
        have h3 := (h2 p c1 _ c2 (by omega)).1
        have := ((dsc_at hx hp _).1.1 h3).1
        omega
      · exact hge
    refine ⟨hlen, fun j hj => ?_⟩
    rcases Nat.lt_or_ge j R with hjR | hjR
    · exact .inl (dnL_lo (by simpa using hjR))
    · right
      have e1 := dnL_hi (xs := ys) (r := (S : Int)) (i := j - S)
      have e2 := dnL_hi (xs := xs) (r := (R : Int)) (i := j - R)
      simp only [Int.toNat_natCast] at e1 e2
      rw [show S + (j - S) = j by omega] at e1
      rw [show R + (j - R) = j by omega] at e2
      rw [e1, e2]
      have b2 := rev_rng hy (show j - S < ys.length by omega)
      have b1 := rev_rng hx (show j - R < xs.length by omega)
      refine ⟨by omega, ?_⟩
      refine Int.emod_eq_zero_of_dvd (dvd_of_parts (by omega) b2.2 (by omega) b1.2 (fun p hp hd => ?_))
      obtain ⟨c1, c2⟩ := prs_of hy hp (show j - S < ys.length by omega) hd
      obtain ⟨h3, h4⟩ := h2 p c1 _ c2 (by omega)
      rw [show j - S - (R - S) = j - R by omega] at h3 h4
      rwa [(dsc_at hy hp _).2 c2, (dsc_at hx hp _).2 h3] at h4
end Go.Proofs.Ytgdialknnjnehaa
