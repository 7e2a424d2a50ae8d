/- A vector put into a reduced echelon form. No program in sight. -/
import Derived.Test.YtpkdgemnddcefaaRed
set_option linter.unusedVariables false
set_option linter.unusedSimpArgs false
namespace Go.Proofs.Ytpkdgemnddcefaa

/-- the place of the first entry that is not 0, or the length -/
def IsLead (xs : List Int) (k : Nat) : Prop := k ≤ xs.length ∧ (∀ j, j < k → el xs j = 0) ∧ (k < xs.length → el xs k ≠ 0)
theorem IsLead.unique {xs : List Int} {k m : Nat} (h : IsLead xs k) (g : IsLead xs m) : k = m := by
  rcases Nat.lt_trichotomy k m with hlt | he | hlt
  · exact absurd (g.2.1 k hlt) (h.2.2 (by have := g.1; omega))
  · exact he
  · exact absurd (h.2.1 m hlt) (g.2.2 (by have := h.1; omega))
def insG (s : Nat) (v : List Int) (F : Nat → List Int) (i : Nat) : List Int := if i < s then F i else if i = s then v else F (i - 1)
def insP (s k : Nat) (piv : Nat → Nat) (i : Nat) : Nat := if i < s then piv i else if i = s then k else piv (i - 1)
theorem insG_lt {s i : Nat} {v : List Int} {F : Nat → List Int} (h : i < s) : insG s v F i = F i := if_pos h
theorem insG_eq {s : Nat} {v : List Int} {F : Nat → List Int} : insG s v F s = v := by unfold insG; rw [if_neg (by omega), if_pos rfl]
theorem insG_gt {s i : Nat} {v : List Int} {F : Nat → List Int} (h : s ≤ i) : insG s v F (i + 1) = F i := by unfold insG; rw [if_neg (by omega), if_neg (by omega)]; simp
theorem ins_cases {s r i k : Nat} {v : List Int} {F : Nat → List Int} {piv : Nat → Nat} (hs : s ≤ r) (hi : i < r + 1) :
    (i = s ∧ insG s v F i = v ∧ insP s k piv i = k) ∨ ∃ i', i' < r ∧ insG s v F i = F i' ∧ insP s k piv i = piv i' ∧ ((i < s ∧ i' = i) ∨ (s < i ∧ i' + 1 = i)) := by
  by_cases h1 : i < s
  · exact .inr ⟨i, by omega, insG_lt h1, if_pos h1, .inl ⟨h1, rfl⟩⟩
  · by_cases h2 : i = s
    · subst h2
      exact .inl ⟨rfl, insG_eq, by unfold insP; rw [if_neg (by omega), if_pos rfl]⟩
    · refine .inr ⟨i - 1, by omega, ?_, ?_, .inr ⟨by omega, by omega⟩⟩
      · unfold insG; rw [if_neg h1, if_neg h2]
      · unfold insP; rw [if_neg h1, if_neg h2]
/-- the rows with the entry in column k made 0 -/
def insF (p : Int) (R : List (List Int)) (v : List Int) (k i : Nat) : List Int := addm p (p - el (rw_ R i) k) (rw_ R i) v
def insR (p : Int) (R : List (List Int)) (v : List Int) (k s : Nat) : List (List Int) := tab (R.length + 1) (insG s v (insF p R v k))
theorem mod_zero_mul {p x y : Int} (h : y = 0) : (0 + x * y) % p = 0 := by subst h; simp
theorem Rref.insert {p : Int} {n k s : Nat} {R : List (List Int)} {piv : Nat → Nat} {v : List Int} (h : Rref p n R piv) (hp : 2 ≤ p) (hl : v.length = n) (hg : ∀ j, j < n → 0 ≤ el v j ∧ el v j < p) (hk : k < n)
    (hlead : ∀ j, j < k → el v j = 0) (hone : el v k = 1) (hz : ∀ i, i < R.length → el v (piv i) = 0) (hs : s ≤ R.length) (hlo : ∀ i, i < s → piv i < k) (hhi : ∀ i, s ≤ i → i < R.length → k < piv i) :
    Rref p n (insR p R v k s) (insP s k piv) := by
  have hlen : (insR p R v k s).length = R.length + 1 := tab_len _ _
  have hrow : ∀ i, i < R.length + 1 → rw_ (insR p R v k s) i = insG s v (insF p R v k) i := fun i hi => rw_tab hi
  have fl : ∀ i, i < R.length → (insF p R v k i).length = n := fun i hi => by unfold insF; rw [addm_len]; exact h.len i hi
  have fe : ∀ i j, i < R.length → j < n → el (insF p R v k i) j = (el (rw_ R i) j + (p - el (rw_ R i) k) * el v j) % p := fun i j hi hj => el_addm (by rw [h.len i hi]; exact hj)
  have pk : ∀ i, i < R.length → piv i < k ∨ k < piv i := fun i hi => by
    by_cases hi2 : i < s
    · exact .inl (hlo i hi2)
    · exact .inr (hhi i (by omega) hi)
  have flead : ∀ i j, i < R.length → j < piv i → el (insF p R v k i) j = 0 := fun i j hi hj => by
    have hpn := h.pn i hi
    rw [fe i j hi (by omega), h.lead i j hi hj]
    rcases pk i hi with hlt | hgt
    · exact mod_zero_mul (hlead j (by omega))
    · rw [h.lead i k hi hgt, Int.sub_zero, Int.zero_add]
      exact Int.mul_emod_right p _
  have fone : ∀ i, i < R.length → el (insF p R v k i) (piv i) = 1 := fun i hi => by
    rw [fe i _ hi (h.pn i hi), h.one i hi, hz i hi]
    simp only [Int.mul_zero, Int.add_zero]
    exact Int.emod_eq_of_lt (by omega) (by omega)
  have fclr : ∀ i j, i < R.length → j < R.length → i ≠ j → el (insF p R v k i) (piv j) = 0 := fun i j hi hj hne => by
    rw [fe i _ hi (h.pn j hj), h.clr i j hi hj hne]
    exact mod_zero_mul (hz j hj)
  have fk : ∀ i, i < R.length → el (insF p R v k i) k = 0 := fun i hi => by
    rw [fe i k hi hk, hone]
    have e : el (rw_ R i) k + (p - el (rw_ R i) k) * 1 = p := by omega
    rw [e]; exact Int.emod_self
  have C := fun i (hi : i < R.length + 1) => ins_cases (k := k) (v := v) (F := insF p R v k) (piv := piv) hs hi
  refine ⟨fun i hi => ?_, fun i j hi hj => ?_, fun i hi => ?_, fun i j hij hj => ?_, fun i j hi hj => ?_, fun i hi => ?_, fun i j hi hj hne => ?_⟩
  · rw [hlen] at hi; rw [hrow i hi]
    rcases C i hi with ⟨_, e, _⟩ | ⟨i', h1, e, _, _⟩
    · rw [e]; exact hl
    · rw [e]; exact fl i' h1
  · rw [hlen] at hi; rw [hrow i hi]
    rcases C i hi with ⟨_, e, _⟩ | ⟨i', h1, e, _, _⟩
    · rw [e]; exact hg j hj
    · rw [e, fe i' j h1 hj]; exact emod_bd _ _ (by omega)
  · rw [hlen] at hi
    rcases C i hi with ⟨_, _, e⟩ | ⟨i', h1, _, e, _⟩
    · rw [e]; exact hk
    · rw [e]; exact h.pn i' h1
  · rw [hlen] at hj
    rcases C i (by omega) with ⟨a1, _, e1⟩ | ⟨i', h1, _, e1, a1⟩ <;> rcases C j hj with ⟨a2, _, e2⟩ | ⟨j', h2, _, e2, a2⟩
    · omega
    · rw [e1, e2]; exact hhi j' (by omega) h2
    · rw [e1, e2]; exact hlo i' (by omega)
    · rw [e1, e2]; exact h.mono i' j' (by omega) h2
  · rw [hlen] at hi; rw [hrow i hi]
    rcases C i hi with ⟨_, e, e1⟩ | ⟨i', h1, e, e1, _⟩
    · rw [e1] at hj; rw [e]; exact hlead j hj
    · rw [e1] at hj; rw [e]; exact flead i' j h1 hj
  · rw [hlen] at hi; rw [hrow i hi]
    rcases C i hi with ⟨_, e, e1⟩ | ⟨i', h1, e, e1, _⟩
    · rw [e1, e]; exact hone
    · rw [e1, e]; exact fone i' h1
  · rw [hlen] at hi hj; rw [hrow i hi]
    rcases C i hi with ⟨a1, e, _⟩ | ⟨i', h1, e, _, a1⟩ <;> rcases C j hj with ⟨a2, _, e2⟩ | ⟨j', h2, _, e2, a2⟩
    · omega
    · rw [e, e2]; exact hz j' h2
    · rw [e, e2]; exact fk i' h1
    · rw [e, e2]; exact fclr i' j' h1 h2 (by omega)
theorem sp_insert {p : Int} {n k s : Nat} {R : List (List Int)} {v v0 : List Int} (hR : ∀ i, i < R.length → (rw_ R i).length = n) (hl : v.length = n) (hs : s ≤ R.length) (hv : Sp p (R ++ [v0]) (el v))
    (hv0 : ∀ B, (∀ r, r ∈ R → Sp p B (el r)) → Sp p B (el v) → Sp p B (el v0)) : SpEq p (R ++ [v0]) (insR p R v k s) := by
  have hlen : (insR p R v k s).length = R.length + 1 := tab_len _ _
  have hrow : ∀ i, i < R.length + 1 → rw_ (insR p R v k s) i = insG s v (insF p R v k) i := fun i hi => rw_tab hi
  have hvN : Sp p (insR p R v k s) (el v) := by
    have e : rw_ (insR p R v k s) s = v := by rw [hrow s (by omega)]; exact insG_eq
    have := Sp.at (p := p) (rows := insR p R v k s) (i := s) (by rw [hlen]; omega)
    rwa [e] at this
  have hRN : ∀ i, i < R.length → Sp p (insR p R v k s) (el (rw_ R i)) := fun i hi => by
    have hF : Sp p (insR p R v k s) (el (insF p R v k i)) := by
      by_cases h1 : i < s
      · have e : rw_ (insR p R v k s) i = insF p R v k i := by rw [hrow i (by omega)]; exact insG_lt h1
        have := Sp.at (p := p) (rows := insR p R v k s) (i := i) (by rw [hlen]; omega)
        rwa [e] at this
      · have e : rw_ (insR p R v k s) (i + 1) = insF p R v k i := by rw [hrow (i + 1) (by omega)]; exact insG_gt (by omega)
        have := Sp.at (p := p) (rows := insR p R v k s) (i := i + 1) (by rw [hlen]; omega)
        rwa [e] at this
    exact hF.unaddrow hvN (by rw [hl, hR i hi]; exact Nat.le_refl _)
  have hRB : ∀ r, r ∈ R → Sp p (insR p R v k s) (el r) := fun r hr => by obtain ⟨i, hi, rfl⟩ := mem_rows hr; exact hRN i hi
  refine ⟨fun r hr => ?_, fun r hr => ?_⟩
  · rcases List.mem_append.1 hr with h | h
    · exact hRB r h
    · rw [List.mem_singleton] at h; subst h; exact hv0 _ hRB hvN
  · obtain ⟨i, hi, e⟩ := mem_rows hr
    rw [hlen] at hi
    rw [hrow i hi] at e
    rcases ins_cases (k := k) (v := v) (F := insF p R v k) (piv := fun i => i) hs hi with ⟨_, e1, _⟩ | ⟨i', h1, e1, _, _⟩
    · rw [← e, e1]; exact hv
    · rw [← e, e1]
      exact (Sp.row (List.mem_append_left _ (rw_mem h1))).addrow hv _ (by rw [hl, hR i' h1]; exact Nat.le_refl _)
theorem SpEq.snoc {p : Int} {A B : List (List Int)} (h : SpEq p A B) (v : List Int) : SpEq p (A ++ [v]) (B ++ [v]) := by
  refine ⟨fun r hr => ?_, fun r hr => ?_⟩
  · rcases List.mem_append.1 hr with h1 | h1
    · exact (h.1 r h1).mono (fun x hx => List.mem_append_left _ hx)
    · exact .row (List.mem_append_right _ h1)
  · rcases List.mem_append.1 hr with h1 | h1
    · exact (h.2 r h1).mono (fun x hx => List.mem_append_left _ hx)
    · exact .row (List.mem_append_right _ h1)
/-- a vector cleared by the rows of a reduced form -/
structure Clr (p : Int) (n : Nat) (R : List (List Int)) (piv : Nat → Nat) (v u : List Int) (k : Nat) : Prop where
  len : u.length = n
  rng : ∀ j, j < n → 0 ≤ el u j ∧ el u j < p
  zero : ∀ i, i < k → el u (piv i) = 0
  sp : ∃ f, Sp p R f ∧ ∀ j, p ∣ el v j - f j - el u j
section
variable {p : Int} {n k : Nat} {R : List (List Int)} {piv : Nat → Nat} {v u : List Int}
theorem Clr.start (hl : v.length = n) (hg : ∀ j, j < n → 0 ≤ el v j ∧ el v j < p) : Clr p n R piv v v 0 :=
  ⟨hl, hg, fun i hi => absurd hi (by omega), ⟨_, .zero, fun j => ⟨0, by omega⟩⟩⟩
theorem Clr.skip (h : Clr p n R piv v u k) (hz : el u (piv k) = 0) : Clr p n R piv v u (k + 1) :=
  ⟨h.len, h.rng, fun i hi => by
    by_cases he : i = k
    · subst he; exact hz
    · exact h.zero i (by omega), h.sp⟩
theorem Clr.step (h : Clr p n R piv v u k) (hR : Rref p n R piv) (hk : k < R.length) (hp : 2 ≤ p) : Clr p n R piv v (addm p (p - el u (piv k)) u (rw_ R k)) (k + 1) := by
  have hpn := fun i (hi : i < R.length) => hR.pn i hi
  have e1 : ∀ j, j < n → el (addm p (p - el u (piv k)) u (rw_ R k)) j = (el u j + (p - el u (piv k)) * el (rw_ R k) j) % p := fun j hj => el_addm (by rw [h.len]; exact hj)
  refine ⟨by rw [addm_len]; exact h.len, fun j hj => by rw [e1 j hj]; exact emod_bd _ _ (by omega), fun i hi => ?_, ?_⟩
  · rw [e1 _ (hpn i (by omega))]
    by_cases he : i = k
    · subst he
      rw [hR.one i hk]
      have e : el u (piv i) + (p - el u (piv i)) * 1 = p := by omega
      rw [e]; exact Int.emod_self
    · rw [hR.clr k i hk (by omega) (fun x => he x.symm), h.zero i (by omega)]; simp
  · obtain ⟨f, hf, hd⟩ := h.sp
    refine ⟨_, hf.addmul (-(p - el u (piv k))) (.at hk), fun j => ?_⟩
    by_cases hj : j < n
    · rw [e1 j hj]
      have h1 := dvd_sub_emod (el u j + (p - el u (piv k)) * el (rw_ R k) j) p
      have h2 := hd j
      have e : el v j - (f j + -(p - el u (piv k)) * el (rw_ R k) j) - (el u j + (p - el u (piv k)) * el (rw_ R k) j) % p = (el v j - f j - el u j) + ((el u j + (p - el u (piv k)) * el (rw_ R k) j) - (el u j + (p - el u (piv k)) * el (rw_ R k) j) % p) := by grind
      rw [e]; exact Int.dvd_add h2 h1
    · have h2 := hd j
      rw [el_ge (xs := rw_ R k) (by rw [hR.len k hk]; omega), el_ge (show (addm p (p - el u (piv k)) u (rw_ R k)).length ≤ j by rw [addm_len, h.len]; omega)]
      rw [el_ge (xs := u) (by rw [h.len]; omega)] at h2
      simpa using h2
end
theorem Rref.isLead {p : Int} {n : Nat} {R : List (List Int)} {piv : Nat → Nat} (h : Rref p n R piv) {i : Nat} (hi : i < R.length) : IsLead (rw_ R i) (piv i) :=
  ⟨by rw [h.len i hi]; exact Nat.le_of_lt (h.pn i hi), fun j hj => h.lead i j hi hj, fun _ => by rw [h.one i hi]; omega⟩
theorem Rref.nil (p : Int) (n : Nat) (piv : Nat → Nat) : Rref p n [] piv :=
  ⟨fun i h => absurd h (by simp), fun i j h => absurd h (by simp), fun i h => absurd h (by simp), fun i k _ h => absurd h (by simp), fun i j h => absurd h (by simp), fun i h => absurd h (by simp), fun i k h => absurd h (by simp)⟩
/-- how many pivots stand ahead of k -/
theorem Rref.split {p : Int} {n : Nat} {R : List (List Int)} {piv : Nat → Nat} (h : Rref p n R piv) (k : Nat) (hne : ∀ i, i < R.length → piv i ≠ k) : ∃ s, s ≤ R.length ∧ (∀ i, i < s → piv i < k) ∧ ∀ i, s ≤ i → i < R.length → k < piv i := by
  have key : ∀ m, m ≤ R.length → ∃ s, s ≤ m ∧ (∀ i, i < s → piv i < k) ∧ ∀ i, s ≤ i → i < m → k < piv i := by
    intro m
    induction m with
    | zero => intro _; exact ⟨0, Nat.le_refl _, fun i hi => absurd hi (by omega), fun i _ hi => absurd hi (by omega)⟩
    | succ m ih =>
      intro hm
      obtain ⟨s, h1, h2, h3⟩ := ih (by omega)
      by_cases hlt : piv m < k
      · have hsm : s = m := by
          refine Nat.le_antisymm h1 (Nat.le_of_not_lt fun hlt2 => ?_)
          have h4 := h3 s (Nat.le_refl _) hlt2
          have h5 := h.mono s m hlt2 (by omega)
          omega
        subst hsm
        exact ⟨s + 1, Nat.le_refl _, fun i hi => by
          by_cases he : i = s
          · subst he; exact hlt
          · exact h2 i (by omega), fun i hi1 hi2 => absurd hi2 (by omega)⟩
      · refine ⟨s, by omega, h2, fun i hi1 hi2 => ?_⟩
        by_cases he : i = m
        · subst he; have := hne i (by omega); omega
        · exact h3 i hi1 (by omega)
  exact key R.length (Nat.le_refl _)
end Go.Proofs.Ytpkdgemnddcefaa
