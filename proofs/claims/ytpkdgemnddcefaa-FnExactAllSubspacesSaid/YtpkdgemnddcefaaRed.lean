/- Bringing rows into reduced echelon form modulo p: the steps, and what they keep. No program in sight. -/
import Derived.Test.YtpkdgemnddcefaaRref
import Derived.Test.YtpkdgemnddcefaaOwnR
set_option linter.unusedVariables false
set_option linter.unusedSimpArgs false
namespace Go.Proofs.Ytpkdgemnddcefaa

/-! ### lists given by a function -/
def tab {α : Type} (n : Nat) (f : Nat → α) : List α := (List.range n).map f
theorem tab_len {α : Type} (n : Nat) (f : Nat → α) : (tab n f).length = n := by simp [tab]
theorem el_tab {n j : Nat} {f : Nat → Int} (h : j < n) : el (tab n f) j = f j := by simp [tab, el, h]
theorem el_ge {xs : List Int} {j : Nat} (h : xs.length ≤ j) : el xs j = 0 := by simp [el, List.getElem?_eq_none h]
theorem rw_tab {n i : Nat} {f : Nat → List Int} (h : i < n) : rw_ (tab n f) i = f i := by simp [tab, rw_, h]
theorem rows_ext {A B : List (List Int)} (hl : A.length = B.length) (h : ∀ i, i < A.length → rw_ A i = rw_ B i) : A = B := by
  refine List.ext_getElem hl fun i h1 h2 => ?_
  have := h i h1
  rwa [show rw_ A i = A[i] by simp [rw_, h1], show rw_ B i = B[i] by simp [rw_, h2]] at this
theorem tab_rw (A : List (List Int)) : tab A.length (rw_ A) = A := rows_ext (tab_len _ _) (fun i hi => rw_tab (by rwa [tab_len] at hi))
theorem tab_el (xs : List Int) : tab xs.length (el xs) = xs := list_ext (tab_len _ _) (fun i hi => el_tab (by rwa [tab_len] at hi))
theorem tab_congr {α : Type} {n : Nat} {f g : Nat → α} (h : ∀ i, i < n → f i = g i) : tab n f = tab n g := by
  unfold tab
  exact List.map_congr_left fun i hi => h i (by simpa using hi)
theorem mem_tab {α : Type} {n : Nat} {f : Nat → α} {x : α} (h : x ∈ tab n f) : ∃ i, i < n ∧ f i = x := by
  unfold tab at h
  obtain ⟨i, hi, e⟩ := List.mem_map.1 h
  exact ⟨i, by simpa using hi, e⟩
theorem mem_rows {A : List (List Int)} {r : List Int} (h : r ∈ A) : ∃ i, i < A.length ∧ rw_ A i = r := by
  obtain ⟨k, hk, e⟩ := List.getElem_of_mem h
  exact ⟨k, hk, by simp [rw_, hk, e]⟩

/-! ### rows modulo p -/
/-- a row plus a multiple of another one -/
def addm (p k : Int) (r o : List Int) : List Int := tab r.length fun j => (el r j + k * el o j) % p
/-- a multiple of a row -/
def scalem (p k : Int) (r : List Int) : List Int := tab r.length fun j => el r j * k % p
theorem addm_len (p k : Int) (r o : List Int) : (addm p k r o).length = r.length := tab_len _ _
theorem scalem_len (p k : Int) (r : List Int) : (scalem p k r).length = r.length := tab_len _ _
theorem el_addm {p k : Int} {r o : List Int} {j : Nat} (h : j < r.length) : el (addm p k r o) j = (el r j + k * el o j) % p := el_tab h
theorem el_scalem {p k : Int} {r : List Int} {j : Nat} (h : j < r.length) : el (scalem p k r) j = el r j * k % p := el_tab h
theorem dvd_sub_emod (x p : Int) : p ∣ x - x % p := ⟨x / p, by have := Int.mul_ediv_add_emod x p; omega⟩
section
variable {p k : Int} {rows A B : List (List Int)} {r o : List Int}
theorem Sp.addrow (hr : Sp p rows (el r)) (ho : Sp p rows (el o)) (k : Int) (hl : o.length ≤ r.length) : Sp p rows (el (addm p k r o)) := by
  refine (hr.addmul k ho).cong fun j => ?_
  by_cases hj : j < r.length
  · rw [el_addm hj]; exact dvd_sub_emod _ _
  · rw [el_ge (show (addm p k r o).length ≤ j by rw [addm_len]; omega), el_ge (xs := r) (by omega), el_ge (xs := o) (by omega)]
    exact ⟨0, by simp⟩
/-- .. and back -/
theorem Sp.unaddrow (ha : Sp p rows (el (addm p k r o))) (ho : Sp p rows (el o)) (hl : o.length ≤ r.length) : Sp p rows (el r) := by
  refine (ha.addmul (-k) ho).cong fun j => ?_
  by_cases hj : j < r.length
  · rw [el_addm hj]
    have h1 := dvd_sub_emod (el r j + k * el o j) p
    have e : (el r j + k * el o j) % p + -k * el o j - el r j = -1 * (el r j + k * el o j - (el r j + k * el o j) % p) := by grind
    rw [e]; exact dvdR h1 _
  · rw [el_ge (show (addm p k r o).length ≤ j by rw [addm_len]; omega), el_ge (xs := r) (by omega), el_ge (xs := o) (by omega)]
    exact ⟨0, by simp⟩
theorem Sp.scal (hr : Sp p rows (el r)) (k : Int) : Sp p rows (el (scalem p k r)) := by
  refine (hr.smul k).cong fun j => ?_
  by_cases hj : j < r.length
  · rw [el_scalem hj, Int.mul_comm k]; exact dvd_sub_emod _ _
  · rw [el_ge (show (scalem p k r).length ≤ j by rw [scalem_len]; omega), el_ge (xs := r) (by omega)]
    exact ⟨0, by simp⟩
theorem Sp.unscal {a x : Int} (hr : Sp p rows (el (scalem p x r))) (hi : IsInv a p x) : Sp p rows (el r) := by
  refine (hr.smul a).cong fun j => ?_
  by_cases hj : j < r.length
  · rw [el_scalem hj]
    have h1 := dvd_sub_emod (el r j * x) p
    obtain ⟨q, hq⟩ := hi.2.2
    have e : a * (el r j * x % p) - el r j = -a * (el r j * x - el r j * x % p) + el r j * (a * x - 1) := by grind
    rw [e]
    exact Int.dvd_add (dvdR h1 _) (dvdR hi.2.2 _)
  · rw [el_ge (show (scalem p x r).length ≤ j by rw [scalem_len]; omega), el_ge (xs := r) (by omega)]
    exact ⟨0, by simp⟩
theorem SpEq.of (h1 : ∀ i, i < A.length → Sp p B (el (rw_ A i))) (h2 : ∀ i, i < B.length → Sp p A (el (rw_ B i))) : SpEq p A B :=
  ⟨fun r hr => by obtain ⟨i, hi, rfl⟩ := mem_rows hr; exact h1 i hi, fun r hr => by obtain ⟨i, hi, rfl⟩ := mem_rows hr; exact h2 i hi⟩
theorem Sp.at {i : Nat} (h : i < rows.length) : Sp p rows (el (rw_ rows i)) := .row (rw_mem h)
end

/-! ### the rows exchanged -/
def swi (d a i : Nat) : Nat := if i = d then a else if i = a then d else i
theorem swi_lt {d a i m : Nat} (hd : d < m) (ha : a < m) (hi : i < m) : swi d a i < m := by unfold swi; split <;> (try split) <;> omega
theorem swi_swi (d a i : Nat) : swi d a (swi d a i) = i := by unfold swi; split <;> (try split) <;> (try split) <;> omega
theorem swi_ge {d a i : Nat} (ha : d ≤ a) (hi : d ≤ i) : d ≤ swi d a i := by unfold swi; split <;> (try split) <;> omega
theorem swi_low {d a i : Nat} (ha : d ≤ a) (hi : i < d) : swi d a i = i := by unfold swi; rw [if_neg (by omega), if_neg (by omega)]
theorem swi_d (d a : Nat) : swi d a d = a := if_pos rfl
def swR (xss : List (List Int)) (d a : Nat) : List (List Int) := tab xss.length fun i => rw_ xss (swi d a i)
theorem swR_len (xss : List (List Int)) (d a : Nat) : (swR xss d a).length = xss.length := tab_len _ _
theorem swR_row {xss : List (List Int)} {d a i : Nat} (h : i < xss.length) : rw_ (swR xss d a) i = rw_ xss (swi d a i) := rw_tab h
theorem swR_sp (p : Int) {xss : List (List Int)} {d a : Nat} (hd : d < xss.length) (ha : a < xss.length) : SpEq p xss (swR xss d a) := by
  refine .of (fun i hi => ?_) (fun i hi => ?_)
  · have h1 := swi_lt (d := d) (a := a) hd ha hi
    have e : rw_ xss i = rw_ (swR xss d a) (swi d a i) := by rw [swR_row h1, swi_swi]
    rw [e]; exact .at (by rw [swR_len]; exact h1)
  · rw [swR_len] at hi
    rw [swR_row hi]; exact .at (swi_lt hd ha hi)

/-- the row d scaled -/
def scR (p x : Int) (xss : List (List Int)) (d : Nat) : List (List Int) := tab xss.length fun i => if i = d then scalem p x (rw_ xss d) else rw_ xss i
theorem scR_len (p x : Int) (xss : List (List Int)) (d : Nat) : (scR p x xss d).length = xss.length := tab_len _ _
theorem scR_sp {p a x : Int} {xss : List (List Int)} {d : Nat} (hd : d < xss.length) (hi : IsInv a p x) : SpEq p xss (scR p x xss d) := by
  have e1 : rw_ (scR p x xss d) d = scalem p x (rw_ xss d) := by unfold scR; rw [rw_tab hd, if_pos rfl]
  refine .of (fun i h => ?_) (fun i h => ?_)
  · by_cases he : i = d
    · subst he
      refine Sp.unscal (x := x) ?_ hi
      rw [← e1]; exact .at (by rw [scR_len]; exact h)
    · have e : rw_ xss i = rw_ (scR p x xss d) i := by unfold scR; rw [rw_tab h, if_neg he]
      rw [e]; exact .at (by rw [scR_len]; exact h)
  · rw [scR_len] at h
    by_cases he : i = d
    · subst he; rw [e1]; exact (Sp.at h).scal x
    · have e : rw_ xss i = rw_ (scR p x xss d) i := by unfold scR; rw [rw_tab h, if_neg he]
      rw [← e]; exact .at h

/-- the first k rows, but row d, with a multiple of row d that makes the entry in column c vanish -/
def elR (p : Int) (xss : List (List Int)) (d c k : Nat) : List (List Int) := tab xss.length fun i => if i < k ∧ i ≠ d then addm p (-(el (rw_ xss i) c)) (rw_ xss i) (rw_ xss d) else rw_ xss i
theorem elR_len (p : Int) (xss : List (List Int)) (d c k : Nat) : (elR p xss d c k).length = xss.length := tab_len _ _
theorem elR_yes {p : Int} {xss : List (List Int)} {d c k i : Nat} (h : i < xss.length) (hk : i < k) (hd : i ≠ d) : rw_ (elR p xss d c k) i = addm p (-(el (rw_ xss i) c)) (rw_ xss i) (rw_ xss d) := by
  unfold elR; rw [rw_tab h, if_pos ⟨hk, hd⟩]
theorem elR_no {p : Int} {xss : List (List Int)} {d c k i : Nat} (h : i < xss.length) (hk : k ≤ i ∨ i = d) : rw_ (elR p xss d c k) i = rw_ xss i := by
  unfold elR; rw [rw_tab h, if_neg (fun hh => by omega)]
theorem elR_zero (p : Int) (xss : List (List Int)) (d c : Nat) : elR p xss d c 0 = xss :=
  rows_ext (elR_len _ _ _ _ _) (fun i hi => elR_no (by rwa [elR_len] at hi) (.inl (by omega)))
theorem elR_sp {p : Int} {xss : List (List Int)} {d c k n : Nat} (hd : d < xss.length) (hn : ∀ i, i < xss.length → (rw_ xss i).length = n) : SpEq p xss (elR p xss d c k) := by
  have ed : rw_ (elR p xss d c k) d = rw_ xss d := elR_no hd (.inr rfl)
  have hs : Sp p (elR p xss d c k) (el (rw_ xss d)) := by rw [← ed]; exact .at (by rw [elR_len]; exact hd)
  refine .of (fun i h => ?_) (fun i h => ?_)
  · by_cases he : i < k ∧ i ≠ d
    · refine Sp.unaddrow (k := -(el (rw_ xss i) c)) (o := rw_ xss d) ?_ hs (by rw [hn d hd, hn i h]; exact Nat.le_refl _)
      rw [← elR_yes h he.1 he.2]; exact .at (by rw [elR_len]; exact h)
    · rw [← elR_no (p := p) (d := d) (c := c) (k := k) h (by omega)]; exact .at (by rw [elR_len]; exact h)
  · rw [elR_len] at h
    by_cases he : i < k ∧ i ≠ d
    · rw [elR_yes h he.1 he.2]; exact (Sp.at h).addrow (.at hd) _ (by rw [hn d hd, hn i h]; exact Nat.le_refl _)
    · rw [elR_no h (by omega)]; exact .at h

/-! ### the state of the reduction -/
structure Red (p : Int) (n : Nat) (rows0 xss : List (List Int)) (c d : Nat) (piv : Nat → Nat) : Prop where
  sp : SpEq p rows0 xss
  row : ∀ i, i < xss.length → (rw_ xss i).length = n
  rng : ∀ i j, i < xss.length → j < n → 0 ≤ el (rw_ xss i) j ∧ el (rw_ xss i) j < p
  dl : d ≤ xss.length
  cn : c ≤ n
  pc : ∀ i, i < d → piv i < c
  mono : ∀ i k, i < k → k < d → piv i < piv k
  lead : ∀ i j, i < d → j < piv i → el (rw_ xss i) j = 0
  one : ∀ i, i < d → el (rw_ xss i) (piv i) = 1
  clr : ∀ i k, i < xss.length → k < d → i ≠ k → el (rw_ xss i) (piv k) = 0
  low : ∀ i j, d ≤ i → i < xss.length → j < c → el (rw_ xss i) j = 0
section
variable {p : Int} {n c d : Nat} {rows0 xss : List (List Int)} {piv : Nat → Nat}
theorem Red.start (hr : ∀ i, i < xss.length → (rw_ xss i).length = n) (hg : ∀ i j, i < xss.length → j < n → 0 ≤ el (rw_ xss i) j ∧ el (rw_ xss i) j < p) (piv : Nat → Nat) : Red p n xss xss 0 0 piv :=
  ⟨.refl _ _, hr, hg, Nat.zero_le _, Nat.zero_le _, fun i h => absurd h (by omega), fun i k _ h => absurd h (by omega), fun i j h => absurd h (by omega), fun i h => absurd h (by omega), fun i k _ h => absurd h (by omega), fun i j _ _ h => absurd h (by omega)⟩
theorem Red.skip (h : Red p n rows0 xss c d piv) (hc : c < n) (hz : ∀ i, d ≤ i → i < xss.length → el (rw_ xss i) c = 0) : Red p n rows0 xss (c + 1) d piv :=
  ⟨h.sp, h.row, h.rng, h.dl, hc, fun i hi => by have := h.pc i hi; omega, h.mono, h.lead, h.one, h.clr, fun i j h1 h2 h3 => by
    by_cases he : j = c
    · subst he; exact hz i h1 h2
    · exact h.low i j h1 h2 (by omega)⟩
/-- one step: rows exchanged, the pivot's row scaled, its column cleared -/
def stepR (p x : Int) (xss : List (List Int)) (d a c : Nat) : List (List Int) := elR p (scR p x (swR xss d a) d) d c xss.length
theorem Red.step {a : Nat} {x : Int} (h : Red p n rows0 xss c d piv) (hp : 2 ≤ p) (hc : c < n) (hda : d ≤ a) (ha : a < xss.length) (hi : IsInv (el (rw_ xss a) c) p x) :
    Red p n rows0 (stepR p x xss d a c) (c + 1) (d + 1) (upd piv d c) := by
  have hd : d < xss.length := by omega
  have l1 : (swR xss d a).length = xss.length := swR_len _ _ _
  have l2 : (scR p x (swR xss d a) d).length = xss.length := by rw [scR_len, l1]
  have l3 : (stepR p x xss d a c).length = xss.length := by unfold stepR; rw [elR_len, l2]
  have hone : el (rw_ xss a) c * x % p = 1 := by
    obtain ⟨q, hq⟩ := hi.2.2
    have e : el (rw_ xss a) c * x = 1 + p * q := by omega
    rw [e, Int.add_mul_emod_self_left]
    exact Int.emod_eq_of_lt (by omega) (by omega)
  have hS : ∀ i, i < xss.length → rw_ (scR p x (swR xss d a) d) i = if i = d then scalem p x (rw_ xss a) else rw_ xss (swi d a i) := fun i hi => by
    unfold scR
    rw [rw_tab (by rw [l1]; exact hi)]
    by_cases he : i = d
    · rw [if_pos he, if_pos he, swR_row hd, swi_d]
    · rw [if_neg he, if_neg he, swR_row hi]
  have hSd := hS d hd
  rw [if_pos rfl] at hSd
  have hsn : ∀ i, i < xss.length → (rw_ (scR p x (swR xss d a) d) i).length = n := fun i hi => by
    rw [hS i hi]
    by_cases he : i = d
    · rw [if_pos he, scalem_len, h.row a ha]
    · rw [if_neg he, h.row _ (swi_lt hd ha hi)]
  have hD : rw_ (stepR p x xss d a c) d = scalem p x (rw_ xss a) := by
    unfold stepR; rw [elR_no (by rw [l2]; exact hd) (.inr rfl), hSd]
  have hN : ∀ i, i < xss.length → i ≠ d → rw_ (stepR p x xss d a c) i = addm p (-(el (rw_ xss (swi d a i)) c)) (rw_ xss (swi d a i)) (scalem p x (rw_ xss a)) := fun i hi he => by
    unfold stepR; rw [elR_yes (by rw [l2]; exact hi) hi he, hSd, hS i hi, if_neg he]
  have ra := h.row a ha
  have eD : ∀ j, j < n → el (rw_ (stepR p x xss d a c) d) j = el (rw_ xss a) j * x % p := fun j hj => by rw [hD, el_scalem (by rw [ra]; exact hj)]
  have eN : ∀ i j, i < xss.length → i ≠ d → j < n → el (rw_ (stepR p x xss d a c) i) j = (el (rw_ xss (swi d a i)) j + -(el (rw_ xss (swi d a i)) c) * (el (rw_ xss a) j * x % p)) % p := fun i j hi he hj => by
    rw [hN i hi he, el_addm (by rw [h.row _ (swi_lt hd ha hi)]; exact hj), el_scalem (by rw [ra]; exact hj)]
  have zN : ∀ i j, i < xss.length → i ≠ d → j < n → el (rw_ xss (swi d a i)) j = 0 → el (rw_ xss a) j = 0 → el (rw_ (stepR p x xss d a c) i) j = 0 := fun i j hi he hj h1 h2 => by
    rw [eN i j hi he hj, h1, h2]; simp
  refine ⟨?_, fun i hi => ?_, fun i j hi hj => ?_, by rw [l3]; omega, hc, fun i hi => ?_, fun i k hik hk => ?_, fun i j hi hj => ?_, fun i hi => ?_, fun i k hi hk hne => ?_, fun i j h1 h2 h3 => ?_⟩
  · refine h.sp.trans ((swR_sp p hd ha).trans ((scR_sp (by rw [l1]; exact hd) hi).trans ?_))
    exact elR_sp (n := n) (by rw [l2]; exact hd) (fun i hi => hsn i (by rwa [l2] at hi))
  · rw [l3] at hi
    by_cases he : i = d
    · subst he; rw [hD, scalem_len, ra]
    · rw [hN i hi he, addm_len, h.row _ (swi_lt hd ha hi)]
  · rw [l3] at hi
    by_cases he : i = d
    · subst he; rw [eD j hj]; exact emod_bd _ _ (by omega)
    · rw [eN i j hi he hj]; exact emod_bd _ _ (by omega)
  · by_cases he : i = d
    · subst he; rw [upd_eq]; omega
    · rw [upd_lt (show i < d by omega)]; have := h.pc i (by omega); omega
  · by_cases he : k = d
    · subst he; rw [upd_eq, upd_lt hik]; exact h.pc i hik
    · rw [upd_lt (show k < d by omega), upd_lt (show i < d by omega)]; exact h.mono i k hik (by omega)
  · by_cases he : i = d
    · subst he; rw [upd_eq] at hj
      rw [eD j (by omega), h.low a j hda ha hj]; simp
    · have hid : i < d := by omega
      rw [upd_lt hid] at hj
      have hpi := h.pc i hid
      refine zN i j (by omega) he (by omega) ?_ (h.low a j hda ha (by omega))
      rw [swi_low hda hid]; exact h.lead i j hid hj
  · by_cases he : i = d
    · subst he; rw [upd_eq, eD c hc]; exact hone
    · have hid : i < d := by omega
      have hpi := h.pc i hid
      rw [upd_lt hid, eN i _ (by omega) he (by omega), swi_low hda hid, h.one i hid, h.low a _ hda ha hpi]
      simp only [Int.zero_mul, Int.zero_emod, Int.mul_zero, Int.add_zero]
      exact Int.emod_eq_of_lt (by omega) (by omega)
  · rw [l3] at hi
    by_cases hkd : k = d
    · subst hkd
      rw [upd_eq, eN i c hi hne hc, hone]
      have e : el (rw_ xss (swi k a i)) c + -(el (rw_ xss (swi k a i)) c) * 1 = 0 := by omega
      rw [e]; simp
    · have hk' : k < d := by omega
      have hpk := h.pc k hk'
      rw [upd_lt hk']
      have hza := h.clr a k ha hk' (by omega)
      by_cases he : i = d
      · subst he; rw [eD _ (by omega), hza]; simp
      · refine zN i _ hi he (by omega) (h.clr _ k (swi_lt hd ha hi) hk' ?_) hza
        by_cases hid : i < d
        · rw [swi_low hda hid]; exact hne
        · have := swi_ge hda (show d ≤ i by omega); omega
  · rw [l3] at h2
    have hid : i ≠ d := by omega
    have hge := swi_ge hda (show d ≤ i by omega)
    by_cases he : j = c
    · subst he
      rw [eN i j h2 hid hc, hone]
      have e : el (rw_ xss (swi d a i)) j + -(el (rw_ xss (swi d a i)) j) * 1 = 0 := by omega
      rw [e]; simp
    · exact zN i j h2 hid (by omega) (h.low _ j hge (swi_lt hd ha h2) (by omega)) (h.low a j hda ha (by omega))
theorem take_row {xss : List (List Int)} {d i : Nat} (h : i < d) : rw_ (xss.take d) i = rw_ xss i := by simp [rw_, List.getElem?_take, h]
/-- R is the reduced form of the rows -/
def IsRref (p : Int) (n : Nat) (rows R : List (List Int)) : Prop := ∃ piv, Rref p n R piv ∧ SpEq p rows R
theorem IsRref.unique {rows R S : List (List Int)} (h : IsRref p n rows R) (k : IsRref p n rows S) (hp : 2 ≤ p) : R = S := by
  obtain ⟨π, h1, h2⟩ := h
  obtain ⟨σ, k1, k2⟩ := k
  exact h1.unique k1 hp (h2.symm.trans k2)
theorem IsRref.congr {rows rows' R : List (List Int)} (h : IsRref p n rows R) (hs : SpEq p rows' rows) : IsRref p n rows' R := by
  obtain ⟨π, h1, h2⟩ := h
  exact ⟨π, h1, hs.trans h2⟩
theorem Red.fin (h : Red p n rows0 xss c d piv) (he : c = n ∨ d = xss.length) : IsRref p n rows0 (xss.take d) := by
  have hl : (xss.take d).length = d := by have := h.dl; simp; omega
  have hdl := h.dl
  refine ⟨piv, ⟨fun i hi => ?_, fun i j hi hj => ?_, fun i hi => ?_, fun i k hik hk => ?_, fun i j hi hj => ?_, fun i hi => ?_, fun i k hi hk hne => ?_⟩, h.sp.trans (.of (fun i hi => ?_) (fun i hi => ?_))⟩
  · rw [hl] at hi; rw [take_row hi]; exact h.row i (by omega)
  · rw [hl] at hi; rw [take_row hi]; exact h.rng i j (by omega) hj
  · rw [hl] at hi; have := h.pc i hi; have := h.cn; omega
  · rw [hl] at hk; exact h.mono i k hik hk
  · rw [hl] at hi; rw [take_row hi]; exact h.lead i j hi hj
  · rw [hl] at hi; rw [take_row hi]; exact h.one i hi
  · rw [hl] at hi hk; rw [take_row hi]; exact h.clr i k (by omega) hk hne
  · by_cases hid : i < d
    · rw [← take_row (xss := xss) hid]; exact .at (by rw [hl]; exact hid)
    · refine Sp.zero.eq fun j => ?_
      by_cases hj : j < n
      · rcases he with he | he
        · subst he; exact (h.low i j (by omega) hi hj).symm
        · omega
      · exact (el_ge (by rw [h.row i hi]; omega)).symm
  · rw [hl] at hi; rw [take_row hi]; exact .at (by omega)
theorem IsRref.len {rows R : List (List Int)} (h : IsRref p n rows R) : R.length ≤ n := by
  obtain ⟨π, h1, _⟩ := h
  have hm : ∀ i, i < R.length → i ≤ π i := by
    intro i
    induction i with
    | zero => intro _; exact Nat.zero_le _
    | succ i ih =>
      intro hi
      have h2 := ih (by omega)
      have h3 := h1.mono i (i + 1) (by omega) hi
      omega
  refine Nat.le_of_not_lt fun hlt => ?_
  have h2 := hm n hlt
  have h3 := h1.pn n hlt
  omega
theorem IsRref.row {rows R : List (List Int)} (h : IsRref p n rows R) (i : Nat) (hi : i < R.length) : (rw_ R i).length = n := by
  obtain ⟨π, h1, _⟩ := h; exact h1.len i hi
theorem IsRref.rng {rows R : List (List Int)} (h : IsRref p n rows R) (i j : Nat) (hi : i < R.length) (hj : j < n) : 0 ≤ el (rw_ R i) j ∧ el (rw_ R i) j < p := by
  obtain ⟨π, h1, _⟩ := h; exact h1.rng i j hi hj
end
end Go.Proofs.Ytpkdgemnddcefaa
