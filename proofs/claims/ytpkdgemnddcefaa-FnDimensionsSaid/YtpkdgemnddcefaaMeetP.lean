/- The intersection of two subspaces, by annihilators and by a null space. No program in sight. -/
import Derived.Test.YtpkdgemnddcefaaNull
import Derived.Test.YtpkdgemnddcefaaMatTr
import Derived.Test.YtpkdgemnddcefaaAppR
set_option linter.unusedVariables false
set_option linter.unusedSimpArgs false
namespace Go.Proofs.Ytpkdgemnddcefaa
open Go.RowKit

theorem sm_swap (f : Nat → Nat → Int) (a : Nat) : ∀ b : Nat, sm (fun i => sm (fun j => f i j) b) a = sm (fun j => sm (fun i => f i j) a) b
  | 0 => by simp only [sm]; exact sm_zero fun _ _ => rfl
  | b + 1 => by
    simp only [sm]
    rw [sm_add (fun i => sm (fun j => f i j) b) (fun i => f i b) a, sm_swap f a b]
theorem sm_mulr (c : Int) (f : Nat → Int) (n : Nat) : sm (fun i => f i * c) n = sm f n * c := by
  rw [sm_congr (g := fun i => c * f i) (fun i _ => Int.mul_comm _ _), sm_mul, Int.mul_comm]
theorem sm_sub (f g : Nat → Int) (n : Nat) : sm (fun i => f i - g i) n = sm f n - sm g n := by
  rw [sm_congr (g := fun i => f i + (-1) * g i) (fun i _ => by omega), sm_add, sm_mul]; omega
theorem sm_dcongr {p : Int} {f g : Nat → Int} {n : Nat} (h : ∀ i, i < n → p ∣ f i - g i) : p ∣ sm f n - sm g n := by
  rw [← sm_sub]; exact sm_dvd h
/-- a combination of rows -/
theorem Sp.comb {p : Int} {rows : List (List Int)} (c : Nat → Int) : ∀ {k : Nat}, k ≤ rows.length → Sp p rows (fun j => sm (fun i => c i * el (rw_ rows i) j) k)
  | 0, _ => Sp.zero
  | k + 1, h => (Sp.comb c (k := k) (by omega)).addmul (c k) (Sp.at (by omega))
/-- a linear relation that holds of the rows holds of the span -/
theorem Sp.lin {p : Int} {rows : List (List Int)} {f : Nat → Int} (n : Nat) (a : Nat → Int) (h : Sp p rows f) (hr : ∀ r, r ∈ rows → p ∣ sm (fun i => el r i * a i) n) : p ∣ sm (fun i => f i * a i) n := by
  induction h with
  | zero => rw [sm_zero fun i _ => by simp]; exact ⟨0, by simp⟩
  | add c _ hm ih =>
    rename_i f r hs
    rw [sm_congr (g := fun i => f i * a i + c * (el r i * a i)) (fun i _ => by grind), sm_add, sm_mul]
    exact Int.dvd_add ih (Int.dvd_mul_of_dvd_right (hr _ hm))
  | cong _ hd ih =>
    rename_i f g hs
    have h2 := sm_dcongr (p := p) (n := n) (f := fun i => f i * a i) (g := fun i => g i * a i) fun i _ => by
      obtain ⟨x, hx⟩ := hd i
      exact ⟨x * a i, by rw [← Int.sub_mul, hx, Int.mul_assoc]⟩
    have := Int.dvd_sub ih h2
    rwa [Int.sub_sub_self] at this
theorem el_unit {n k i : Nat} (hi : i < n) : el (unitR n k) i = if i = k then 1 else 0 := by unfold unitR; rw [el_tab hi]
/-- what holds of the rows with the identity behind them -/
theorem wide_rel {p : Int} {m n : Nat} {xss : List (List Int)} {g : Nat → Int} (hr : Rws p m xss) (hl : xss.length = n) (h : Sp p (wideR xss) g) (j : Nat) (hj : j < m) : p ∣ g j - sm (fun i => g (m + i) * el (rw_ xss i) j) n := by
  subst hl
  induction h with
  | zero => rw [sm_zero fun i _ => by simp]; exact ⟨0, by simp⟩
  | add c _ hm ih =>
    rename_i f r hs
    obtain ⟨k, hk, e⟩ := mem_rows hm
    rw [wideR_len] at hk
    rw [wideR_row hk] at e
    have hlk := hr.row k hk
    have e1 : el r j = el (rw_ xss k) j := by rw [← e, el_app_l (by omega)]
    have e2 : sm (fun i => el r (m + i) * el (rw_ xss i) j) xss.length = el (rw_ xss k) j := by
      rw [sm_single hk (fun i hi hne => by rw [← e, el_app_r (by omega), hlk, Nat.add_sub_cancel_left, el_unit hi, if_neg hne]; simp)]
      rw [← e, el_app_r (by omega), hlk, Nat.add_sub_cancel_left, el_unit hk, if_pos rfl]; simp
    have e3 : sm (fun i => (f (m + i) + c * el r (m + i)) * el (rw_ xss i) j) xss.length = sm (fun i => f (m + i) * el (rw_ xss i) j) xss.length + c * el (rw_ xss k) j := by
      rw [sm_congr (g := fun i => f (m + i) * el (rw_ xss i) j + c * (el r (m + i) * el (rw_ xss i) j)) (fun i _ => by grind), sm_add, sm_mul, e2]
    rw [e3]
    show p ∣ f j + c * el r j - (sm (fun i => f (m + i) * el (rw_ xss i) j) xss.length + c * el (rw_ xss k) j)
    rw [e1]
    have e4 : f j + c * el (rw_ xss k) j - (sm (fun i => f (m + i) * el (rw_ xss i) j) xss.length + c * el (rw_ xss k) j) = f j - sm (fun i => f (m + i) * el (rw_ xss i) j) xss.length := by omega
    rw [e4]; exact ih
  | cong _ hd ih =>
    rename_i f g hs
    have h2 := sm_dcongr (p := p) (n := xss.length) (f := fun i => f (m + i) * el (rw_ xss i) j) (g := fun i => g (m + i) * el (rw_ xss i) j) fun i _ => by
      obtain ⟨x, hx⟩ := hd (m + i)
      exact ⟨x * el (rw_ xss i) j, by rw [← Int.sub_mul, hx, Int.mul_assoc]⟩
    have h3 := Int.dvd_sub (Int.dvd_add ih h2) (hd j)
    have e : f j - sm (fun i => f (m + i) * el (rw_ xss i) j) xss.length + (sm (fun i => f (m + i) * el (rw_ xss i) j) xss.length - sm (fun i => g (m + i) * el (rw_ xss i) j) xss.length) - (f j - g j) = g j - sm (fun i => g (m + i) * el (rw_ xss i) j) xss.length := by omega
    rwa [e] at h3
theorem cutL_mem {m i : Nat} {W : List (List Int)} (hi : i < W.length) (h : zeroB ((rw_ W i).take m) = true) : (rw_ W i).drop m ∈ cutL m W := by
  unfold cutL
  exact List.mem_map.2 ⟨rw_ W i, List.mem_filter.2 ⟨rw_mem hi, h⟩, rfl⟩
theorem cutL_of {m : Nat} {W : List (List Int)} {r : List Int} (h : r ∈ cutL m W) : ∃ i, i < W.length ∧ zeroB ((rw_ W i).take m) = true ∧ r = (rw_ W i).drop m := by
  unfold cutL at h
  obtain ⟨r0, h1, rfl⟩ := List.mem_map.1 h
  obtain ⟨h2, h3⟩ := List.mem_filter.1 h1
  obtain ⟨i, hi, rfl⟩ := mem_rows h2
  exact ⟨i, hi, h3, rfl⟩
theorem zeroB_el {xs : List Int} {m j : Nat} (h : zeroB (xs.take m) = true) (hj : j < m) : el xs j = 0 := by
  unfold zeroB at h
  have h2 : AllZ (xs.take m) := by simpa using h
  by_cases hl : j < xs.length
  · have := h2 j (by rw [List.length_take]; omega)
    rwa [el_take hj] at this
  · exact el_ge (by omega)
/-- the rows of a null space's basis, and what they span, are taken to zero -/
theorem NullR.sound {p : Int} {m n : Nat} {xss N : List (List Int)} {f : Nat → Int} (h : NullR p m xss N) (hr : Rws p m xss) (hl : xss.length = n) (hf : Sp p N f) (j : Nat) (hj : j < m) : p ∣ sm (fun i => f i * el (rw_ xss i) j) n := by
  subst hl
  obtain ⟨W, ⟨piv, hW, hS⟩, rfl⟩ := h
  refine hf.lin _ _ fun r hr2 => ?_
  obtain ⟨i, hi, hz, rfl⟩ := cutL_of hr2
  have h1 := wide_rel hr rfl (hS.2 _ (rw_mem hi)) j hj
  rw [zeroB_el hz hj] at h1
  rw [sm_congr (g := fun t => el (rw_ W i) (m + t) * el (rw_ xss t) j) (fun t _ => by rw [el_drop])]
  obtain ⟨x, hx⟩ := h1
  exact ⟨-x, by rw [Int.mul_neg, ← hx]; omega⟩
/-- and whatever is taken to zero lies in the span -/
theorem NullR.compl {p : Int} {m n : Nat} {xss N : List (List Int)} {x : Nat → Int} (h : NullR p m xss N) (hr : Rws p m xss) (hl : xss.length = n) (hx : ∀ i, n ≤ i → p ∣ x i) (h0 : ∀ j, j < m → p ∣ sm (fun i => x i * el (rw_ xss i) j) n) : Sp p N x := by
  subst hl
  obtain ⟨W, ⟨piv, hW, hS⟩, rfl⟩ := h
  have hg : Sp p (wideR xss) (fun j => if j < m then 0 else x (j - m)) := by
    refine (Sp.comb (rows := wideR xss) x (k := xss.length) (by rw [wideR_len]; exact Nat.le_refl _)).cong fun j => ?_
    by_cases hj : j < m
    · rw [if_pos hj, Int.sub_zero, sm_congr (g := fun i => x i * el (rw_ xss i) j) (fun i hi => by rw [wideR_row hi, el_app_l (by rw [hr.row i hi]; exact hj)])]
      exact h0 j hj
    · rw [if_neg hj]
      have e : ∀ i, i < xss.length → el (rw_ (wideR xss) i) j = el (unitR xss.length i) (j - m) := fun i hi => by rw [wideR_row hi, el_app_r (by rw [hr.row i hi]; omega), hr.row i hi]
      by_cases hj2 : j - m < xss.length
      · rw [sm_single hj2 (fun i hi hne => by rw [e i hi, el_unit hj2, if_neg (fun h => hne h.symm)]; simp), e _ hj2, el_unit hj2, if_pos rfl]
        exact ⟨0, by omega⟩
      · rw [sm_zero fun i hi => by rw [e i hi, el_ge (by rw [unitR_len]; omega)]; simp]
        obtain ⟨y, hy⟩ := hx (j - m) (by omega)
        exact ⟨-y, by rw [hy]; grind⟩
  have hc := hW.coord (hg.sub hS.1)
  have hk : ∀ k, k ≤ W.length → Sp p (cutL m W) (fun t => sm (fun i => (if piv i < m then 0 else x (piv i - m)) * el (rw_ W i) (m + t)) k) := by
    intro k
    induction k with
    | zero => intro _; exact Sp.zero
    | succ k ih =>
      intro hk
      simp only [sm]
      by_cases hp : piv k < m
      · rw [if_pos hp]
        exact (ih (by omega)).eq fun t => by simp
      · rw [if_neg hp]
        refine ((ih (by omega)).addmul (x (piv k - m)) (Sp.row (cutL_mem (show k < W.length by omega) (by rw [zero_of hW (by omega) (Nat.le_add_right _ _)]; exact decide_eq_true (by omega))))).eq fun t => ?_
        rw [el_drop]
  refine (hk W.length (Nat.le_refl _)).cong fun t => ?_
  have h1 := hc (m + t)
  rw [if_neg (by omega), Nat.add_sub_cancel_left] at h1
  obtain ⟨y, hy⟩ := h1
  exact ⟨-y, by rw [Int.mul_neg, ← hy]; omega⟩
/-- a vector to which all that is perpendicular to a reduced form's rows is perpendicular lies in their span -/
theorem Rref.perp {p : Int} {q : Nat} {R : List (List Int)} {piv : Nat → Nat} {x : Nat → Int} (h : Rref p q R piv) (hx : ∀ i, q ≤ i → p ∣ x i)
    (hp : ∀ y : Nat → Int, (∀ i, q ≤ i → y i = 0) → (∀ i, i < R.length → p ∣ sm (fun j => y j * el (rw_ R i) j) q) → p ∣ sm (fun j => x j * y j) q) : Sp p R x := by
  refine (Sp.comb (rows := R) (fun i => x (piv i)) (k := R.length) (Nat.le_refl _)).cong fun t => ?_
  by_cases ht : t < q
  · have key := hp (fun j => if j < q then (if j = t then 1 else 0) - sm (fun i => (if piv i = j then 1 else 0) * el (rw_ R i) t) R.length else 0) (fun i hi => if_neg (by omega)) fun k hk => ?_
    · have e : sm (fun j => x j * (if j < q then (if j = t then 1 else 0) - sm (fun i => (if piv i = j then 1 else 0) * el (rw_ R i) t) R.length else 0)) q = x t - sm (fun i => x (piv i) * el (rw_ R i) t) R.length := by
        rw [sm_congr (g := fun j => x j * (if j = t then 1 else 0) - sm (fun i => x j * ((if piv i = j then 1 else 0) * el (rw_ R i) t)) R.length) (fun j hj => by rw [if_pos hj, Int.mul_sub, sm_mul]), sm_sub]
        rw [sm_single ht (fun j _ hne => by rw [if_neg hne]; simp), if_pos rfl, Int.mul_one, sm_swap]
        congr 1
        refine sm_congr fun i hi => ?_
        rw [sm_single (h.pn i hi) (fun j _ hne => by rw [if_neg (fun e => hne e.symm)]; simp), if_pos rfl, Int.one_mul]
      rw [e] at key
      obtain ⟨y, hy⟩ := key
      exact ⟨-y, by rw [Int.mul_neg, ← hy]; omega⟩
    · have e : sm (fun j => (if j < q then (if j = t then 1 else 0) - sm (fun i => (if piv i = j then 1 else 0) * el (rw_ R i) t) R.length else 0) * el (rw_ R k) j) q = el (rw_ R k) t - sm (fun i => el (rw_ R k) (piv i) * el (rw_ R i) t) R.length := by
        rw [sm_congr (g := fun j => (if j = t then 1 else 0) * el (rw_ R k) j - sm (fun i => ((if piv i = j then 1 else 0) * el (rw_ R i) t) * el (rw_ R k) j) R.length) (fun j hj => by rw [if_pos hj, Int.sub_mul, sm_mulr]), sm_sub]
        rw [sm_single ht (fun j _ hne => by rw [if_neg hne]; simp), if_pos rfl, Int.one_mul, sm_swap]
        congr 1
        refine sm_congr fun i hi => ?_
        rw [sm_single (h.pn i hi) (fun j _ hne => by rw [if_neg (fun e => hne e.symm)]; simp), if_pos rfl, Int.one_mul, Int.mul_comm]
      rw [e, sm_single hk (fun i hi hne => by rw [h.clr k i hk hi (fun e => hne e.symm)]; simp), h.one k hk, Int.one_mul]
      exact ⟨0, by omega⟩
  · rw [sm_zero fun i hi => by rw [el_ge (by rw [h.len i hi]; omega)]; simp]
    obtain ⟨y, hy⟩ := hx t (by omega)
    exact ⟨-y, by rw [hy]; grind⟩
end Go.Proofs.Ytpkdgemnddcefaa
set_option linter.unusedVariables false
set_option linter.unusedSimpArgs false
namespace Go.Proofs.Ytpkdgemnddcefaa
open Go.RowKit

theorem colsR_el {xss : List (List Int)} {q i j : Nat} (hj : j < q) (hi : i < xss.length) : el (rw_ (colsR xss q) j) i = el (rw_ xss i) j := by
  rw [colsR_row hj]
  unfold colR
  rw [el_tab hi]
theorem colsR_rws' {xss : List (List Int)} {p : Int} {m n : Nat} (h : Rws p m xss) (hl : xss.length = n) : Rws p n (colsR xss m) := by
  subst hl
  refine ⟨fun i hi => ?_, fun i j hi hj => ?_⟩
  · rw [colsR_len] at hi
    rw [colsR_row hi, colR_len]
  · rw [colsR_len] at hi
    rw [colsR_el hi hj]
    exact h.rng j i hj hi
theorem Sp.supp {p : Int} {rows : List (List Int)} {q : Nat} {f : Nat → Int} (hr : ∀ i, i < rows.length → (rw_ rows i).length = q) (h : Sp p rows f) : ∀ i, q ≤ i → p ∣ f i := by
  induction h with
  | zero => exact fun _ _ => ⟨0, by simp⟩
  | add c _ hm ih =>
    rename_i f r hs
    intro i hi
    obtain ⟨k, hk, rfl⟩ := mem_rows hm
    show p ∣ f i + c * el (rw_ rows k) i
    rw [el_ge (by rw [hr k hk]; exact hi), Int.mul_zero, Int.add_zero]
    exact ih i hi
  | cong _ hd ih =>
    intro i hi
    have := Int.dvd_sub (ih i hi) (hd i)
    rwa [Int.sub_sub_self] at this
theorem Sp.repr {p : Int} {rows : List (List Int)} {f : Nat → Int} (h : Sp p rows f) : ∃ c : Nat → Int, ∀ j, p ∣ f j - sm (fun k => c k * el (rw_ rows k) j) rows.length := by
  induction h with
  | zero => exact ⟨fun _ => 0, fun j => by rw [sm_zero fun i _ => by simp]; exact ⟨0, by simp⟩⟩
  | add c _ hm ih =>
    rename_i f r hs
    obtain ⟨d, hd⟩ := ih
    obtain ⟨k, hk, rfl⟩ := mem_rows hm
    refine ⟨fun i => d i + (if i = k then c else 0), fun j => ?_⟩
    rw [sm_congr (g := fun i => d i * el (rw_ rows i) j + (if i = k then c else 0) * el (rw_ rows i) j) (fun i _ => by rw [Int.add_mul]), sm_add]
    rw [sm_single (f := fun i => (if i = k then c else 0) * el (rw_ rows i) j) hk (fun i _ hne => by rw [if_neg hne]; simp), if_pos rfl]
    show p ∣ f j + c * el (rw_ rows k) j - (sm (fun i => d i * el (rw_ rows i) j) rows.length + c * el (rw_ rows k) j)
    have e : f j + c * el (rw_ rows k) j - (sm (fun i => d i * el (rw_ rows i) j) rows.length + c * el (rw_ rows k) j) = f j - sm (fun i => d i * el (rw_ rows i) j) rows.length := by omega
    rw [e]; exact hd j
  | cong _ hd ih =>
    rename_i f g hs
    obtain ⟨c, hc⟩ := ih
    refine ⟨c, fun j => ?_⟩
    have := Int.dvd_sub (hc j) (hd j)
    have e : f j - sm (fun k => c k * el (rw_ rows k) j) rows.length - (f j - g j) = g j - sm (fun k => c k * el (rw_ rows k) j) rows.length := by omega
    rwa [e] at this
/-- the reduced form of the intersection -/
def Meet (p : Int) (q : Nat) (us vs R : List (List Int)) : Prop := ∃ piv, Rref p q R piv ∧ ∀ f, Sp p R f ↔ (Sp p us f ∧ Sp p vs f)
theorem Meet.unique {p : Int} {q : Nat} {us vs R R' : List (List Int)} (h : Meet p q us vs R) (h' : Meet p q us vs R') (hp : 2 ≤ p) : R = R' := by
  obtain ⟨π, h1, h2⟩ := h
  obtain ⟨σ, k1, k2⟩ := h'
  exact h1.unique k1 hp ⟨fun r hr => (k2 _).2 ((h2 _).1 (.row hr)), fun r hr => (h2 _).2 ((k2 _).1 (.row hr))⟩
theorem dot_comm (x y : Nat → Int) (n : Nat) : sm (fun i => x i * y i) n = sm (fun i => y i * x i) n := sm_congr fun i _ => Int.mul_comm _ _
/-- by annihilators -/
theorem meet_ann {p : Int} {q : Nat} {us vs Nu Nv S R : List (List Int)} {πu πv : Nat → Nat} (hp : 2 ≤ p) (hu : Rref p q us πu) (hv : Rref p q vs πv) (h1 : NullR p us.length (colsR us q) Nu) (h2 : NullR p vs.length (colsR vs q) Nv)
    (h3 : IsRref p q (Nu ++ Nv) S) (h4 : NullR p S.length (colsR S q) R) : Meet p q us vs R := by
  have wu : Rws p q us := ⟨hu.len, hu.rng⟩
  have wv : Rws p q vs := ⟨hv.len, hv.rng⟩
  have wS : Rws p q S := ⟨h3.row, h3.rng⟩
  obtain ⟨πS, hS, hSe⟩ := h3
  have hR := h4.rref
  rw [colsR_len] at hR
  obtain ⟨πR, hRr, _⟩ := hR
  refine ⟨πR, hRr, fun f => ⟨fun hf => ?_, fun hf => ?_⟩⟩
  · have hsup := hf.supp hRr.len
    have hperp : ∀ y, Sp p S y → p ∣ sm (fun i => y i * f i) q := fun y hy => by
      refine hy.lin _ _ fun r hr => ?_
      obtain ⟨j, hj, rfl⟩ := mem_rows hr
      have := h4.sound (colsR_rws' wS rfl) (colsR_len _ _) hf j hj
      rw [dot_comm, sm_congr (g := fun i => f i * el (rw_ (colsR S q) i) j) (fun i hi => by rw [colsR_el hi hj])]
      exact this
    refine ⟨hu.perp hsup fun y hy0 hy => ?_, hv.perp hsup fun y hy0 hy => ?_⟩
    · have hN : Sp p Nu y := h1.compl (colsR_rws' wu rfl) (colsR_len _ _) (fun i hi => ⟨0, by rw [hy0 i hi]; simp⟩) fun j hj => by
        rw [sm_congr (g := fun i => y i * el (rw_ us j) i) (fun i hi => by rw [colsR_el hi hj])]; exact hy j hj
      have := hperp y ((hN.mono fun r hr => List.mem_append_left _ hr).sub hSe.1)
      rwa [dot_comm] at this
    · have hN : Sp p Nv y := h2.compl (colsR_rws' wv rfl) (colsR_len _ _) (fun i hi => ⟨0, by rw [hy0 i hi]; simp⟩) fun j hj => by
        rw [sm_congr (g := fun i => y i * el (rw_ vs j) i) (fun i hi => by rw [colsR_el hi hj])]; exact hy j hj
      have := hperp y ((hN.mono fun r hr => List.mem_append_right _ hr).sub hSe.1)
      rwa [dot_comm] at this
  · refine h4.compl (colsR_rws' wS rfl) (colsR_len _ _) (hf.1.supp hu.len) fun j hj => ?_
    rw [sm_congr (g := fun i => f i * el (rw_ S j) i) (fun i hi => by rw [colsR_el hi hj]), dot_comm]
    refine (hSe.2 _ (rw_mem hj)).lin _ _ fun r hr => ?_
    rcases List.mem_append.1 hr with hr | hr
    · rw [dot_comm]
      refine hf.1.lin _ _ fun t ht => ?_
      obtain ⟨k, hk, rfl⟩ := mem_rows ht
      have := h1.sound (colsR_rws' wu rfl) (colsR_len _ _) (Sp.row hr) k hk
      rw [dot_comm, sm_congr (g := fun i => el r i * el (rw_ (colsR us q) i) k) (fun i hi => by rw [colsR_el hi hk])]
      exact this
    · rw [dot_comm]
      refine hf.2.lin _ _ fun t ht => ?_
      obtain ⟨k, hk, rfl⟩ := mem_rows ht
      have := h2.sound (colsR_rws' wv rfl) (colsR_len _ _) (Sp.row hr) k hk
      rw [dot_comm, sm_congr (g := fun i => el r i * el (rw_ (colsR vs q) i) k) (fun i hi => by rw [colsR_el hi hk])]
      exact this
/-- rows times rows, modulo p -/
def timesR (p : Int) (q : Nat) (us N : List (List Int)) : List (List Int) := tab N.length fun i => tab q fun j => sm (fun k => el (rw_ N i) k * el (rw_ us k) j) us.length % p
theorem timesR_len (p : Int) (q : Nat) (us N : List (List Int)) : (timesR p q us N).length = N.length := tab_len _ _
theorem timesR_row {p : Int} {q i : Nat} {us N : List (List Int)} (h : i < N.length) : rw_ (timesR p q us N) i = tab q fun j => sm (fun k => el (rw_ N i) k * el (rw_ us k) j) us.length % p := rw_tab h
theorem timesR_el {p : Int} {q i j : Nat} {us N : List (List Int)} (hu : ∀ k, k < us.length → (rw_ us k).length = q) (h : i < N.length) : p ∣ el (rw_ (timesR p q us N) i) j - sm (fun k => el (rw_ N i) k * el (rw_ us k) j) us.length := by
  rw [timesR_row h]
  by_cases hj : j < q
  · rw [el_tab hj]
    obtain ⟨x, hx⟩ := dvd_sub_emod (sm (fun k => el (rw_ N i) k * el (rw_ us k) j) us.length) p
    exact ⟨-x, by rw [Int.mul_neg, ← hx]; omega⟩
  · rw [el_ge (by rw [tab_len]; omega), sm_zero fun k hk => by rw [el_ge (xs := rw_ us k) (by rw [hu k hk]; omega)]; simp]
    exact ⟨0, by simp⟩
theorem sm_app (f : Nat → Int) (a : Nat) : ∀ b : Nat, sm f (a + b) = sm f a + sm (fun i => f (a + i)) b
  | 0 => by simp [sm]
  | b + 1 => by rw [← Nat.add_assoc]; simp only [sm]; rw [sm_app f a b]; omega
/-- by the null space of both lists of rows -/
theorem meet_null {p : Int} {q : Nat} {us vs N R : List (List Int)} {πu πv : Nat → Nat} (hp : 2 ≤ p) (hu : Rref p q us πu) (hv : Rref p q vs πv) (h1 : NullR p q (us ++ vs) N) (h2 : IsRref p q (timesR p q us N) R) : Meet p q us vs R := by
  have wu : Rws p q us := ⟨hu.len, hu.rng⟩
  have wv : Rws p q vs := ⟨hv.len, hv.rng⟩
  have wa := wu.app wv
  have hla : (us ++ vs).length = us.length + vs.length := List.length_append
  obtain ⟨π, hR, hE⟩ := h2
  refine ⟨π, hR, fun f => ⟨fun hf => ?_, fun hf => ?_⟩⟩
  · have key : ∀ r, r ∈ timesR p q us N → Sp p us (el r) ∧ Sp p vs (el r) := fun r hr => by
      obtain ⟨i, hi, rfl⟩ := mem_rows hr
      rw [timesR_len] at hi
      have hc := Sp.comb (p := p) (rows := us) (el (rw_ N i)) (k := us.length) (Nat.le_refl _)
      refine ⟨hc.cong fun j => ?_, ?_⟩
      · obtain ⟨x, hx⟩ := timesR_el (p := p) (j := j) hu.len hi
        exact ⟨-x, by rw [Int.mul_neg, ← hx]; omega⟩
      · have hc2 := (Sp.comb (p := p) (rows := vs) (fun k => el (rw_ N i) (us.length + k)) (k := vs.length) (Nat.le_refl _)).smul (-1)
        refine hc2.cong fun j => ?_
        obtain ⟨x, hx⟩ := timesR_el (p := p) (j := j) hu.len hi
        by_cases hj : j < q
        · have hs := h1.sound wa hla (Sp.at hi) j hj
          rw [sm_app] at hs
          rw [sm_congr (g := fun k => el (rw_ N i) k * el (rw_ us k) j) (fun k hk => by rw [rw_app_l hk])] at hs
          rw [sm_congr (f := fun k => el (rw_ N i) (us.length + k) * el (rw_ (us ++ vs) (us.length + k)) j) (g := fun k => el (rw_ N i) (us.length + k) * el (rw_ vs k) j) (fun k hk => by rw [rw_app_r (by omega), Nat.add_sub_cancel_left])] at hs
          obtain ⟨y, hy⟩ := hs
          exact ⟨-(x + y), by rw [Int.mul_neg, Int.mul_add, ← hx, ← hy]; omega⟩
        · rw [sm_zero (f := fun k => el (rw_ N i) (us.length + k) * el (rw_ vs k) j) fun k hk => by rw [el_ge (xs := rw_ vs k) (by rw [hv.len k hk]; omega)]; simp]
          rw [timesR_row hi, el_ge (by rw [tab_len]; omega)]
          exact ⟨0, by simp⟩
    have hf2 := hf.sub hE.2
    exact ⟨hf2.sub fun r hr => (key r hr).1, hf2.sub fun r hr => (key r hr).2⟩
  · obtain ⟨c, hc⟩ := hf.1.repr
    obtain ⟨d, hd⟩ := hf.2.repr
    have hx : Sp p N (fun i => if i < us.length then c i else if i < us.length + vs.length then -(d (i - us.length)) else 0) := by
      refine h1.compl wa hla (fun i hi => ⟨0, by rw [if_neg (by omega), if_neg (by omega)]; simp⟩) fun j hj => ?_
      rw [sm_app]
      rw [sm_congr (g := fun k => c k * el (rw_ us k) j) (fun k hk => by rw [if_pos hk, rw_app_l hk])]
      rw [sm_congr (f := fun k => (if us.length + k < us.length then c (us.length + k) else if us.length + k < us.length + vs.length then -(d (us.length + k - us.length)) else 0) * el (rw_ (us ++ vs) (us.length + k)) j) (g := fun k => (-1) * (d k * el (rw_ vs k) j)) (fun k hk => by rw [if_neg (by omega), if_pos (by omega), rw_app_r (by omega), Nat.add_sub_cancel_left]; grind), sm_mul]
      obtain ⟨x, hx⟩ := hc j
      obtain ⟨y, hy⟩ := hd j
      exact ⟨y - x, by rw [Int.mul_sub, ← hx, ← hy]; omega⟩
    have hL : ∀ g, Sp p N g → Sp p (timesR p q us N) (fun j => sm (fun k => g k * el (rw_ us k) j) us.length) := fun g hg => by
      induction hg with
      | zero => exact Sp.zero.eq fun j => (sm_zero fun k _ => by simp).symm
      | add c _ hm ih =>
        rename_i g r hs
        obtain ⟨i, hi, rfl⟩ := mem_rows hm
        refine (ih.addmul c (Sp.at (rows := timesR p q us N) (by rw [timesR_len]; exact hi))).cong fun j => ?_
        rw [sm_congr (f := fun k => (g k + c * el (rw_ N i) k) * el (rw_ us k) j) (g := fun k => g k * el (rw_ us k) j + c * (el (rw_ N i) k * el (rw_ us k) j)) (fun k _ => by grind), sm_add, sm_mul]
        obtain ⟨x, hx⟩ := timesR_el (p := p) (j := j) hu.len hi
        exact ⟨c * x, by grind⟩
      | cong _ hd ih =>
        rename_i g g' hs
        refine ih.cong fun j => ?_
        exact sm_dcongr fun k _ => by
          obtain ⟨x, hx⟩ := hd k
          exact ⟨x * el (rw_ us k) j, by rw [← Int.sub_mul, hx, Int.mul_assoc]⟩
    refine ((hL _ hx).sub hE.1).cong fun j => ?_
    rw [sm_congr (g := fun k => c k * el (rw_ us k) j) (fun k hk => by rw [if_pos hk])]
    obtain ⟨x, hx⟩ := hc j
    exact ⟨-x, by rw [Int.mul_neg, ← hx]; omega⟩
end Go.Proofs.Ytpkdgemnddcefaa
