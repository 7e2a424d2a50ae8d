/- The factors of a product of cyclic groups of prime power orders, in plain words. -/
import Derived.Test.YtkidohohiihbaaaPpP
import Derived.Test.YtkidohohiihbaaaFpS
import Derived.Test.YtkidohohiihbaaaRowW
set_option linter.unusedVariables false
set_option linter.unusedSimpArgs false
namespace Go.Proofs.Ytkidohohiihbaaa
open Go.RowKit

/-- the product of a list -/
def mulL (xs : List Int) : Int := xs.foldr (· * ·) 1
theorem mulL_nil : mulL [] = 1 := rfl
theorem mulL_cons (x : Int) (xs : List Int) : mulL (x :: xs) = x * mulL xs := rfl
theorem mulL_app (xs ys : List Int) : mulL (xs ++ ys) = mulL xs * mulL ys := by
  induction xs with
  | nil => simp [mulL_nil]
  | cons x xs ih => rw [List.cons_append, mulL_cons, mulL_cons, ih, Int.mul_assoc]
theorem mulL_snoc (xs : List Int) (x : Int) : mulL (xs ++ [x]) = mulL xs * x := by rw [mulL_app, mulL_cons, mulL_nil, Int.mul_one]
theorem mulL_perm {xs ys : List Int} (h : xs.Perm ys) : mulL xs = mulL ys := by
  induction h with
  | nil => rfl
  | cons x _ ih => rw [mulL_cons, mulL_cons, ih]
  | swap x y l => rw [mulL_cons, mulL_cons, mulL_cons, mulL_cons]; grind
  | trans _ _ h1 h2 => exact h1.trans h2
theorem mulL_pos : ∀ {xs : List Int}, (∀ x ∈ xs, 1 ≤ x) → 1 ≤ mulL xs
  | [], _ => by simp [mulL_nil]
  | x :: xs, h => by
    rw [mulL_cons]
    have h1 := h x (List.mem_cons_self ..)
    have h2 := mulL_pos (xs := xs) (fun y hy => h y (List.mem_cons_of_mem _ hy))
    have := Int.mul_le_mul h1 h2 (by omega) (by omega)
    omega
theorem mulL_le_app {xs ys : List Int} (h : ∀ x ∈ xs ++ ys, 1 ≤ x) : mulL xs ≤ mulL (xs ++ ys) := by
  have h1 := mulL_pos (xs := xs) (fun x hx => h x (List.mem_append_left _ hx))
  have h2 := mulL_pos (xs := ys) (fun x hx => h x (List.mem_append_right _ hx))
  rw [mulL_app]
  have := Int.mul_le_mul_of_nonneg_left h2 (show 0 ≤ mulL xs by omega)
  omega
theorem sortA_uniq : ∀ {xs ys : List Int}, xs.Perm ys → xs.Pairwise (fun x y => x ≤ y) → ys.Pairwise (fun x y => x ≤ y) → xs = ys
  | [], ys, h, _, _ => by rw [h.nil_eq]
  | x :: xs, [], h, _, _ => by have := h.length_eq; simp at this
  | x :: xs, y :: ys, h, h1, h2 => by
    have e : x = y := by
      have hx : x ∈ y :: ys := h.subset (by simp)
      have hy : y ∈ x :: xs := h.symm.subset (by simp)
      rcases List.mem_cons.1 hx with e | hx
      · exact e
      · rcases List.mem_cons.1 hy with e | hy
        · exact e.symm
        · have a1 := (List.pairwise_cons.1 h1).1 y hy
          have a2 := (List.pairwise_cons.1 h2).1 x hx
          omega
    subst e
    rw [sortA_uniq (List.Perm.cons_inv h) (List.pairwise_cons.1 h1).2 (List.pairwise_cons.1 h2).2]
theorem sortA_eq {xs ys : List Int} (h : ys.Perm xs) (hs : ys.Pairwise (fun x y => x ≤ y)) : sortA xs = ys :=
  (sortA_uniq (h.trans (sortA_perm xs).symm) hs (sortA_sorted xs)).symm
theorem sortA_congr {xs ys : List Int} (h : xs.Perm ys) : sortA xs = sortA ys := sortA_eq ((sortA_perm ys).trans h.symm) (sortA_sorted ys)

/-! ### groups by primes -/
def grp (qs : List Int) (p : Int) : List Int := qs.filter fun q => lpf q == p
theorem grp_snoc (qs : List Int) (q p : Int) : grp (qs ++ [q]) p = if p = lpf q then grp qs (lpf q) ++ [q] else grp qs p := by
  unfold grp
  rw [List.filter_append]
  by_cases h : p = lpf q
  · rw [if_pos h, h]; simp
  · rw [if_neg h]
    have h2 : ¬ lpf q = p := fun e => h e.symm
    simp [h2]
theorem grp_mem {qs : List Int} {p q : Int} : q ∈ grp qs p ↔ q ∈ qs ∧ lpf q = p := by unfold grp; simp
theorem grp_ne {qs : List Int} {p : Int} : grp qs p ≠ [] ↔ ∃ q ∈ qs, lpf q = p := by
  constructor
  · intro h
    obtain ⟨q, hq⟩ := List.exists_mem_of_ne_nil _ h
    exact ⟨q, (grp_mem.1 hq).1, (grp_mem.1 hq).2⟩
  · rintro ⟨q, h1, h2⟩ h
    have := grp_mem.2 ⟨h1, h2⟩
    rw [h] at this
    cases this
/-- a group, the greatest first -/
def dsc (qs : List Int) (p : Int) : List Int := (sortA (grp qs p)).reverse
theorem dsc_len (qs : List Int) (p : Int) : (dsc qs p).length = (grp qs p).length := by unfold dsc; rw [List.length_reverse, sortA_len]
theorem dsc_mem {qs : List Int} {p q : Int} : q ∈ dsc qs p ↔ q ∈ qs ∧ lpf q = p := by unfold dsc; rw [List.mem_reverse, (sortA_perm _).mem_iff, grp_mem]
theorem dsc_perm {qs ys : List Int} (h : qs.Perm ys) (p : Int) : dsc qs p = dsc ys p := by
  unfold dsc grp
  rw [sortA_congr (h.filter _)]
def gd (l : List Int) (i : Nat) : Int := l[i]?.getD 1
theorem gd_lt {l : List Int} {i : Nat} (h : i < l.length) : gd l i = el l i := by simp [gd, el, h]
theorem gd_ge {l : List Int} {i : Nat} (h : l.length ≤ i) : gd l i = 1 := by simp [gd, h]
theorem gd_pos {l : List Int} (h : ∀ x ∈ l, 1 ≤ x) (i : Nat) : 1 ≤ gd l i := by
  by_cases hi : i < l.length
  · rw [gd_lt hi, el_eq hi]; exact h _ (List.getElem_mem hi)
  · rw [gd_ge (by omega)]; omega
/-- the product of the i-th greatest powers of the primes of D -/
def fcol (D : List Int) (qs : List Int) (i : Nat) : Int := mulL (D.map fun p => gd (dsc qs p) i)
/-- how many factors there are -/
def nmax (D : List Int) (qs : List Int) : Nat := (D.map fun p => (dsc qs p).length).foldr max 0
theorem fcol_snoc (D : List Int) (p : Int) (qs : List Int) (i : Nat) : fcol (D ++ [p]) qs i = fcol D qs i * gd (dsc qs p) i := by
  unfold fcol; rw [List.map_append]; exact mulL_snoc _ _
theorem nmax_cons (p : Int) (D qs : List Int) : nmax (p :: D) qs = max (dsc qs p).length (nmax D qs) := rfl
theorem nmax_snoc (p : Int) (qs : List Int) : ∀ D : List Int, nmax (D ++ [p]) qs = max (nmax D qs) (dsc qs p).length
  | [] => by simp [nmax]
  | d :: D => by rw [List.cons_append, nmax_cons, nmax_cons, nmax_snoc p qs D]; omega
theorem nmax_perm {D E : List Int} (h : D.Perm E) (qs : List Int) : nmax D qs = nmax E qs := by
  induction h with
  | nil => rfl
  | cons x _ ih => rw [nmax_cons, nmax_cons, ih]
  | swap x y l => rw [nmax_cons, nmax_cons, nmax_cons, nmax_cons]; omega
  | trans _ _ h1 h2 => exact h1.trans h2
theorem fcol_perm {D E : List Int} (h : D.Perm E) (qs : List Int) (i : Nat) : fcol D qs i = fcol E qs i := mulL_perm (h.map _)
theorem nmax_le (D qs : List Int) : nmax D qs ≤ qs.length := by
  induction D with
  | nil => simp [nmax]
  | cons d D ih =>
    rw [nmax_cons, dsc_len]
    have := List.length_filter_le (fun q => lpf q == d) qs
    unfold grp
    omega
theorem nmax_mem {D qs : List Int} {p : Int} (h : p ∈ D) : (dsc qs p).length ≤ nmax D qs := by
  induction D with
  | nil => cases h
  | cons d D ih =>
    rw [nmax_cons]
    rcases List.mem_cons.1 h with h | h
    · subst h; omega
    · have := ih h; omega
theorem fcol_ge {D qs : List Int} {i : Nat} (h : nmax D qs ≤ i) : fcol D qs i = 1 := by
  induction D with
  | nil => rfl
  | cons d D ih =>
    rw [nmax_cons] at h
    show gd (dsc qs d) i * fcol D qs i = 1
    rw [gd_ge (by omega), ih (by omega)]
    rfl
theorem fcol_pos {D qs : List Int} (h : ∀ q ∈ qs, 1 ≤ q) (i : Nat) : 1 ≤ fcol D qs i := by
  refine mulL_pos fun x hx => ?_
  obtain ⟨p, _, rfl⟩ := List.mem_map.1 hx
  exact gd_pos (fun y hy => h y (dsc_mem.1 hy).1) i
theorem fcol_app {D E qs : List Int} (h : ∀ q ∈ qs, 1 ≤ q) (i : Nat) : fcol D qs i ≤ fcol (D ++ E) qs i := by
  unfold fcol
  rw [List.map_append]
  refine mulL_le_app fun x hx => ?_
  rw [← List.map_append] at hx
  obtain ⟨p, _, rfl⟩ := List.mem_map.1 hx
  exact gd_pos (fun y hy => h y (dsc_mem.1 hy).1) i
/-- the primes of the parts -/
def prs (qs : List Int) : List Int := (qs.map lpf).eraseDups
theorem prs_mem {qs : List Int} {p : Int} : p ∈ prs qs ↔ ∃ q ∈ qs, lpf q = p := by unfold prs; simp [List.mem_eraseDups]
/-- all factors, the greatest first -/
def facD (qs : List Int) : List Int := tab (nmax (prs qs) qs) (fcol (prs qs) qs)
def facG (qs : List Int) : List Int := (facD qs).reverse
/-- a factor is too large -/
def facBad (qs : List Int) : Bool := (facD qs).any fun x => decide (1000000 < x)
theorem nodup_dups {l : List Int} : l.eraseDups.Nodup := by
  induction h : l.length using Nat.strongRecOn generalizing l with
  | _ n ih =>
    cases l with
    | nil => simp
    | cons a l =>
      rw [List.eraseDups_cons]
      refine List.nodup_cons.2 ⟨?_, ih _ ?_ rfl⟩
      · simp [List.mem_eraseDups]
      · subst h
        have := List.length_filter_le (fun b => !b == a) l
        simp only [List.length_cons]
        omega
theorem prs_nodup (qs : List Int) : (prs qs).Nodup := nodup_dups
theorem dsc_nil {qs : List Int} {p : Int} (h : p ∉ prs qs) : dsc qs p = [] := by
  have : grp qs p = [] := by
    rcases hg : grp qs p with _ | ⟨q, l⟩
    · rfl
    · exfalso
      have hq : q ∈ grp qs p := by rw [hg]; simp
      exact h (prs_mem.2 ⟨q, (grp_mem.1 hq).1, (grp_mem.1 hq).2⟩)
  unfold dsc
  rw [this, sortA_nil]
  rfl
theorem mulL_filter {f : Int → Int} {P : Int → Bool} : ∀ {D : List Int}, (∀ p ∈ D, P p = false → f p = 1) → mulL ((D.filter P).map f) = mulL (D.map f)
  | [], _ => rfl
  | d :: D, h => by
    have ih := mulL_filter (f := f) (P := P) (D := D) (fun p hp => h p (List.mem_cons_of_mem _ hp))
    by_cases hp : P d = true
    · rw [List.filter_cons_of_pos hp, List.map_cons, List.map_cons, mulL_cons, mulL_cons, ih]
    · have hp' : P d = false := by simpa using hp
      rw [List.filter_cons_of_neg (by simp [hp']), List.map_cons, mulL_cons, ih, h d (by simp) hp', Int.one_mul]
theorem nmax_filter {qs : List Int} {P : Int → Bool} : ∀ {D : List Int}, (∀ p ∈ D, P p = false → (dsc qs p).length = 0) → nmax (D.filter P) qs = nmax D qs
  | [], _ => rfl
  | d :: D, h => by
    have ih := nmax_filter (qs := qs) (P := P) (D := D) (fun p hp => h p (List.mem_cons_of_mem _ hp))
    by_cases hp : P d = true
    · rw [List.filter_cons_of_pos hp, nmax_cons, nmax_cons, ih]
    · have hp' : P d = false := by simpa using hp
      rw [List.filter_cons_of_neg (by simp [hp']), nmax_cons, ih, h d (by simp) hp']
      omega
theorem perm_of_nodup {D E : List Int} (hD : D.Nodup) (hE : E.Nodup) (h : ∀ p, p ∈ D ↔ p ∈ E) : D.Perm E := (List.perm_ext_iff_of_nodup hD hE).2 h
theorem super_perm {D qs : List Int} (hD : D.Nodup) (h : ∀ p, p ∈ prs qs → p ∈ D) : (D.filter fun p => decide (p ∈ prs qs)).Perm (prs qs) := by
  refine perm_of_nodup (hD.filter _) (prs_nodup qs) fun p => ?_
  rw [List.mem_filter]
  constructor
  · rintro ⟨_, h2⟩; simpa using h2
  · intro h2; exact ⟨h p h2, by simpa using h2⟩
theorem fcol_super {D qs : List Int} (hD : D.Nodup) (h : ∀ p, p ∈ prs qs → p ∈ D) (i : Nat) : fcol D qs i = fcol (prs qs) qs i := by
  rw [← fcol_perm (super_perm hD h) qs i]
  unfold fcol
  rw [mulL_filter]
  intro p _ hp
  rw [dsc_nil (by simpa using hp)]
  exact gd_ge (Nat.zero_le _)
theorem nmax_super {D qs : List Int} (hD : D.Nodup) (h : ∀ p, p ∈ prs qs → p ∈ D) : nmax D qs = nmax (prs qs) qs := by
  rw [← nmax_perm (super_perm hD h) qs, nmax_filter]
  intro p _ hp
  rw [dsc_nil (by simpa using hp)]
  rfl
/-- the factors from any list of the primes -/
theorem facD_of {D qs : List Int} (hD : D.Nodup) (h : ∀ p, p ∈ prs qs → p ∈ D) : tab (nmax D qs) (fcol D qs) = facD qs := by
  unfold facD
  rw [nmax_super hD h]
  exact tab_congr fun i _ => fcol_super hD h i
/-- some of the primes: no more than all -/
theorem fcol_sub {D qs : List Int} (hD : D.Nodup) (h : ∀ p ∈ D, p ∈ prs qs) (hq : ∀ q ∈ qs, 1 ≤ q) (i : Nat) : fcol D qs i ≤ fcol (prs qs) qs i := by
  have hE : (D ++ (prs qs).filter fun p => decide (p ∉ D)).Nodup := by
    refine List.nodup_append.2 ⟨hD, (prs_nodup qs).filter _, fun a ha b hb e => ?_⟩
    rw [List.mem_filter] at hb
    subst e
    simp [ha] at hb
  rw [← fcol_super hE (fun p hp => ?_) i]
  · exact fcol_app hq i
  · rw [List.mem_append, List.mem_filter]
    by_cases hpD : p ∈ D
    · exact .inl hpD
    · exact .inr ⟨hp, by simpa using hpD⟩
theorem bad_fcol {D qs : List Int} (hD : D.Nodup) (h : ∀ p ∈ D, p ∈ prs qs) (hq : ∀ q ∈ qs, 1 ≤ q) {i : Nat} (hb : 1000000 < fcol D qs i) : facBad qs = true := by
  have h1 := fcol_sub hD h hq i
  have hi : i < nmax (prs qs) qs := by
    rcases Nat.lt_or_ge i (nmax (prs qs) qs) with h2 | h2
    · exact h2
    · rw [fcol_ge h2] at h1; omega
  unfold facBad
  rw [List.any_eq_true]
  refine ⟨fcol (prs qs) qs i, ?_, by simp; omega⟩
  unfold facD
  have := el_tab (f := fcol (prs qs) qs) hi
  rw [← this]
  exact el_mem (by rw [tab_len]; exact hi)
theorem good_fcol {D qs : List Int} (hD : D.Nodup) (h : ∀ p, p ∈ prs qs → p ∈ D) (hb : ∀ i, fcol D qs i ≤ 1000000) : facBad qs = false := by
  unfold facBad
  rw [List.any_eq_false]
  intro x hx
  rw [← facD_of hD h] at hx
  unfold tab at hx
  obtain ⟨i, _, rfl⟩ := List.mem_map.1 hx
  have := hb i
  simp
  omega
/-- the list while the prime p is taken in, i of its powers done -/
def lstP (D qs : List Int) (p : Int) (i : Nat) : List Int := tab (max (nmax D qs) i) fun j => if j < i then fcol D qs j * gd (dsc qs p) j else fcol D qs j
theorem lstP_len (D qs : List Int) (p : Int) (i : Nat) : (lstP D qs p i).length = max (nmax D qs) i := tab_len _ _
theorem lstP_start (D qs : List Int) (p : Int) : lstP D qs p 0 = tab (nmax D qs) (fcol D qs) := by
  unfold lstP
  rw [Nat.max_zero]
  exact tab_congr fun j _ => by rw [if_neg (Nat.not_lt_zero j)]
theorem lstP_end (D qs : List Int) (p : Int) : lstP D qs p (dsc qs p).length = tab (nmax (D ++ [p]) qs) (fcol (D ++ [p]) qs) := by
  unfold lstP
  rw [nmax_snoc]
  refine tab_congr fun j _ => ?_
  rw [fcol_snoc]
  by_cases hj : j < (dsc qs p).length
  · rw [if_pos hj]
  · rw [if_neg hj, gd_ge (by omega), Int.mul_one]
theorem lstP_grow {D qs : List Int} {p : Int} {i : Nat} (h : (lstP D qs p i).length = i) : lstP D qs p i ++ [1] = tab (i + 1) (fun j => if j < i then fcol D qs j * gd (dsc qs p) j else fcol D qs j) := by
  rw [lstP_len] at h
  unfold lstP
  rw [h, tab_succ, if_neg (Nat.lt_irrefl i), fcol_ge (by omega)]
/-- the list long enough for the power i -/
def lstQ (D qs : List Int) (p : Int) (i : Nat) : List Int := tab (max (nmax D qs) (i + 1)) fun j => if j < i then fcol D qs j * gd (dsc qs p) j else fcol D qs j
theorem lstQ_same {D qs : List Int} {p : Int} {i : Nat} (h : (lstP D qs p i).length ≠ i) : lstP D qs p i = lstQ D qs p i := by
  rw [lstP_len] at h
  unfold lstP lstQ
  rw [show max (nmax D qs) (i + 1) = max (nmax D qs) i by omega]
theorem lstQ_grow {D qs : List Int} {p : Int} {i : Nat} (h : (lstP D qs p i).length = i) : lstP D qs p i ++ [1] = lstQ D qs p i := by
  rw [lstP_grow h]
  rw [lstP_len] at h
  unfold lstQ
  rw [show max (nmax D qs) (i + 1) = i + 1 by omega]
theorem lstQ_len (D qs : List Int) (p : Int) (i : Nat) : (lstQ D qs p i).length = max (nmax D qs) (i + 1) := tab_len _ _
theorem lstQ_el (D qs : List Int) (p : Int) (i : Nat) : el (lstQ D qs p i) i = fcol D qs i := by
  unfold lstQ
  rw [el_tab (by omega), if_neg (Nat.lt_irrefl i)]
theorem lstQ_set (D qs : List Int) (p : Int) (i : Nat) : (lstQ D qs p i).set i (fcol D qs i * gd (dsc qs p) i) = lstP D qs p (i + 1) := by
  refine list_ext ?_ fun j hj => ?_
  · rw [List.length_set, lstQ_len, lstP_len]
  · rw [List.length_set, lstQ_len] at hj
    rw [el_set (by rw [lstQ_len]; omega)]
    unfold lstQ lstP
    rw [el_tab hj, el_tab hj]
    by_cases e : j = i
    · subst e; rw [if_pos rfl, if_pos (Nat.lt_succ_self j)]
    · rw [if_neg e]
      by_cases h2 : j < i
      · rw [if_pos h2, if_pos (by omega)]
      · rw [if_neg h2, if_neg (by omega)]
theorem prs_perm {xs ys : List Int} (h : xs.Perm ys) (p : Int) : p ∈ prs xs ↔ p ∈ prs ys := by
  rw [prs_mem, prs_mem]
  exact ⟨fun ⟨q, h1, h2⟩ => ⟨q, h.mem_iff.1 h1, h2⟩, fun ⟨q, h1, h2⟩ => ⟨q, h.mem_iff.2 h1, h2⟩⟩
theorem facD_perm {xs ys : List Int} (h : xs.Perm ys) : facD xs = facD ys := by
  rw [← facD_of (prs_nodup xs) (fun p hp => (prs_perm h p).2 hp)]
  unfold facD
  have e : ∀ p, dsc xs p = dsc ys p := dsc_perm h
  unfold nmax fcol
  simp only [e]

/-! ### the passes of the reference -/
def topsL : List Int → List Int
  | [] => []
  | [x] => [x]
  | x :: y :: s => if lpf x = lpf y then topsL (y :: s) else x :: topsL (y :: s)
def restL : List Int → List Int
  | [] => []
  | [_] => []
  | x :: y :: s => if lpf x = lpf y then x :: restL (y :: s) else restL (y :: s)
abbrev Srt (s : List Int) : Prop := s.Pairwise (fun x y => leP x y = true)
theorem Srt.tail {x : Int} {s : List Int} (h : Srt (x :: s)) : Srt s := (List.pairwise_cons.1 h).2
theorem Srt.le {x y : Int} {s : List Int} (h : Srt (x :: s)) (hy : y ∈ s) : lpf x ≤ lpf y := by
  have := (List.pairwise_cons.1 h).1 y hy
  rw [leP_iff] at this
  omega
theorem topsL_sub : ∀ s : List Int, ∀ x ∈ topsL s, x ∈ s
  | [], x, h => by cases h
  | [y], x, h => h
  | y :: z :: s, x, h => by
    unfold topsL at h
    split at h
    · exact List.mem_cons_of_mem _ (topsL_sub (z :: s) x h)
    · rcases List.mem_cons.1 h with h | h
      · rw [h]; simp
      · exact List.mem_cons_of_mem _ (topsL_sub (z :: s) x h)
theorem restL_sub : ∀ s : List Int, (restL s).Sublist s
  | [] => List.Sublist.refl _
  | [y] => List.nil_sublist _
  | y :: z :: s => by
    unfold restL
    split
    · exact (restL_sub (z :: s)).cons_cons y
    · exact (restL_sub (z :: s)).cons y
theorem restL_lt : ∀ {s : List Int}, s ≠ [] → (restL s).length < s.length
  | [], h => absurd rfl h
  | [y], _ => by simp [restL]
  | y :: z :: s, _ => by
    have := restL_lt (s := z :: s) (by simp)
    unfold restL
    split
    · simp only [List.length_cons] at *; omega
    · simp only [List.length_cons] at *; omega
theorem topsL_all : ∀ {s : List Int}, ∀ q ∈ s, ∃ t ∈ topsL s, lpf t = lpf q
  | [], q, h => by cases h
  | [y], q, h => ⟨q, h, rfl⟩
  | y :: z :: s, q, h => by
    unfold topsL
    rcases List.mem_cons.1 h with h | h
    · subst h
      split
      · rename_i e
        obtain ⟨t, h1, h2⟩ := topsL_all (s := z :: s) z (by simp)
        exact ⟨t, h1, h2.trans e.symm⟩
      · exact ⟨q, by simp, rfl⟩
    · obtain ⟨t, h1, h2⟩ := topsL_all (s := z :: s) q h
      split
      · exact ⟨t, h1, h2⟩
      · exact ⟨t, List.mem_cons_of_mem _ h1, h2⟩
theorem topsL_inc : ∀ {s : List Int}, Srt s → (topsL s).Pairwise (fun x y => lpf x < lpf y)
  | [], _ => List.Pairwise.nil
  | [y], _ => by simp [topsL]
  | y :: z :: s, h => by
    have ih := topsL_inc h.tail
    unfold topsL
    split
    · exact ih
    · rename_i e
      refine List.pairwise_cons.2 ⟨fun t ht => ?_, ih⟩
      have h1 := h.le (y := z) (by simp)
      have h2 := topsL_sub _ t ht
      rcases List.mem_cons.1 h2 with h2 | h2
      · rw [h2]; omega
      · have := h.tail.le h2; omega
theorem grp_split : ∀ {s : List Int}, Srt s → ∀ p, grp s p = grp (restL s) p ++ grp (topsL s) p
  | [], _, p => rfl
  | [y], _, p => by simp [restL, topsL, grp]
  | y :: z :: s, h, p => by
    have ih := grp_split h.tail p
    have hc : ∀ (x : Int) (l : List Int), grp (x :: l) p = if lpf x = p then x :: grp l p else grp l p := by
      intro x l
      unfold grp
      by_cases e : lpf x = p
      · rw [if_pos e, List.filter_cons_of_pos (by simpa using e)]
      · rw [if_neg e, List.filter_cons_of_neg (by simpa using e)]
    unfold restL topsL
    by_cases e : lpf y = lpf z
    · rw [if_pos e, if_pos e, hc y (z :: s), hc y (restL (z :: s)), ih]
      split <;> rfl
    · rw [if_neg e, if_neg e, hc y (z :: s), hc y (topsL (z :: s))]
      by_cases ep : lpf y = p
      · rw [if_pos ep, if_pos ep]
        have hz : grp (z :: s) p = [] := by
          rcases hg : grp (z :: s) p with _ | ⟨q, l⟩
          · rfl
          · exfalso
            have hq : q ∈ grp (z :: s) p := by rw [hg]; simp
            obtain ⟨h1, h2⟩ := grp_mem.1 hq
            have h3 := h.le (y := z) (by simp)
            rcases List.mem_cons.1 h1 with h1 | h1
            · rw [h1] at h2; omega
            · have := h.tail.le h1; omega
        rw [hz] at ih
        have h4 : grp (restL (z :: s)) p = [] ∧ grp (topsL (z :: s)) p = [] := by simpa using ih.symm
        rw [hz, h4.1, h4.2]
        rfl
      · rw [if_neg ep, if_neg ep, ih]
theorem grp_asc {s : List Int} (h : Srt s) (p : Int) : (grp s p).Pairwise (fun x y => x ≤ y) := by
  have h1 : (grp s p).Pairwise (fun x y => leP x y = true) := h.filter _
  have h2 : (grp s p).Pairwise (fun x y => lpf x = p ∧ lpf y = p) := by
    rw [List.pairwise_iff_forall_sublist]
    intro a b hab
    exact ⟨(grp_mem.1 (hab.subset (by simp))).2, (grp_mem.1 (hab.subset (by simp))).2⟩
  refine (h1.and h2).imp fun {x y} hh => ?_
  have := hh.1
  rw [leP_iff] at this
  omega
theorem dsc_srt {s : List Int} (h : Srt s) (p : Int) : dsc s p = (grp s p).reverse := by
  unfold dsc
  rw [sortA_eq (List.Perm.refl _) (grp_asc h p)]
theorem grp_tops {s : List Int} (h : Srt s) {t : Int} (ht : t ∈ topsL s) : grp (topsL s) (lpf t) = [t] := by
  have hinc := topsL_inc h
  have : ∀ {l : List Int}, l.Pairwise (fun x y => lpf x < lpf y) → t ∈ l → grp l (lpf t) = [t] := by
    intro l
    induction l with
    | nil => intro _ h; cases h
    | cons a l ih =>
      intro hp ht
      obtain ⟨h1, h2⟩ := List.pairwise_cons.1 hp
      unfold grp
      rcases List.mem_cons.1 ht with e | ht
      · subst e
        rw [List.filter_cons_of_pos (by simp)]
        congr 1
        rw [List.filter_eq_nil_iff]
        intro b hb
        have := h1 b hb
        simp; omega
      · have := h1 t ht
        rw [List.filter_cons_of_neg (by simp; omega)]
        exact ih h2 ht
  exact this hinc ht
theorem dsc_top {s : List Int} (h : Srt s) {t : Int} (ht : t ∈ topsL s) : dsc s (lpf t) = t :: dsc (restL s) (lpf t) := by
  have hr : Srt (restL s) := List.Pairwise.sublist (restL_sub s) h
  rw [dsc_srt h, dsc_srt hr, grp_split h, grp_tops h ht]
  simp
theorem nmax_ext {D xs ys : List Int} (h : ∀ p ∈ D, (dsc xs p).length = (dsc ys p).length + 1) (hD : D ≠ []) : nmax D xs = nmax D ys + 1 := by
  induction D with
  | nil => exact absurd rfl hD
  | cons d D ih =>
    rw [nmax_cons, nmax_cons, h d (by simp)]
    by_cases e : D = []
    · subst e; simp [nmax]
    · rw [ih (fun p hp => h p (List.mem_cons_of_mem _ hp)) e]; omega
/-- one pass takes the greatest factor off -/
theorem facD_pass {s : List Int} (h : Srt s) (hs : s ≠ []) : facD s = mulL (topsL s) :: facD (restL s) := by
  have hinc := topsL_inc h
  have hN : ((topsL s).map lpf).Nodup := by
    refine List.pairwise_map.2 (hinc.imp fun {x y} hh e => ?_)
    omega
  have hA : ∀ p, p ∈ prs s → p ∈ (topsL s).map lpf := by
    intro p hp
    obtain ⟨q, h1, h2⟩ := prs_mem.1 hp
    obtain ⟨t, h3, h4⟩ := topsL_all q h1
    exact List.mem_map.2 ⟨t, h3, h4.trans h2⟩
  have hB : ∀ p, p ∈ prs (restL s) → p ∈ (topsL s).map lpf := by
    intro p hp
    obtain ⟨q, h1, h2⟩ := prs_mem.1 hp
    exact hA p (prs_mem.2 ⟨q, (restL_sub s).subset h1, h2⟩)
  have hne : (topsL s).map lpf ≠ [] := by
    obtain ⟨q, hq⟩ := List.exists_mem_of_ne_nil _ hs
    obtain ⟨t, h3, _⟩ := topsL_all q hq
    intro e
    rw [List.map_eq_nil_iff] at e
    rw [e] at h3
    cases h3
  rw [← facD_of hN hA, ← facD_of hN hB]
  have hlen : ∀ p ∈ (topsL s).map lpf, (dsc s p).length = (dsc (restL s) p).length + 1 := by
    intro p hp
    obtain ⟨t, ht, rfl⟩ := List.mem_map.1 hp
    rw [dsc_top h ht]
    rfl
  rw [nmax_ext hlen hne]
  have h0 : fcol ((topsL s).map lpf) s 0 = mulL (topsL s) := by
    unfold fcol
    rw [List.map_map]
    congr 1
    conv => rhs; rw [← List.map_id (topsL s)]
    refine List.map_congr_left fun t ht => ?_
    show gd (dsc s (lpf t)) 0 = t
    rw [dsc_top h ht]
    rfl
  have h1 : ∀ i, fcol ((topsL s).map lpf) s (i + 1) = fcol ((topsL s).map lpf) (restL s) i := by
    intro i
    unfold fcol
    rw [List.map_map, List.map_map]
    congr 1
    refine List.map_congr_left fun t ht => ?_
    show gd (dsc s (lpf t)) (i + 1) = gd (dsc (restL s) (lpf t)) i
    rw [dsc_top h ht]
    rfl
  unfold tab
  rw [List.range_succ_eq_map, List.map_cons, h0, List.map_map]
  congr 1
  exact List.map_congr_left fun i _ => h1 i
end Go.Proofs.Ytkidohohiihbaaa
