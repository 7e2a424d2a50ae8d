/- All subspaces of a dimension as lists of rows: what the program lists and what the reference lists. No program in sight. -/
import Derived.Test.YtpkdgemnddcefaaCmpL
import Derived.Test.YtpkdgemnddcefaaChs
import Derived.Test.YtpkdgemnddcefaaRed
import Derived.Test.YtpkdgemnddcefaaRowW
import Derived.Test.YtpkdgemnddcefaaGauss
set_option linter.unusedVariables false
set_option linter.unusedSimpArgs false
namespace Go.Proofs.Ytpkdgemnddcefaa
open Go.RowKit
/-- the columns that row i may have freely -/
def freeI (piv : List Int) (i n : Nat) : List Int := ((List.range n).filter fun (j : Nat) => decide (el piv i < (j : Int)) && !piv.contains (j : Int)).map fun (j : Nat) => (j : Int)
/-- digits written into a row -/
def dig (p : Int) (js : List Int) (s : List Int × Int) : List Int × Int := js.foldl (fun (s : List Int × Int) j => (s.1.set j.toNat (s.2 % p), s.2 / p)) s
theorem dig_snoc (p : Int) (js : List Int) (j : Int) (s : List Int × Int) : dig p (js ++ [j]) s = ((dig p js s).1.set j.toNat ((dig p js s).2 % p), (dig p js s).2 / p) := by
  unfold dig; rw [List.foldl_append]; rfl
theorem dig_len (p : Int) : ∀ (js : List Int) (s : List Int × Int), (dig p js s).1.length = s.1.length
  | [], s => rfl
  | j :: js, s => by
    unfold dig
    rw [List.foldl_cons]
    have := dig_len p js (s.1.set j.toNat (s.2 % p), s.2 / p)
    unfold dig at this
    rw [this]; simp
theorem dig_rest (p : Int) : ∀ (js : List Int) (r r' : List Int) (x : Int), (dig p js (r, x)).2 = (dig p js (r', x)).2
  | [], r, r', x => rfl
  | j :: js, r, r', x => by
    have := dig_rest p js (r.set j.toNat (x % p)) (r'.set j.toNat (x % p)) (x / p)
    unfold dig at this ⊢
    rw [List.foldl_cons, List.foldl_cons]; exact this
def unitL (n : Nat) (c : Int) : List Int := (tab n fun _ => (0 : Int)).set c.toNat 1
theorem unitL_len (n : Nat) (c : Int) : (unitL n c).length = n := by unfold unitL; rw [List.length_set, tab_len]
/-- what is left of the number before row i -/
def rst (p : Int) (n : Nat) (piv : List Int) (x : Int) : Nat → Int
  | 0 => x
  | i + 1 => (dig p (freeI piv i n) ([], rst p n piv x i)).2
def rowD (p : Int) (n : Nat) (piv : List Int) (x : Int) (i : Nat) : List Int := (dig p (freeI piv i n) (unitL n (el piv i), rst p n piv x i)).1
def matD (p : Int) (n : Nat) (piv : List Int) (x : Int) : List (List Int) := tab piv.length (rowD p n piv x)
theorem rowD_len (p : Int) (n : Nat) (piv : List Int) (x : Int) (i : Nat) : (rowD p n piv x i).length = n := by unfold rowD; rw [dig_len]; exact unitL_len _ _
theorem rst_succ (p : Int) (n : Nat) (piv : List Int) (x : Int) (i : Nat) (r : List Int) : (dig p (freeI piv i n) (r, rst p n piv x i)).2 = rst p n piv x (i + 1) := dig_rest _ _ _ _ _
/-- all places, row by row -/
def freeA (piv : List Int) (n : Nat) : Nat → List (Nat × Int)
  | 0 => []
  | i + 1 => freeA piv n i ++ (freeI piv i n).map fun j => (i, j)
def freeN (piv : List Int) (n : Nat) : Nat → Nat
  | 0 => 0
  | i + 1 => freeN piv n i + (freeI piv i n).length
theorem freeA_len (piv : List Int) (n : Nat) : ∀ i, (freeA piv n i).length = freeN piv n i
  | 0 => rfl
  | i + 1 => by unfold freeA freeN; rw [List.length_append, freeA_len piv n i, List.length_map]
/-- digits written at places of rows -/
def digA (p : Int) (ps : List (Nat × Int)) (s : List (List Int) × Int) : List (List Int) × Int :=
  ps.foldl (fun s q => (tab s.1.length fun i => if i = q.1 then (rw_ s.1 i).set q.2.toNat (s.2 % p) else rw_ s.1 i, s.2 / p)) s
theorem digA_snoc (p : Int) (ps : List (Nat × Int)) (q : Nat × Int) (s : List (List Int) × Int) : digA p (ps ++ [q]) s = (tab (digA p ps s).1.length fun i => if i = q.1 then (rw_ (digA p ps s).1 i).set q.2.toNat ((digA p ps s).2 % p) else rw_ (digA p ps s).1 i, (digA p ps s).2 / p) := by
  unfold digA; rw [List.foldl_append]; rfl
theorem digA_len (p : Int) : ∀ (ps : List (Nat × Int)) (s : List (List Int) × Int), (digA p ps s).1.length = s.1.length
  | [], s => rfl
  | q :: ps, s => by
    have := digA_len p ps (tab s.1.length fun i => if i = q.1 then (rw_ s.1 i).set q.2.toNat (s.2 % p) else rw_ s.1 i, s.2 / p)
    unfold digA at this ⊢
    rw [List.foldl_cons, this, tab_len]
/-- the rows of units -/
def units (n : Nat) (piv : List Int) : List (List Int) := tab piv.length fun i => unitL n (el piv i)
theorem digA_row (p : Int) (n : Nat) (piv : List Int) (x : Int) (i : Nat) (hi : i < piv.length) : ∀ (js : List Int) (s : List (List Int) × Int), s.1.length = piv.length →
    digA p (js.map fun j => (i, j)) s = (tab piv.length fun t => if t = i then (dig p js (rw_ s.1 i, s.2)).1 else rw_ s.1 t, (dig p js (rw_ s.1 i, s.2)).2)
  | [], s, hs => by
    have e : s.1 = tab piv.length fun t => if t = i then rw_ s.1 i else rw_ s.1 t := by
      rw [← hs]
      refine Eq.trans (tab_rw s.1).symm (tab_congr fun t _ => ?_)
      by_cases h : t = i
      · rw [if_pos h, h]
      · rw [if_neg h]
    show s = _
    exact Prod.ext e rfl
  | j :: js, s, hs => by
    have ih := digA_row p n piv x i hi js (tab s.1.length fun t => if t = i then (rw_ s.1 t).set j.toNat (s.2 % p) else rw_ s.1 t, s.2 / p) (by rw [tab_len]; exact hs)
    have e1 : rw_ (tab s.1.length fun t => if t = i then (rw_ s.1 t).set j.toNat (s.2 % p) else rw_ s.1 t) i = (rw_ s.1 i).set j.toNat (s.2 % p) := by
      rw [rw_tab (by omega), if_pos rfl]
    unfold digA at ih ⊢
    rw [List.map_cons, List.foldl_cons]
    refine Eq.trans ih ?_
    simp only [e1]
    refine Prod.ext (tab_congr fun t ht => ?_) rfl
    by_cases h : t = i
    · rw [if_pos h, if_pos h]; rfl
    · rw [if_neg h, if_neg h, rw_tab (by omega), if_neg h]
theorem digA_all (p : Int) (n : Nat) (piv : List Int) (x : Int) : ∀ i, i ≤ piv.length → digA p (freeA piv n i) (units n piv, x) = (tab piv.length fun t => if t < i then rowD p n piv x t else unitL n (el piv t), rst p n piv x i)
  | 0, _ => Prod.ext (tab_congr fun t _ => by rw [if_neg (by omega)]) rfl
  | i + 1, hi => by
    have ih := digA_all p n piv x i (by omega)
    have e : digA p (freeA piv n (i + 1)) (units n piv, x) = digA p ((freeI piv i n).map fun j => (i, j)) (digA p (freeA piv n i) (units n piv, x)) := by
      show (freeA piv n i ++ (freeI piv i n).map fun j => (i, j)).foldl _ _ = _
      rw [List.foldl_append]; rfl
    rw [e, ih, digA_row p n piv x i (by omega) _ _ (tab_len _ _)]
    have e2 : rw_ (tab piv.length fun t => if t < i then rowD p n piv x t else unitL n (el piv t)) i = unitL n (el piv i) := by rw [rw_tab (by omega), if_neg (Nat.lt_irrefl i)]
    simp only [e2]
    refine Prod.ext (tab_congr fun t ht => ?_) (rst_succ p n piv x i _)
    by_cases h : t = i
    · subst h; rw [if_pos rfl, if_pos (by omega)]; rfl
    · rw [if_neg h, rw_tab ht]
      by_cases h2 : t < i
      · rw [if_pos h2, if_pos (by omega)]
      · rw [if_neg h2, if_neg (by omega)]
theorem digA_mat (p : Int) (n : Nat) (piv : List Int) (x : Int) : (digA p (freeA piv n piv.length) (units n piv, x)).1 = matD p n piv x := by
  rw [digA_all p n piv x _ (Nat.le_refl _)]
  exact tab_congr fun t ht => if_pos ht
/-- all matrices of given pivots -/
def matsD (p n : Nat) (piv : List Int) : List (List (List Int)) := (List.range (p ^ freeN piv n piv.length)).map fun (x : Nat) => matD p n piv (x : Int)
/-- the numbers whose bits are set -/
def bitsL (n s : Nat) : List Int := ((List.range n).filter fun j => decide (s / 2 ^ j % 2 = 1)).map fun (j : Nat) => (j : Int)
def setsL (n k : Nat) : Nat → List (List Int)
  | 0 => []
  | s + 1 => setsL n k s ++ if (bitsL n s).length = k then [bitsL n s] else []
def chkP (n k : Nat) : Bool := (setsL n k (2 ^ n)).isPerm (chs n k)
def chkPs : Bool := (List.range 9).all fun n => (List.range (n + 1)).all fun k => chkP n k
theorem chkPs_t : chkPs = true := by decide +kernel
theorem sets_perm {n k : Nat} (hn : n ≤ 8) (hk : k ≤ n) : (setsL n k (2 ^ n)).Perm (chs n k) := by
  have h := chkPs_t
  unfold chkPs at h
  rw [List.all_eq_true] at h
  have h1 := h n (by simp; omega)
  rw [List.all_eq_true] at h1
  exact List.isPerm_iff.1 (h1 k (by simp; omega))
/-- the number of all -/
def cntS (p n k : Nat) : Nat := ((chs n k).map fun c => p ^ freeN c n c.length).foldl (· + ·) 0
def chkN (p : Nat) : Bool := (List.range 9).all fun n => (List.range (n + 1)).all fun k => decide (200 < gauss p n k) || decide (cntS p n k ≤ 200)
theorem chkN_2 : chkN 2 = true := by decide +kernel
theorem chkN_3 : chkN 3 = true := by decide +kernel
theorem chkN_5 : chkN 5 = true := by decide +kernel
theorem chkN_7 : chkN 7 = true := by decide +kernel
theorem cnt_small {p n k : Nat} (hp : GP (p : Int)) (hn : n ≤ 8) (hk : k ≤ n) (hg : gauss p n k ≤ 200) : cntS p n k ≤ 200 := by
  have h : chkN p = true := by
    rcases hp with h | h | h | h
    · obtain rfl : p = 2 := by omega
      exact chkN_2
    · obtain rfl : p = 3 := by omega
      exact chkN_3
    · obtain rfl : p = 5 := by omega
      exact chkN_5
    · obtain rfl : p = 7 := by omega
      exact chkN_7
  unfold chkN at h
  rw [List.all_eq_true] at h
  have h1 := h n (by simp; omega)
  rw [List.all_eq_true] at h1
  have h2 := h1 k (by simp; omega)
  rw [Bool.or_eq_true, decide_eq_true_eq, decide_eq_true_eq] at h2
  omega
/-! ### sorting by the entries -/
def flM (m : List (List Int)) : List Int := m.flatten
def insM (m : List (List Int)) : List (List (List Int)) → List (List (List Int))
  | [] => [m]
  | y :: ys => if cmpL (flM m) (flM y) < 0 then m :: y :: ys else y :: insM m ys
theorem insM_perm (m : List (List Int)) : ∀ L, (insM m L).Perm (m :: L)
  | [] => .refl _
  | y :: ys => by
    unfold insM
    split
    · exact .refl _
    · exact ((insM_perm m ys).cons y).trans (.swap m y ys)
theorem cmpL_nlt {x y : List Int} (h : cmpL x y < 0) : ¬ cmpL y x < 0 := fun h2 => by
  have := cmpL_trans _ _ _ h h2
  rw [cmpL_self] at this
  omega
def SortedM (L : List (List (List Int))) : Prop := L.Pairwise fun x y => ¬ cmpL (flM y) (flM x) < 0
theorem insM_sorted (m : List (List Int)) : ∀ {L}, SortedM L → SortedM (insM m L)
  | [], _ => by unfold insM SortedM; simp
  | y :: ys, h => by
    obtain ⟨h1, h2⟩ := List.pairwise_cons.1 h
    unfold insM
    by_cases hlt : cmpL (flM m) (flM y) < 0
    · rw [if_pos hlt]
      refine List.pairwise_cons.2 ⟨fun z hz => ?_, h⟩
      rcases List.mem_cons.1 hz with rfl | hz
      · exact cmpL_nlt hlt
      · exact fun h3 => h1 z hz (cmpL_trans _ _ _ h3 hlt)
    · rw [if_neg hlt]
      refine List.pairwise_cons.2 ⟨fun z hz => ?_, insM_sorted m h2⟩
      rcases List.mem_cons.1 ((insM_perm m ys).mem_iff.1 hz) with rfl | hz
      · exact hlt
      · exact h1 z hz
theorem cmpL_zero : ∀ {xs ys : List Int}, ¬ cmpL xs ys < 0 → ¬ cmpL ys xs < 0 → xs = ys
  | [], [], _, _ => rfl
  | [], _ :: _, h, _ => absurd (by simp [cmpL]) h
  | _ :: _, [], _, h => absurd (by simp [cmpL]) h
  | x :: xs, y :: ys, h1, h2 => by
    rcases Int.lt_trichotomy x y with h | h | h
    · rw [cmpL_lt _ _ h] at h1; omega
    · subst h
      rw [cmpL_eq] at h1 h2
      rw [cmpL_zero h1 h2]
    · rw [cmpL_lt _ _ h] at h2; omega
theorem sortedW_uniq : ∀ {xs ys : List (List Int)}, xs.Perm ys → xs.Pairwise (fun x y => ¬ cmpL y x < 0) → ys.Pairwise (fun x y => ¬ cmpL y x < 0) → xs = ys
  | [], ys, h, _, _ => by rw [h.nil_eq]
  | x :: xs, [], h, _, _ => by have := h.length_eq; simp at this
  | x :: xs, y :: ys, h, h1, h2 => by
    have e : x = y := by
      have hx : x ∈ y :: ys := h.subset (by simp)
      have hy : y ∈ x :: xs := h.symm.subset (by simp)
      rcases List.mem_cons.1 hx with e | hx
      · exact e
      · rcases List.mem_cons.1 hy with e | hy
        · exact e.symm
        · exact cmpL_zero ((List.pairwise_cons.1 h2).1 x hx) ((List.pairwise_cons.1 h1).1 y hy)
    subst e
    rw [sortedW_uniq (List.Perm.cons_inv h) (List.pairwise_cons.1 h1).2 (List.pairwise_cons.1 h2).2]
theorem flM_inj {n : Nat} : ∀ {A B : List (List Int)}, A.length = B.length → (∀ r ∈ A, r.length = n) → (∀ r ∈ B, r.length = n) → flM A = flM B → A = B
  | [], [], _, _, _, _ => rfl
  | [], _ :: _, h, _, _, _ => by simp at h
  | _ :: _, [], h, _, _, _ => by simp at h
  | a :: A, b :: B, h, ha, hb, e => by
    unfold flM at e
    rw [List.flatten_cons, List.flatten_cons] at e
    obtain ⟨e1, e2⟩ := List.append_inj e (by rw [ha a (by simp), hb b (by simp)])
    rw [e1, flM_inj (by simpa using h) (fun r hr => ha r (by simp [hr])) (fun r hr => hb r (by simp [hr])) e2]
theorem map_inj_of {f : List (List Int) → List Int} : ∀ {L L' : List (List (List Int))}, (∀ x ∈ L, ∀ y ∈ L', f x = f y → x = y) → L.map f = L'.map f → L = L'
  | [], [], _, _ => rfl
  | [], _ :: _, _, h => by simp at h
  | _ :: _, [], _, h => by simp at h
  | x :: L, y :: L', h, e => by
    rw [List.map_cons, List.map_cons] at e
    injection e with e1 e2
    rw [h x (by simp) y (by simp) e1, map_inj_of (fun x hx y hy => h x (by simp [hx]) y (by simp [hy])) e2]
/-- the shape of a matrix of the list -/
def ShM (n k : Nat) (m : List (List Int)) : Prop := m.length = k ∧ ∀ r ∈ m, r.length = n
theorem sortedM_uniq {n k : Nat} {L L' : List (List (List Int))} (hp : L.Perm L') (h1 : SortedM L) (h2 : SortedM L') (hs : ∀ m ∈ L', ShM n k m) : L = L' := by
  have e := sortedW_uniq (xs := L.map flM) (ys := L'.map flM) (hp.map _) (List.pairwise_map.2 h1) (List.pairwise_map.2 h2)
  refine map_inj_of (fun x hx y hy e => ?_) e
  have hx' := hs x (hp.mem_iff.1 hx)
  have hy' := hs y hy
  exact flM_inj (by rw [hx'.1, hy'.1]) hx'.2 hy'.2 e
theorem matsD_sh {p n : Nat} {piv : List Int} {m : List (List Int)} (h : m ∈ matsD p n piv) : ShM n piv.length m := by
  obtain ⟨x, _, rfl⟩ := List.mem_map.1 h
  refine ⟨tab_len _ _, fun r hr => ?_⟩
  obtain ⟨i, hi, rfl⟩ := List.mem_map.1 hr
  exact rowD_len _ _ _ _ _
/-- what the program lists before it sorts -/
def implQ (p n k : Nat) : List (List (List Int)) := (chs n k).flatMap (matsD p n)
/-- what the reference inserts, in its order -/
def specQ (p n k s : Nat) : List (List (List Int)) := (setsL n k s).flatMap (matsD p n)
def specL (p n k s : Nat) : List (List (List Int)) := (specQ p n k s).foldl (fun L m => insM m L) []
theorem insL_perm : ∀ (Q L : List (List (List Int))), (Q.foldl (fun L m => insM m L) L).Perm (Q ++ L)
  | [], L => .refl _
  | m :: Q, L => by
    rw [List.foldl_cons]
    refine (insL_perm Q (insM m L)).trans ?_
    refine ((insM_perm m L).append_left Q).trans ?_
    exact List.perm_middle
theorem insL_sorted : ∀ (Q : List (List (List Int))) {L : List (List (List Int))}, SortedM L → SortedM (Q.foldl (fun L m => insM m L) L)
  | [], L, h => h
  | m :: Q, L, h => by rw [List.foldl_cons]; exact insL_sorted Q (insM_sorted m h)
theorem specL_perm (p n k s : Nat) : (specL p n k s).Perm (specQ p n k s) := by
  have := insL_perm (specQ p n k s) []
  rwa [List.append_nil] at this
theorem specL_sorted (p n k s : Nat) : SortedM (specL p n k s) := insL_sorted _ .nil
theorem specQ_sh {p n k s : Nat} {m : List (List Int)} (h : m ∈ specQ p n k s) : ShM n k m := by
  obtain ⟨c, hc, hm⟩ := List.mem_flatMap.1 h
  have h1 := matsD_sh hm
  have h2 : c.length = k := by
    clear h hm h1
    induction s with
    | zero => simp [setsL] at hc
    | succ s ih =>
      unfold setsL at hc
      rcases List.mem_append.1 hc with h | h
      · exact ih h
      · split at h
        · rw [List.mem_singleton] at h; rw [h]; assumption
        · simp at h
  rw [h2] at h1; exact h1
/-- the program's sorted list is the reference's -/
theorem asp_eq {p n k : Nat} {L : List (List (List Int))} (hn : n ≤ 8) (hk : k ≤ n) (hp : L.Perm (implQ p n k)) (hs : SortedM L) : L = specL p n k (2 ^ n) := by
  refine sortedM_uniq (n := n) (k := k) (hp.trans (((sets_perm hn hk).symm.flatMap_right _).trans (specL_perm p n k _).symm)) hs (specL_sorted _ _ _ _) fun m hm => specQ_sh ((specL_perm p n k _).mem_iff.1 hm)
end Go.Proofs.Ytpkdgemnddcefaa
