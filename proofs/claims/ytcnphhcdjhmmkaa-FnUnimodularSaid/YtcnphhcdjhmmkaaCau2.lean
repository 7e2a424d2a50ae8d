/- The divisors of the minors do not change under unimodular multiplication, and those of a diagonal of divisors: what the checker of Smith proofs accepts are the invariant factors. No program in sight. -/
import Derived.Test.YtcnphhcdjhmmkaaCau
import Derived.Test.YtcnphhcdjhmmkaaSmpD
import Derived.Test.YtcnphhcdjhmmkaaSmf
set_option linter.unusedVariables false
set_option linter.unusedSimpArgs false
namespace Go.Proofs.Ytcnphhcdjhmmkaa
open Go.RowKit
/-- g divides all minors of size k -/
def divAll (k n q : Nat) (a : Nat → Nat → Int) (g : Int) : Prop := ∀ r c : List Nat, r.length = k → c.length = k → r.Pairwise (· < ·) → c.Pairwise (· < ·) → (∀ x ∈ r, x < n) → (∀ x ∈ c, x < q) → g ∣ dN k (fun i j => a (r[i]?.getD 0) (c[j]?.getD 0))
theorem getD_mem {l : List Nat} {i : Nat} (h : i < l.length) : l[i]?.getD 0 ∈ l := by rw [List.getElem?_eq_getElem h]; exact List.getElem_mem h
theorem divAll_congr {k n q : Nat} {a a' : Nat → Nat → Int} {g : Int} (h : ∀ i j, i < n → j < q → a i j = a' i j) (hd : divAll k n q a g) : divAll k n q a' g := fun r c hr hc pr pc hrn hcq => by
  rw [dN_congr (m' := fun i j => a (r[i]?.getD 0) (c[j]?.getD 0)) fun i j hi hj => (h _ _ (hrn _ (getD_mem (by omega))) (hcq _ (getD_mem (by omega)))).symm]
  exact hd r c hr hc pr pc hrn hcq
theorem divAll_left {k n n' q : Nat} {a : Nat → Nat → Int} {g : Int} (hk : k ≤ 4) (h : divAll k n q a g) (u : Nat → Nat → Int) : divAll k n' q (fun i j => sm (fun s => u i s * a s j) n) g := fun r c hr hc pr pc hrn hcq => by
  refine dvd_comb (a := fun s j => a s (c[j]?.getD 0)) (u := fun i s => u (r[i]?.getD 0) s) fun t ht => ?_
  have h1 := dL_all (a := fun s j => a s (c[j]?.getD 0)) (g := g) (n := n) hk (fun l hl pl ln => by
    unfold dL; rw [hl]; exact h l c hl hc pl pc ln hcq) ((List.range k).map t) (by simp) (fun x hx => by
      obtain ⟨i, hi, rfl⟩ := List.mem_map.1 hx
      exact ht i (by simpa using hi))
  unfold dL at h1
  rw [List.length_map, List.length_range] at h1
  rw [dN_congr (m' := fun i j => a (((List.range k).map t)[i]?.getD 0) (c[j]?.getD 0)) fun i j hi hj => by simp [hi]]
  exact h1
theorem divAll_tr {k n q : Nat} {a : Nat → Nat → Int} {g : Int} (hk : k ≤ 4) (h : divAll k n q a g) : divAll k q n (fun i j => a j i) g := fun r c hr hc pr pc hrn hcq => by
  rw [← dN_tr hk]
  exact h c r hc hr pc pr hcq hrn
theorem divAll_right {k n q q' : Nat} {a : Nat → Nat → Int} {g : Int} (hk : k ≤ 4) (h : divAll k n q a g) (v : Nat → Nat → Int) : divAll k n q' (fun i j => sm (fun s => a i s * v s j) q) g := by
  have h1 := divAll_tr hk (divAll_left (n' := q') hk (divAll_tr hk h) (fun j s => v s j))
  refine divAll_congr (fun i j _ _ => sm_congr fun s _ => Int.mul_comm _ _) h1
/-- two like rows -/
theorem dN_like {n i j : Nat} (hn : n ≤ 4) (b : Nat → Nat → Int) (hi : i < n) (hj : j < n) (hij : i ≠ j) : dN n (fun t c => if t = i then b j c else b t c) = 0 := by
  have hf : ∀ t, (if t = i then j else t) < n ∨ ¬ t < n := fun t => by split <;> omega
  let l := (List.range n).map (fun t => if t = i then j else t)
  have hl : l.length = n := by simp [l]
  have e : dN n (fun t c => if t = i then b j c else b t c) = dL b l := by
    unfold dL
    rw [hl]
    refine dN_congr fun t c ht hc => ?_
    have : l[t]?.getD 0 = if t = i then j else t := by simp [l, ht]
    rw [this]
    split <;> rfl
  obtain ⟨l', h1, h2⟩ := sorted_ex l
  have hp := dL_perm b 0 h1 [] (by simp only [List.nil_append]; omega)
  simp only [List.nil_append] at hp
  rw [e]
  refine Int.zero_dvd.1 (hp.2 ?_)
  rcases sorted_cases l' h2 with h3 | ⟨p, x, r, e2⟩
  · exfalso
    have hnd : l'.Nodup := h3.imp (fun h => by omega)
    have hnd2 : l.Nodup := (h1.nodup_iff).2 hnd
    have hp2 : l.Pairwise (· ≠ ·) := hnd2
    rw [List.pairwise_iff_getElem] at hp2
    rcases Nat.lt_or_gt_of_ne hij with h | h
    · refine hp2 i j (by omega) (by omega) h ?_
      simp [l, hij.symm]
    · refine hp2 j i (by omega) (by omega) h ?_
      simp [l, hij.symm]
  · rw [e2, dL_twice b p r x (by rw [← e2]; have := h1.length_eq; omega)]
    exact Int.dvd_refl 0
theorem right_inv {n : Nat} (hn : n ≤ 4) (b : Nat → Nat → Int) (hd : dN n b = 1 ∨ dN n b = -1) : ∃ w : Nat → Nat → Int, ∀ i j, i < n → j < n → sm (fun s => b j s * w s i) n = if j = i then 1 else 0 := by
  refine ⟨fun s i => dN n b * dN n (fun t c => if t = i then (if s = c then 1 else 0) else b t c), fun i j hi hj => ?_⟩
  have h1 := dN_lin (n := n) (fun s => b j s) (fun s c => if s = c then 1 else 0) n i b hi
  have e1 : dN n (fun t c => if t = i then sm (fun s => b j s * (if s = c then 1 else 0)) n else b t c) = dN n (fun t c => if t = i then b j c else b t c) := by
    refine dN_congr fun t c ht hc => ?_
    split
    · rw [sm_single hc (fun s hs hne => by rw [if_neg hne]; simp), if_pos rfl]; simp
    · rfl
  rw [e1] at h1
  have e2 : sm (fun s => b j s * (dN n b * dN n (fun t c => if t = i then (if s = c then 1 else 0) else b t c))) n = dN n b * sm (fun s => b j s * dN n (fun t c => if t = i then (if s = c then 1 else 0) else b t c)) n := by
    rw [← sm_mul]
    exact sm_congr fun s _ => by grind
  rw [e2, ← h1]
  by_cases hij : j = i
  · subst hij
    have e3 : dN n (fun t c => if t = j then b j c else b t c) = dN n b := dN_congr fun t c _ _ => by
      by_cases h : t = j
      · rw [if_pos h, h]
      · rw [if_neg h]
    rw [if_pos rfl, e3]
    rcases hd with h | h <;> rw [h] <;> rfl
  · rw [if_neg hij, dN_like hn b hi hj (fun e => hij e.symm)]; simp
theorem left_inv {n : Nat} (hn : n ≤ 4) (u : Nat → Nat → Int) (hd : dN n u = 1 ∨ dN n u = -1) : ∃ w : Nat → Nat → Int, ∀ i j, i < n → j < n → sm (fun s => w i s * u s j) n = if i = j then 1 else 0 := by
  obtain ⟨w, h⟩ := right_inv hn (fun i j => u j i) (by rw [dN_tr hn]; exact hd)
  refine ⟨fun i s => w s i, fun i j hi hj => ?_⟩
  rw [show (if i = j then (1 : Int) else 0) = if j = i then 1 else 0 by by_cases e : i = j <;> simp [e, eq_comm], ← h i j hi hj]
  exact sm_congr fun s _ => Int.mul_comm _ _
/-- unimodular factors leave the divisors -/
theorem divAll_uav {k n q : Nat} (hk : k ≤ 4) (hn : n ≤ 4) (hq : q ≤ 4) {a u v : Nat → Nat → Int} (hu : dN n u = 1 ∨ dN n u = -1) (hv : dN q v = 1 ∨ dN q v = -1) (g : Int) : divAll k n q a g ↔ divAll k n q (fun i j => sm (fun t => sm (fun s => u i s * a s t) n * v t j) q) g := by
  constructor
  · intro h
    exact divAll_right hk (divAll_left (n' := n) hk h u) v
  · intro h
    obtain ⟨z, hz⟩ := right_inv hq v hv
    obtain ⟨w, hw⟩ := left_inv hn u hu
    have h1 := divAll_right (q' := q) hk h z
    have h2 : divAll k n q (fun i t => sm (fun s => u i s * a s t) n) g := by
      refine divAll_congr (fun i j hi hj => ?_) h1
      have e : sm (fun s => sm (fun t => sm (fun s => u i s * a s t) n * v t s) q * z s j) q = sm (fun t => sm (fun s => u i s * a s t) n * sm (fun s => v t s * z s j) q) q := by
        rw [show (fun s => sm (fun t => sm (fun s => u i s * a s t) n * v t s) q * z s j) = fun s => sm (fun t => sm (fun s => u i s * a s t) n * (v t s * z s j)) q from by
          funext s
          rw [Int.mul_comm, ← sm_mul]
          exact sm_congr fun t _ => by grind, sm_comm]
        exact sm_congr fun t _ => by rw [sm_mul]
      rw [e, sm_single hj (fun t ht hne => by rw [hz j t hj ht, if_neg hne]; simp), hz j j hj hj, if_pos rfl]; simp
    have h3 := divAll_left (n' := n) hk h2 w
    refine divAll_congr (fun i j hi hj => ?_) h3
    have e : sm (fun s => w i s * sm (fun s' => u s s' * a s' j) n) n = sm (fun s' => sm (fun s => w i s * u s s') n * a s' j) n := by
      rw [show (fun s => w i s * sm (fun s' => u s s' * a s' j) n) = fun s => sm (fun s' => w i s * (u s s' * a s' j)) n from by funext s; rw [sm_mul], sm_comm]
      refine sm_congr fun s' _ => ?_
      rw [Int.mul_comm, ← sm_mul]
      exact sm_congr fun s _ => by grind
    rw [e, sm_single hi (fun s hs hne => by rw [hw i s hi hs, if_neg (fun h => hne h.symm)]; simp), hw i i hi hi, if_pos rfl]; simp
/-! ### lists that ascend, in both spellings -/
theorem asc_nat : ∀ (k : Nat) (l : List Nat), l.length = k → l.Pairwise (· < ·) → Asc (l.map (fun x : Nat => (x : Int))) ∧ ∀ n : Nat, (∀ x ∈ l, x < n) → low (l.map (fun x : Nat => (x : Int))) ≤ n
  | 0, l, hl, _ => by
    rw [List.eq_nil_of_length_eq_zero hl]
    exact ⟨Asc.nil, fun n _ => by simp [low]⟩
  | k + 1, l, hl, hp => by
    rcases List.eq_nil_or_concat l with rfl | ⟨d, x, rfl⟩
    · simp at hl
    · rw [List.concat_eq_append] at hl hp ⊢
      obtain ⟨p1, _, p3⟩ := List.pairwise_append.1 hp
      obtain ⟨h1, h2⟩ := asc_nat k d (by simpa using hl) p1
      rw [List.map_append]
      refine ⟨Asc.snoc h1 (h2 x fun y hy => p3 y hy x (by simp)), fun n hn => ?_⟩
      rw [List.map_cons, List.map_nil, low_snoc]
      have := hn x (by simp)
      omega
theorem asc_int {c : List Int} (h : Asc c) : (c.map Int.toNat).Pairwise (· < ·) := by
  induction h with
  | nil => exact List.Pairwise.nil
  | @snoc c x h1 h2 ih =>
    rw [List.map_append]
    refine List.pairwise_append.2 ⟨ih, by simp, fun a ha b hb => ?_⟩
    obtain ⟨y, hy, rfl⟩ := List.mem_map.1 ha
    simp at hb
    subst hb
    have := h1.bd y hy
    omega
theorem mnr_dN {xss : List (List Int)} {k : Nat} {r c : List Int} (hr : r.length = k) (hc : c.length = k) : mnr xss r c = dN k (fun i j => el (rw_ xss (el r i).toNat) (el c j).toNat) := by
  unfold mnr
  rw [hr, dN_det (by rw [partR_len, hr]) (fun i hi => by rw [partR_row (by omega), prow_len, hc])]
  exact dN_congr fun i j hi hj => by rw [partR_row (by omega), prow_el (by omega)]
theorem dvd_mdiv {xss : List (List Int)} {n q k : Nat} {g : Int} : g ∣ mdiv xss n q k ↔ divAll k n q (fun i j => el (rw_ xss i) j) g := by
  unfold mdiv
  rw [dvd_gfold]
  constructor
  · intro h r c hr hc pr pc hrn hcq
    obtain ⟨r1, r2⟩ := asc_nat k r hr pr
    obtain ⟨c1, c2⟩ := asc_nat k c hc pc
    have h1 := h _ (mem_mall.2 ⟨_, mem_chs.2 ⟨by simpa using hr, r1, r2 n hrn⟩, _, mem_chs.2 ⟨by simpa using hc, c1, c2 q hcq⟩, rfl⟩)
    rw [mnr_dN (k := k) (by simpa using hr) (by simpa using hc)] at h1
    rw [dN_congr (m' := fun i j => el (rw_ xss (el (r.map (fun x : Nat => (x : Int))) i).toNat) (el (c.map (fun x : Nat => (x : Int))) j).toNat) fun i j hi hj => ?_]
    · exact h1
    · have e1 : (el (r.map (fun x : Nat => (x : Int))) i).toNat = r[i]?.getD 0 := by simp [el, List.getElem?_eq_getElem (show i < r.length by omega)]
      have e2 : (el (c.map (fun x : Nat => (x : Int))) j).toNat = c[j]?.getD 0 := by simp [el, List.getElem?_eq_getElem (show j < c.length by omega)]
      rw [e1, e2]
  · intro h x hx
    obtain ⟨r, hr, c, hc, rfl⟩ := mem_mall.1 hx
    obtain ⟨r1, r2, r3⟩ := mem_chs.1 hr
    obtain ⟨c1, c2, c3⟩ := mem_chs.1 hc
    have h1 := h (r.map Int.toNat) (c.map Int.toNat) (by simpa using r1) (by simpa using c1) (asc_int r2) (asc_int c2)
      (fun x hx => by obtain ⟨y, hy, rfl⟩ := List.mem_map.1 hx; have := r2.bd y hy; omega) (fun x hx => by obtain ⟨y, hy, rfl⟩ := List.mem_map.1 hx; have := c2.bd y hy; omega)
    rw [mnr_dN r1 c1, dN_congr (m' := fun i j => el (rw_ xss ((r.map Int.toNat)[i]?.getD 0)) ((c.map Int.toNat)[j]?.getD 0)) fun i j hi hj => ?_]
    · exact h1
    · have e1 : (r.map Int.toNat)[i]?.getD 0 = (el r i).toNat := by simp [el, List.getElem?_eq_getElem (show i < r.length by omega)]
      have e2 : (c.map Int.toNat)[j]?.getD 0 = (el c j).toNat := by simp [el, List.getElem?_eq_getElem (show j < c.length by omega)]
      rw [e1, e2]
/-! ### a diagonal -/
def prd (δ : Nat → Int) : Nat → Int
  | 0 => 1
  | k + 1 => prd δ k * δ k
theorem prd_cons (δ : Nat → Int) : ∀ k, prd δ (k + 1) = δ 0 * prd (fun i => δ (i + 1)) k
  | 0 => by simp [prd]
  | k + 1 => by
    have h := prd_cons δ k
    show prd δ (k + 1) * δ (k + 1) = δ 0 * (prd (fun i => δ (i + 1)) k * δ (k + 1))
    rw [h, Int.mul_assoc]
theorem dvd_rows : ∀ (k : Nat) (m : Nat → Nat → Int) (δ : Nat → Int), (∀ i j, i < k → j < k → δ i ∣ m i j) → prd δ k ∣ dN k m
  | 0, m, δ, _ => Int.dvd_refl 1
  | k + 1, m, δ, h => by
    rw [prd_cons, dN_succ]
    refine sm_dvd fun c hc => ?_
    exact Int.mul_dvd_mul (Int.dvd_mul_of_dvd_right (h 0 c (by omega) hc)) (dvd_rows k _ _ fun i j hi hj => h (i + 1) _ (by omega) (by split <;> omega))
theorem dN_diag : ∀ (k : Nat) (δ : Nat → Int), dN k (fun i j => if i = j then δ i else 0) = prd δ k
  | 0, δ => rfl
  | k + 1, δ => by
    rw [prd_cons, dN_succ, sm_single (k := 0) (by omega) (fun c hc hne => by rw [if_neg (fun e => hne e.symm)]; simp), if_pos rfl, sgn_zero, Int.one_mul]
    congr 1
    rw [← dN_diag k (fun i => δ (i + 1))]
    refine dN_congr fun i j _ _ => ?_
    simp
theorem asc_ge : ∀ (l : List Nat), l.Pairwise (· < ·) → ∀ (b i : Nat), (∀ x ∈ l, b ≤ x) → i < l.length → b + i ≤ l[i]?.getD 0
  | [], _, b, i, _, h => by simp at h
  | x :: l, hp, b, i, hb, hi => by
    obtain ⟨p1, p2⟩ := List.pairwise_cons.1 hp
    cases i with
    | zero => simpa using hb x (by simp)
    | succ i =>
      have := asc_ge l p2 (b + 1) i (fun y hy => by have := p1 y hy; have := hb x (by simp); omega) (by simpa using hi)
      simp only [List.getElem?_cons_succ]
      omega
/-- the diagonal that is wanted, zero beyond -/
def dg (ds : List Int) (i : Nat) : Int := if i < ds.length then el ds i else 0
theorem dg_dvd {ds : List Int} (hd : ∀ i, i < ds.length → dsOk ds i) : ∀ (d i : Nat), dg ds i ∣ dg ds (i + d)
  | 0, i => Int.dvd_refl _
  | d + 1, i => by
    refine Int.dvd_trans (dg_dvd hd d i) ?_
    unfold dg
    by_cases h : i + (d + 1) < ds.length
    · rw [if_pos (by omega), if_pos h]
      have h1 := (hd (i + (d + 1)) h).2 (by omega)
      rw [show i + (d + 1) - 1 = i + d by omega] at h1
      exact Int.dvd_of_emod_eq_zero h1
    · rw [if_neg h]; exact Int.dvd_zero _
theorem wantE_dvd {ds : List Int} (hd : ∀ i, i < ds.length → dsOk ds i) {i r j : Nat} (h : i ≤ r) : dg ds i ∣ wantE ds r j := by
  unfold wantE
  by_cases hr : r = j ∧ r < ds.length
  · rw [if_pos hr]
    obtain ⟨d, rfl⟩ : ∃ d, r = i + d := ⟨r - i, by omega⟩
    have := dg_dvd hd d i
    unfold dg at this ⊢
    rw [if_pos hr.2] at this
    exact this
  · rw [if_neg hr]; exact Int.dvd_zero _
theorem want_all {ds : List Int} (hd : ∀ i, i < ds.length → dsOk ds i) (k n q : Nat) : divAll k n q (wantE ds) (prd (dg ds) k) := fun r c hr hc pr pc hrn hcq => by
  refine dvd_rows k _ _ fun i j hi hj => wantE_dvd hd ?_
  have := asc_ge r pr 0 i (fun x _ => Nat.zero_le _) (by omega)
  omega
theorem want_one {ds : List Int} {k n q : Nat} (hn : k ≤ n) (hq : k ≤ q) {g : Int} (h : divAll k n q (wantE ds) g) : g ∣ prd (dg ds) k := by
  have h1 := h (List.range k) (List.range k) (by simp) (by simp) List.pairwise_lt_range List.pairwise_lt_range (fun x hx => by have := List.mem_range.1 hx; omega) (fun x hx => by have := List.mem_range.1 hx; omega)
  rw [dN_congr (m' := fun i j => if i = j then dg ds i else 0) fun i j hi hj => ?_, dN_diag] at h1
  · exact h1
  · have e1 : (List.range k)[i]?.getD 0 = i := by simp [hi]
    have e2 : (List.range k)[j]?.getD 0 = j := by simp [hj]
    rw [e1, e2]
    unfold wantE dg
    by_cases e : i = j
    · subst e
      by_cases hl : i < ds.length
      · rw [if_pos ⟨rfl, hl⟩, if_pos rfl, if_pos hl]
      · rw [if_neg (fun h => hl h.2), if_pos rfl, if_neg hl]
    · rw [if_neg (fun h => e h.1), if_neg e]
theorem prd_pos {ds : List Int} (hd : ∀ i, i < ds.length → dsOk ds i) : ∀ k, k ≤ ds.length → 1 ≤ prd (dg ds) k
  | 0, _ => by simp [prd]
  | k + 1, h => by
    have h1 := prd_pos hd k (by omega)
    have h2 := (hd k (by omega)).1
    have e : dg ds k = el ds k := if_pos (by omega)
    show 1 ≤ prd (dg ds) k * dg ds k
    rw [e]
    have := Int.mul_le_mul_of_nonneg_left h2 (show 0 ≤ prd (dg ds) k by omega)
    omega
theorem prd_zero (ds : List Int) : prd (dg ds) (ds.length + 1) = 0 := by
  show prd (dg ds) ds.length * dg ds ds.length = 0
  unfold dg
  rw [if_neg (by omega)]; simp
/-- the quotients of such divisors are the numbers of the diagonal -/
theorem smL_diag {ds : List Int} (hd : ∀ i, i < ds.length → dsOk ds i) {D : Nat → Int} {Q : Nat} (hQ : ds.length ≤ Q) (hD : ∀ k, k ≤ ds.length → D k = prd (dg ds) k) (hZ : ds.length < Q → D (ds.length + 1) = 0) : ∀ (j i : Nat), i + j = ds.length → smL D (Q - i) (i + 1) (prd (dg ds) i) = ds.drop i
  | 0, i, h => by
    obtain rfl : i = ds.length := by omega
    rw [List.drop_length]
    by_cases hq : ds.length < Q
    · obtain ⟨f, hf⟩ : ∃ f, Q - ds.length = f + 1 := ⟨Q - ds.length - 1, by omega⟩
      rw [hf]
      unfold smL
      rw [if_pos (hZ hq)]
    · rw [show Q - ds.length = 0 by omega]; rfl
  | j + 1, i, h => by
    obtain ⟨f, hf⟩ : ∃ f, Q - i = f + 1 := ⟨Q - i - 1, by omega⟩
    have hp := prd_pos hd i (by omega)
    have hp1 := prd_pos hd (i + 1) (by omega)
    have e1 : D (i + 1) = prd (dg ds) (i + 1) := hD _ (by omega)
    rw [hf]
    unfold smL
    rw [e1, if_neg (by omega)]
    have ih := smL_diag hd hQ hD hZ j (i + 1) (by omega)
    rw [show Q - (i + 1) = f by omega] at ih
    rw [ih]
    have e2 : (prd (dg ds) (i + 1)).tdiv (prd (dg ds) i) = el ds i := by
      show (prd (dg ds) i * dg ds i).tdiv (prd (dg ds) i) = el ds i
      rw [Int.mul_tdiv_cancel_left _ (by omega)]
      unfold dg
      rw [if_pos (by omega)]
    rw [e2, List.drop_eq_getElem_cons (show i < ds.length by omega)]
    congr 1
    simp [el, show i < ds.length by omega]
theorem uni_det {us : List (List Int)} {uq : Int} (h : uniV us uq = true) : dN us.length (fun i j => el (rw_ us i) j) = 1 ∨ dN us.length (fun i j => el (rw_ us i) j) = -1 := by
  obtain ⟨h1, h2⟩ := uniV_tb h
  unfold uniV at h
  simp only [Bool.and_eq_true, Bool.or_eq_true, decide_eq_true_eq] at h
  rw [← dN_det rfl (fun i hi => by have := (h1.row i hi).1; omega)]
  exact h.2
theorem smith_ok {xs us vs : List (List Int)} {q uq vq : Int} {ds : List Int} (h : SpOk xs q us uq vs vq ds) : smithL xs xs.length q.toNat = ds := by
  have ht := isTb_ok h.tb
  obtain ⟨hu1, hu2⟩ := uniV_tb h.uu
  obtain ⟨hv1, hv2⟩ := uniV_tb h.uv
  have hq1 := ht.q1
  have hq4 := ht.q4
  have hdu := uni_det h.uu
  have hdv := uni_det h.uv
  have hul : us.length = xs.length := by have := h.uq; omega
  have hvl : vs.length = q.toNat := by have := h.vq; omega
  have hdq := h.dq
  have hdn := h.dn
  rw [hul] at hdu
  rw [hvl] at hdv
  have hpr : ∀ i j, i < xs.length → j < q.toNat → sm (fun t => sm (fun s => el (rw_ us i) s * el (rw_ xs s) t) xs.length * el (rw_ vs t) j) q.toNat = wantE ds i j := fun i j hi hj => by
    rw [← h.pr i j hi hj, timesI_row (by rw [timesI_len, hul]; exact hi), psum_el hj, hvl]
    refine sm_congr fun t ht => ?_
    rw [timesI_row (by omega), psum_el ht]
  have key : ∀ (k : Nat) (g : Int), k ≤ 4 → (g ∣ mdiv xs xs.length q.toNat k ↔ divAll k xs.length q.toNat (wantE ds) g) := fun k g hk => by
    rw [dvd_mdiv, divAll_uav hk h.n4.2 (by omega) hdu hdv g]
    exact ⟨fun h => divAll_congr hpr h, fun h => divAll_congr (fun i j hi hj => (hpr i j hi hj).symm) h⟩
  have hmd : ∀ k, k ≤ xs.length → k ≤ q.toNat → mdiv xs xs.length q.toNat k = prd (dg ds) k ∨ mdiv xs xs.length q.toNat k = -prd (dg ds) k := fun k h1 h2 => by
    have hk : k ≤ 4 := by have := h.n4.2; omega
    have a1 : mdiv xs xs.length q.toNat k ∣ prd (dg ds) k := want_one h1 h2 ((key k _ hk).1 (Int.dvd_refl _))
    have a2 : prd (dg ds) k ∣ mdiv xs xs.length q.toNat k := (key k _ hk).2 (want_all h.dk k _ _)
    exact Int.natAbs_eq_natAbs_iff.1 (Nat.dvd_antisymm (Int.natAbs_dvd_natAbs.2 a1) (Int.natAbs_dvd_natAbs.2 a2))
  have hnn : ∀ k, 0 ≤ mdiv xs xs.length q.toNat k := fun k => gfold_nonneg _
  unfold smithL
  have := smL_diag (D := mdiv xs xs.length q.toNat) (Q := q.toNat) h.dk (by omega) (fun k hk => by
    have h1 := hmd k (by omega) (by omega)
    have h2 := hnn k
    have h3 := prd_pos h.dk k hk
    omega) (fun hlt => by
      by_cases hn : ds.length + 1 ≤ xs.length
      · have h1 := hmd (ds.length + 1) hn (by omega)
        rw [prd_zero] at h1
        omega
      · unfold mdiv mall mls
        rw [chs_short xs.length (ds.length + 1) (by omega)]
        rfl) ds.length 0 (by omega)
  simpa [prd] using this
end Go.Proofs.Ytcnphhcdjhmmkaa
