/- All ascending lists of k numbers below n, as the program and as the reference list them, and the greatest common divisor of the minors. No program in sight. -/
import Derived.Test.YtpkdgemnddcefaaDet
set_option linter.unusedVariables false
set_option linter.unusedSimpArgs false
namespace Go.Proofs.Ytpkdgemnddcefaa

def chs : Nat → Nat → List (List Int)
  | _, 0 => [[]]
  | 0, _ + 1 => []
  | n + 1, k + 1 => chs n (k + 1) ++ (chs n k).map (· ++ [(n : Int)])
theorem chs_zero (n : Nat) : chs n 0 = [[]] := by cases n <;> rfl
theorem chs_succ (n k : Nat) : chs (n + 1) (k + 1) = chs n (k + 1) ++ (chs n k).map (· ++ [(n : Int)]) := rfl
theorem chs_short : ∀ (n k : Nat), n < k → chs n k = []
  | 0, k + 1, _ => rfl
  | n + 1, k + 1, h => by rw [chs_succ, chs_short n (k + 1) (by omega), chs_short n k (by omega)]; rfl
theorem chs_len : ∀ (n k : Nat), (chs n k).length ≤ 2 ^ n
  | n, 0 => by rw [chs_zero]; exact Nat.one_le_two_pow
  | 0, k + 1 => by simp [chs]
  | n + 1, k + 1 => by
    rw [chs_succ, List.length_append, List.length_map, Nat.pow_succ]
    have h1 := chs_len n (k + 1)
    have h2 := chs_len n k
    omega
theorem chs_small {n k : Nat} (h : n ≤ 20) : (chs n k).length ≤ 1048576 := by
  have h1 := chs_len n k
  have h2 : (2 : Nat) ^ n ≤ 2 ^ 20 := Nat.pow_le_pow_right (by omega) h
  omega
theorem chs_row : ∀ {n k : Nat} {c : List Int}, c ∈ chs n k → c.length = k
  | n, 0, c, h => by rw [chs_zero] at h; simp at h; subst h; rfl
  | 0, k + 1, c, h => by simp [chs] at h
  | n + 1, k + 1, c, h => by
    rw [chs_succ, List.mem_append] at h
    rcases h with h | h
    · exact chs_row h
    · obtain ⟨d, hd, rfl⟩ := List.mem_map.1 h
      have := chs_row hd
      simp [this]
/-- the least number that may follow -/
def low (c : List Int) : Int := match c.getLast? with
  | none => 0
  | some x => x + 1
theorem low_nil : low [] = 0 := rfl
theorem low_snoc (c : List Int) (x : Int) : low (c ++ [x]) = x + 1 := by simp [low]
theorem low_el {c : List Int} {k : Nat} (h : c.length = k + 1) : low c = el c k + 1 := by
  rcases List.eq_nil_or_concat c with rfl | ⟨d, x, rfl⟩
  · simp at h
  · rw [List.concat_eq_append] at h ⊢
    rw [low_snoc]
    have : d.length = k := by simpa using h
    subst this
    simp [el]
inductive Asc : List Int → Prop
  | nil : Asc []
  | snoc {c : List Int} {x : Int} : Asc c → low c ≤ x → Asc (c ++ [x])
theorem Asc.inv {c : List Int} {x : Int} (h : Asc (c ++ [x])) : Asc c ∧ low c ≤ x := by
  generalize e : c ++ [x] = d at h
  cases h with
  | nil => simp at e
  | snoc h1 h2 =>
    obtain ⟨rfl, e2⟩ := List.append_inj' e rfl
    simp at e2
    subst e2
    exact ⟨h1, h2⟩
theorem Asc.low0 {c : List Int} (h : Asc c) : 0 ≤ low c := by
  induction h with
  | nil => exact Int.le_refl _
  | snoc h1 h2 ih => rw [low_snoc]; omega
theorem Asc.bd {c : List Int} (h : Asc c) : ∀ x ∈ c, 0 ≤ x ∧ x < low c := by
  induction h with
  | nil => intro x hx; simp at hx
  | snoc h1 h2 ih =>
    intro x hx
    have h0 := h1.low0
    rw [low_snoc]
    rw [List.mem_append] at hx
    rcases hx with hx | hx
    · have := ih x hx; omega
    · simp at hx; subst hx; omega
theorem mem_chs : ∀ {n k : Nat} {c : List Int}, c ∈ chs n k ↔ (c.length = k ∧ Asc c ∧ low c ≤ n)
  | n, 0, c => by
    rw [chs_zero]
    constructor
    · intro h; simp at h; subst h; exact ⟨rfl, .nil, by rw [low_nil]; omega⟩
    · intro h; have := List.eq_nil_of_length_eq_zero h.1; subst this; simp
  | 0, k + 1, c => by
    constructor
    · intro h; simp [chs] at h
    · rintro ⟨h1, h2, h3⟩
      cases h2 with
      | nil => simp at h1
      | snoc h4 h5 => rw [low_snoc] at h3; have := h4.low0; omega
  | n + 1, k + 1, c => by
    rw [chs_succ, List.mem_append, mem_chs, List.mem_map]
    constructor
    · rintro (⟨h1, h2, h3⟩ | ⟨d, hd, rfl⟩)
      · exact ⟨h1, h2, by omega⟩
      · obtain ⟨h1, h2, h3⟩ := mem_chs.1 hd
        exact ⟨by simp [h1], .snoc h2 h3, by rw [low_snoc]; omega⟩
    · rintro ⟨h1, h2, h3⟩
      cases h2 with
      | nil => simp at h1
      | @snoc d x h4 h5 =>
        rw [low_snoc] at h3
        have hl : d.length = k := by simpa using h1
        by_cases hx : x = (n : Int)
        · subst hx
          exact .inr ⟨d, mem_chs.2 ⟨hl, h4, h5⟩, rfl⟩
        · exact .inl ⟨h1, .snoc h4 h5, by rw [low_snoc]; omega⟩

/-! ### the reference's list -/
/-- c with one more number, from its least one below n -/
def extL (n : Nat) (c : List Int) (m : Nat) : List (List Int) := (List.range m).map fun (i : Nat) => c ++ [low c + (i : Int)]
def exts (n : Nat) (c : List Int) : List (List Int) := extL n c ((n : Int) - low c).toNat
def pks (n : Nat) : Nat → List (List Int)
  | 0 => [[]]
  | k + 1 => (pks n k).flatMap (exts n)
theorem mem_pks {n : Nat} : ∀ {k : Nat} {c : List Int}, c ∈ pks n k ↔ (c.length = k ∧ Asc c ∧ low c ≤ n)
  | 0, c => by
    constructor
    · intro h; simp [pks] at h; subst h; exact ⟨rfl, .nil, by rw [low_nil]; omega⟩
    · intro h; have := List.eq_nil_of_length_eq_zero h.1; subst this; simp [pks]
  | k + 1, c => by
    simp only [pks, List.mem_flatMap, exts, extL, List.mem_map, List.mem_range]
    constructor
    · rintro ⟨d, hd, i, hi, rfl⟩
      obtain ⟨h1, h2, h3⟩ := mem_pks.1 hd
      exact ⟨by simp [h1], .snoc h2 (by omega), by rw [low_snoc]; omega⟩
    · rintro ⟨h1, h2, h3⟩
      cases h2 with
      | nil => simp at h1
      | @snoc d x h4 h5 =>
        rw [low_snoc] at h3
        have hl : d.length = k := by simpa using h1
        exact ⟨d, mem_pks.2 ⟨hl, h4, by omega⟩, (x - low d).toNat, by omega, by rw [show low d + ((x - low d).toNat : Int) = x by omega]⟩
theorem extL_succ (n : Nat) (c : List Int) (m : Nat) : extL n c (m + 1) = extL n c m ++ [c ++ [low c + (m : Int)]] := by simp [extL, List.range_succ]
theorem extL_len (n : Nat) (c : List Int) (m : Nat) : (extL n c m).length = m := by simp [extL]
theorem flat_bd {f : List Int → List (List Int)} {B : Nat} : ∀ {l : List (List Int)}, (∀ c ∈ l, (f c).length ≤ B) → (l.flatMap f).length ≤ l.length * B
  | [], _ => by simp
  | c :: l, h => by
    rw [List.flatMap_cons, List.length_append, List.length_cons, Nat.add_mul, Nat.one_mul]
    have h1 := flat_bd (l := l) (fun d hd => h d (List.mem_cons_of_mem _ hd))
    have h2 := h c List.mem_cons_self
    omega
theorem exts_len {n : Nat} {c : List Int} (h : Asc c) : (exts n c).length ≤ n := by
  unfold exts; rw [extL_len]; have := h.low0; omega
theorem pks_len (n : Nat) : ∀ k, (pks n k).length ≤ n ^ k
  | 0 => by simp [pks]
  | k + 1 => by
    have h1 := pks_len n k
    have h2 := flat_bd (f := exts n) (B := n) (l := pks n k) (fun c hc => exts_len (mem_pks.1 hc).2.1)
    have h3 : (pks n k).length * n ≤ n ^ k * n := Nat.mul_le_mul_right _ h1
    simp only [pks, Nat.pow_succ]
    omega
theorem pks_small {n k : Nat} (hn : n ≤ 20) (hk : k ≤ 4) : (pks n k).length ≤ 160000 := by
  have h1 := pks_len n k
  have h2 : n ^ k ≤ 20 ^ k := Nat.pow_le_pow_left hn k
  have h3 : 20 ^ k ≤ 20 ^ 4 := Nat.pow_le_pow_right (by omega) hk
  omega
/-! ### the greatest common divisor of a list -/
def gfold (l : List Int) : Int := l.foldl (fun g x => (Int.gcd g x : Int)) 0
theorem gfold_snoc (l : List Int) (x : Int) : gfold (l ++ [x]) = (Int.gcd (gfold l) x : Int) := by simp [gfold]
theorem gfold_nil : gfold [] = 0 := rfl
theorem gfold_rec (P : List Int → Prop) (h0 : P []) (h1 : ∀ l x, P l → P (l ++ [x])) (l : List Int) : P l := by
  have : ∀ (n : Nat) (l : List Int), l.length = n → P l := by
    intro n
    induction n with
    | zero => intro l hl; rw [List.eq_nil_of_length_eq_zero hl]; exact h0
    | succ n ih =>
      intro l hl
      rcases List.eq_nil_or_concat l with rfl | ⟨d, x, rfl⟩
      · exact h0
      · rw [List.concat_eq_append] at hl ⊢
        exact h1 d x (ih d (by simpa using hl))
  exact this _ l rfl
theorem gfold_nonneg (l : List Int) : 0 ≤ gfold l := by
  refine gfold_rec (fun l => 0 ≤ gfold l) (by simp [gfold]) (fun l x _ => ?_) l
  rw [gfold_snoc]; omega
theorem dvd_gfold (d : Int) (l : List Int) : d ∣ gfold l ↔ ∀ x ∈ l, d ∣ x := by
  refine gfold_rec (fun l => d ∣ gfold l ↔ ∀ x ∈ l, d ∣ x) ?_ (fun l x ih => ?_) l
  · simp [gfold]
  · rw [gfold_snoc, Int.dvd_coe_gcd_iff, ih]
    constructor
    · rintro ⟨h1, h2⟩ y hy
      rw [List.mem_append] at hy
      rcases hy with hy | hy
      · exact h1 y hy
      · simp at hy; subst hy; exact h2
    · intro h
      exact ⟨fun y hy => h y (List.mem_append_left _ hy), h x (by simp)⟩
theorem gfold_bd {l : List Int} {B : Int} (hB : 0 ≤ B) (h : ∀ x ∈ l, -B ≤ x ∧ x ≤ B) : gfold l ≤ B := by
  revert h
  refine gfold_rec (fun l => (∀ x ∈ l, -B ≤ x ∧ x ≤ B) → gfold l ≤ B) (fun _ => by simpa [gfold]) (fun l x ih h => ?_) l
  have h1 := ih (fun y hy => h y (List.mem_append_left _ hy))
  have h2 := h x (by simp)
  have h0 := gfold_nonneg l
  rw [gfold_snoc]
  by_cases hx : x = 0
  · subst hx; rw [Int.gcd_zero_right]; omega
  · have := Int.gcd_le_natAbs_right (gfold l) hx; omega
theorem gfold_same {l k : List Int} (h : ∀ x, x ∈ l ↔ x ∈ k) : gfold l = gfold k := by
  have h1 : gfold l ∣ gfold k := (dvd_gfold _ _).2 fun x hx => (dvd_gfold _ _).1 (Int.dvd_refl _) x ((h x).2 hx)
  have h2 : gfold k ∣ gfold l := (dvd_gfold _ _).2 fun x hx => (dvd_gfold _ _).1 (Int.dvd_refl _) x ((h x).1 hx)
  exact Int.dvd_antisymm (gfold_nonneg _) (gfold_nonneg _) h1 h2
/-! ### minors -/
/-- row r of a part -/
def prow (xss : List (List Int)) (c : List Int) (r : Int) : List Int := c.map fun j => el (rw_ xss r.toNat) j.toNat
def partR (xss : List (List Int)) (r c : List Int) : List (List Int) := r.map (prow xss c)
def mnr (xss : List (List Int)) (r c : List Int) : Int := detN r.length (partR xss r c)
theorem partR_len (xss : List (List Int)) (r c : List Int) : (partR xss r c).length = r.length := by simp [partR]
theorem partR_row {xss : List (List Int)} {r c : List Int} {i : Nat} (h : i < r.length) : rw_ (partR xss r c) i = prow xss c (el r i) := by
  simp [partR, rw_, h, el]
theorem prow_len (xss : List (List Int)) (c : List Int) (r : Int) : (prow xss c r).length = c.length := by simp [prow]
theorem prow_el {xss : List (List Int)} {c : List Int} {r : Int} {j : Nat} (h : j < c.length) : el (prow xss c r) j = el (rw_ xss r.toNat) (el c j).toNat := by simp [prow, el, h]
/-- a list of k ascending numbers below n -/
structure Pick (n k : Nat) (c : List Int) : Prop where
  len : c.length = k
  rng : ∀ j, j < k → 0 ≤ el c j ∧ el c j < n
theorem Pick.of {n k : Nat} {c : List Int} (h : c.length = k ∧ Asc c ∧ low c ≤ n) : Pick n k c := by
  obtain ⟨h1, h2, h3⟩ := h
  refine ⟨h1, fun j hj => ?_⟩
  have := h2.bd _ (el_mem (show j < c.length by omega))
  omega
theorem mnr_sq {n q k : Nat} {xss : List (List Int)} {r c : List Int} (hr : Pick n k r) (hc : Pick q k c) (he : ∀ i j, i < n → j < q → -64 ≤ el (rw_ xss i) j ∧ el (rw_ xss i) j ≤ 64) : SqB k (partR xss r c) := by
  refine ⟨by rw [partR_len, hr.len], fun i hi => ?_, fun i j hi hj => ?_⟩
  · rw [partR_row (by rw [hr.len]; exact hi), prow_len, hc.len]
  · rw [partR_row (by rw [hr.len]; exact hi), prow_el (by rw [hc.len]; exact hj)]
    have h1 := hr.rng i hi
    have h2 := hc.rng j hj
    exact he _ _ (by omega) (by omega)
/-- the minors so far: all of the first i rows' choices, and j of the next one's -/
def mls (xss : List (List Int)) (R C : List (List Int)) (i j : Nat) : List Int := (R.take i).flatMap (fun r => C.map (mnr xss r)) ++ (C.take j).map (mnr xss (rw_ R i))
theorem mls_zero (xss R C : List (List Int)) : mls xss R C 0 0 = [] := by simp [mls]
theorem take_rw {A : List (List Int)} {j : Nat} (h : j < A.length) : A.take (j + 1) = A.take j ++ [rw_ A j] := by
  rw [List.take_add_one, rw_get h]; rfl
theorem mls_j {xss R C : List (List Int)} {i j : Nat} (h : j < C.length) : mls xss R C i (j + 1) = mls xss R C i j ++ [mnr xss (rw_ R i) (rw_ C j)] := by
  unfold mls
  rw [take_rw h, List.map_append, ← List.append_assoc]; rfl
theorem mls_i {xss R C : List (List Int)} {i : Nat} (h : i < R.length) : mls xss R C i C.length = mls xss R C (i + 1) 0 := by
  unfold mls
  rw [take_rw h, List.flatMap_append, List.take_length]
  simp
theorem mem_mls {xss R C : List (List Int)} {i j : Nat} {x : Int} (h : x ∈ mls xss R C i j) (hi : i < R.length ∨ j = 0) : ∃ r ∈ R, ∃ c ∈ C, x = mnr xss r c := by
  unfold mls at h
  rw [List.mem_append, List.mem_flatMap] at h
  rcases h with ⟨r, hr, h⟩ | h
  · obtain ⟨c, hc, rfl⟩ := List.mem_map.1 h
    exact ⟨r, List.mem_of_mem_take hr, c, hc, rfl⟩
  · obtain ⟨c, hc, rfl⟩ := List.mem_map.1 h
    rcases hi with hi | hi
    · exact ⟨_, rw_mem hi, c, List.mem_of_mem_take hc, rfl⟩
    · subst hi; simp at hc
/-- all minors -/
def mall (xss R C : List (List Int)) : List Int := mls xss R C R.length 0
theorem mem_mall {xss R C : List (List Int)} {x : Int} : x ∈ mall xss R C ↔ ∃ r ∈ R, ∃ c ∈ C, x = mnr xss r c := by
  constructor
  · intro h; exact mem_mls h (.inr rfl)
  · rintro ⟨r, hr, c, hc, rfl⟩
    unfold mall mls
    rw [List.take_length, List.mem_append, List.mem_flatMap]
    exact .inl ⟨r, hr, List.mem_map.2 ⟨c, hc, rfl⟩⟩
/-- the greatest common divisor of the minors of size k -/
def mdiv (xss : List (List Int)) (n q k : Nat) : Int := gfold (mall xss (chs n k) (chs q k))
theorem mdiv_pks (xss : List (List Int)) (n q k : Nat) : gfold (mall xss (pks n k) (pks q k)) = mdiv xss n q k := by
  refine gfold_same fun x => ?_
  rw [mem_mall, mem_mall]
  constructor
  · rintro ⟨r, hr, c, hc, rfl⟩
    exact ⟨r, mem_chs.2 (mem_pks.1 hr), c, mem_chs.2 (mem_pks.1 hc), rfl⟩
  · rintro ⟨r, hr, c, hc, rfl⟩
    exact ⟨r, mem_pks.2 (mem_chs.1 hr), c, mem_pks.2 (mem_chs.1 hc), rfl⟩
theorem gf_bd {n q k i j : Nat} {xss R C : List (List Int)} (hR : ∀ r ∈ R, Pick n k r) (hC : ∀ c ∈ C, Pick q k c) (he : ∀ i j, i < n → j < q → -64 ≤ el (rw_ xss i) j ∧ el (rw_ xss i) j ≤ 64) (hk : k ≤ 4) (hi : i < R.length ∨ j = 0) :
    0 ≤ gfold (mls xss R C i j) ∧ gfold (mls xss R C i j) ≤ 402653184 := by
  refine ⟨gfold_nonneg _, gfold_bd (by omega) fun x hx => ?_⟩
  obtain ⟨r, hr, c, hc, rfl⟩ := mem_mls hx hi
  have h1 := det_bd _ _ (mnr_sq (hR r hr) (hC c hc) he)
  have h2 := dB_le hk
  unfold mnr
  rw [(hR r hr).len]
  omega
end Go.Proofs.Ytpkdgemnddcefaa
