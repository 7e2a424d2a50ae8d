/- A pass of the program's hermite over its rows: exact as long as the numbers stay small; its determinants. No program in sight. -/
import Derived.Test.YtcnphhcdjhmmkaaUnA
import Derived.Test.YtcnphhcdjhmmkaaHer
set_option linter.unusedVariables false
set_option linter.unusedSimpArgs false
namespace Go.Proofs.Ytcnphhcdjhmmkaa
open Go.RowKit
def Rw (bs : List (List Int)) (x : Nat) : Nat → Int := el (rw_ bs x)
def Sg1 (e : Int) : Prop := e = 1 ∨ e = -1
theorem Sg1.mul {a b : Int} (h : Sg1 a) (h2 : Sg1 b) : Sg1 (a * b) := by
  rcases h with rfl | rfl <;> rcases h2 with rfl | rfl <;> simp [Sg1]
theorem Sg1.neg {a : Int} (h : Sg1 a) : Sg1 (-a) := by rcases h with rfl | rfl <;> simp [Sg1]
theorem Sg1.one : Sg1 1 := .inl rfl
theorem Sg1.zero {e x : Int} (h : Sg1 e) (h2 : e * x = 0) : x = 0 := by rcases h with rfl | rfl <;> omega
theorem Sg1.abs {e x y : Int} (h : Sg1 e) (h2 : x = e * y) : x.natAbs = y.natAbs := by rcases h with rfl | rfl <;> subst h2 <;> simp
/-- two rows mixed by a matrix of determinant 1 or -1 -/
def Mixed (x y x' y' : Nat → Int) : Prop := ∃ P Q R S : Int, Sg1 (P * S - Q * R) ∧ (∀ j, x' j = P * x j + Q * y j) ∧ (∀ j, y' j = R * x j + S * y j)
theorem Mixed.refl (x y : Nat → Int) : Mixed x y x y := ⟨1, 0, 0, 1, .inl (by decide), fun j => by omega, fun j => by omega⟩
theorem Mixed.sub {x y x' y' x2 : Nat → Int} {k : Int} (h : Mixed x y x' y') (h2 : ∀ j, x2 j = x' j - k * y' j) : Mixed x y x2 y' := by
  obtain ⟨P, Q, R, S, h0, h3, h4⟩ := h
  refine ⟨P - k * R, Q - k * S, R, S, ?_, fun j => ?_, h4⟩
  · have : (P - k * R) * S - (Q - k * S) * R = P * S - Q * R := by grind
    rw [this]; exact h0
  · rw [h2, h3, h4]; grind
theorem Mixed.swap {x y x' y' : Nat → Int} (h : Mixed x y x' y') : Mixed x y y' x' := by
  obtain ⟨P, Q, R, S, h0, h3, h4⟩ := h
  refine ⟨R, S, P, Q, ?_, h4, h3⟩
  have : R * Q - S * P = -(P * S - Q * R) := by grind
  rw [this]; exact h0.neg
theorem Mixed.d2 {v b v' b' : Nat → Int} (h : Mixed v b v' b') : ∃ e, Sg1 e ∧ ∀ i j, D2 b' v' i j = e * D2 b v i j := by
  obtain ⟨P, Q, R, S, h0, h3, h4⟩ := h
  refine ⟨_, h0, fun i j => ?_⟩
  rw [D2_swap v' b', D2_mat h3 h4, D2_swap b v]; grind
theorem Mixed.d3b {a v b v' b' : Nat → Int} (h : Mixed v b v' b') : ∃ e, Sg1 e ∧ ∀ i j k, D3 a b' v' i j k = e * D3 a b v i j k := by
  obtain ⟨P, Q, R, S, h0, h3, h4⟩ := h
  refine ⟨_, h0, fun i j k => ?_⟩
  rw [D3_swap23 a v' b', D3_23 h3 h4, D3_swap23 a b v]; grind
theorem Mixed.d3a {a v b v' a' : Nat → Int} (h : Mixed v a v' a') : ∃ e, Sg1 e ∧ ∀ i j k, D3 a' b v' i j k = e * D3 a b v i j k := by
  obtain ⟨P, Q, R, S, h0, h3, h4⟩ := h
  refine ⟨_, h0, fun i j k => ?_⟩
  have ha : ∀ j, a' j = S * a j + R * v j := fun j => by rw [h4]; omega
  have hv : ∀ j, v' j = Q * a j + P * v j := fun j => by rw [h3]; omega
  rw [D3_13 ha hv]; grind
theorem Mixed.d4c {a b c v v' c' : Nat → Int} (h : Mixed v c v' c') : ∃ e, Sg1 e ∧ D4 a b c' v' = e * D4 a b c v := by
  obtain ⟨P, Q, R, S, h0, h3, h4⟩ := h
  refine ⟨_, h0, ?_⟩
  have ha : ∀ j, c' j = S * c j + R * v j := fun j => by rw [h4]; omega
  have hv : ∀ j, v' j = Q * c j + P * v j := fun j => by rw [h3]; omega
  rw [D4_34 ha hv]; grind
theorem Mixed.d4b {a b c v v' b' : Nat → Int} (h : Mixed v b v' b') : ∃ e, Sg1 e ∧ D4 a b' c v' = e * D4 a b c v := by
  obtain ⟨P, Q, R, S, h0, h3, h4⟩ := h
  refine ⟨_, h0, ?_⟩
  have ha : ∀ j, b' j = S * b j + R * v j := fun j => by rw [h4]; omega
  have hv : ∀ j, v' j = Q * b j + P * v j := fun j => by rw [h3]; omega
  rw [D4_24 ha hv]; grind
theorem Mixed.d4a {a b c v v' a' : Nat → Int} (h : Mixed v a v' a') : ∃ e, Sg1 e ∧ D4 a' b c v' = e * D4 a b c v := by
  obtain ⟨P, Q, R, S, h0, h3, h4⟩ := h
  refine ⟨_, h0, ?_⟩
  have ha : ∀ j, a' j = S * a j + R * v j := fun j => by rw [h4]; omega
  have hv : ∀ j, v' j = Q * a j + P * v j := fun j => by rw [h3]; omega
  rw [D4_14 ha hv]; grind
/-! ### Euclid's steps -/
theorem na_sub_mul (x k y : Int) : (x - k * y).natAbs ≤ x.natAbs + k.natAbs * y.natAbs := by
  rw [← na_mul]; omega
theorem eu_num {A B C D K T X U : Nat} (h : K * C + T = X) (hd : D ≤ A + K * B) (hU : A * C + B * X ≤ U) : D * C + B * T ≤ U := by
  have h1 : D * C ≤ (A + K * B) * C := Nat.mul_le_mul_right _ hd
  have h2 : (A + K * B) * C = A * C + B * (K * C) := by grind
  have h3 : B * X = B * (K * C) + B * T := by rw [← h, Nat.mul_add]
  omega
theorem eu_exact {n c U : Nat} {p q : List Int × List Int} (h : EuF c p q) (hp : EuI n c p) (hc : c < n) (hU : ∀ j, (el p.1 j).natAbs * (el p.2 c).natAbs + (el p.2 j).natAbs * (el p.1 c).natAbs ≤ U) (h63 : U ≤ 4611686018427387904) (h1 : ∀ j, (el p.1 j).natAbs ≤ U) (h2 : ∀ j, (el p.2 j).natAbs ≤ U) :
    Mixed (el p.1) (el p.2) (el q.1) (el q.2) ∧ (∀ j, (el q.1 j).natAbs * (el q.2 c).natAbs + (el q.2 j).natAbs * (el q.1 c).natAbs ≤ U) ∧ (∀ j, (el q.1 j).natAbs ≤ U) ∧ ∀ j, (el q.2 j).natAbs ≤ U := by
  induction h with
  | refl => exact ⟨Mixed.refl _ _, hU, h1, h2⟩
  | @step q hq h0 ih =>
    obtain ⟨hm, g1, g2, g3⟩ := ih
    have hi := hq.inv hp hc
    have hr := hi.rest hc
    have e1 : ((el q.1 c).tdiv (el q.2 c)).natAbs * (el q.2 c).natAbs + ((el q.1 c).tmod (el q.2 c)).natAbs = (el q.1 c).natAbs := by
      rw [Int.natAbs_tdiv, Int.natAbs_tmod, Nat.mul_comm]; exact Nat.div_add_mod _ _
    have nzc := hi.nz
    have bnd : ∀ j, (el q.1 j - (el q.1 c).tdiv (el q.2 c) * el q.2 j).natAbs * (el q.2 c).natAbs + (el q.2 j).natAbs * ((el q.1 c).tmod (el q.2 c)).natAbs ≤ U := fun j => eu_num e1 (na_sub_mul _ _ _) (g1 j)
    have sml : ∀ j, (el q.1 j - (el q.1 c).tdiv (el q.2 c) * el q.2 j).natAbs ≤ U := fun j => Nat.le_trans (Nat.le_mul_of_pos_right _ (by omega)) (Nat.le_trans (Nat.le_add_right _ _) (bnd j))
    have ex : ∀ j, el (subW (quoW (el q.1 c) (el q.2 c)) q.1 q.2) j = el q.1 j - (el q.1 c).tdiv (el q.2 c) * el q.2 j := fun j => by
      by_cases hj : j < n
      · rw [subW_el (by rw [hi.l1]; exact hj)]
        unfold quoW
        rw [wr64_sub_mul]
        have := sml j
        exact wr64_in (by unfold I64; omega)
      · have z1 : el (subW (quoW (el q.1 c) (el q.2 c)) q.1 q.2) j = 0 := el_ge (by rw [subW_len, hi.l1]; omega)
        have z2 : el q.1 j = 0 := el_ge (by rw [hi.l1]; omega)
        have z3 : el q.2 j = 0 := el_ge (by rw [hi.l2]; omega)
        rw [z1, z2, z3]; simp
    have hm2 : Mixed (el p.1) (el p.2) (el (subW (quoW (el q.1 c) (el q.2 c)) q.1 q.2)) (el q.2) := hm.sub ex
    have b2 : ∀ j, (el (subW (quoW (el q.1 c) (el q.2 c)) q.1 q.2) j).natAbs * (el q.2 c).natAbs + (el q.2 j).natAbs * (el (subW (quoW (el q.1 c) (el q.2 c)) q.1 q.2) c).natAbs ≤ U := fun j => by rw [hr, ex j]; exact bnd j
    have b3 : ∀ j, (el (subW (quoW (el q.1 c) (el q.2 c)) q.1 q.2) j).natAbs ≤ U := fun j => by rw [ex j]; exact sml j
    unfold euS
    by_cases h5 : el (subW (quoW (el q.1 c) (el q.2 c)) q.1 q.2) c = 0
    · rw [if_pos h5]; exact ⟨hm2, b2, b3, g3⟩
    · rw [if_neg h5]; exact ⟨hm2.swap, fun j => by rw [Nat.add_comm]; exact b2 j, g3, b3⟩
theorem EuF.zero {c : Nat} {p q : List Int × List Int} (h : EuF c p q) (h0 : el p.1 c = 0) : q = p := by
  induction h with
  | refl => rfl
  | step _ h1 ih => subst ih; exact absurd h0 h1
/-! ### the pass -/
inductive PassX (n c : Nat) (s : List (List Int) × List Int) : Nat → List (List Int) × List Int → Prop
  | start : PassX n c s c s
  | step {k : Nat} {t u : List (List Int) × List Int} : PassX n c s k t → ColR n k t u → PassX n c s (k + 1) u
theorem PassR.toX {n k : Nat} {s t : List (List Int) × List Int} (h : PassR n s k t) : PassX n 0 s k t := by
  induction h with
  | start => exact .start
  | step _ hr ih => exact .step ih hr
theorem PassX.le {n c k : Nat} {s t : List (List Int) × List Int} (h : PassX n c s k t) : c ≤ k := by
  induction h with
  | start => exact Nat.le_refl _
  | step _ hr ih => omega
theorem PassX.split {n c k m : Nat} {s t : List (List Int) × List Int} (h : PassX n c s k t) (h1 : c ≤ m) (h2 : m ≤ k) : ∃ u, PassX n c s m u ∧ PassX n m u k t := by
  induction h with
  | start => obtain rfl : m = c := by omega
             exact ⟨_, .start, .start⟩
  | @step k t u h3 hr ih =>
    by_cases e : m = k + 1
    · subst e; exact ⟨_, .step h3 hr, .start⟩
    · obtain ⟨y, y1, y2⟩ := ih (by omega)
      exact ⟨y, y1, .step y2 hr⟩
theorem PassX.first {n c k : Nat} {s t : List (List Int) × List Int} (h : PassX n c s k t) (h1 : c < k) : ∃ u, ColR n c s u ∧ PassX n (c + 1) u k t := by
  obtain ⟨u, h2, h3⟩ := h.split (m := c + 1) (by omega) (by omega)
  generalize hm : c + 1 = m at h2
  cases h2 with
  | start => omega
  | @step k' t' u' h4 hr =>
    obtain rfl : k' = c := by omega
    have e : t' = s := by
      generalize hk : k' = k2 at h4
      cases h4 with
      | start => rfl
      | step h5 _ => have := h5.le; omega
    subst e
    exact ⟨u, hr, h3⟩
theorem rowSet_self {xss : List (List Int)} {i : Nat} : rowSet xss i (rw_ xss i) = xss := by
  unfold rowSet
  refine Eq.trans ?_ (tab_rw xss)
  exact tab_congr fun j _ => by
    by_cases h : j = i
    · rw [if_pos h, h]
    · rw [if_neg h]
theorem ColR.zero {n c : Nat} {s t : List (List Int) × List Int} (h : ColR n c s t) (hz : ∀ j, el s.2 j = 0) : t = s := by
  cases h with
  | skip => rfl
  | put h0 _ => exact absurd (hz c) h0
  | @eu bs v v' b' hb hf h0 =>
    have := hf.zero (hz c)
    injection this with e1 e2
    subst e1; subst e2
    rw [rowSet_self]
theorem PassX.zero {n c k : Nat} {s t : List (List Int) × List Int} (h : PassX n c s k t) (hz : ∀ j, el s.2 j = 0) : t = s := by
  induction h with
  | start => rfl
  | step _ hr ih => subst ih; exact hr.zero hz
theorem el_zeros (n j : Nat) : el (tab n fun _ => (0 : Int)) j = 0 := by
  by_cases h : j < n
  · exact el_tab h
  · exact el_ge (by rw [tab_len]; omega)
theorem PassX.gap {n c k : Nat} {bs : List (List Int)} {v : List Int} {t : List (List Int) × List Int} (h : PassX n c (bs, v) k t) (hk : k ≤ n) (hv : Hnd n c v) (hg : ∀ j, c ≤ j → j < k → rw_ bs j = []) :
    (t = (bs, v) ∧ Hnd n k v) ∨ ∃ j, c ≤ j ∧ j < k ∧ el v j ≠ 0 ∧ (∀ i, i < j → el v i = 0) ∧ t = (rowSet bs j v, tab n fun _ => 0) := by
  induction h with
  | start => exact .inl ⟨rfl, hv⟩
  | @step k t u h1 hr ih =>
    have hck := h1.le
    rcases ih (by omega) (fun j h2 h3 => hg j h2 (by omega)) with ⟨rfl, hv2⟩ | ⟨j, j1, j2, j3, j4, rfl⟩
    · cases hr with
      | skip h0 => exact .inl ⟨rfl, hv2.next h0⟩
      | put h0 hb => exact .inr ⟨k, hck, by omega, h0, hv2.z, rfl⟩
      | eu hb _ _ => exact absurd (hg k hck (by omega)) hb
    · exact .inr ⟨j, j1, by omega, j3, j4, hr.zero (el_zeros n)⟩
theorem stageL {n c : Nat} {bs : List (List Int)} {v : List Int} {t : List (List Int) × List Int} (h : PassX n c (bs, v) n t) (hv : Hnd n c v) (hg : ∀ j, c ≤ j → j < n → rw_ bs j = []) :
    (∃ j, c ≤ j ∧ j < n ∧ el v j ≠ 0 ∧ (∀ i, i < j → el v i = 0) ∧ t.1 = rowSet bs j v) ∨ (t.1 = bs ∧ ∀ j, el v j = 0) := by
  rcases h.gap (Nat.le_refl _) hv hg with ⟨rfl, hv2⟩ | ⟨j, j1, j2, j3, j4, rfl⟩
  · refine .inr ⟨rfl, fun j => ?_⟩
    by_cases hj : j < n
    · exact hv2.z j hj
    · exact el_ge (by rw [hv2.len]; omega)
  · exact .inl ⟨j, j1, j2, j3, j4, rfl⟩
theorem stage {n c x U : Nat} {bs : List (List Int)} {v : List Int} {t : List (List Int) × List Int} (h : PassX n c (bs, v) n t) (he : Ech n bs) (hv : Hnd n c v) (hcx : c ≤ x) (hx : x < n) (hg : ∀ j, c ≤ j → j < x → rw_ bs j = []) (hf : rw_ bs x ≠ []) (hU : ∀ j, (el v j).natAbs * (Rw bs x x).natAbs + (Rw bs x j).natAbs * (el v x).natAbs ≤ U) (h63 : U ≤ 4611686018427387904) (h1 : ∀ j, (el v j).natAbs ≤ U) (h2 : ∀ j, (Rw bs x j).natAbs ≤ U) :
    (∃ j, c ≤ j ∧ j < x ∧ el v j ≠ 0 ∧ (∀ i, i < j → el v i = 0) ∧ t.1 = rowSet bs j v) ∨
    (∃ v' b', PassX n (x + 1) (rowSet bs x b', v') n t ∧ Ech n (rowSet bs x b') ∧ Hnd n (x + 1) v' ∧ b' ≠ [] ∧ (∀ j, j < x → el b' j = 0) ∧ el b' x ≠ 0 ∧ Mixed (el v) (Rw bs x) (el v') (el b') ∧ (∀ j, (el v' j).natAbs ≤ U) ∧ ∀ j, (el b' j).natAbs ≤ U) := by
  obtain ⟨u, k1, k2⟩ := h.split (m := x) hcx (by omega)
  rcases k1.gap (by omega) hv hg with ⟨rfl, hv2⟩ | ⟨j, j1, j2, j3, j4, rfl⟩
  · obtain ⟨u2, k3, k4⟩ := k2.first hx
    have hi := he.eui hv2 hx hf
    have keep := k3.keep hx he hv2
    right
    cases k3 with
    | skip h0 =>
      exact ⟨v, rw_ bs x, by rw [rowSet_self]; exact k4, by rw [rowSet_self]; exact he, keep.2, hf, hi.z2, hi.nz, Mixed.refl _ _, h1, h2⟩
    | put _ hb => exact absurd hb hf
    | @eu _ _ v' b' hb hfe h0 =>
      obtain ⟨g1, g2, g3, g4⟩ := eu_exact hfe hi hx hU h63 h1 h2
      have hi2 := hfe.inv hi hx
      refine ⟨v', b', k4, keep.1, keep.2, fun hb2 => ?_, hi2.z2, hi2.nz, g1, g3, g4⟩
      have := hi2.l2
      rw [hb2] at this
      simp at this
      omega
  · left
    rw [k2.zero (el_zeros n)]
    exact ⟨j, j1, j2, j3, j4, rfl⟩
/-! ### which columns are filled -/
theorem fil_set {n k j : Nat} {bs : List (List Int)} {r : List Int} (hl : bs.length = n) (hj : j < n) (hr : r ≠ []) : rw_ (rowSet bs k r) j ≠ [] ↔ (j = k ∨ rw_ bs j ≠ []) := by
  by_cases e : j = k
  · subst e; rw [rowSet_eq (by omega)]; simp [hr]
  · rw [rowSet_ne (by omega) e]; simp [e]
theorem Rw_eq {n k : Nat} {bs : List (List Int)} {r : List Int} (hl : bs.length = n) (hk : k < n) : Rw (rowSet bs k r) k = el r := by unfold Rw; rw [rowSet_eq (by omega)]
theorem Rw_ne {n k j : Nat} {bs : List (List Int)} {r : List Int} (hl : bs.length = n) (hj : j < n) (h : j ≠ k) : Rw (rowSet bs k r) j = Rw bs j := by unfold Rw; rw [rowSet_ne (by omega) h]
theorem ne_nil_of {n : Nat} {v : List Int} (hl : v.length = n) (h0 : 0 < n) : v ≠ [] := fun e => by rw [e] at hl; simp at hl; omega
theorem pair_num {A B C D M N U : Nat} (h1 : A ≤ M) (h2 : B ≤ N) (h3 : C ≤ N) (h4 : D ≤ M) (hU : M * N + N * M ≤ U) : A * B + C * D ≤ U :=
  Nat.le_trans (Nat.add_le_add (Nat.mul_le_mul h1 h2) (Nat.mul_le_mul h3 h4)) hU
theorem pass1 {n x : Nat} {bs : List (List Int)} {v : List Int} {t : List (List Int) × List Int} (h : PassX n 0 (bs, v) n t) (he : Ech n bs) (hv : Hnd n 0 v) (hx : x < n) (hf : ∀ j, j < n → (rw_ bs j ≠ [] ↔ j = x)) (ha : ∀ j, (Rw bs x j).natAbs ≤ 64) (hb : ∀ j, (el v j).natAbs ≤ 64) :
    (∃ x1 x2 e, x1 < x2 ∧ x2 < n ∧ (∀ j, j < n → (rw_ t.1 j ≠ [] ↔ j = x1 ∨ j = x2)) ∧ (∀ j, (Rw t.1 x1 j).natAbs ≤ 8192) ∧ (∀ j, (Rw t.1 x2 j).natAbs ≤ 8192) ∧ Sg1 e ∧ ∀ i j, D2 (Rw t.1 x1) (Rw t.1 x2) i j = e * D2 (Rw bs x) (el v) i j)
    ∨ ((∀ j, j < n → rw_ t.1 j ≠ [] → rw_ bs j ≠ []) ∧ ∀ i j, D2 (Rw bs x) (el v) i j = 0) := by
  have hl := he.len
  have hvn := ne_nil_of hv.len (by omega)
  rcases stage (U := 8192) h he hv (Nat.zero_le _) hx (fun j _ hj => Classical.not_not.1 fun hn => by have := (hf j (by omega)).1 hn; omega) ((hf x hx).2 rfl)
    (fun j => pair_num (hb j) (ha x) (ha j) (hb x) (by decide)) (by decide) (fun j => Nat.le_trans (hb j) (by decide)) (fun j => Nat.le_trans (ha j) (by decide)) with ⟨j, _, j1, j2, j3, et⟩ | ⟨v', b', hp, he', hv', hb', hz', hn', hm, g2, g3⟩
  · refine .inl ⟨j, x, -1, j1, hx, fun i hi => ?_, fun i => ?_, fun i => ?_, .inr rfl, fun i k => ?_⟩ <;> rw [et]
    · rw [fil_set hl hi hvn, hf i hi]
    · rw [Rw_eq hl (by omega)]; exact Nat.le_trans (hb i) (by decide)
    · rw [Rw_ne hl hx (by omega)]; exact Nat.le_trans (ha i) (by decide)
    · rw [Rw_eq hl (by omega), Rw_ne hl hx (by omega), D2_swap]; omega
  · have hl' := he'.len
    obtain ⟨e, he1, hd⟩ := hm.d2
    have hvn' := ne_nil_of hv'.len (by omega)
    have hf' : ∀ i, i < n → (rw_ (rowSet bs x b') i ≠ [] ↔ i = x) := fun i hi => by rw [fil_set hl hi hb', hf i hi]; omega
    rcases stageL hp hv' (fun j h1 h2 => Classical.not_not.1 fun hn => by have := (hf' j h2).1 hn; omega) with ⟨j, j0, j1, j2, j3, et⟩ | ⟨et, hz⟩
    · refine .inl ⟨x, j, e, by omega, j1, fun i hi => ?_, fun i => ?_, fun i => ?_, he1, fun i k => ?_⟩ <;> rw [et]
      · rw [fil_set hl' hi hvn', hf' i hi]; omega
      · rw [Rw_ne hl' hx (by omega), Rw_eq hl hx]; exact g3 i
      · rw [Rw_eq hl' j1]; exact g2 i
      · rw [Rw_ne hl' hx (by omega), Rw_eq hl hx, Rw_eq hl' j1]; exact hd i k
    · refine .inr ⟨fun j hj h1 => (hf j hj).2 ((hf' j hj).1 (by rw [← et]; exact h1)), fun i j => he1.zero ?_⟩
      rw [← hd i j]
      unfold D2
      rw [hz, hz]; simp
theorem pass2 {n x y : Nat} {bs : List (List Int)} {v : List Int} {t : List (List Int) × List Int} (h : PassX n 0 (bs, v) n t) (he : Ech n bs) (hv : Hnd n 0 v) (hxy : x < y) (hy : y < n) (hf : ∀ j, j < n → (rw_ bs j ≠ [] ↔ j = x ∨ j = y)) (ha : ∀ j, (Rw bs x j).natAbs ≤ 8192) (hb : ∀ j, (Rw bs y j).natAbs ≤ 8192) (hw : ∀ j, (el v j).natAbs ≤ 64) :
    (∃ x1 x2 x3 e, x1 < x2 ∧ x2 < x3 ∧ x3 < n ∧ (∀ j, j < n → (rw_ t.1 j ≠ [] ↔ j = x1 ∨ j = x2 ∨ j = x3)) ∧ (∀ j, (Rw t.1 x1 j).natAbs ≤ 1048576) ∧ (∀ j, (Rw t.1 x2 j).natAbs ≤ 17179869184) ∧ (∀ j, (Rw t.1 x3 j).natAbs ≤ 17179869184) ∧ Sg1 e ∧ ∀ i j k, D3 (Rw t.1 x1) (Rw t.1 x2) (Rw t.1 x3) i j k = e * D3 (Rw bs x) (Rw bs y) (el v) i j k)
    ∨ ((∀ j, j < n → rw_ t.1 j ≠ [] → rw_ bs j ≠ []) ∧ ∀ i j k, D3 (Rw bs x) (Rw bs y) (el v) i j k = 0) := by
  have hl := he.len
  have hx : x < n := by omega
  have hvn := ne_nil_of hv.len (by omega)
  rcases stage (U := 1048576) h he hv (Nat.zero_le _) hx (fun j _ hj => Classical.not_not.1 fun hn => by have := (hf j (by omega)).1 hn; omega) ((hf x hx).2 (.inl rfl))
    (fun j => pair_num (hw j) (ha x) (ha j) (hw x) (by decide)) (by decide) (fun j => Nat.le_trans (hw j) (by decide)) (fun j => Nat.le_trans (ha j) (by decide)) with ⟨j, _, j1, j2, j3, et⟩ | ⟨v', a', hp, he', hv', ha', hz', hn', hm, g2, g3⟩
  · refine .inl ⟨j, x, y, 1, j1, hxy, hy, fun i hi => ?_, fun i => ?_, fun i => ?_, fun i => ?_, .inl rfl, fun i k l => ?_⟩ <;> rw [et]
    · rw [fil_set hl hi hvn, hf i hi]
    · rw [Rw_eq hl (by omega)]; exact Nat.le_trans (hw i) (by decide)
    · rw [Rw_ne hl hx (by omega)]; exact Nat.le_trans (ha i) (by decide)
    · rw [Rw_ne hl hy (by omega)]; exact Nat.le_trans (hb i) (by decide)
    · rw [Rw_eq hl (by omega), Rw_ne hl hx (by omega), Rw_ne hl hy (by omega), D3_swap12, D3_swap23]; omega
  · have hl' := he'.len
    obtain ⟨e, he1, hd⟩ := hm.d3a (b := Rw bs y)
    have hvn' := ne_nil_of hv'.len (by omega)
    have hf' : ∀ i, i < n → (rw_ (rowSet bs x a') i ≠ [] ↔ i = x ∨ i = y) := fun i hi => by rw [fil_set hl hi ha', hf i hi]; omega
    have ey : Rw (rowSet bs x a') y = Rw bs y := Rw_ne hl hy (by omega)
    rcases stage (U := 17179869184) (x := y) hp he' hv' (by omega) hy (fun j h1 h2 => Classical.not_not.1 fun hn => by have := (hf' j (by omega)).1 hn; omega) ((hf' y hy).2 (.inr rfl))
      (fun j => by rw [ey]; exact pair_num (g2 j) (hb y) (hb j) (g2 y) (by decide)) (by decide) (fun j => Nat.le_trans (g2 j) (by decide)) (fun j => by rw [ey]; exact Nat.le_trans (hb j) (by decide)) with ⟨j, j0, j1, j2, j3, et⟩ | ⟨v2, b', hp2, he2, hv2, hb', hz2, hn2, hm2, k2, k3⟩
    · refine .inl ⟨x, j, y, -e, by omega, j1, hy, fun i hi => ?_, fun i => ?_, fun i => ?_, fun i => ?_, he1.neg, fun i k l => ?_⟩ <;> rw [et]
      · rw [fil_set hl' hi hvn', hf' i hi]; omega
      · rw [Rw_ne hl' hx (by omega), Rw_eq hl hx]; exact g3 i
      · rw [Rw_eq hl' (by omega)]; exact Nat.le_trans (g2 i) (by decide)
      · rw [Rw_ne hl' hy (by omega), ey]; exact Nat.le_trans (hb i) (by decide)
      · rw [Rw_ne hl' hx (by omega), Rw_eq hl hx, Rw_eq hl' (by omega), Rw_ne hl' hy (by omega), ey, D3_swap23, hd]; grind
    · have hl2 := he2.len
      obtain ⟨e2, he3, hd2⟩ := hm2.d3b (a := el a')
      have hvn2 := ne_nil_of hv2.len (by omega)
      have hf2 : ∀ i, i < n → (rw_ (rowSet (rowSet bs x a') y b') i ≠ [] ↔ i = x ∨ i = y) := fun i hi => by rw [fil_set hl' hi hb', hf' i hi]; omega
      have hdd : ∀ i j k, D3 (el a') (el b') (el v2) i j k = e2 * e * D3 (Rw bs x) (Rw bs y) (el v) i j k := fun i j k => by rw [hd2, ey, hd]; grind
      rcases stageL hp2 hv2 (fun j h1 h2 => Classical.not_not.1 fun hn => by have := (hf2 j h2).1 hn; omega) with ⟨j, j0, j1, j2, j3, et⟩ | ⟨et, hz⟩
      · refine .inl ⟨x, y, j, e2 * e, hxy, by omega, j1, fun i hi => ?_, fun i => ?_, fun i => ?_, fun i => ?_, he3.mul he1, fun i k l => ?_⟩ <;> rw [et]
        · rw [fil_set hl2 hi hvn2, hf2 i hi]; omega
        · rw [Rw_ne hl2 hx (by omega), Rw_ne hl' hx (by omega), Rw_eq hl hx]; exact g3 i
        · rw [Rw_ne hl2 hy (by omega), Rw_eq hl' hy]; exact k3 i
        · rw [Rw_eq hl2 j1]; exact k2 i
        · rw [Rw_ne hl2 hx (by omega), Rw_ne hl' hx (by omega), Rw_eq hl hx, Rw_ne hl2 hy (by omega), Rw_eq hl' hy, Rw_eq hl2 j1]; exact hdd i k l
      · refine .inr ⟨fun j hj h1 => (hf j hj).2 ((hf2 j hj).1 (by rw [← et]; exact h1)), fun i j k => (he3.mul he1).zero ?_⟩
        rw [← hdd i j k]
        unfold D3
        rw [hz, hz, hz]; simp
/-- four columns: the last pass -/
theorem pass3 {x y z : Nat} {bs : List (List Int)} {v : List Int} {t : List (List Int) × List Int} (h : PassX 4 0 (bs, v) 4 t) (he : Ech 4 bs) (hv : Hnd 4 0 v) (hxy : x < y) (hyz : y < z) (hz : z < 4) (hf : ∀ j, j < 4 → (rw_ bs j ≠ [] ↔ j = x ∨ j = y ∨ j = z)) (ha : ∀ j, (Rw bs x j).natAbs ≤ 1572864) (hb : ∀ j, (Rw bs y j).natAbs ≤ 1572864) (hc : ∀ j, (Rw bs z j).natAbs ≤ 1572864) (hw : ∀ j, (el v j).natAbs ≤ 64)
    (hq : ∀ u, (D3 (Rw bs x) (Rw bs y) (el v) x y u).natAbs ≤ 301989888) :
    (∃ e, (∀ j, j < 4 → rw_ t.1 j ≠ []) ∧ Sg1 e ∧ D4 (Rw t.1 0) (Rw t.1 1) (Rw t.1 2) (Rw t.1 3) = e * D4 (Rw bs x) (Rw bs y) (Rw bs z) (el v))
    ∨ ((∀ j, j < 4 → rw_ t.1 j ≠ [] → rw_ bs j ≠ []) ∧ D4 (Rw bs x) (Rw bs y) (Rw bs z) (el v) = 0) := by
  have hl := he.len
  have hx : x < 4 := by omega
  have hy : y < 4 := by omega
  have hvn := ne_nil_of hv.len (by omega)
  rcases stage (U := 201326592) h he hv (Nat.zero_le _) hx (fun j _ hj => Classical.not_not.1 fun hn => by have := (hf j (by omega)).1 hn; omega) ((hf x hx).2 (.inl rfl))
    (fun j => pair_num (hw j) (ha x) (ha j) (hw x) (by decide)) (by decide) (fun j => Nat.le_trans (hw j) (by decide)) (fun j => Nat.le_trans (ha j) (by decide)) with ⟨j, _, j1, j2, j3, et⟩ | ⟨v', a', hp, he', hv', ha', hz', hn', hm, g2, g3⟩
  · obtain ⟨rfl, rfl, rfl, rfl⟩ : j = 0 ∧ x = 1 ∧ y = 2 ∧ z = 3 := by omega
    refine .inl ⟨-1, fun i hi => ?_, .inr rfl, ?_⟩ <;> rw [et]
    · rw [fil_set hl hi hvn, hf i hi]; omega
    · rw [Rw_eq hl (by omega), Rw_ne hl (by omega) (by omega), Rw_ne hl (by omega) (by omega), Rw_ne hl (by omega) (by omega), D4_swap12, D4_swap23, D4_swap34]; omega
  · have hl' := he'.len
    obtain ⟨e, he1, hd⟩ := hm.d3a (b := Rw bs y)
    obtain ⟨f, hf1, hdf⟩ := hm.d4a (b := Rw bs y) (c := Rw bs z)
    have hvn' := ne_nil_of hv'.len (by omega)
    have hf' : ∀ i, i < 4 → (rw_ (rowSet bs x a') i ≠ [] ↔ i = x ∨ i = y ∨ i = z) := fun i hi => by rw [fil_set hl hi ha', hf i hi]; omega
    have ey : Rw (rowSet bs x a') y = Rw bs y := Rw_ne hl hy (by omega)
    have ez : Rw (rowSet bs x a') z = Rw bs z := Rw_ne hl hz (by omega)
    rcases stage (U := 633318697598976) (x := y) hp he' hv' (by omega) hy (fun j h1 h2 => Classical.not_not.1 fun hn => by have := (hf' j (by omega)).1 hn; omega) ((hf' y hy).2 (.inr (.inl rfl)))
      (fun j => by rw [ey]; exact pair_num (g2 j) (hb y) (hb j) (g2 y) (by decide)) (by decide) (fun j => Nat.le_trans (g2 j) (by decide)) (fun j => by rw [ey]; exact Nat.le_trans (hb j) (by decide)) with ⟨j, j0, j1, j2, j3, et⟩ | ⟨v2, b', hp2, he2, hv2, hb', hz2, hn2, hm2, k2, k3⟩
    · obtain ⟨rfl, rfl, rfl, rfl⟩ : x = 0 ∧ j = 1 ∧ y = 2 ∧ z = 3 := by omega
      refine .inl ⟨f, fun i hi => ?_, hf1, ?_⟩ <;> rw [et]
      · rw [fil_set hl' hi hvn', hf' i hi]; omega
      · rw [Rw_ne hl' (by omega) (by omega), Rw_eq hl hx, Rw_eq hl' (by omega), Rw_ne hl' (by omega) (by omega), ey, Rw_ne hl' (by omega) (by omega), ez, D4_swap23, D4_swap34, hdf]; omega
    · have hl2 := he2.len
      obtain ⟨e2, he3, hd2⟩ := hm2.d3b (a := el a')
      obtain ⟨f2, hf3, hdf2⟩ := hm2.d4b (a := el a') (c := Rw bs z)
      have hvn2 := ne_nil_of hv2.len (by omega)
      have hf2 : ∀ i, i < 4 → (rw_ (rowSet (rowSet bs x a') y b') i ≠ [] ↔ i = x ∨ i = y ∨ i = z) := fun i hi => by rw [fil_set hl' hi hb', hf' i hi]; omega
      have ez2 : Rw (rowSet (rowSet bs x a') y b') z = Rw bs z := by rw [Rw_ne hl' hz (by omega), ez]
      have k4 : ∀ u, (el v2 u).natAbs ≤ 301989888 := fun u => by
        have h1 : D3 (el a') (el b') (el v2) x y u = el v2 u * (el a' x * el b' y) := by
          unfold D3 D2
          rw [hz2 x (by omega), hv2.z x (by omega), hv2.z y (by omega)]; grind
        have h2 : D3 (el a') (el b') (el v2) x y u = e2 * e * D3 (Rw bs x) (Rw bs y) (el v) x y u := by rw [hd2, ey, hd]; grind
        have h3 := (he3.mul he1).abs h2
        rw [h1, na_mul, na_mul] at h3
        have h4 := hq u
        rw [← h3] at h4
        exact Nat.le_trans (Nat.le_mul_of_pos_right _ (Nat.mul_pos (by omega) (by omega))) h4
      rcases stage (U := 949978046398464) (x := z) hp2 he2 hv2 (by omega) hz (fun j h1 h2 => Classical.not_not.1 fun hn => by have := (hf2 j (by omega)).1 hn; omega) ((hf2 z hz).2 (.inr (.inr rfl)))
        (fun j => by rw [ez2]; exact pair_num (k4 j) (hc z) (hc j) (k4 z) (by decide)) (by decide) (fun j => Nat.le_trans (k4 j) (by decide)) (fun j => by rw [ez2]; exact Nat.le_trans (hc j) (by decide)) with ⟨j, j0, j1, j2, j3, et⟩ | ⟨v3, c', hp3, he4, hv3, hc', hz3, hn3, hm3, l2, l3⟩
      · obtain ⟨rfl, rfl, rfl, rfl⟩ : x = 0 ∧ y = 1 ∧ j = 2 ∧ z = 3 := by omega
        refine .inl ⟨-(f2 * f), fun i hi => ?_, (hf3.mul hf1).neg, ?_⟩ <;> rw [et]
        · rw [fil_set hl2 hi hvn2, hf2 i hi]; omega
        · rw [Rw_ne hl2 (by omega) (by omega), Rw_ne hl' (by omega) (by omega), Rw_eq hl hx, Rw_ne hl2 (by omega) (by omega), Rw_eq hl' (by omega), Rw_eq hl2 (by omega), Rw_ne hl2 (by omega) (by omega), ez2, D4_swap34, hdf2, ey, hdf]; grind
      · have hl3 := he4.len
        obtain ⟨f3, hf4, hdf3⟩ := hm3.d4c (a := el a') (b := el b')
        have hvn3 := ne_nil_of hv3.len (by omega)
        have hf5 : ∀ i, i < 4 → (rw_ (rowSet (rowSet (rowSet bs x a') y b') z c') i ≠ [] ↔ i = x ∨ i = y ∨ i = z) := fun i hi => by rw [fil_set hl2 hi hc', hf2 i hi]; omega
        have hdd : D4 (el a') (el b') (el c') (el v3) = f3 * (f2 * f) * D4 (Rw bs x) (Rw bs y) (Rw bs z) (el v) := by rw [hdf3, ez2, hdf2, ey, hdf]; grind
        rcases stageL hp3 hv3 (fun j h1 h2 => Classical.not_not.1 fun hn => by have := (hf5 j h2).1 hn; omega) with ⟨j, j0, j1, j2, j3, et⟩ | ⟨et, hz⟩
        · obtain ⟨rfl, rfl, rfl, rfl⟩ : x = 0 ∧ y = 1 ∧ z = 2 ∧ j = 3 := by omega
          refine .inl ⟨f3 * (f2 * f), fun i hi => ?_, hf4.mul (hf3.mul hf1), ?_⟩ <;> rw [et]
          · rw [fil_set hl3 hi hvn3, hf5 i hi]; omega
          · rw [Rw_ne hl3 (by omega) (by omega), Rw_ne hl2 (by omega) (by omega), Rw_ne hl' (by omega) (by omega), Rw_eq hl hx, Rw_ne hl3 (by omega) (by omega), Rw_ne hl2 (by omega) (by omega), Rw_eq hl' (by omega), Rw_ne hl3 (by omega) (by omega), Rw_eq hl2 (by omega), Rw_eq hl3 (by omega)]; exact hdd
        · refine .inr ⟨fun j hj h1 => (hf j hj).2 ((hf5 j hj).1 (by rw [← et]; exact h1)), (hf4.mul (hf3.mul hf1)).zero ?_⟩
          rw [← hdd]
          unfold D4
          rw [hz, hz, hz, hz]; simp
theorem pass0 {n : Nat} {bs : List (List Int)} {v : List Int} {t : List (List Int) × List Int} (h : PassX n 0 (bs, v) n t) (he : Ech n bs) (hv : Hnd n 0 v) (h1 : 1 ≤ n) (hf : ∀ j, j < n → rw_ bs j = []) :
    (∃ x, x < n ∧ (∀ j, j < n → (rw_ t.1 j ≠ [] ↔ j = x)) ∧ ∀ j, Rw t.1 x j = el v j) ∨ ((∀ j, j < n → rw_ t.1 j ≠ [] → rw_ bs j ≠ []) ∧ ∀ j, el v j = 0) := by
  have hl := he.len
  have hvn := ne_nil_of hv.len (by omega)
  rcases stageL h hv (fun j _ h2 => hf j h2) with ⟨j, _, j1, j2, j3, et⟩ | ⟨et, hz⟩
  · refine .inl ⟨j, j1, fun i hi => ?_, fun i => ?_⟩ <;> rw [et]
    · rw [fil_set hl hi hvn, hf i hi]; simp
    · rw [Rw_eq hl j1]
  · exact .inr ⟨fun j hj h2 => by rw [et] at h2; exact h2, hz⟩
/-- at most one more column is filled -/
theorem pass_any {n c k : Nat} {s t : List (List Int) × List Int} (h : PassX n c s k t) (hl : s.1.length = n) (hk : k ≤ n) : t.1.length = n ∧ ((∀ j, j < n → rw_ t.1 j ≠ [] → rw_ s.1 j ≠ []) ∨ ((∀ j, el t.2 j = 0) ∧ ∃ i, ∀ j, j < n → rw_ t.1 j ≠ [] → rw_ s.1 j ≠ [] ∨ j = i)) := by
  induction h with
  | start => exact ⟨hl, .inl fun j _ h => h⟩
  | @step k t u h1 hr ih =>
    obtain ⟨hl1, ih0⟩ := ih (by omega)
    rcases ih0 with ih1 | ⟨hz, ih1⟩
    · cases hr with
      | skip => exact ⟨hl1, .inl ih1⟩
      | @put bt v h0 hb =>
        refine ⟨by rw [rowSet_len]; exact hl1, .inr ⟨el_zeros n, k, fun j hj h2 => ?_⟩⟩
        by_cases e : j = k
        · exact .inr e
        · rw [rowSet_ne (by rw [show bt.length = n from hl1]; exact hj) e] at h2; exact .inl (ih1 j hj h2)
      | @eu bt v v' b' hb hf h0 =>
        refine ⟨by rw [rowSet_len]; exact hl1, .inl fun j hj h2 => ?_⟩
        by_cases e : j = k
        · subst e; exact ih1 j hj hb
        · rw [rowSet_ne (by rw [show bt.length = n from hl1]; exact hj) e] at h2; exact ih1 j hj h2
    · rw [hr.zero hz]; exact ⟨hl1, .inr ⟨hz, ih1⟩⟩
end Go.Proofs.Ytcnphhcdjhmmkaa
