/- Rows by their columns, as the program's hermite keeps them: the plain functions (numbers that wrap around), and what the heap holds. No program in sight. -/
import Derived.Test.YtcnphhcdjhmmkaaDrS
set_option linter.unusedVariables false
set_option linter.unusedSimpArgs false
namespace Go.Proofs.Ytcnphhcdjhmmkaa
open Go.RowKit
section
variable {T1 T2 : TypeId} {w w' : World} {B n cap : Nat} {a : Option Addr} {xss : List (List Int)} {A : Nat → Option Addr} {C : Nat → Nat} {d gd g : Nat}
/-- a row replaced by what was written into its block -/
theorem OwnR.setRow {i : Nat} {r : List Int} (h : OwnR T1 T2 w B a n cap xss A C) (hi : i < n) (hr : OwnI T2 w' B (A i) (rw_ xss i).length (C i) r) (hc : Chg (fun j => ∃ q, A i = some q ∧ q.block = j) w w') : OwnR T1 T2 w' B a n cap (rowSet xss i r) A C := by
  have hl := h.len
  have hrl := hr.len
  have e0 : rw_ (rowSet xss i r) i = r := rowSet_eq (by omega)
  have en : ∀ j, j < n → j ≠ i → rw_ (rowSet xss i r) j = rw_ xss j := fun j hj hne => rowSet_ne (by omega) hne
  have eln : ∀ j, j < n → (rw_ (rowSet xss i r) j).length = (rw_ xss j).length := fun j hj => by
    by_cases hji : j = i
    · subst hji; rw [e0, hrl]
    · rw [en j hj hji]
  refine ⟨by rw [rowSet_len, hl], ?_, fun j hj => ?_, h.ap, h.apo⟩
  · have e1 : rowVals (rowSet xss i r) A C n = rowVals xss A C n := by
      unfold rowVals
      refine List.map_congr_left fun j hj => ?_
      rw [eln j (by simpa using hj)]
    rw [e1]
    exact ownsRow_same h.own (fun p hp => hc.block _ (ownsRow_block h.own p hp).2 (fun hx => by obtain ⟨q, hq, e⟩ := hx; exact h.apo i hi p q hp hq e.symm))
  · by_cases hji : j = i
    · subst hji; rw [e0, hrl]; exact hr
    · rw [en j hj hji]
      exact (h.row j hj).kept hc (fun p hp hx => by obtain ⟨q, hq, e⟩ := hx; exact h.ap j i hj hi hji p q hp hq e.symm)
theorem OwnR.addr (h : OwnR T1 T2 w B a n cap xss A C) (h0 : 0 < n) : ∃ g, a = some ⟨g, 0, Option.none⟩ ∧ (∀ i, i < n → w.cell? ⟨g, i, Option.none⟩ = some (.slice (A i) (rw_ xss i).length (C i))) ∧ (∀ i, w.frozen? ⟨g, i, Option.none⟩ = false) ∧ B ≤ g ∧ g < w.heap.size := by
  rcases ownsRow_cases h.own with ⟨_, h1, _⟩ | ⟨g, cur, h1, h2, h3, _⟩
  · omega
  · obtain ⟨g', ha, hc⟩ := ownsRow_cell h.own h0
    rw [h1] at ha; injection ha with e; injection e with e1; subst e1
    exact ⟨g, h1, fun i hi => by rw [hc i hi, rowVals_get hi], fun i => wr_frozen h3, h2, (Array.getElem?_eq_some_iff.1 h3).1⟩
theorem OwnR.at_ (h : OwnR T1 T2 w B (some ⟨g, 0, Option.none⟩) n cap xss A C) {i : Nat} (hi : i < n) : w.cell? ⟨g, i, Option.none⟩ = some (.slice (A i) (rw_ xss i).length (C i)) ∧ w.frozen? ⟨g, i, Option.none⟩ = false ∧ g < w.heap.size ∧ B ≤ g := by
  obtain ⟨g', e, hc, hf, hb, hs⟩ := h.addr (by omega)
  injection e with e; injection e with e1; subst e1
  exact ⟨hc i hi, hf i, hs, hb⟩
theorem OwnR.drew (h : OwnR T1 T2 w B a n cap xss A C) : OwnR T1 T2 w.drew B a n cap xss A C := h.same (fun _ _ => rfl) (fun _ _ _ _ => rfl)
theorem OwnR.drewN (h : OwnR T1 T2 w B a n cap xss A C) (q : Nat) : OwnR T1 T2 (w.drewN q) B a n cap xss A C := h.same (fun _ _ => rfl) (fun _ _ _ _ => rfl)
theorem OwnR.rowAt (h : OwnR T1 T2 w B a n cap xss A C) (hd : d < n) (hgd : A d = some ⟨gd, 0, Option.none⟩) : OwnI T2 w B (some ⟨gd, 0, Option.none⟩) (rw_ xss d).length (C d) (rw_ xss d) := by
  have := h.row d hd
  rwa [hgd] at this
end
/-- the number that the machine keeps -/
def wr64 (x : Int) : Int := IntKind.i64.wrap x
theorem wr64_in {x : Int} (h : I64 x) : wr64 x = x := IntWalk.i64_in _ h
theorem wr64_I64 (x : Int) : I64 (wr64 x) := by
  unfold wr64 I64
  rw [IntKind.wrap_i64]
  omega
theorem wr64_sub_mul (a b q : Int) : wr64 (a - wr64 q * b) = wr64 (a - q * b) := by
  unfold wr64
  rw [IntKind.wrap_i64, IntKind.wrap_i64, IntKind.wrap_i64]
  have h1 : (q + 9223372036854775808) % 18446744073709551616 - 9223372036854775808 = q - 18446744073709551616 * ((q + 9223372036854775808) / 18446744073709551616) := by omega
  rw [h1]
  have h2 : a - (q - 18446744073709551616 * ((q + 9223372036854775808) / 18446744073709551616)) * b + 9223372036854775808 = a - q * b + 9223372036854775808 + 18446744073709551616 * ((q + 9223372036854775808) / 18446744073709551616 * b) := by grind
  rw [h2, Int.add_mul_emod_self_left]
theorem wr64_sub_wr (a b : Int) : wr64 (a - wr64 b) = wr64 (a - b) := by
  have := wr64_sub_mul a 1 b
  simpa using this
def subW (k : Int) (xs ys : List Int) : List Int := tab xs.length fun j => wr64 (el xs j - k * el ys j)
theorem subW_len (k : Int) (xs ys : List Int) : (subW k xs ys).length = xs.length := tab_len _ _
theorem subW_el {k : Int} {xs ys : List Int} {j : Nat} (h : j < xs.length) : el (subW k xs ys) j = wr64 (el xs j - k * el ys j) := el_tab h
def negW (xs : List Int) : List Int := tab xs.length fun j => wr64 (-el xs j)
theorem negW_len (xs : List Int) : (negW xs).length = xs.length := tab_len _ _
theorem negW_el {xs : List Int} {j : Nat} (h : j < xs.length) : el (negW xs) j = wr64 (-el xs j) := el_tab h
def quoW (a b : Int) : Int := wr64 (a.tdiv b)
def fqW (a b : Int) : Int := if a.tmod b < 0 then wr64 (quoW a b - 1) else quoW a b
theorem tmod_lt9 {a b : Int} (hb : b ≠ 0) : (a.tmod b).natAbs < b.natAbs := by
  rw [Int.natAbs_tmod]
  exact Nat.mod_lt _ (by omega)
theorem quo_rest {a b : Int} (hb : b ≠ 0) (h : I64 b) : wr64 (a - quoW a b * b) = a.tmod b := by
  unfold quoW
  rw [wr64_sub_mul]
  have e : a - a.tdiv b * b = a.tmod b := by rw [Int.tmod_def, Int.mul_comm]
  rw [e]
  have := tmod_lt9 (a := a) hb
  exact wr64_in (by unfold I64 at *; omega)
/-- one step of Euclid's on two rows -/
def euS (c : Nat) (p : List Int × List Int) : List Int × List Int :=
  if el (subW (quoW (el p.1 c) (el p.2 c)) p.1 p.2) c = 0 then (subW (quoW (el p.1 c) (el p.2 c)) p.1 p.2, p.2) else (p.2, subW (quoW (el p.1 c) (el p.2 c)) p.1 p.2)
inductive EuF (c : Nat) (p : List Int × List Int) : List Int × List Int → Prop
  | refl : EuF c p p
  | step {q : List Int × List Int} : EuF c p q → el q.1 c ≠ 0 → EuF c p (euS c q)
inductive ColR (n c : Nat) : List (List Int) × List Int → List (List Int) × List Int → Prop
  | skip {bs : List (List Int)} {v : List Int} : el v c = 0 → ColR n c (bs, v) (bs, v)
  | put {bs : List (List Int)} {v : List Int} : el v c ≠ 0 → rw_ bs c = [] → ColR n c (bs, v) (rowSet bs c v, tab n fun _ => 0)
  | eu {bs : List (List Int)} {v v' b' : List Int} : rw_ bs c ≠ [] → EuF c (v, rw_ bs c) (v', b') → el v' c = 0 → ColR n c (bs, v) (rowSet bs c b', v')
inductive PassR (n : Nat) (s : List (List Int) × List Int) : Nat → List (List Int) × List Int → Prop
  | start : PassR n s 0 s
  | step {c : Nat} {t u : List (List Int) × List Int} : PassR n s c t → ColR n c t u → PassR n s (c + 1) u
/-- a row's sign -/
def sgR (c : Nat) (r : List Int) : List Int := if el r c < 0 then negW r else r
def tidy1 (c : Nat) (bs : List (List Int)) : List (List Int) :=
  if rw_ bs c = [] then bs else tab bs.length fun i => if i = c then sgR c (rw_ bs c) else if i < c then (if rw_ bs i = [] then [] else subW (fqW (el (rw_ bs i) c) (el (sgR c (rw_ bs c)) c)) (rw_ bs i) (sgR c (rw_ bs c))) else rw_ bs i
def tidyN : Nat → List (List Int) → List (List Int)
  | 0, bs => bs
  | c + 1, bs => tidy1 c (tidyN c bs)
inductive RndR (n : Nat) (xs : List (List Int)) : Nat → List (List Int) → Prop
  | start : RndR n xs 0 (tab n fun _ => [])
  | step {i : Nat} {bs bs' : List (List Int)} {v' : List Int} : RndR n xs i bs → PassR n (bs, rw_ xs i) n (bs', v') → RndR n xs (i + 1) (tidyN n bs')
/-- rows by their columns -/
structure Ech (n : Nat) (bs : List (List Int)) : Prop where
  len : bs.length = n
  row : ∀ c, c < n → rw_ bs c = [] ∨ ((rw_ bs c).length = n ∧ el (rw_ bs c) c ≠ 0 ∧ ∀ j, j < c → el (rw_ bs c) j = 0)
  i64 : ∀ c j, c < n → j < n → I64 (el (rw_ bs c) j)
/-- two rows that Euclid's steps work on -/
structure EuI (n c : Nat) (p : List Int × List Int) : Prop where
  l1 : p.1.length = n
  l2 : p.2.length = n
  z1 : ∀ j, j < c → el p.1 j = 0
  z2 : ∀ j, j < c → el p.2 j = 0
  i1 : ∀ j, j < n → I64 (el p.1 j)
  i2 : ∀ j, j < n → I64 (el p.2 j)
  nz : el p.2 c ≠ 0
def euM (c : Nat) (p : List Int × List Int) : Nat := (el p.2 c).natAbs + if el p.1 c = 0 then 0 else 1
theorem EuI.rest {n c : Nat} {p : List Int × List Int} (h : EuI n c p) (hc : c < n) : el (subW (quoW (el p.1 c) (el p.2 c)) p.1 p.2) c = (el p.1 c).tmod (el p.2 c) := by
  rw [subW_el (by rw [h.l1]; exact hc), quo_rest h.nz (h.i2 c hc)]
theorem EuI.step {n c : Nat} {p : List Int × List Int} (h : EuI n c p) (hc : c < n) : EuI n c (euS c p) := by
  have hl : (subW (quoW (el p.1 c) (el p.2 c)) p.1 p.2).length = n := by rw [subW_len, h.l1]
  have hz : ∀ j, j < c → el (subW (quoW (el p.1 c) (el p.2 c)) p.1 p.2) j = 0 := fun j hj => by
    rw [subW_el (by rw [h.l1]; omega), h.z1 j hj, h.z2 j hj]
    simp; exact wr64_in ⟨by omega, by omega⟩
  have hi : ∀ j, j < n → I64 (el (subW (quoW (el p.1 c) (el p.2 c)) p.1 p.2) j) := fun j hj => by
    rw [subW_el (by rw [h.l1]; omega)]; exact wr64_I64 _
  unfold euS
  by_cases h0 : el (subW (quoW (el p.1 c) (el p.2 c)) p.1 p.2) c = 0
  · rw [if_pos h0]; exact ⟨hl, h.l2, hz, h.z2, hi, h.i2, h.nz⟩
  · rw [if_neg h0]; exact ⟨h.l2, hl, h.z2, hz, h.i2, hi, h0⟩
theorem EuI.less {n c : Nat} {p : List Int × List Int} (h : EuI n c p) (hc : c < n) (h1 : el p.1 c ≠ 0) : euM c (euS c p) < euM c p := by
  have hr := h.rest hc
  have hb := tmod_lt9 (a := el p.1 c) h.nz
  unfold euS euM
  by_cases h0 : el (subW (quoW (el p.1 c) (el p.2 c)) p.1 p.2) c = 0
  · rw [if_pos h0]
    show _ + (if el (subW (quoW (el p.1 c) (el p.2 c)) p.1 p.2) c = 0 then 0 else 1) < _
    rw [if_pos h0, if_neg h1]
    show (el p.2 c).natAbs + 0 < _
    omega
  · rw [if_neg h0]
    show (el (subW (quoW (el p.1 c) (el p.2 c)) p.1 p.2) c).natAbs + (if el p.2 c = 0 then 0 else 1) < _
    rw [hr, if_neg h.nz, if_neg h1]
    omega
theorem EuF.inv {n c : Nat} {p q : List Int × List Int} (h : EuF c p q) (hp : EuI n c p) (hc : c < n) : EuI n c q := by
  induction h with
  | refl => exact hp
  | step _ _ ih => exact ih.step hc
/-- the row in hand -/
structure Hnd (n c : Nat) (v : List Int) : Prop where
  len : v.length = n
  z : ∀ j, j < c → el v j = 0
  i64 : ∀ j, j < n → I64 (el v j)
theorem Hnd.next {n c : Nat} {v : List Int} (h : Hnd n c v) (h0 : el v c = 0) : Hnd n (c + 1) v := ⟨h.len, fun j hj => by
  by_cases e : j = c
  · subst e; exact h0
  · exact h.z j (by omega), h.i64⟩
theorem Hnd.zero (n c : Nat) (hc : c ≤ n) : Hnd n c (tab n fun _ => 0) := ⟨tab_len _ _, fun j hj => by rw [el_tab (by omega)], fun j hj => by rw [el_tab hj]; exact ⟨by omega, by omega⟩⟩
theorem Ech.set {n c : Nat} {bs : List (List Int)} {r : List Int} (h : Ech n bs) (hc : c < n) (hl : r.length = n) (hz : ∀ j, j < c → el r j = 0) (hn : el r c ≠ 0) (hi : ∀ j, j < n → I64 (el r j)) : Ech n (rowSet bs c r) := by
  refine ⟨by rw [rowSet_len, h.len], fun i hi' => ?_, fun i j hi' hj => ?_⟩
  · by_cases e : i = c
    · subst e; rw [rowSet_eq (by rw [h.len]; exact hc)]; exact .inr ⟨hl, hn, hz⟩
    · rw [rowSet_ne (by rw [h.len]; exact hi') e]; exact h.row i hi'
  · by_cases e : i = c
    · subst e; rw [rowSet_eq (by rw [h.len]; exact hc)]; exact hi j hj
    · rw [rowSet_ne (by rw [h.len]; exact hi') e]; exact h.i64 i j hi' hj
theorem Ech.eui {n c : Nat} {bs : List (List Int)} {v : List Int} (h : Ech n bs) (hv : Hnd n c v) (hc : c < n) (hb : rw_ bs c ≠ []) : EuI n c (v, rw_ bs c) := by
  rcases h.row c hc with h1 | ⟨h1, h2, h3⟩
  · exact absurd h1 hb
  · exact ⟨hv.len, h1, hv.z, h3, hv.i64, fun j hj => h.i64 c j hc hj, h2⟩
theorem ColR.keep {n c : Nat} {s t : List (List Int) × List Int} (h : ColR n c s t) (hc : c < n) (he : Ech n s.1) (hv : Hnd n c s.2) : Ech n t.1 ∧ Hnd n (c + 1) t.2 := by
  cases h with
  | skip h0 => exact ⟨he, hv.next h0⟩
  | put h0 hb => exact ⟨he.set hc hv.len hv.z h0 hv.i64, Hnd.zero n (c + 1) (by omega)⟩
  | eu hb hf h0 =>
    have hi := hf.inv (he.eui hv hc hb) hc
    exact ⟨he.set hc hi.l2 hi.z2 hi.nz hi.i2, (⟨hi.l1, hi.z1, hi.i1⟩ : Hnd n c _).next h0⟩
theorem PassR.keep {n c : Nat} {s t : List (List Int) × List Int} (h : PassR n s c t) (hc : c ≤ n) (he : Ech n s.1) (hv : Hnd n 0 s.2) : Ech n t.1 ∧ Hnd n c t.2 := by
  induction h with
  | start => exact ⟨he, hv⟩
  | step _ hr ih => obtain ⟨h1, h2⟩ := ih (by omega); exact hr.keep (by omega) h1 h2
theorem sgR_len (c : Nat) (r : List Int) : (sgR c r).length = r.length := by unfold sgR; split <;> simp [negW_len]
theorem sgR_el {c j : Nat} {r : List Int} (h : j < r.length) (hi : I64 (el r j)) : el (sgR c r) j = if el r c < 0 then wr64 (-el r j) else el r j := by
  unfold sgR
  by_cases h1 : el r c < 0
  · rw [if_pos h1, if_pos h1, negW_el h]
  · rw [if_neg h1, if_neg h1]
theorem wr64_neg_ne {x : Int} (h : x ≠ 0) (hi : I64 x) : wr64 (-x) ≠ 0 := by
  unfold wr64 I64 at *
  rw [IntKind.wrap_i64]
  omega
theorem tidy1_len (c : Nat) (bs : List (List Int)) : (tidy1 c bs).length = bs.length := by
  unfold tidy1
  split
  · rfl
  · exact tab_len _ _
theorem Ech.sg {n c : Nat} {bs : List (List Int)} (h : Ech n bs) (hc : c < n) (hb : rw_ bs c ≠ []) : (sgR c (rw_ bs c)).length = n ∧ el (sgR c (rw_ bs c)) c ≠ 0 ∧ (∀ j, j < c → el (sgR c (rw_ bs c)) j = 0) ∧ ∀ j, j < n → I64 (el (sgR c (rw_ bs c)) j) := by
  rcases h.row c hc with h1 | ⟨h1, h2, h3⟩
  · exact absurd h1 hb
  · have e : ∀ j, j < n → el (sgR c (rw_ bs c)) j = if el (rw_ bs c) c < 0 then wr64 (-el (rw_ bs c) j) else el (rw_ bs c) j := fun j hj => sgR_el (by omega) (h.i64 c j hc hj)
    refine ⟨by rw [sgR_len, h1], ?_, fun j hj => ?_, fun j hj => ?_⟩
    · rw [e c hc]
      split
      · exact wr64_neg_ne h2 (h.i64 c c hc hc)
      · exact h2
    · rw [e j (by omega), h3 j hj]
      split
      · rfl
      · rfl
    · rw [e j hj]
      split
      · exact wr64_I64 _
      · exact h.i64 c j hc hj
theorem tidy1_none {c : Nat} {bs : List (List Int)} (h : rw_ bs c = []) : tidy1 c bs = bs := if_pos h
theorem tidy1_row {c i : Nat} {bs : List (List Int)} (h : rw_ bs c ≠ []) (hi : i < bs.length) : rw_ (tidy1 c bs) i = if i = c then sgR c (rw_ bs c) else if i < c then (if rw_ bs i = [] then [] else subW (fqW (el (rw_ bs i) c) (el (sgR c (rw_ bs c)) c)) (rw_ bs i) (sgR c (rw_ bs c))) else rw_ bs i := by
  unfold tidy1
  rw [if_neg h, rw_tab hi]
theorem Ech.tidy1 {n c : Nat} {bs : List (List Int)} (h : Ech n bs) (hc : c < n) : Ech n (tidy1 c bs) := by
  by_cases hb : rw_ bs c = []
  · rw [tidy1_none hb]; exact h
  obtain ⟨g1, g2, g3, g4⟩ := h.sg hc hb
  refine ⟨by rw [tidy1_len, h.len], fun i hi => ?_, fun i j hi hj => ?_⟩
  · rw [tidy1_row hb (by rw [h.len]; exact hi)]
    by_cases e : i = c
    · rw [if_pos e]; subst e; exact .inr ⟨g1, g2, g3⟩
    · rw [if_neg e]
      by_cases e2 : i < c
      · rw [if_pos e2]
        by_cases e3 : rw_ bs i = []
        · rw [if_pos e3]; exact .inl rfl
        · rw [if_neg e3]
          rcases h.row i hi with k1 | ⟨k1, k2, k3⟩
          · exact absurd k1 e3
          · refine .inr ⟨by rw [subW_len, k1], ?_, fun j hj => ?_⟩
            · rw [subW_el (by omega), g3 i e2, Int.mul_zero, Int.sub_zero, wr64_in (h.i64 i i hi hi)]; exact k2
            · rw [subW_el (by omega), g3 j (by omega), k3 j hj, Int.mul_zero]; rfl
      · rw [if_neg e2]; exact h.row i hi
  · rw [tidy1_row hb (by rw [h.len]; exact hi)]
    by_cases e : i = c
    · rw [if_pos e]; exact g4 j hj
    · rw [if_neg e]
      by_cases e2 : i < c
      · rw [if_pos e2]
        by_cases e3 : rw_ bs i = []
        · rw [if_pos e3]; exact ⟨by simp [el], by simp [el]⟩
        · rw [if_neg e3]
          rcases h.row i hi with k1 | ⟨k1, k2, k3⟩
          · exact absurd k1 e3
          · rw [subW_el (by omega)]; exact wr64_I64 _
      · rw [if_neg e2]; exact h.i64 i j hi hj
theorem Ech.tidyN {n : Nat} {bs : List (List Int)} (h : Ech n bs) : ∀ c, c ≤ n → Ech n (tidyN c bs)
  | 0, _ => h
  | c + 1, hc => (h.tidyN c (by omega)).tidy1 (by omega)
theorem Ech.start (n : Nat) : Ech n (tab n fun _ => []) := ⟨tab_len _ _, fun c hc => .inl (rw_tab hc), fun c j hc hj => by rw [rw_tab hc]; exact ⟨by simp [el], by simp [el]⟩⟩
/-- what the heap holds while a row is in hand -/
structure HB (T1 T2 : TypeId) (w wr : World) (g n : Nat) (bs : List (List Int)) (A : Nat → Option Addr) (C : Nat → Nat) (av : Option Addr) (cv : Nat) (v : List Int) : Prop where
  own : OwnR T1 T2 wr w.heap.size (some ⟨g, 0, none⟩) n n bs A C
  nil : ∀ c, c < n → rw_ bs c = [] → A c = none ∧ C c = 0
  vo : OwnI T2 wr w.heap.size av n cv v
  vg : ∀ p, av = some p → p.block ≠ g
  va : ∀ i, i < n → Apart (A i) av
  low : Below w.heap.size w wr
theorem OwnR.put {T1 T2 : TypeId} {w : World} {B n cap g k m' cr : Nat} {xss : List (List Int)} {A : Nat → Option Addr} {C : Nat → Nat} {ar : Option Addr} {r : List Int} (h : OwnR T1 T2 w B (some ⟨g, 0, Option.none⟩) n cap xss A C) (hk : k < n)
    (hr : OwnI T2 w B ar m' cr r) (hg : ∀ p, ar = some p → p.block ≠ g) (hA : ∀ i, i < n → i ≠ k → Apart (A i) ar) :
    OwnR T1 T2 (w.setCell ⟨g, k, Option.none⟩ (.slice ar m' cr)) B (some ⟨g, 0, Option.none⟩) n cap (rowSet xss k r) (upd A k ar) (upd C k cr) := by
  have hl := h.len
  have hrl := hr.len
  subst hrl
  have hne : ∀ i, i < n → ∀ p, A i = some p → p.block ≠ g := fun i hi p hp hx => h.apo i hi _ p rfl hp hx.symm
  have ue : ∀ {α : Type} (f : Nat → α) (x : α) (i : Nat), i ≠ k → upd f k x i = f i := fun f x i hi => if_neg hi
  refine ⟨by rw [rowSet_len, hl], ?_, fun i hi => ?_, fun i j hi hj hij => ?_, fun i hi => ?_⟩
  · have h1 := ownsRow_setCell h.own hk (.slice ar r.length cr)
    have e1 : (rowVals xss A C n).set k (.slice ar r.length cr) = rowVals (rowSet xss k r) (upd A k ar) (upd C k cr) n := by
      refine List.ext_getElem? fun i => ?_
      rw [List.getElem?_set]
      by_cases hi : i < n
      · rw [rowVals_get hi, rowVals_get hi]
        simp only [rowVals_len]
        by_cases h1 : k = i
        · subst h1
          rw [if_pos rfl, if_pos hi, upd_eq, upd_eq, rowSet_eq (by omega)]
        · rw [if_neg h1, ue _ _ _ (fun e => h1 e.symm), ue _ _ _ (fun e => h1 e.symm), rowSet_ne (by omega) (fun e => h1 e.symm)]
      · rw [if_neg (by omega), List.getElem?_eq_none (by rw [rowVals_len]; omega), List.getElem?_eq_none (by rw [rowVals_len]; omega)]
    rw [← e1]; exact h1
  · by_cases h1 : i = k
    · subst h1
      rw [rowSet_eq (by omega), upd_eq, upd_eq]
      exact hr.same (fun p hp => Below.heap_setCell _ _ _ _ (hg p hp))
    · rw [rowSet_ne (by omega) h1, ue _ _ _ h1, ue _ _ _ h1]
      exact (h.row i hi).same (fun p hp => Below.heap_setCell _ _ _ _ (hne i hi p hp))
  · by_cases h1 : i = k
    · rw [h1, upd_eq, ue _ _ _ (by omega)]
      exact (hA j hj (by omega)).symm
    · by_cases h2 : j = k
      · rw [h2, upd_eq, ue _ _ _ h1]
        exact hA i hi h1
      · rw [ue _ _ _ h1, ue _ _ _ h2]; exact h.ap i j hi hj hij
  · by_cases h1 : i = k
    · rw [h1, upd_eq]
      intro p q hp hq
      injection hp with hp; subst hp
      exact fun e => hg q hq e.symm
    · rw [ue _ _ _ h1]; exact h.apo i hi
section
variable {T1 T2 : TypeId} {w wr w2 : World} {g n : Nat} {bs : List (List Int)} {A : Nat → Option Addr} {C : Nat → Nat} {av : Option Addr} {cv : Nat} {v : List Int}
theorem HB.gB (h : HB T1 T2 w wr g n bs A C av cv v) : w.heap.size ≤ g := (ownsRow_block h.own.own _ rfl).1
theorem HB.gS (h : HB T1 T2 w wr g n bs A C av cv v) : g < wr.heap.size := (ownsRow_block h.own.own _ rfl).2
/-- v replaced by what was written into its block -/
theorem HB.hand {v' : List Int} (h : HB T1 T2 w wr g n bs A C av cv v) (hv : OwnI T2 w2 w.heap.size av n cv v') (hc : Chg (fun j => ∃ q, av = some q ∧ q.block = j) wr w2) : HB T1 T2 w w2 g n bs A C av cv v' :=
  ⟨h.own.kept hc (fun p hp hx => by obtain ⟨q, hq, e⟩ := hx; injection hp with hp; subst hp; exact h.vg q hq e) (fun i hi p hp hx => by obtain ⟨q, hq, e⟩ := hx; exact h.va i hi p q hp hq e.symm), h.nil, hv, h.vg, h.va,
    h.low.trans (hc.below h.low.size (fun b hb hx => by obtain ⟨y, hy, e⟩ := hx; have := (h.vo.block y hy).1; omega))⟩
theorem HB.drew (h : HB T1 T2 w wr g n bs A C av cv v) : HB T1 T2 w wr.drew g n bs A C av cv v := ⟨h.own.drew, h.nil, h.vo, h.vg, h.va, ⟨h.low.os, h.low.tape, h.low.output, h.low.size, h.low.block⟩⟩
theorem HB.drewN (h : HB T1 T2 w wr g n bs A C av cv v) (q : Nat) : HB T1 T2 w (wr.drewN q) g n bs A C av cv v := ⟨h.own.drewN q, h.nil, h.vo.drewN q, h.vg, h.va, below_drewN' h.low q⟩
/-- the row in hand and a row exchanged -/
theorem HB.swap {c : Nat} (h : HB T1 T2 w wr g n bs A C av cv v) (hc : c < n) (hl : (rw_ bs c).length = n) (hn : 0 < n) : HB T1 T2 w (wr.setCell ⟨g, c, none⟩ (.slice av n cv)) g n (rowSet bs c v) (upd A c av) (upd C c cv) (A c) (C c) (rw_ bs c) := by
  have hg := h.gB
  have ha : ∀ p, A c = some p → p.block ≠ g := fun p hp hx => h.own.apo c hc _ p rfl hp hx.symm
  refine ⟨h.own.put hc h.vo h.vg (fun i hi _ => h.va i hi), fun i hi hb => ?_, ?_, ha, fun i hi => ?_, h.low.setCell (p := ⟨g, c, none⟩) hg _⟩
  · by_cases e : i = c
    · subst e
      rw [rowSet_eq (by rw [h.own.len]; exact hc)] at hb
      have := h.vo.len
      rw [hb] at this
      simp at this
      omega
    · rw [rowSet_ne (by rw [h.own.len]; exact hi) e] at hb
      have := h.nil i hi hb
      unfold upd
      rw [if_neg e, if_neg e]
      exact this
  · have := h.own.row c hc
    rw [hl] at this
    exact this.same (fun p hp => Below.heap_setCell _ _ _ _ (ha p hp))
  · unfold upd
    by_cases e : i = c
    · rw [if_pos e]; exact (h.va c hc).symm
    · rw [if_neg e]; exact h.own.ap i c hi hc e
/-- the row in hand takes its place; a new row of zeros comes into hand -/
theorem HB.place {c : Nat} (h : HB T1 T2 w wr g n bs A C av cv v) (hc : c < n) (hn : n ≤ maxLen) : HB T1 T2 w ((wr.setCell ⟨g, c, none⟩ (.slice av n cv)).alloc (.cells (madeCells #[.int .i64 0] n) T2)) g n (rowSet bs c v) (upd A c av) (upd C c cv) (some ⟨wr.heap.size, 0, none⟩) n (tab n fun _ => 0) := by
  have hg := h.gB
  have hsz : (wr.setCell ⟨g, c, none⟩ (.slice av n cv)).heap.size = wr.heap.size := by simp
  have hput := h.own.put hc h.vo h.vg (fun i hi _ => h.va i hi)
  have hb : Below wr.heap.size (wr.setCell ⟨g, c, none⟩ (.slice av n cv)) ((wr.setCell ⟨g, c, none⟩ (.slice av n cv)).alloc (.cells (madeCells #[.int .i64 0] n) T2)) := (Below.refl _ _).alloc (by rw [hsz]; exact Nat.le_refl _) _
  have hmk := OwnI.made (wr.setCell ⟨g, c, none⟩ (.slice av n cv)) T2 n hn
  rw [hsz] at hmk
  refine ⟨hput.keep hb (by rw [hsz]; exact Nat.le_refl _), fun i hi hb' => ?_, hmk.mono h.low.size, fun p hp => ?_, fun i hi => ?_, (h.low.setCell (p := ⟨g, c, none⟩) hg _).trans (hb.mono h.low.size)⟩
  · by_cases e : i = c
    · subst e
      rw [rowSet_eq (by rw [h.own.len]; exact hc)] at hb'
      have := h.vo.len
      rw [hb'] at this
      simp at this
      omega
    · rw [rowSet_ne (by rw [h.own.len]; exact hi) e] at hb'
      have := h.nil i hi hb'
      unfold upd
      rw [if_neg e, if_neg e]
      exact this
  · injection hp with hp; subst hp
    have := h.gS
    exact fun e => by simp at e; omega
  · intro p q hp hq
    injection hq with hq; subst hq
    have := ((hput.row i hi).block p hp).2
    rw [hsz] at this
    exact fun e => by simp at e; omega
end
end Go.Proofs.Ytcnphhcdjhmmkaa
