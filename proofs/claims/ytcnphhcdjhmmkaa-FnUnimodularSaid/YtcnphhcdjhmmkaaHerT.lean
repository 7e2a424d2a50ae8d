/- The program's tidy: the pivots made positive, the numbers above them small; numbers wrap around. -/
import Derived.Test.YtcnphhcdjhmmkaaHer
set_option linter.unusedVariables false
set_option linter.unusedSimpArgs false
namespace Go.Proofs.Ytcnphhcdjhmmkaa
open Go.RowKit
/-- the first i entries are those of the difference -/
def mixw (k : Int) (xs ys : List Int) (i : Nat) : List Int := tab xs.length fun j => if j < i then wr64 (el xs j - k * el ys j) else el xs j
theorem mixw_len (k : Int) (xs ys : List Int) (i : Nat) : (mixw k xs ys i).length = xs.length := tab_len _ _
theorem mixw_zero (k : Int) (xs ys : List Int) : mixw k xs ys 0 = xs := by
  unfold mixw
  rw [tab_congr (g := el xs) (fun i _ => if_neg (by omega)), tab_el]
theorem mixw_full (k : Int) (xs ys : List Int) : mixw k xs ys xs.length = subW k xs ys := by
  unfold mixw subW
  exact tab_congr (fun i hi => if_pos hi)
theorem mixw_el {k : Int} {xs ys : List Int} {i j : Nat} (hj : j < xs.length) (h : i ≤ j) : el (mixw k xs ys i) j = el xs j := by
  unfold mixw
  rw [el_tab hj, if_neg (by omega)]
theorem mixw_set {k : Int} {xs ys : List Int} {i : Nat} (hi : i < xs.length) : (mixw k xs ys i).set i (wr64 (el xs i - k * el ys i)) = mixw k xs ys (i + 1) := by
  refine list_ext (by simp [mixw_len]) fun j hj => ?_
  have hj' : j < xs.length := by simpa [mixw_len] using hj
  rw [el_set (by rw [mixw_len]; exact hi)]
  unfold mixw
  rw [el_tab hj', el_tab hj']
  by_cases h : j = i
  · subst h; rw [if_pos rfl, if_pos (by omega)]
  · rw [if_neg h]
    by_cases h2 : j < i
    · rw [if_pos h2, if_pos (by omega)]
    · rw [if_neg h2, if_neg (by omega)]
/-- the first i entries are negated -/
def mixn (xs : List Int) (i : Nat) : List Int := tab xs.length fun j => if j < i then wr64 (-el xs j) else el xs j
theorem mixn_len (xs : List Int) (i : Nat) : (mixn xs i).length = xs.length := tab_len _ _
theorem mixn_zero (xs : List Int) : mixn xs 0 = xs := by
  unfold mixn
  rw [tab_congr (g := el xs) (fun i _ => if_neg (by omega)), tab_el]
theorem mixn_full (xs : List Int) : mixn xs xs.length = negW xs := by
  unfold mixn negW
  exact tab_congr (fun i hi => if_pos hi)
theorem mixn_el {xs : List Int} {i j : Nat} (hj : j < xs.length) (h : i ≤ j) : el (mixn xs i) j = el xs j := by
  unfold mixn
  rw [el_tab hj, if_neg (by omega)]
theorem mixn_set {xs : List Int} {i : Nat} (hi : i < xs.length) : (mixn xs i).set i (wr64 (-el xs i)) = mixn xs (i + 1) := by
  refine list_ext (by simp [mixn_len]) fun j hj => ?_
  have hj' : j < xs.length := by simpa [mixn_len] using hj
  rw [el_set (by rw [mixn_len]; exact hi)]
  unfold mixn
  rw [el_tab hj', el_tab hj']
  by_cases h : j = i
  · subst h; rw [if_pos rfl, if_pos (by omega)]
  · rw [if_neg h]
    by_cases h2 : j < i
    · rw [if_pos h2, if_pos (by omega)]
    · rw [if_neg h2, if_neg (by omega)]
theorem below_drewB {B : Nat} {w w' : World} (h : Below B w w') : Below B w w'.drew := ⟨h.os, h.tape, h.output, h.size, h.block⟩
theorem wrapW (x z : Int) : IntKind.i64.wrap (x - IntKind.i64.wrap z) = wr64 (x - z) := wr64_sub_wr x z
set_option maxRecDepth 20000 in
set_option maxHeartbeats 2000000 in
theorem subtractMultiple_wr (T : TypeId) (B : Nat) (a b : Option Addr) (n m ca cb : Nat) (xs ys : List Int) (k : Int) (w : World) (ha : OwnI T w B a n ca xs) (hb : RdI w b ys) (hl : ys.length = m) (hnm : n ≤ m) (hm : m ≤ 1048576) (hap : Apart a b) :
    Calls Try.prog 40 #[.slice a n ca, .slice b m cb, .int .i64 k] w fun e w' => e = .returned (.tuple #[]) ∧ OwnI T w' B a n ca (subW k xs ys) ∧ Chg (fun j => ∃ q, a = some q ∧ q.block = j) w w' := by
  have HL := Lib.hid hl
  have HB := Lib.hid hb
  have HP := Lib.hid hap
  have HN : Hid (xs.length = n) := Lib.hid ha.len
  have H0 : Hid (OwnI T w B a n ca (mixw k xs ys 0) ∧ Chg (fun j => ∃ q, a = some q ∧ q.block = j) w w) := Lib.hid ⟨by rw [mixw_zero]; exact ha, Chg.refl _ _⟩
  clear ha hb hl hap
  go_enter Try.func40, Try.ntmps40
  go_wp2
  go_loopw [9] (fun i wr => ∃ j : Nat, j ≤ n ∧ i = .int .i64 j ∧ Hid (OwnI T wr B a n ca (mixw k xs ys j) ∧ Chg (fun j => ∃ q, a = some q ∧ q.block = j) w wr)) (fun i _ => n - (intOf i).toNat)
  case atStart => exact ⟨0, Nat.zero_le _, rfl, H0⟩
  case round =>
    obtain ⟨i, hi, rfl, HC⟩ := hrel
    clear H0
    by_cases hlt : i < n
    · obtain ⟨g, rfl⟩ := HC.out.1.addr (by omega)
      have e1 := HC.out.1.cellAt hlt
      rw [mixw_el (by rw [HN.out]; exact hlt) (Nat.le_refl _)] at e1
      have e2 := HC.out.1.frozen i
      have hbw : RdI wr b ys := HB.out.same (fun q hq => HC.out.2.block _ (by obtain ⟨b', o', hb', hc'⟩ := HB.out (by rw [HL.out]; omega); rw [hb'] at hq; injection hq with hq; subst hq; exact (block_lt (hc' i (by rw [HL.out]; omega)) : b' < w.heap.size)) (fun hx => by obtain ⟨x, hx, e⟩ := hx; exact HP.out x q hx hq e))
      obtain ⟨b', o', rfl, hc⟩ := hbw (by rw [HL.out]; omega)
      have e3 := hc i (by rw [HL.out]; omega)
      have W1 := wrapW (el xs i) (k * el ys i)
      have J1 : (i : Int) < (n : Int) := by omega
      have J2 : (i : Int) < (m : Int) := by omega
      clear hc hbw
      go_wp2
      go_still_tail 12, (by kernel_rfl)
      change wpList _ _ _ _ _ wr.drew
      have HN2 : Hid (OwnI T (wr.setCell ⟨g, i, none⟩ (.int .i64 (wr64 (el xs i - k * el ys i)))).drew B (some ⟨g, 0, none⟩) n ca (mixw k xs ys (i + 1)) ∧ Chg (fun j => ∃ q, some (⟨g, 0, none⟩ : Addr) = some q ∧ q.block = j) w (wr.setCell ⟨g, i, none⟩ (.int .i64 (wr64 (el xs i - k * el ys i)))).drew) := Lib.hid ⟨by have := HC.out.1.set hlt (wr64 (el xs i - k * el ys i)); rw [mixw_set (by rw [HN.out]; exact hlt)] at this; exact this, (HC.out.2.setCell ⟨g, i, none⟩ ⟨_, rfl, rfl⟩ _).drew⟩
      go_wp2
      go_roundw
      case rel => exact ⟨i + 1, by omega, by go_num, HN2⟩
      case measure => simp [intOf]; omega
    · obtain rfl : n = i := by omega
      have HM : Hid (OwnI T wr B a n ca (subW k xs ys) ∧ Chg (fun j => ∃ q, a = some q ∧ q.block = j) w wr) := Lib.hid (by have := HC.out; rw [← mixw_full, HN.out]; exact this)
      go_wp2
      go_end0
      exact ⟨rfl, HM.out.1, HM.out.2⟩
set_option maxHeartbeats 1000000 in
theorem floorQuotient_any (a b : Int) (w : World) (hb : b ≠ 0) :
    Calls Try.prog 45 #[.int .i64 a, .int .i64 b] w fun e w' => e = .returned (.int .i64 (fqW a b)) ∧ w' = w := by
  have e1 : IntKind.i64.wrap (a.tdiv b) = quoW a b := rfl
  have e2 : IntKind.i64.wrap (quoW a b - 1) = wr64 (quoW a b - 1) := rfl
  by_cases h : a.tmod b < 0
  · have hd : decide (a.tmod b < 0) = true := decide_eq_true h
    have ef : fqW a b = wr64 (quoW a b - 1) := if_pos h
    rw [ef]
    go_enter Try.func45, Try.ntmps45
    go_wp2_with fail
    go_ret
    exact ⟨rfl, rfl⟩
  · have hd : decide (a.tmod b < 0) = false := decide_eq_false h
    have ef : fqW a b = quoW a b := if_neg h
    rw [ef]
    go_enter Try.func45, Try.ntmps45
    go_wp2_with fail
    go_ret
    exact ⟨rfl, rfl⟩
theorem rowSet_id {xss : List (List Int)} {i : Nat} : rowSet xss i (rw_ xss i) = xss := by
  unfold rowSet
  refine Eq.trans ?_ (tab_rw xss)
  exact tab_congr fun j _ => by
    by_cases h : j = i
    · rw [if_pos h, h]
    · rw [if_neg h]
theorem rowSet_two {xss : List (List Int)} {i : Nat} {r s : List Int} : rowSet (rowSet xss i r) i s = rowSet xss i s := by
  unfold rowSet
  rw [tab_len]
  exact tab_congr fun j hj => by
    by_cases h : j = i
    · rw [if_pos h, if_pos h]
    · rw [if_neg h, if_neg h, rw_tab hj, if_neg h]
/-- the pivot's row done, the first i rows above it done -/
def tidyP (c : Nat) (bs : List (List Int)) (i : Nat) : List (List Int) :=
  tab bs.length fun k => if k = c then sgR c (rw_ bs c) else if k < i then (if rw_ bs k = [] then [] else subW (fqW (el (rw_ bs k) c) (el (sgR c (rw_ bs c)) c)) (rw_ bs k) (sgR c (rw_ bs c))) else rw_ bs k
theorem tidyP_len (c : Nat) (bs : List (List Int)) (i : Nat) : (tidyP c bs i).length = bs.length := tab_len _ _
theorem tidyP_zero (c : Nat) (bs : List (List Int)) : tidyP c bs 0 = rowSet bs c (sgR c (rw_ bs c)) := by
  unfold tidyP rowSet
  exact tab_congr fun k _ => by
    by_cases h : k = c
    · rw [if_pos h, if_pos h]
    · rw [if_neg h, if_neg h, if_neg (by omega)]
theorem tidyP_full {c : Nat} {bs : List (List Int)} (h : rw_ bs c ≠ []) : tidyP c bs c = tidy1 c bs := by
  unfold tidyP tidy1
  rw [if_neg h]
theorem tidyP_row {c i k : Nat} {bs : List (List Int)} (hk : k < bs.length) (h1 : i ≤ k) (h2 : k ≠ c) : rw_ (tidyP c bs i) k = rw_ bs k := by
  unfold tidyP
  rw [rw_tab hk, if_neg h2, if_neg (by omega)]
theorem tidyP_piv {c i : Nat} {bs : List (List Int)} (hc : c < bs.length) : rw_ (tidyP c bs i) c = sgR c (rw_ bs c) := by
  unfold tidyP
  rw [rw_tab hc, if_pos rfl]
theorem tidyP_step {c i : Nat} {bs : List (List Int)} (hi : i < c) (hc : c < bs.length) (h : rw_ bs i ≠ []) : rowSet (tidyP c bs i) i (subW (fqW (el (rw_ bs i) c) (el (sgR c (rw_ bs c)) c)) (rw_ bs i) (sgR c (rw_ bs c))) = tidyP c bs (i + 1) := by
  unfold tidyP rowSet
  rw [tab_len]
  exact tab_congr fun k hk => by
    by_cases e : k = i
    · subst e
      rw [if_pos rfl, if_neg (by omega), if_pos (by omega), if_neg h]
    · rw [if_neg e, rw_tab hk]
      by_cases e2 : k = c
      · rw [if_pos e2, if_pos e2]
      · rw [if_neg e2, if_neg e2]
        by_cases e3 : k < i
        · rw [if_pos e3, if_pos (show k < i + 1 by omega)]
        · rw [if_neg e3, if_neg (show ¬ k < i + 1 by omega)]
theorem tidyP_skip {c i : Nat} {bs : List (List Int)} (h : rw_ bs i = []) : tidyP c bs (i + 1) = tidyP c bs i := by
  unfold tidyP
  exact tab_congr fun k hk => by
    by_cases e2 : k = c
    · rw [if_pos e2, if_pos e2]
    · rw [if_neg e2, if_neg e2]
      by_cases e : k = i
      · subst e
        rw [if_pos (show k < k + 1 by omega), if_neg (show ¬ k < k by omega), if_pos h, h]
      · by_cases e3 : k < i
        · rw [if_pos e3, if_pos (by omega)]
        · rw [if_neg e3, if_neg (by omega)]
theorem subW_nil {k : Int} {xs ys : List Int} : subW k xs ys = [] ↔ xs = [] := by
  constructor
  · intro h
    have := subW_len k xs ys
    rw [h] at this
    exact List.eq_nil_of_length_eq_zero this.symm
  · intro h
    subst h
    rfl
theorem sgR_nil {c : Nat} {xs : List Int} : sgR c xs = [] ↔ xs = [] := by
  constructor
  · intro h
    have := sgR_len c xs
    rw [h] at this
    exact List.eq_nil_of_length_eq_zero this.symm
  · intro h
    subst h
    unfold sgR
    split <;> rfl
theorem tidy1_nil {c i : Nat} {bs : List (List Int)} (hi : i < bs.length) : rw_ (tidy1 c bs) i = [] ↔ rw_ bs i = [] := by
  by_cases h : rw_ bs c = []
  · rw [tidy1_none h]
  rw [tidy1_row h hi]
  by_cases e : i = c
  · subst e; rw [if_pos rfl]; exact sgR_nil
  · rw [if_neg e]
    by_cases e2 : i < c
    · rw [if_pos e2]
      by_cases e3 : rw_ bs i = []
      · rw [if_pos e3, e3]
      · rw [if_neg e3]; exact subW_nil
    · rw [if_neg e2]
theorem tidyN_len (bs : List (List Int)) : ∀ c, (tidyN c bs).length = bs.length
  | 0 => rfl
  | c + 1 => by show (tidy1 c (tidyN c bs)).length = _; rw [tidy1_len, tidyN_len bs c]
theorem tidyN_nil {i : Nat} {bs : List (List Int)} (hi : i < bs.length) : ∀ c, rw_ (tidyN c bs) i = [] ↔ rw_ bs i = []
  | 0 => Iff.rfl
  | c + 1 => (tidy1_nil (by rw [tidyN_len]; exact hi)).trans (tidyN_nil hi c)
section
variable {T1 T2 : TypeId} {w w' : World} {B n cap : Nat} {a : Option Addr} {xss : List (List Int)} {A : Nat → Option Addr} {C : Nat → Nat}
theorem OwnR.full {i : Nat} (h : OwnR T1 T2 w B a n cap xss A C) (he : Ech n xss) (hi : i < n) (hb : rw_ xss i ≠ []) : ∃ gi, A i = some ⟨gi, 0, Option.none⟩ ∧ (rw_ xss i).length = n := by
  rcases he.row i hi with h1 | ⟨h1, _, _⟩
  · exact absurd h1 hb
  · obtain ⟨gi, e⟩ := (h.row i hi).addr (by omega)
    exact ⟨gi, e, h1⟩
end
theorem eqN_t (w : World) (n c : Nat) : (binOp .eql 31 (.slice none n c) (.slice none 0 0)).run Try.prog w = .ok (.bool true) w := Lib.run_eql_slice_nil w _ 2 none n c 0 0 Try.underlying31
theorem eqN_f (w : World) (a : Addr) (n c : Nat) : (binOp .eql 31 (.slice (some a) n c) (.slice none 0 0)).run Try.prog w = .ok (.bool false) w := Lib.run_eql_slice_nil w _ 2 (some a) n c 0 0 Try.underlying31
theorem neN_t (w : World) (a : Addr) (n c : Nat) : (binOp .neq 31 (.slice (some a) n c) (.slice none 0 0)).run Try.prog w = .ok (.bool true) w := run_neq_slice_nil_any w _ 2 (some a) n c 0 0 Try.underlying31
theorem neN_f (w : World) (n c : Nat) : (binOp .neq 31 (.slice none n c) (.slice none 0 0)).run Try.prog w = .ok (.bool false) w := run_neq_slice_nil_any w _ 2 none n c 0 0 Try.underlying31
set_option maxRecDepth 20000 in
set_option maxHeartbeats 4000000 in
theorem tidy_any (B g n : Nat) (bs : List (List Int)) (A : Nat → Option Addr) (C : Nat → Nat) (w : World) (ho : OwnR 31 2 w B (some ⟨g, 0, none⟩) n n bs A C) (he : Ech n bs) (hnil : ∀ c, c < n → rw_ bs c = [] → A c = none ∧ C c = 0) (hn : n ≤ 1048576) (hB : B ≤ w.heap.size) :
    Calls Try.prog 41 #[.slice (some ⟨g, 0, none⟩) n n] w fun e w' => e = .returned (.tuple #[]) ∧ OwnR 31 2 w' B (some ⟨g, 0, none⟩) n n (tidyN n bs) A C ∧ Below B w w' := by
  have HE := Lib.hid he
  have HN := Lib.hid hnil
  have H0 : Hid (OwnR 31 2 w B (some ⟨g, 0, none⟩) n n (tidyN 0 bs) A C ∧ Below B w w) := Lib.hid ⟨ho, Below.refl _ _⟩
  clear ho he hnil
  have Q1 := eqN_t
  have Q2 := eqN_f
  have Q3 := neN_t
  have Q4 := neN_f
  go_enter Try.func41, Try.ntmps41
  go_wp2
  go_loopw [9] (fun i wr => ∃ c : Nat, c ≤ n ∧ i = .int .i64 c ∧ Hid (OwnR 31 2 wr B (some ⟨g, 0, none⟩) n n (tidyN c bs) A C ∧ Below B w wr)) (fun i _ => n - (intOf i).toNat)
  case atStart => exact ⟨0, Nat.zero_le _, rfl, H0⟩
  case round =>
    obtain ⟨c, hc, rfl, HC⟩ := hrel
    obtain ⟨wo, rfl⟩ : ∃ x, x = wr := ⟨wr, rfl⟩
    clear H0
    by_cases hct : c < n
    · obtain ⟨ca, cf, cs, cb⟩ := HC.out.1.at_ hct
      have HET := Lib.hid (HE.out.tidyN c hc)
      have HNT : Hid (∀ k, k < n → rw_ (tidyN c bs) k = [] → A k = none ∧ C k = 0) := Lib.hid (fun k hk hb => HN.out k hk ((tidyN_nil (by rw [HE.out.len]; exact hk) c).1 hb))
      have HNX : Hid (tidyN (c + 1) bs = tidy1 c (tidyN c bs)) := Lib.hid rfl
      generalize tidyN c bs = T at HC ca HET HNT HNX
      have b1 : decide ((c : Int) < (n : Int)) = true := decide_eq_true (by omega)
      by_cases hb : rw_ T c = []
      · have e0 := HNT.out c hct hb
        rw [hb, e0.1, e0.2] at ca
        have HX : Hid (OwnR 31 2 wo B (some ⟨g, 0, none⟩) n n (tidyN (c + 1) bs) A C ∧ Below B w wo) := Lib.hid (by rw [HNX.out, tidy1_none hb]; exact HC.out)
        clear hb e0
        go_wp2_with fail
        go_roundw
        case rel => exact ⟨c + 1, by omega, by go_num, HX⟩
        case measure => simp [intOf]; omega
      · have HLT := Lib.hid HET.out.len
        obtain ⟨gc, hgc, hlc⟩ := HC.out.1.full HET.out hct hb
        rw [hgc, hlc] at ca
        have hrow := HC.out.1.rowAt hct hgc
        rw [hlc] at hrow
        have ce := hrow.cellAt hct
        have HBN := Lib.hid hb
        have HGC := Lib.hid hgc
        have HLC := Lib.hid hlc
        have HI := Lib.hid (fun j hj => HET.out.i64 c j hct hj)
        clear hrow hgc hlc hb
        by_cases hneg : el (rw_ T c) c < 0
        · have b2 : decide (el (rw_ T c) c < 0) = true := decide_eq_true hneg
          have HSG : Hid (sgR c (rw_ T c) = negW (rw_ T c)) := Lib.hid (if_pos hneg)
          have H1 : Hid (OwnR 31 2 wo B (some ⟨g, 0, none⟩) n n (rowSet T c (mixn (rw_ T c) 0)) A C ∧ Below B w wo) := Lib.hid (by rw [mixn_zero, rowSet_id]; exact HC.out)
          go_wp2_with fail
          go_loopw [23] (fun i wr => ∃ j : Nat, j ≤ n ∧ i = .int .i64 j ∧ Hid (OwnR 31 2 wr B (some ⟨g, 0, none⟩) n n (rowSet T c (mixn (rw_ T c) j)) A C ∧ Below B w wr)) (fun i _ => n - (intOf i).toNat)
          case atStart => exact ⟨0, Nat.zero_le _, rfl, H1⟩
          case round =>
            obtain ⟨j, hj, rfl, HD⟩ := hrel
            obtain ⟨wi, rfl⟩ : ∃ x, x = wr := ⟨wr, rfl⟩
            clear H1
            by_cases hjt : j < n
            · have b3 : decide ((j : Int) < (n : Int)) = true := decide_eq_true (by omega)
              have hr := HD.out.1.rowAt hct HGC.out
              rw [rowSet_eq (by rw [HLT.out]; exact hct), mixn_len, HLC.out] at hr
              have cj := hr.cellAt hjt
              rw [mixn_el (by rw [HLC.out]; exact hjt) (Nat.le_refl _)] at cj
              have fj := hr.frozen j
              have W1 : IntKind.i64.wrap (-el (rw_ T c) j) = wr64 (-el (rw_ T c) j) := rfl
              have J1 : (j : Int) < (n : Int) := by omega
              have HN2 : Hid (OwnR 31 2 (wi.setCell ⟨gc, j, none⟩ (.int .i64 (wr64 (-el (rw_ T c) j)))) B (some ⟨g, 0, none⟩) n n (rowSet T c (mixn (rw_ T c) (j + 1))) A C ∧ Below B w (wi.setCell ⟨gc, j, none⟩ (.int .i64 (wr64 (-el (rw_ T c) j))))) := Lib.hid (by
                have hs := hr.set hjt (wr64 (-el (rw_ T c) j))
                rw [mixn_set (by rw [HLC.out]; exact hjt)] at hs
                have h2 := HD.out.1.setRow (i := c) (w' := (wi.setCell ⟨gc, j, none⟩ (.int .i64 (wr64 (-el (rw_ T c) j))))) (r := mixn (rw_ T c) (j + 1)) hct (by rw [HGC.out, rowSet_eq (by rw [HLT.out]; exact hct), mixn_len, HLC.out]; exact hs) ((Chg.refl _ _).setCell ⟨gc, j, none⟩ ⟨_, HGC.out, rfl⟩ _)
                rw [rowSet_two] at h2
                exact ⟨h2, HD.out.2.setCell (p := ⟨gc, j, none⟩) (hr.block _ rfl).1 _⟩)
              clear hr
              go_wp2_with fail
              go_roundw
              case rel => exact ⟨j + 1, by omega, by go_num, HN2⟩
              case measure => simp [intOf]; omega
            · obtain rfl : n = j := by omega
              have b3 : decide ((n : Int) < (n : Int)) = false := by simp
              have H2 : Hid (OwnR 31 2 wi B (some ⟨g, 0, none⟩) n n (tidyP c T 0) A C ∧ Below B w wi) := Lib.hid (by
                have := HD.out
                rw [show mixn (rw_ T c) n = negW (rw_ T c) by have := mixn_full (rw_ T c); rw [HLC.out] at this; exact this, ← HSG.out, ← tidyP_zero] at this
                exact this)
              clear HD hneg b2 ce
              go_wp2_with fail
              go_loopw [39] (fun i wr => ∃ j : Nat, j ≤ c ∧ i = .int .i64 j ∧ Hid (OwnR 31 2 wr B (some ⟨g, 0, none⟩) n n (tidyP c T j) A C ∧ Below B w wr)) (fun i _ => c - (intOf i).toNat)
              case atStart => exact ⟨0, Nat.zero_le _, rfl, H2⟩
              case round =>
                obtain ⟨i, hi, rfl, HU⟩ := hrel
                obtain ⟨wu, rfl⟩ : ∃ x, x = wr := ⟨wr, rfl⟩
                clear H2
                by_cases hit : i < c
                · have b4 : decide ((i : Int) < (c : Int)) = true := decide_eq_true (by omega)
                  have J4 : (i : Int) < (c : Int) := by omega
                  obtain ⟨ua, uf, us, ub⟩ := HU.out.1.at_ (i := i) (by omega)
                  rw [tidyP_row (by rw [HLT.out]; omega) (Nat.le_refl _) (by omega)] at ua
                  by_cases hbi : rw_ T i = []
                  · have e0 := HNT.out i (by omega) hbi
                    rw [hbi, e0.1, e0.2] at ua
                    have HX : Hid (OwnR 31 2 wu B (some ⟨g, 0, none⟩) n n (tidyP c T (i + 1)) A C ∧ Below B w wu) := Lib.hid (by rw [tidyP_skip hbi]; exact HU.out)
                    clear hbi e0
                    go_wp2_with fail
                    go_roundw
                    case rel => exact ⟨i + 1, by omega, by go_num, HX⟩
                    case measure => simp [intOf]; omega
                  · obtain ⟨gi, hgi, hli⟩ := HC.out.1.full HET.out (i := i) (by omega) hbi
                    rw [hgi, hli] at ua
                    have hri := HU.out.1.rowAt (d := i) (by omega) hgi
                    rw [tidyP_row (by rw [HLT.out]; omega) (Nat.le_refl _) (by omega), hli] at hri
                    have hrc := HU.out.1.rowAt hct HGC.out
                    rw [tidyP_piv (by rw [HLT.out]; exact hct), sgR_len, HLC.out] at hrc
                    have ei := hri.cellAt hct
                    have ec := hrc.cellAt hct
                    have HRI := Lib.hid hri
                    have HRC := Lib.hid hrc.rd
                    have HAP := Lib.hid (HU.out.1.ap i c (by omega) hct (by omega))
                    rw [hgi, HGC.out] at HAP
                    have HGI := Lib.hid hgi
                    have HLI := Lib.hid hli
                    have HBI := Lib.hid hbi
                    have Z1 : el (sgR c (rw_ T c)) c ≠ 0 := (HET.out.sg hct HBN.out).2.1
                    have J5 : (c : Int) < (n : Int) := by omega
                    clear hri hrc hgi hli hbi
                    go_wp2_with fail
                    go_still_tail 11, (by kernel_rfl)
                    still_call ((floorQuotient_any _ _ _ Z1).mono fun _ _ h => ⟨h.1, h.2⟩)
                    repeat still_step
                    refine wpStill_nil ?_
                    change wpList _ _ _ _ _ wu.drew
                    go_wp2_with (go_at_call 40; refine (subtractMultiple_wr 2 B _ _ n n _ _ (rw_ T i) (sgR c (rw_ T c)) _ _ (by exact HRI.out.same (fun _ _ => rfl)) (by exact HRC.out.same (fun _ _ => rfl)) (by rw [sgR_len]; exact HLC.out) (Nat.le_refl _) (by omega) HAP.out).mono ?_; rintro e w8 ⟨rfl, ho, hch⟩; have HO8 := Lib.hid ho; have HC8 := Lib.hid hch; clear ho hch)
                    have HN2 : Hid (OwnR 31 2 w8 B (some ⟨g, 0, none⟩) n n (tidyP c T (i + 1)) A C ∧ Below B w w8) := Lib.hid (by
                      have h2 := HU.out.1.drew.setRow (i := i) (w' := w8) (by omega) (by rw [tidyP_row (by rw [HLT.out]; omega) (Nat.le_refl _) (by omega), HGI.out, HLI.out]; exact HO8.out) (by rw [HGI.out]; exact HC8.out)
                      rw [tidyP_step hit (by rw [HLT.out]; exact hct) HBI.out] at h2
                      exact ⟨h2, Below.trans (below_drewB HU.out.2) (HC8.out.below (by have := HU.out.2.size; exact Nat.le_trans hB this) (fun b hb hx => by obtain ⟨y, hy, e⟩ := hx; have := (HRI.out.block y hy).1; omega))⟩)
                    go_roundw
                    case rel => exact ⟨i + 1, by omega, by go_num, HN2⟩
                    case measure => simp [intOf]; omega
                · obtain rfl : c = i := by omega
                  have b4 : decide ((c : Int) < (c : Int)) = false := by simp
                  have HX : Hid (OwnR 31 2 wu B (some ⟨g, 0, none⟩) n n (tidyN (c + 1) bs) A C ∧ Below B w wu) := Lib.hid (by rw [HNX.out, ← tidyP_full HBN.out]; exact HU.out)
                  go_wp2_with fail
                  go_roundw
                  case rel => exact ⟨c + 1, by omega, by go_num, HX⟩
                  case measure => simp [intOf]; omega
        · have b2 : decide (el (rw_ T c) c < 0) = false := decide_eq_false hneg
          have HSG : Hid (sgR c (rw_ T c) = rw_ T c) := Lib.hid (if_neg hneg)
          have H2 : Hid (OwnR 31 2 wo B (some ⟨g, 0, none⟩) n n (tidyP c T 0) A C ∧ Below B w wo) := Lib.hid (by rw [tidyP_zero, HSG.out, rowSet_id]; exact HC.out)
          go_wp2_with fail
          go_loopw [39] (fun i wr => ∃ j : Nat, j ≤ c ∧ i = .int .i64 j ∧ Hid (OwnR 31 2 wr B (some ⟨g, 0, none⟩) n n (tidyP c T j) A C ∧ Below B w wr)) (fun i _ => c - (intOf i).toNat)
          case atStart => exact ⟨0, Nat.zero_le _, rfl, H2⟩
          case round =>
            obtain ⟨i, hi, rfl, HU⟩ := hrel
            obtain ⟨wu, rfl⟩ : ∃ x, x = wr := ⟨wr, rfl⟩
            clear H2
            by_cases hit : i < c
            · have b4 : decide ((i : Int) < (c : Int)) = true := decide_eq_true (by omega)
              have J4 : (i : Int) < (c : Int) := by omega
              obtain ⟨ua, uf, us, ub⟩ := HU.out.1.at_ (i := i) (by omega)
              rw [tidyP_row (by rw [HLT.out]; omega) (Nat.le_refl _) (by omega)] at ua
              by_cases hbi : rw_ T i = []
              · have e0 := HNT.out i (by omega) hbi
                rw [hbi, e0.1, e0.2] at ua
                have HX : Hid (OwnR 31 2 wu B (some ⟨g, 0, none⟩) n n (tidyP c T (i + 1)) A C ∧ Below B w wu) := Lib.hid (by rw [tidyP_skip hbi]; exact HU.out)
                clear hbi e0
                go_wp2_with fail
                go_roundw
                case rel => exact ⟨i + 1, by omega, by go_num, HX⟩
                case measure => simp [intOf]; omega
              · obtain ⟨gi, hgi, hli⟩ := HC.out.1.full HET.out (i := i) (by omega) hbi
                rw [hgi, hli] at ua
                have hri := HU.out.1.rowAt (d := i) (by omega) hgi
                rw [tidyP_row (by rw [HLT.out]; omega) (Nat.le_refl _) (by omega), hli] at hri
                have hrc := HU.out.1.rowAt hct HGC.out
                rw [tidyP_piv (by rw [HLT.out]; exact hct), sgR_len, HLC.out] at hrc
                have ei := hri.cellAt hct
                have ec := hrc.cellAt hct
                have HRI := Lib.hid hri
                have HRC := Lib.hid hrc.rd
                have HAP := Lib.hid (HU.out.1.ap i c (by omega) hct (by omega))
                rw [hgi, HGC.out] at HAP
                have HGI := Lib.hid hgi
                have HLI := Lib.hid hli
                have HBI := Lib.hid hbi
                have Z1 : el (sgR c (rw_ T c)) c ≠ 0 := (HET.out.sg hct HBN.out).2.1
                have J5 : (c : Int) < (n : Int) := by omega
                clear hri hrc hgi hli hbi
                go_wp2_with fail
                go_still_tail 11, (by kernel_rfl)
                still_call ((floorQuotient_any _ _ _ Z1).mono fun _ _ h => ⟨h.1, h.2⟩)
                repeat still_step
                refine wpStill_nil ?_
                change wpList _ _ _ _ _ wu.drew
                go_wp2_with (go_at_call 40; refine (subtractMultiple_wr 2 B _ _ n n _ _ (rw_ T i) (sgR c (rw_ T c)) _ _ (by exact HRI.out.same (fun _ _ => rfl)) (by exact HRC.out.same (fun _ _ => rfl)) (by rw [sgR_len]; exact HLC.out) (Nat.le_refl _) (by omega) HAP.out).mono ?_; rintro e w8 ⟨rfl, ho, hch⟩; have HO8 := Lib.hid ho; have HC8 := Lib.hid hch; clear ho hch)
                have HN2 : Hid (OwnR 31 2 w8 B (some ⟨g, 0, none⟩) n n (tidyP c T (i + 1)) A C ∧ Below B w w8) := Lib.hid (by
                  have h2 := HU.out.1.drew.setRow (i := i) (w' := w8) (by omega) (by rw [tidyP_row (by rw [HLT.out]; omega) (Nat.le_refl _) (by omega), HGI.out, HLI.out]; exact HO8.out) (by rw [HGI.out]; exact HC8.out)
                  rw [tidyP_step hit (by rw [HLT.out]; exact hct) HBI.out] at h2
                  exact ⟨h2, Below.trans (below_drewB HU.out.2) (HC8.out.below (by have := HU.out.2.size; exact Nat.le_trans hB this) (fun b hb hx => by obtain ⟨y, hy, e⟩ := hx; have := (HRI.out.block y hy).1; omega))⟩)
                go_roundw
                case rel => exact ⟨i + 1, by omega, by go_num, HN2⟩
                case measure => simp [intOf]; omega
            · obtain rfl : c = i := by omega
              have b4 : decide ((c : Int) < (c : Int)) = false := by simp
              have HX : Hid (OwnR 31 2 wu B (some ⟨g, 0, none⟩) n n (tidyN (c + 1) bs) A C ∧ Below B w wu) := Lib.hid (by rw [HNX.out, ← tidyP_full HBN.out]; exact HU.out)
              go_wp2_with fail
              go_roundw
              case rel => exact ⟨c + 1, by omega, by go_num, HX⟩
              case measure => simp [intOf]; omega
    · obtain rfl : n = c := by omega
      go_wp2
      go_end0
      exact ⟨rfl, HC.out.1, HC.out.2⟩
end Go.Proofs.Ytcnphhcdjhmmkaa
