/- Rows of the call's own: two exchanged, one written, one replaced; and what that does to the lists. -/
import Derived.Test.YtpkdgemnddcefaaAddm
set_option linter.unusedVariables false
set_option linter.unusedSimpArgs false
namespace Go.Proofs.Ytpkdgemnddcefaa
open Go.RowKit

/-- one row replaced -/
def rowSet (xss : List (List Int)) (i : Nat) (r : List Int) : List (List Int) := tab xss.length fun j => if j = i then r else rw_ xss j
theorem rowSet_len (xss : List (List Int)) (i : Nat) (r : List Int) : (rowSet xss i r).length = xss.length := tab_len _ _
theorem rowSet_eq {xss : List (List Int)} {i : Nat} {r : List Int} (h : i < xss.length) : rw_ (rowSet xss i r) i = r := by unfold rowSet; rw [rw_tab h, if_pos rfl]
theorem rowSet_ne {xss : List (List Int)} {i j : Nat} {r : List Int} (h : j < xss.length) (hne : j ≠ i) : rw_ (rowSet xss i r) j = rw_ xss j := by unfold rowSet; rw [rw_tab h, if_neg hne]
theorem rowSet_same {xss : List (List Int)} {i : Nat} : rowSet xss i (rw_ xss i) = xss := by
  refine rows_ext (rowSet_len _ _ _) fun j hj => ?_
  rw [rowSet_len] at hj
  by_cases h : j = i
  · subst h; exact rowSet_eq hj
  · exact rowSet_ne hj h
theorem rowSet_set {xss : List (List Int)} {i : Nat} {r s : List Int} : rowSet (rowSet xss i r) i s = rowSet xss i s := by
  refine rows_ext (by simp [rowSet_len]) fun j hj => ?_
  rw [rowSet_len, rowSet_len] at hj
  by_cases h : j = i
  · subst h; rw [rowSet_eq (by rw [rowSet_len]; exact hj), rowSet_eq hj]
  · rw [rowSet_ne (by rw [rowSet_len]; exact hj) h, rowSet_ne hj h, rowSet_ne hj h]
/-- the first i entries are scaled -/
def mixs (p x : Int) (r : List Int) (i : Nat) : List Int := tab r.length fun j => if j < i then el r j * x % p else el r j
theorem mixs_len (p x : Int) (r : List Int) (i : Nat) : (mixs p x r i).length = r.length := tab_len _ _
theorem mixs_zero (p x : Int) (r : List Int) : mixs p x r 0 = r := by
  unfold mixs
  rw [tab_congr (g := el r) (fun i _ => if_neg (by omega)), tab_el]
theorem mixs_full (p x : Int) (r : List Int) : mixs p x r r.length = scalem p x r := by
  unfold mixs scalem
  exact tab_congr (fun i hi => if_pos hi)
theorem mixs_el {p x : Int} {r : List Int} {i j : Nat} (hj : j < r.length) (h : i ≤ j) : el (mixs p x r i) j = el r j := by
  unfold mixs
  rw [el_tab hj, if_neg (by omega)]
theorem mixs_set {p x : Int} {r : List Int} {i : Nat} (hi : i < r.length) : (mixs p x r i).set i (el r i * x % p) = mixs p x r (i + 1) := by
  refine list_ext (by simp [mixs_len]) fun j hj => ?_
  have hj' : j < r.length := by simpa [mixs_len] using hj
  rw [el_set (by rw [mixs_len]; exact hi)]
  unfold mixs
  rw [el_tab hj', el_tab hj']
  by_cases h : j = i
  · subst h; rw [if_pos rfl, if_pos (by omega)]
  · rw [if_neg h]
    by_cases h2 : j < i
    · rw [if_pos h2, if_pos (by omega)]
    · rw [if_neg h2, if_neg (by omega)]
theorem scR_rowSet (p x : Int) (xss : List (List Int)) (d : Nat) : scR p x xss d = rowSet xss d (scalem p x (rw_ xss d)) := rfl
theorem elR_succ {p : Int} {xss : List (List Int)} {d c k : Nat} (hk : k < xss.length) (hd : k ≠ d) : rowSet (elR p xss d c k) k (addm p (-(el (rw_ xss k) c)) (rw_ xss k) (rw_ xss d)) = elR p xss d c (k + 1) := by
  refine rows_ext (by rw [rowSet_len, elR_len, elR_len]) fun j hj => ?_
  rw [rowSet_len, elR_len] at hj
  by_cases h : j = k
  · subst h; rw [rowSet_eq (by rw [elR_len]; exact hj), elR_yes hj (by omega) hd]
  · rw [rowSet_ne (by rw [elR_len]; exact hj) h]
    by_cases h2 : j < k ∧ j ≠ d
    · rw [elR_yes hj h2.1 h2.2, elR_yes hj (by omega) h2.2]
    · rw [elR_no hj (by omega), elR_no hj (by omega)]
theorem elR_succ_d {p : Int} {xss : List (List Int)} {d c : Nat} : elR p xss d c (d + 1) = elR p xss d c d := by
  refine rows_ext (by rw [elR_len, elR_len]) fun j hj => ?_
  rw [elR_len] at hj
  by_cases h2 : j < d
  · rw [elR_yes hj (by omega) (by omega), elR_yes hj h2 (by omega)]
  · rw [elR_no hj (by omega), elR_no hj (by omega)]

section
variable {T1 T2 : TypeId} {w w' : World} {B n cap : Nat} {a : Option Addr} {xss : List (List Int)} {A : Nat → Option Addr} {C : Nat → Nat}
theorem ownsRow_setCell {T : TypeId} {g k : Nat} {vs : List Value} (h : w.ownsRow B T 1 (.slice (some ⟨g, 0, none⟩) n cap) n vs) (hk : k < n) (v : Value) : (w.setCell ⟨g, k, none⟩ v).ownsRow B T 1 (.slice (some ⟨g, 0, none⟩) n cap) n (vs.set k v) := by
  have hl : vs.length = n := by have := h.1; simpa using this
  rcases ownsRow_cases h with ⟨h1, _⟩ | ⟨g', cur, h1, h2, h3, h4, h5, h6, h7⟩
  · cases h1
  · injection h1 with e; injection e with e1; subst e1
    refine ⟨by simp [hl], .inr ⟨g, cap, _, rfl, h2, wr_setCell h3 _, h4, h5, by simpa using h6, ?_⟩⟩
    rw [Nat.mul_one]
    refine List.ext_getElem? fun i => ?_
    rw [List.getElem?_take, List.getElem?_set]
    have hx : ∀ j, j < n → cur[j]? = vs[j]? := fun j hj => by
      rw [← h7, List.getElem?_take, if_pos hj, Array.getElem?_toList]
    by_cases hi : i < n
    · rw [if_pos hi, Array.getElem?_toList, Array.getElem?_setIfInBounds]
      by_cases hki : k = i
      · subst hki
        rw [if_pos rfl, if_pos (by omega), if_pos rfl, if_pos (by omega)]
      · rw [if_neg hki, if_neg hki, hx i hi]
    · rw [if_neg hi]
      by_cases hki : k = i
      · omega
      · rw [if_neg hki, List.getElem?_eq_none (by omega)]
/-- two rows exchanged -/
theorem OwnR.swap {g d e : Nat} (h : OwnR T1 T2 w B (some ⟨g, 0, Option.none⟩) n cap xss A C) (hd : d < n) (he : e < n) :
    OwnR T1 T2 ((w.setCell ⟨g, d, Option.none⟩ (.slice (A e) (rw_ xss e).length (C e))).setCell ⟨g, e, Option.none⟩ (.slice (A d) (rw_ xss d).length (C d))) B (some ⟨g, 0, Option.none⟩) n cap (swR xss d e) (fun i => A (swi d e i)) (fun i => C (swi d e i)) := by
  have hl := h.len
  have hrow : ∀ i, i < n → rw_ (swR xss d e) i = rw_ xss (swi d e i) := fun i hi => swR_row (by omega)
  have hlt : ∀ i, i < n → swi d e i < n := fun i hi => swi_lt hd he hi
  have hne : ∀ i, i < n → ∀ p, A i = some p → p.block ≠ g := fun i hi p hp hx => h.apo i hi _ p rfl hp hx.symm
  refine ⟨by rw [swR_len, hl], ?_, fun i hi => ?_, fun i j hi hj hij => ?_, fun i hi => h.apo _ (hlt i hi)⟩
  · have h1 := ownsRow_setCell (ownsRow_setCell h.own hd (.slice (A e) (rw_ xss e).length (C e))) he (.slice (A d) (rw_ xss d).length (C d))
    have e1 : ((rowVals xss A C n).set d (.slice (A e) (rw_ xss e).length (C e))).set e (.slice (A d) (rw_ xss d).length (C d)) = rowVals (swR xss d e) (fun i => A (swi d e i)) (fun i => C (swi d e i)) n := by
      refine List.ext_getElem? fun i => ?_
      rw [List.getElem?_set, List.getElem?_set]
      by_cases hi : i < n
      · rw [rowVals_get hi, rowVals_get hi, hrow i hi]
        simp only [List.length_set, rowVals_len]
        by_cases h1 : e = i
        · subst h1
          rw [if_pos rfl, if_pos hi]
          unfold swi
          by_cases h2 : e = d
          · subst h2; simp
          · rw [if_neg h2, if_pos rfl]
        · rw [if_neg h1]
          by_cases h2 : d = i
          · subst h2
            rw [if_pos rfl, if_pos hi]
            unfold swi
            rw [if_pos rfl]
          · rw [if_neg h2]
            unfold swi
            rw [if_neg (fun x => h2 x.symm), if_neg (fun x => h1 x.symm)]
      · rw [if_neg (by omega), if_neg (by omega), List.getElem?_eq_none (by rw [rowVals_len]; omega), List.getElem?_eq_none (by rw [rowVals_len]; omega)]
    rw [← e1]; exact h1
  · rw [hrow i hi]
    exact ((h.row _ (hlt i hi)).same (fun p hp => Below.heap_setCell _ _ _ _ (hne _ (hlt i hi) p hp))).same (fun p hp => Below.heap_setCell _ _ _ _ (hne _ (hlt i hi) p hp))
  · refine h.ap _ _ (hlt i hi) (hlt j hj) fun hx => hij ?_
    have := congrArg (swi d e) hx
    rwa [swi_swi, swi_swi] at this
/-- a row replaced by what was written into its block -/
theorem OwnR.setRow {i : Nat} {r : List Int} (h : OwnR T1 T2 w B a n cap xss A C) (hi : i < n) (hr : OwnI T2 w' B (A i) (rw_ xss i).length (C i) r) (hc : Chg (fun j => ∃ q, A i = some q ∧ q.block = j) w w') : OwnR T1 T2 w' B a n cap (rowSet xss i r) A C := by
  have hl := h.len
  have hrl := hr.len
  have e0 : rw_ (rowSet xss i r) i = r := rowSet_eq (by omega)
  have en : ∀ j, j < n → j ≠ i → rw_ (rowSet xss i r) j = rw_ xss j := fun j hj hne => rowSet_ne (by omega) hne
  have eln : ∀ j, j < n → (rw_ (rowSet xss i r) j).length = (rw_ xss j).length := fun j hj => by
    by_cases hji : j = i
    · subst hji; rw [e0, hrl]
    · rw [en j hj hji]
  refine ⟨by rw [rowSet_len, hl], ?_, fun j hj => ?_, h.ap, h.apo⟩
  · have e1 : rowVals (rowSet xss i r) A C n = rowVals xss A C n := by
      unfold rowVals
      refine List.map_congr_left fun j hj => ?_
      rw [eln j (by simpa using hj)]
    rw [e1]
    exact ownsRow_same h.own (fun p hp => hc.block _ (ownsRow_block h.own p hp).2 (fun hx => by obtain ⟨q, hq, e⟩ := hx; exact h.apo i hi p q hp hq e.symm))
  · by_cases hji : j = i
    · subst hji; rw [e0, hrl]; exact hr
    · rw [en j hj hji]
      exact (h.row j hj).kept hc (fun p hp hx => by obtain ⟨q, hq, e⟩ := hx; exact h.ap j i hj hi hji p q hp hq e.symm)
theorem OwnR.addr (h : OwnR T1 T2 w B a n cap xss A C) (h0 : 0 < n) : ∃ g, a = some ⟨g, 0, Option.none⟩ ∧ (∀ i, i < n → w.cell? ⟨g, i, Option.none⟩ = some (.slice (A i) (rw_ xss i).length (C i))) ∧ (∀ i, w.frozen? ⟨g, i, Option.none⟩ = false) ∧ B ≤ g ∧ g < w.heap.size := by
  rcases ownsRow_cases h.own with ⟨_, h1, _⟩ | ⟨g, cur, h1, h2, h3, _⟩
  · omega
  · obtain ⟨g', ha, hc⟩ := ownsRow_cell h.own h0
    rw [h1] at ha; injection ha with e; injection e with e1; subst e1
    exact ⟨g, h1, fun i hi => by rw [hc i hi, rowVals_get hi], fun i => wr_frozen h3, h2, (Array.getElem?_eq_some_iff.1 h3).1⟩
/-- the first d rows, the outer slice cut behind them -/
theorem OwnR.cut {d : Nat} (h : OwnR T1 T2 w B a n cap xss A C) (hd : d ≤ n) : HasR T2 w B a d d (xss.take d) A C := by
  have hl := h.len
  refine ⟨by simp; omega, Nat.le_refl _, fun h0 => ?_, fun i hi => ?_, fun i j hi hj => h.ap i j (by omega) (by omega), fun i hi => h.apo i (by omega)⟩
  · obtain ⟨g, ha, hc, _, h1, h2⟩ := h.addr (by omega)
    exact ⟨g, ha, h1, h2, fun i hi => by rw [take_row hi]; exact hc i (by omega)⟩
  · rw [take_row hi]; exact h.row i (by omega)
end

set_option maxHeartbeats 1000000 in
theorem copyRows_any (a : Option Addr) (n c : Nat) (xss : List (List Int)) (w : World) (ha : RdR w a xss) (hl : xss.length = n) (hx : ∀ i, i < n → (rw_ xss i).length ≤ 1048576) (hn : n ≤ 1048576) :
    Calls Try.prog 49 #[.slice a n c] w fun e w' => ∃ a' c', e = .returned (.slice a' n c') ∧ MadeR 52 2 w' w.heap.size a' n c' xss ∧ Below w.heap.size w w' := by
  have HA := Lib.hid ha
  have HL := Lib.hid hl
  have HX := Lib.hid hx
  clear ha hl hx
  go_enter Try.func49, Try.ntmps49
  go_wp2
  go_loopw [8, 3] (fun i v wr => ∃ (j : Nat) (a1 : Option Addr) (c1 : Nat) (A : Nat → Option Addr) (C : Nat → Nat), j ≤ n ∧ i = .int .i64 j ∧ v = .slice a1 j c1 ∧ Hid (OwnR 52 2 wr w.heap.size a1 j c1 (xss.take j) A C ∧ Below w.heap.size w wr)) (fun i _ _ => n - (intOf i).toNat)
  case atStart => exact ⟨0, none, 0, fun _ => none, fun _ => 0, Nat.zero_le _, rfl, rfl, Lib.hid ⟨by simpa using OwnR.none _ _, Below.refl _ _⟩⟩
  case round =>
    obtain ⟨j, a1, c1, A, C, hj, rfl, rfl, HJ⟩ := hrel
    obtain ⟨wi, rfl⟩ : ∃ x, x = wr := ⟨wr, rfl⟩
    by_cases hjt : j < n
    · obtain ⟨b, o, rfl, hc⟩ := (HA.out.keep HJ.out.2 (Nat.le_refl _)) (by rw [HL.out]; omega)
      obtain ⟨aj, cj, dj, rj, _⟩ := hc j (by rw [HL.out]; exact hjt)
      have R := Lib.hid rj
      have hxj := HX.out j hjt
      have hsz := HJ.out.2.size
      clear hc rj
      go_wp2_with (first
        | (go_at_call 89; refine (clone_any _ _ _ (rw_ xss j) _ (by exact R.out) rfl hxj).mono ?_; rintro e w' ⟨ar, cr, rfl, ho, hb⟩; have HO := Lib.hid ho; have HBo := Lib.hid hb; have sb := hb.size; clear ho hb)
        | (at_builtin; refine wpList_push rfl (.tmp 12) (.tmp 15) 24 rfl w.heap.size 52 (.slice none 0 0) 24 Try.underlying24 Try.infoR rfl (by decide) (.slice ar (rw_ xss j).length cr) rfl _ _ _ _ rfl rfl (by exact (HJ.out.1.keep HBo.out (Nat.le_refl _)).own) (by omega) (by exact Nat.le_trans hsz sb) ?_; rintro a4 c4 w4 r4 q4 g4; have HN := Lib.hid (HJ.out.1.pushNew2 hsz HBo.out HO.out (Nat.le_refl _) r4 q4 g4); clear r4 q4 g4))
      have HN2 : Hid (OwnR 52 2 w4 w.heap.size a4 (j + 1) c4 (xss.take (j + 1)) (upd A j ar) (upd C j cr) ∧ Below w.heap.size w w4) := Lib.hid ⟨by rw [take_row2 (by rw [HL.out]; exact hjt)]; exact HN.out.1, HJ.out.2.trans HN.out.2⟩
      go_roundw
      case rel => exact ⟨j + 1, a4, c4, _, _, by omega, by go_num, rfl, HN2⟩
      case measure => simp [intOf]; omega
    · obtain rfl : n = j := by omega
      have HM := Lib.hid HJ.out
      rw [List.take_of_length_le (by rw [HL.out]; omega)] at HM
      go_wp2
      go_ret
      exact ⟨a1, c1, rfl, ⟨A, C, HM.out.1⟩, HM.out.2⟩
end Go.Proofs.Ytpkdgemnddcefaa
