/- The law on the lists of abelian groups of an order, from a code. -/
import Derived.Test.YtkidohohiihbaaaAllC
import Derived.Test.YtkidohohiihbaaaSrc
import Derived.Test.YtkidohohiihbaaaAbOrd
import Derived.Deep.RegionHeld3
import Derived.StillTailTactics
set_option linter.unusedVariables false
set_option linter.unusedSimpArgs false
namespace Go.Proofs.Ytkidohohiihbaaa
open Go.RowKit
theorem code0_of {w : World} {a : Option Addr} {m : Nat} {bs : List Int} (hl : bs.length = m) (hx : RdB w a bs) (hw : ∀ x ∈ bs, 0 ≤ x ∧ x ≤ 255) (hm : m ≤ 4096) : Code0 w a m bs :=
  ⟨hl, hx, fun i hi => hw _ (el_mem (by omega)), by omega⟩
/-! ### the ways, in plain words -/
theorem stripN_no {p r : Nat} (h : r % p ≠ 0) : ∀ f, stripN p f r = (r, 0)
  | 0 => rfl
  | f + 1 => by rw [stripN, if_neg h]
theorem stripN_yes {p r : Nat} (h : r % p = 0) (f : Nat) : stripN p (f + 1) r = ((stripN p f (r / p)).1, (stripN p f (r / p)).2 + 1) := by rw [stripN, if_pos h]
theorem divN {p r : Nat} (hp : 2 ≤ p) (hr : 1 ≤ r) (h : r % p = 0) : 1 ≤ r / p ∧ r / p * 2 ≤ r ∧ p * (r / p) = r := by
  have h1 := Nat.mul_div_cancel' (Nat.dvd_of_mod_eq_zero h)
  obtain ⟨t, ht⟩ : ∃ t, t = r / p := ⟨_, rfl⟩
  rw [← ht] at h1 ⊢
  have h2 : t ≠ 0 := fun e => by rw [e] at h1; omega
  have h3 := Nat.mul_le_mul_right t hp
  exact ⟨by omega, by omega, h1⟩
theorem stripN_spec {p : Nat} (hp : 2 ≤ p) : ∀ (f r : Nat), 1 ≤ r → r < 2 ^ f → 1 ≤ (stripN p f r).1 ∧ (stripN p f r).1 ∣ r ∧ (stripN p f r).1 % p ≠ 0 ∧ (stripN p f r).2 < f ∧ (stripN p f r).1 ≤ r
  | 0, r, h1, h2 => by simp at h2; omega
  | f + 1, r, h1, h2 => by
    by_cases h : r % p = 0
    · obtain ⟨d1, d2, d3⟩ := divN hp h1 h
      have ih := stripN_spec hp f (r / p) d1 (by rw [Nat.pow_succ] at h2; omega)
      rw [stripN_yes h]
      refine ⟨ih.1, Nat.dvd_trans ih.2.1 ⟨p, by rw [Nat.mul_comm]; exact d3.symm⟩, ih.2.2.1, by show _ + 1 < f + 1; omega, by have := ih.2.2.2.2; show (stripN p f (r / p)).1 ≤ r; omega⟩
    · rw [stripN_no h]
      exact ⟨h1, Nat.dvd_refl _, h, by show 0 < f + 1; omega, Nat.le_refl _⟩
theorem wt_pos {k : Nat} (h : k < 10) : 1 ≤ nel waysT k ∧ nel waysT k ≤ 30 := by
  rcases (show k = 0 ∨ k = 1 ∨ k = 2 ∨ k = 3 ∨ k = 4 ∨ k = 5 ∨ k = 6 ∨ k = 7 ∨ k = 8 ∨ k = 9 by omega) with rfl | rfl | rfl | rfl | rfl | rfl | rfl | rfl | rfl | rfl <;> decide
theorem waysF_ge : ∀ (f p r w : Nat), 2 ≤ p → 1 ≤ r → r ≤ 1000 → w ≤ waysF f p r w
  | 0, p, r, w, _, _, _ => Nat.le_refl _
  | f + 1, p, r, w, hp, h1, h2 => by
    unfold waysF
    split
    · have hs := stripN_spec hp 10 r h1 (by omega)
      have ih := waysF_ge f (p + 1) (stripN p 10 r).1 (w * nel waysT (stripN p 10 r).2) (by omega) hs.1 (by have := hs.2.2.2.2; omega)
      have h3 := Nat.mul_le_mul_left w (wt_pos (show (stripN p 10 r).2 < 10 from hs.2.2.2.1)).1
      omega
    · exact Nat.le_refl _
/-- no divisor below p -/
def NoD (p r : Nat) : Prop := ∀ d, 2 ≤ d → d < p → r % d ≠ 0
theorem NoD.le {p r : Nat} (h : NoD p r) (hr : 2 ≤ r) : p ≤ r := by
  rcases Nat.lt_or_ge r p with h1 | h1
  · exact absurd (Nat.mod_self r) (h r hr h1)
  · exact h1
theorem NoD.next {p r s : Nat} (h : NoD p r) (hs : s ∣ r) (hp : s % p ≠ 0) : NoD (p + 1) s := fun d h1 h2 e => by
  rcases (show d < p ∨ d = p by omega) with h3 | h3
  · obtain ⟨k, rfl⟩ := hs
    exact h d h1 h3 (by rw [Nat.mul_mod, e]; simp)
  · subst h3; exact hp e
theorem waysF_one (f p w : Nat) : waysF f p 1 w = w := by cases f <;> simp [waysF]
theorem waysF_go {f p r w : Nat} (h : 1 < r) : waysF (f + 1) p r w = waysF f (p + 1) (stripN p 10 r).1 (w * nel waysT (stripN p 10 r).2) := by
  rw [waysF, if_pos h]
/-! ### the order -/
theorem cnt_mul : ∀ (r : List Nat) (k : Nat), k ≤ r.length → (∀ i, i < r.length → 1 ≤ nel r i) → mulN r ≤ 1000 → cntTo (toI r) k = some ((mulN (r.take k) : Nat) : Int)
  | r, 0, _, _, _ => by simp [cntTo, mulN]
  | r, k + 1, hk, h1, h2 => by
    have ih := cnt_mul r k (by omega) h1 h2
    have e : r.take (k + 1) = r.take k ++ [nel r k] := by rw [List.take_add_one]; simp [nel, List.getElem?_eq_getElem (show k < r.length by omega)]
    have em : ∀ (xs : List Nat) (y : Nat), mulN (xs ++ [y]) = mulN xs * y := fun xs y => by
      induction xs with
      | nil => simp [mulN]
      | cons x xs ih => simp only [List.cons_append]; show x * mulN (xs ++ [y]) = x * mulN xs * y; rw [ih, Nat.mul_assoc]
    have ea : ∀ (xs ys : List Nat), mulN (xs ++ ys) = mulN xs * mulN ys := fun xs ys => by
      induction xs with
      | nil => simp [mulN]
      | cons x xs ih => show x * mulN (xs ++ ys) = x * mulN xs * mulN ys; rw [ih, Nat.mul_assoc]
    have ep : ∀ xs : List Nat, (∀ x ∈ xs, 1 ≤ x) → 1 ≤ mulN xs := fun xs => by
      induction xs with
      | nil => intro _; simp [mulN]
      | cons x xs ih =>
        intro h
        have h3 := h x (by simp)
        have h4 := ih (fun y hy => h y (by simp [hy]))
        show 1 ≤ x * mulN xs
        have := Nat.mul_le_mul h3 h4
        omega
    have hpos : ∀ x ∈ r, 1 ≤ x := fun x hx => by
      obtain ⟨i, hi, rfl⟩ := List.getElem_of_mem hx
      have := h1 i hi
      simpa [nel, hi] using this
    have p1 := ep (r.take k) (fun x hx => hpos x (List.mem_of_mem_take hx))
    have p2 := ep (r.drop (k + 1)) (fun x hx => hpos x (List.mem_of_mem_drop hx))
    have p3 : mulN (r.take k) * nel r k ≤ 1000 := by
      have h3 : mulN (r.take (k + 1)) * mulN (r.drop (k + 1)) = mulN r := by rw [← ea, List.take_append_drop]
      rw [e, em] at h3
      have := Nat.mul_le_mul_left (mulN (r.take k) * nel r k) p2
      omega
    have p4 := h1 k (by omega)
    have p5 : mulN (r.take k) ≤ 1000 := by have := Nat.mul_le_mul_left (mulN (r.take k)) p4; omega
    have p6 : nel r k ≤ 1000 := by have := Nat.mul_le_mul_right (nel r k) p1; omega
    simp only [cntTo]
    rw [ih]
    simp only
    rw [toI_el (by omega), if_neg (by
      have h3 : (1000000000000 : Int) ≤ 1000000000000000 / ((mulN (r.take k) : Nat) : Int) := Int.le_ediv_of_mul_le (by omega) (by omega)
      omega), e, em]
    simp
theorem ord_ref {n : Nat} (h : AllOk n) (hn : n ≤ 1000) {r : List Nat} (hr : r ∈ refN n) : ordV (toI r) 0 = ((n : Int), 0) := by
  have h1 := (ref_row h (toI r) (List.mem_map.2 ⟨r, hr, rfl⟩)).2
  have h2 := h.mul r hr
  have h3 := (isAb_ok h1).2.2.2
  unfold ordV
  rw [if_pos h1, if_neg (by omega)]
  unfold cntV
  have := cnt_mul r r.length (Nat.le_refl _) (fun i hi => by
    have h4 := (h3 i (by rw [toI_len]; exact hi)).1
    rw [toI_el hi] at h4
    omega) (by omega)
  rw [toI_len, this]
  simp only
  rw [List.take_length, h2]
/-- neighbours differ -/
theorem ref_ne {n i : Nat} (h : AllOk n) (hi : i + 1 < ((refN n).map toI).length) : rw_ ((refN n).map toI) (i + 1) ≠ rw_ ((refN n).map toI) i := fun e => by
  have h1 := asc_pair h.asc
  rw [List.pairwise_iff_getElem] at h1
  have h2 := h1 i (i + 1) (by omega) hi (by omega)
  have e1 : rw_ ((refN n).map toI) i = ((refN n).map toI)[i] := by unfold rw_; rw [List.getElem?_eq_getElem (by omega)]; rfl
  have e2 : rw_ ((refN n).map toI) (i + 1) = ((refN n).map toI)[i + 1] := by unfold rw_; rw [List.getElem?_eq_getElem hi]; rfl
  rw [← e1, ← e2, e, cmpL_self] at h2
  omega
set_option maxHeartbeats 400000 in
theorem bigA_t (a : Option Addr) (n c : Nat) (w : World) (h : 4096 < n) (hn : n ≤ maxLen) :
    Calls Try.prog 14 #[.slice a n c] w fun e w' => e = .returned (.bool true) ∧ w = w' := by
  unfold maxLen at hn
  go_enter Try.func14, Try.ntmps14
  go_wp2
  go_ret
  exact ⟨ret_bool (by simp; omega), rfl⟩
theorem bigA_f (a : Option Addr) (n c : Nat) (w : World) (h : n ≤ 4096) :
    Calls Try.prog 14 #[.slice a n c] w fun e w' => e = .returned (.bool false) ∧ w = w' := by
  go_enter Try.func14, Try.ntmps14
  go_wp2
  go_ret
  exact ⟨ret_bool (by simp; omega), rfl⟩
set_option maxHeartbeats 1000000 in
theorem likeInts_b (a b : Option Addr) (n m ca cb : Nat) (xs ys : List Int) (w : World) (ha : RdI w a xs) (hb : RdI w b ys) (hn : xs.length = n) (hm : ys.length = m) (hl : n ≤ 1000000) (hl2 : m ≤ 1000000) :
    Calls Try.prog 18 #[.slice a n ca, .slice b m cb] w fun e w' => e = .returned (.bool (decide (xs = ys))) ∧ ∃ n, w' = w.drewN n := by
  have HA := Lib.hid ha
  have HB := Lib.hid hb
  have HN := Lib.hid hn
  have HM := Lib.hid hm
  clear ha hb hn hm
  by_cases hnm : n = m
  · have HNM := Lib.hid hnm
    have q1 : ((n : Int) != (m : Int)) = false := by simp [hnm]
    have q2 : (n != m) = false := by simp [hnm]
    have q3 : (n : Int) = (m : Int) := by omega
    go_enter Try.func18, Try.ntmps18
    clear hnm
    go_wp2
    go_loopw [5] (fun i wr => ∃ k : Nat, k ≤ n ∧ i = .int .i64 k ∧ Hid ((∀ j, j < k → el xs j = el ys j) ∧ ∃ n, wr = w.drewN n)) (fun i _ => n - (intOf i).toNat)
    case atStart => exact ⟨0, Nat.zero_le _, rfl, Lib.hid ⟨fun j hj => absurd hj (by omega), 0, rfl⟩⟩
    case round =>
      obtain ⟨k, hk, rfl, HK⟩ := hrel
      obtain ⟨t, hwt⟩ := HK.out.2
      have HWT := Lib.hid hwt
      by_cases hlt : k < n
      · obtain ⟨b1, o1, rfl, c1⟩ := rdI_at (w := wr) (by rw [hwt]; exact HA.out) (show k < xs.length by rw [HN.out]; exact hlt)
        obtain ⟨b2, o2, rfl, c2⟩ := rdI_at (w := wr) (by rw [hwt]; exact HB.out) (show k < ys.length by rw [HM.out, ← HNM.out]; exact hlt)
        clear hwt
        obtain ⟨x, hx⟩ : ∃ x, x = el xs k := ⟨_, rfl⟩
        obtain ⟨y, hy⟩ : ∃ y, y = el ys k := ⟨_, rfl⟩
        rw [← hx] at c1
        rw [← hy] at c2
        have HXY : Hid (x = y → el xs k = el ys k) := Lib.hid (fun h => by rw [← hx, ← hy]; exact h)
        have HXN : Hid (x ≠ y → xs ≠ ys) := Lib.hid (fun h e => h (by rw [hx, hy, e]))
        clear hx hy
        have hi : (k : Int) < n := by omega
        have hi2 : decide ((k : Int) < n) = true := decide_eq_true hi
        have hkm : (k : Int) < m := by omega
        have hkm2 : k < m := by omega
        obtain ⟨wi, rfl⟩ : ∃ z, z = wr := ⟨wr, rfl⟩
        by_cases hxy : x = y
        · have e1 : (x != y) = false := by simp [hxy]
          have HEQ := Lib.hid (HXY.out hxy)
          clear hxy
          go_wp2
          go_quiet (fail)
          go_wp2
          go_roundw
          case rel => exact ⟨k + 1, by omega, by go_num, Lib.hid ⟨fun j hj => by
            rcases Nat.lt_or_ge j k with h | h
            · exact HK.out.1 j h
            · have : j = k := by omega
              subst this; exact HEQ.out, t + nq, by rw [HWT.out]; simp⟩⟩
          case measure => simp [intOf]; omega
        · have e1 : (x != y) = true := by simp [hxy]
          have HNE := Lib.hid (HXN.out hxy)
          go_wp2
          go_quiet (fail)
          go_wp2
          go_ret
          exact ⟨by rw [decide_eq_false HNE.out]; rfl, t + nq, by rw [HWT.out]; simp⟩
      · have hkn : k = n := by omega
        have HEQ : Hid (xs = ys) := Lib.hid (list_ext (by rw [HN.out, HM.out, HNM.out]) (fun i hi => HK.out.1 i (by rw [HN.out] at hi; omega)))
        clear hwt
        have hi : ¬ (k : Int) < n := by omega
        have hi2 : decide ((k : Int) < n) = false := decide_eq_false hi
        clear hkn
        go_wp2
        go_ret
        exact ⟨by rw [decide_eq_true HEQ.out]; rfl, t, HWT.out⟩
  · have q1 : ((n : Int) != (m : Int)) = true := by simp; omega
    have q2 : (n != m) = true := by simp [hnm]
    have q3 : ¬ (n : Int) = (m : Int) := by omega
    have HNE : Hid (xs ≠ ys) := Lib.hid (fun e => hnm (by rw [← HN.out, ← HM.out, e]))
    go_enter Try.func18, Try.ntmps18
    go_wp2
    go_ret
    exact ⟨by rw [decide_eq_false HNE.out]; rfl, 0, rfl⟩
set_option maxHeartbeats 1000000 in
theorem likeAb_b (a b : Option Addr) (n m ca cb : Nat) (xs ys : List Int) (w : World) (ha : RdI w a xs) (hb : RdI w b ys) (hn : xs.length = n) (hm : ys.length = m) (hl : n ≤ 1000000) (hl2 : m ≤ 1000000) :
    Calls Try.prog 70 #[.agg #[.slice a n ca, .int .i64 0], .agg #[.slice b m cb, .int .i64 0]] w fun e w' => e = .returned (.bool (decide (xs = ys))) ∧ Below w.heap.size w w' := by
  obtain ⟨W, hW⟩ : ∃ W, W = (w.alloc (.cells #[.slice a n ca, .int .i64 0] 37)).alloc (.cells #[.slice b m cb, .int .i64 0] 37) := ⟨_, rfl⟩
  have RA : Hid (RdI W a xs) := Lib.hid (by rw [hW]; exact (ha.alloc _).alloc _)
  have RB : Hid (RdI W b ys) := Lib.hid (by rw [hW]; exact (hb.alloc _).alloc _)
  have HBW : Hid (Below w.heap.size w W) := Lib.hid (by rw [hW]; exact ((Below.refl _ _).alloc (Nat.le_refl _) _).alloc (by simp) _)
  have HN := Lib.hid hn
  have HM := Lib.hid hm
  obtain ⟨q, hq⟩ : ∃ q, q = decide (xs = ys) := ⟨_, rfl⟩
  have HC : ∀ t, Hid (Calls Try.prog 18 #[.slice a n ca, .slice b m cb] (W.drewN t) fun e w' => e = .returned (.bool q) ∧ ∃ n, w' = (W.drewN t).drewN n) := fun t => Lib.hid (by rw [hq]; exact likeInts_b a b n m ca cb xs ys _ RA.out RB.out hn hm hl hl2)
  rw [← hq]
  clear ha hb hn hm hq
  have c0 : W.cell? ⟨w.heap.size, 0, none⟩ = some (.slice a n ca) := by rw [hW]; exact ((BX.new _ _ _).alloc _).cell 0
  have c1 : W.cell? ⟨w.heap.size, 1, none⟩ = some (.int .i64 0) := by rw [hW]; exact ((BX.new _ _ _).alloc _).cell 1
  have sW1 : w.heap.size + 1 = (w.alloc (.cells #[.slice a n ca, .int .i64 0] 37)).heap.size := by simp
  have c2 : W.cell? ⟨w.heap.size + 1, 0, none⟩ = some (.slice b m cb) := by rw [hW, sW1]; exact (BX.new _ _ _).cell 0
  have c3 : W.cell? ⟨w.heap.size + 1, 1, none⟩ = some (.int .i64 0) := by rw [hW, sW1]; exact (BX.new _ _ _).cell 1
  clear sW1
  go_enter Try.func70, Try.ntmps70
  go_wp2_with fail
  rw [← hW]
  clear hW
  refine ((HC 0).out).mono ?_
  rintro e w' ⟨rfl, t, rfl⟩
  have HBT : Hid (Below w.heap.size w ((W.drewN 0).drewN t)) := Lib.hid (below_drewN' (below_drewN' HBW.out 0) t)
  go_wp2_with fail
  go_ret
  exact ⟨rfl, HBT.out⟩
--DRAW
set_option maxRecDepth 20000 in
set_option maxHeartbeats 2000000 in
theorem DrawAllAbelian_any (a : Option Addr) (m c : Nat) (bs : List Int) (w : World) (hs : Code0 w a m bs) (hmc : m ≤ c) :
    Calls Try.prog 73 #[.slice a m c] w fun e w' => ∃ x : Int, e = .returned (.int .i64 x) ∧ Below w.heap.size w w' := by
  have HS := Lib.hid hs
  clear hs
  go_enter Try.func73, Try.ntmps73
  go_wp2_with fail
  refine (l01From_any a m c bs w HS.out hmc).mono ?_
  rintro e w1 ⟨rfl, hs, hb⟩
  have HS1 := Lib.hid hs
  have HB1 : Hid (Below w.heap.size w w1) := Lib.hid hb
  have s1 := hs.lt
  clear hs hb
  go_wp2_with fail
  refine (l01Next_any w.heap.size a m c bs 1000 w1 HS1.out (by omega) hmc).mono ?_
  rintro e w2 ⟨v, rfl, hv0, hv1, hs, hc⟩
  have HS2 := Lib.hid hs
  have s2 := hc.size
  have HB2 : Hid (Below w.heap.size w w2) := Lib.hid (HB1.out.trans (hc.below (by omega) (fun b hb e => by omega)))
  clear hs hc HS1 HB1
  have hv9 : v ≤ 1000 := by omega
  go_wp2_with fail
  refine (l01Next_any w.heap.size a m c bs 100 w2 HS2.out (by omega) hmc).mono ?_
  rintro e w3 ⟨u, rfl, hu0, hu1, hs, hc⟩
  have HS3 := Lib.hid hs
  have s3 := hc.size
  have HB3 : Hid (Below w.heap.size w w3) := Lib.hid (HB2.out.trans (hc.below (by omega) (fun b hb e => by omega)))
  clear hs hc HS2 HB2
  have hu9 : u ≤ 1000 := by omega
  go_wp2_with fail
  obtain ⟨vs, hvs⟩ : ∃ vs : Array Value, vs = #[.int .i64 0, .int .i64 1, .int .i64 1000, .int .i64 1001, .int .i64 512, .int .i64 720, .int .i64 64, .int .i64 36, .int .i64 (1 + v), .int .i64 (1 + u)] := ⟨_, rfl⟩
  rw [← hvs]
  have HV : Hid (∀ k, k < 10 → ∃ y : Int, vs[k]? = some (.int .i64 y)) := Lib.hid (fun k hk => by
    rw [hvs]
    rcases (show k = 0 ∨ k = 1 ∨ k = 2 ∨ k = 3 ∨ k = 4 ∨ k = 5 ∨ k = 6 ∨ k = 7 ∨ k = 8 ∨ k = 9 by omega) with rfl | rfl | rfl | rfl | rfl | rfl | rfl | rfl | rfl | rfl <;> exact ⟨_, rfl⟩)
  have HX : Hid (BX 2 (w3.alloc (.cells vs 2)) w3.heap.size vs) := Lib.hid (BX.new _ _ _)
  have HS4 : Hid (Src (w3.alloc (.cells vs 2)) w.heap.size a m c bs) := Lib.hid (HS3.out.keep ((Below.refl _ _).alloc (Nat.le_refl _) _))
  have HB4 : Hid (Below w.heap.size w (w3.alloc (.cells vs 2))) := Lib.hid (HB3.out.alloc (by omega) _)
  have s4 : w3.heap.size + 1 = (w3.alloc (.cells vs 2)).heap.size := by simp
  clear hvs HS3 HB3
  refine (l01Next_any w.heap.size a m c bs 10 _ HS4.out (by omega) hmc).mono ?_
  rintro e w5 ⟨t, rfl, ht0, ht1, hs, hc⟩
  obtain ⟨T, rfl⟩ : ∃ T : Nat, t = T := ⟨t.toNat, by omega⟩
  have hT : T < 10 := by omega
  obtain ⟨y, hy⟩ := HV.out T hT
  have cT : w5.cell? ⟨w3.heap.size, T, none⟩ = some (.int .i64 y) := by
    rw [(HX.out.chg hc (by omega)).cell T]; exact hy
  have HB5 : Hid (Below w.heap.size w w5) := Lib.hid (HB4.out.trans (hc.below (by omega) (fun b hb e => by omega)))
  have hT1 : (T : Int) < 10 := by omega
  clear hs hc HX HS4 HB4 hy
  go_wp2_with fail
  go_ret
  exact ⟨y, rfl, HB5.out⟩
--LAWALL
theorem tbl_get {k : Nat} (h : k < 10) : (#[.int .i64 1, .int .i64 1, .int .i64 2, .int .i64 3, .int .i64 5, .int .i64 7, .int .i64 11, .int .i64 15, .int .i64 22, .int .i64 30] : Array Value)[k]? = some (.int .i64 (nel waysT k : Int)) := by
  rcases (show k = 0 ∨ k = 1 ∨ k = 2 ∨ k = 3 ∨ k = 4 ∨ k = 5 ∨ k = 6 ∨ k = 7 ∨ k = 8 ∨ k = 9 by omega) with rfl | rfl | rfl | rfl | rfl | rfl | rfl | rfl | rfl | rfl <;> rfl
set_option maxRecDepth 20000 in
set_option maxHeartbeats 4000000 in
theorem law_AbelianLists (a0 : Option Addr) (n0 c0 : Nat) (bs : List Int) (w : World) (hl : bs.length = n0) (hx : RdB w a0 bs) (hw : ∀ x ∈ bs, 0 ≤ x ∧ x ≤ 255) (hc : n0 ≤ c0) (hm : n0 ≤ maxLen) :
    Calls Try.prog 13 #[.slice a0 n0 c0] w fun e w' => e = .returned (.bool true) ∧ Below w.heap.size w w' := by
  by_cases hbig : 4096 < n0
  · clear hx hw
    go_enter Try.func13, Try.ntmps13
    go_wp2_with (go_at_call 14; refine (bigA_t _ _ _ _ hbig hm).mono ?_; rintro e w' ⟨rfl, rfl⟩)
    go_ret
    exact ⟨rfl, Below.refl _ _⟩
  have hs : n0 ≤ 4096 := by omega
  have HS := Lib.hid (code0_of hl hx hw hs)
  clear hl hx hw hm hbig
  go_enter Try.func13, Try.ntmps13
  go_wp2_with (go_at_call 14; refine (bigA_f _ _ _ _ hs).mono ?_; rintro e w' ⟨rfl, rfl⟩)
  refine (DrawAllAbelian_any a0 n0 c0 bs w HS.out hc).mono ?_
  rintro e w1 ⟨x, rfl, hb⟩
  have HB1 := Lib.hid hb
  clear hb HS
  obtain ⟨L, hL⟩ : ∃ L, L = allL x := ⟨_, rfl⟩
  obtain ⟨d, hd⟩ : ∃ d, d = allD x := ⟨_, rfl⟩
  obtain ⟨n, hn⟩ : ∃ n, n = L.length := ⟨_, rfl⟩
  have hsm := allL_small x
  rw [← hL] at hsm
  have hn9 : n ≤ 100 := by rw [hn]; exact hsm.1
  have HX : Hid (∀ i, (rw_ L i).length ≤ 10) := Lib.hid hsm.2
  have HLN : Hid (L.length = n) := Lib.hid hn.symm
  have HI : ∀ w : World, Hid (Calls Try.prog 74 #[.int .i64 x] w fun e w' => ∃ (a : Option Addr) (c : Nat) (A : Nat → Option Addr) (C : Nat → Nat), e = .returned (.tuple #[.slice a n c, .int .i64 d]) ∧
      OwnA 37 2 w' w.heap.size a n c L A C (fun _ => 0) ∧ Below w.heap.size w w') := fun w => Lib.hid (by rw [hn, hL, hd]; exact impl_AllAbelian_all x w)
  have HSP : ∀ w : World, Hid (Calls Try.prog 75 #[.int .i64 x] w fun e w' => ∃ (a : Option Addr) (c : Nat) (A : Nat → Option Addr) (C : Nat → Nat), e = .returned (.tuple #[.slice a n c, .int .i64 d]) ∧
      OwnA 37 2 w' w.heap.size a n c L A C (fun _ => 0) ∧ Below w.heap.size w w') := fun w => Lib.hid (by rw [hn, hL, hd]; exact spec_AllAbelian_all x w)
  have HLX := Lib.hid hL
  have HDX := Lib.hid hd
  clear hL hd hn hsm
  go_wp2_with fail
  refine (HI w1).out.mono ?_
  rintro e w2 ⟨a2, c2, A2, C2, rfl, ho, hb⟩
  have HR2 : Hid (RdA w2 a2 n L (fun _ => 0)) := Lib.hid ho.rd
  have HB2 : Hid (Below w.heap.size w w2) := Lib.hid (HB1.out.trans (hb.mono HB1.out.size))
  clear ho hb HB1
  go_wp2_with fail
  refine (HSP w2).out.mono ?_
  rintro e w3 ⟨a3, c3, A3, C3, rfl, ho, hb⟩
  have HR3 : Hid (RdA w3 a3 n L (fun _ => 0)) := Lib.hid ho.rd
  have HR2' : Hid (RdA w3 a2 n L (fun _ => 0)) := Lib.hid (HR2.out.keep hb (Nat.le_refl _))
  have HB3 : Hid (Below w.heap.size w w3) := Lib.hid (HB2.out.trans (hb.mono HB2.out.size))
  clear ho hb HB2 HR2 HI HSP
  by_cases hin : allIn x
  · obtain ⟨N, hN⟩ : ∃ N : Nat, x = N := ⟨x.toNat, by have := hin.1; omega⟩
    subst hN
    have h1 : 1 ≤ N := by have := hin.1; omega
    have h2 : N ≤ 1000 := by have := hin.2; omega
    have HOK := Lib.hid (allOk h1 h2)
    have hd0 : d = 0 := by rw [HDX.out]; unfold allD; rw [if_pos hin]
    subst hd0
    have HLR : Hid (L = (refN N).map toI) := Lib.hid (by rw [HLX.out]; unfold allL; rw [if_pos hin]; rfl)
    have HWY : Hid (waysF 1000 2 N 1 = n) := Lib.hid (by rw [← HOK.out.ways, ← HLN.out, HLR.out, List.length_map])
    clear HLX HDX hin
    go_wp2_with fail
    go_loopw [10, 9, 8] (fun p r v wr => ∃ (P R V : Nat), p = .int .i64 P ∧ r = .int .i64 R ∧ v = .int .i64 V ∧ 2 ≤ P ∧ P ≤ 1001 ∧ 1 ≤ R ∧ R ≤ 1000 ∧ V ≤ 100 ∧ Hid (waysF (1002 - P) P R V = n ∧ NoD P R ∧ Below w3.heap.size w3 wr)) (fun p _ _ _ => 1002 - (intOf p).toNat)
    case atStart => exact ⟨2, N, 1, rfl, rfl, rfl, by omega, by omega, h1, h2, by omega, Lib.hid ⟨HWY.out, fun d hd1 hd2 => by omega, Below.refl _ _⟩⟩
    case round =>
      obtain ⟨P, R, V, rfl, rfl, rfl, hP2, hP9, hR1, hR9, hV9, HJ⟩ := hrel
      obtain ⟨wj, rfl⟩ : ∃ z, z = wr := ⟨wr, rfl⟩
      by_cases hR : 1 < R
      · have g1 : (1 : Int) < (R : Int) := by omega
        have g2 : decide ((1 : Int) < (R : Int)) = true := decide_eq_true g1
        have hPR : P ≤ R := HJ.out.2.1.le (by omega)
        obtain ⟨RR, hRR⟩ : ∃ RR, RR = (stripN P 10 R).1 := ⟨_, rfl⟩
        obtain ⟨EE, hEE⟩ : ∃ EE, EE = (stripN P 10 R).2 := ⟨_, rfl⟩
        have hsp := stripN_spec hP2 10 R hR1 (by omega)
        rw [← hRR, ← hEE] at hsp
        obtain ⟨t1, t2, t3, t4, t5⟩ := hsp
        have HN1 : Hid (waysF (1002 - (P + 1)) (P + 1) RR (V * nel waysT EE) = n ∧ NoD (P + 1) RR) := Lib.hid ⟨by
          have h := HJ.out.1
          rw [show 1002 - P = (1002 - (P + 1)) + 1 by omega, waysF_go hR, ← hRR, ← hEE] at h
          exact h, HJ.out.2.1.next t2 t3⟩
        have HVT : Hid (V * nel waysT EE ≤ 100) := Lib.hid (by
          have h := waysF_ge (1002 - (P + 1)) (P + 1) RR (V * nel waysT EE) (by omega) t1 (by omega)
          rw [HN1.out.1] at h
          omega)
        have HR0 := Lib.hid hRR
        have HE0 := Lib.hid hEE
        have HT3 := Lib.hid t3
        clear hRR hEE t2 t3
        have p0 : ¬ (P : Int) = 0 := by omega
        have p1 : ((P : Int) == 0) = false := beq_eq_false_iff_ne.2 p0
        have p2 : ¬ P = 0 := by omega
        go_wp2_with fail
        go_loopw [9, 11] (fun r k wr => ∃ (g r' k' : Nat), r = .int .i64 r' ∧ k = .int .i64 k' ∧ 1 ≤ r' ∧ r' ≤ 1000 ∧ k' ≤ EE ∧ Hid (r' < 2 ^ g ∧ (stripN P g r').1 = RR ∧ (stripN P g r').2 + k' = EE ∧ Below w3.heap.size w3 wr)) (fun r _ _ => (intOf r).toNat)
        case atStart => exact ⟨10, R, 0, rfl, rfl, hR1, hR9, Nat.zero_le _, Lib.hid ⟨by omega, HR0.out.symm, by rw [← HE0.out]; rfl, HJ.out.2.2⟩⟩
        case round =>
          obtain ⟨g, r', k', rfl, rfl, hr1, hr9, hk9, HK⟩ := hrel
          obtain ⟨wi, rfl⟩ : ∃ z, z = wr := ⟨wr, rfl⟩
          obtain ⟨z, hz⟩ : ∃ z, z = r' % P := ⟨_, rfl⟩
          have em1 : (r' : Int).tmod (P : Int) = (z : Int) := by rw [tmod_nat, hz]
          by_cases hz0 : z = 0
          · have f1 : ((z : Int) == 0) = true := beq_iff_eq.2 (by omega)
            have f2 : (z == 0) = true := beq_iff_eq.2 hz0
            obtain ⟨g', hg'⟩ : ∃ g', g = g' + 1 := by
              cases g with
              | zero => have := HK.out.1; simp at this; omega
              | succ g' => exact ⟨g', rfl⟩
            subst hg'
            obtain ⟨d1, d2, d3⟩ := divN hP2 hr1 (show r' % P = 0 by omega)
            have hst := stripN_yes (f := g') (show r' % P = 0 by omega)
            obtain ⟨tI, htI⟩ : ∃ tI : Int, tI = ((r' / P : Nat) : Int) := ⟨_, rfl⟩
            have ed1 : (r' : Int).tdiv (P : Int) = tI := by rw [tdiv_nat, htI]
            have hZ0 : 0 ≤ tI := by omega
            have hZ1 : tI ≤ 1000 := by omega
            have HTI := Lib.hid htI
            have HKN : Hid (r' / P < 2 ^ g' ∧ (stripN P g' (r' / P)).1 = RR ∧ (stripN P g' (r' / P)).2 + (k' + 1) = EE ∧ Below w3.heap.size w3 wi) := Lib.hid (by
              have h := HK.out
              rw [hst] at h
              refine ⟨by have := h.1; rw [Nat.pow_succ] at this; omega, h.2.1, by have := h.2.2.1; show _ + (k' + 1) = EE; simp only at this; omega, h.2.2.2⟩)
            have hk8 : k' + 1 ≤ EE := by have := HKN.out.2.2.1; omega
            have hkk : k' ≤ 9 := by omega
            clear hz hst htI d3
            go_wp2_with fail
            go_roundw
            case rel => exact ⟨g', r' / P, k' + 1, by rw [HTI.out], by go_num, d1, by omega, hk8, HKN⟩
            case measure => simp [intOf]; have := HTI.out; omega
          · have f1 : ((z : Int) == 0) = false := beq_eq_false_iff_ne.2 (by omega)
            have f2 : (z == 0) = false := beq_eq_false_iff_ne.2 hz0
            have hst := stripN_no (p := P) (r := r') (by omega) g
            have HRE : Hid (r' = RR) := Lib.hid (by have h := HK.out.2.1; rw [hst] at h; exact h)
            have HKE : Hid (k' = EE) := Lib.hid (by have h := HK.out.2.2.1; rw [hst] at h; simpa using h)
            have hk10 : k' < 10 := by omega
            obtain ⟨T, hT⟩ : ∃ T, T = nel waysT k' := ⟨_, rfl⟩
            have hT9 : T ≤ 30 := by rw [hT]; exact (wt_pos hk10).2
            have cT : (wi.alloc (.cells #[.int .i64 1, .int .i64 1, .int .i64 2, .int .i64 3, .int .i64 5, .int .i64 7, .int .i64 11, .int .i64 15, .int .i64 22, .int .i64 30] 2)).cell? ⟨wi.heap.size, k', none⟩ = some (.int .i64 T) := by
              rw [(BX.new wi _ _).cell k', tbl_get hk10, hT]
            have HTE := Lib.hid hT
            have hk10' : (k' : Int) < 10 := by omega
            have HBW : Hid (Below w3.heap.size w3 (wi.alloc (.cells #[.int .i64 1, .int .i64 1, .int .i64 2, .int .i64 3, .int .i64 5, .int .i64 7, .int .i64 11, .int .i64 15, .int .i64 22, .int .i64 30] 2))) := Lib.hid (HK.out.2.2.2.alloc HK.out.2.2.2.size _)
            have hVT : V * T ≤ 3000 := by have := Nat.mul_le_mul hV9 hT9; omega
            have hVTI : (V : Int) * (T : Int) = ((V * T : Nat) : Int) := by simp
            have hVT0 : (0 : Int) ≤ (V : Int) * T := by rw [hVTI]; omega
            have hVT1 : (V : Int) * T ≤ 3000 := by rw [hVTI]; omega
            have HVI := Lib.hid hVTI
            clear hst hT hz hVTI
            go_wp2_with fail
            go_roundw
            case rel => exact ⟨P + 1, RR, V * T, by go_num, by rw [HRE.out], by rw [HVI.out], by omega, by omega, t1, by omega, by rw [HTE.out, HKE.out]; exact HVT.out, Lib.hid ⟨by rw [HTE.out, HKE.out]; exact HN1.out.1, HN1.out.2, HBW.out⟩⟩
            case measure => simp [intOf]; omega
      · have hR0 : R = 1 := by omega
        have g1 : ¬ (1 : Int) < (R : Int) := by omega
        have g2 : decide ((1 : Int) < (R : Int)) = false := decide_eq_false g1
        have HVN : Hid (V = n) := Lib.hid (by have h := HJ.out.1; rwa [hR0, waysF_one] at h)
        have HJB : Hid (Below w3.heap.size w3 wj) := Lib.hid HJ.out.2.2
        clear hR0 HJ
        go_wp2_with fail
        go_loopw [12] (fun i wr => ∃ k : Nat, k ≤ n ∧ i = .int .i64 k ∧ Hid (Below w3.heap.size w3 wr)) (fun i _ => n - (intOf i).toNat)
        case atStart => exact ⟨0, Nat.zero_le _, rfl, HJB⟩
        case round =>
          obtain ⟨k, hk, rfl, HW⟩ := hrel
          obtain ⟨wi, rfl⟩ : ∃ z, z = wr := ⟨wr, rfl⟩
          by_cases hkn : k < n
          · have k1 : (k : Int) < n := by omega
            have k2 : decide ((k : Int) < n) = true := decide_eq_true k1
            obtain ⟨b1, o1, ha1, e1⟩ := (HR2'.out.keep HW.out (Nat.le_refl _)) (by omega)
            obtain ⟨b2, o2, ha2, e2⟩ := (HR3.out.keep HW.out (Nat.le_refl _)) (by omega)
            subst ha1
            subst ha2
            obtain ⟨r1, q1, x1, x2, x3, _⟩ := e1 k hkn
            obtain ⟨r2, q2, y1, y2, y3, _⟩ := e2 k hkn
            obtain ⟨l, hl⟩ : ∃ l, l = rw_ L k := ⟨_, rfl⟩
            rw [← hl] at x1 x3 y1 y3
            have hl10 : l.length ≤ 10 := by rw [hl]; exact HX.out k
            obtain ⟨m, hm⟩ : ∃ m, m = l.length := ⟨_, rfl⟩
            rw [← hm] at x1 y1 hl10
            have HML : Hid (l.length = m) := Lib.hid hm.symm
            have HLE := Lib.hid hl
            have HX3 := Lib.hid x3
            have HY3 := Lib.hid y3
            have HORD : Hid (ordV l 0 = ((N : Int), 0)) := Lib.hid (by
              obtain ⟨r, hr, e⟩ := List.mem_map.1 (show l ∈ (refN N).map toI by rw [hl, HLR.out]; exact rw_mem (by rw [← HLR.out, HLN.out]; exact hkn))
              rw [← e]; exact ord_ref HOK.out h2 hr)
            have HE2 := Lib.hid e2
            clear hl hm x3 y3 e1 e2
            go_wp2_with fail
            refine (impl_AbelianOrder_any r1 m q1 l 0 _ (by exact HX3.out) HML.out (by omega)).mono ?_
            rw [HORD.out]
            rintro e w5 ⟨rfl, hb⟩
            have z1 := cell_below (p := ⟨b1, o1 + k * 2, none⟩) x1 hb
            have z2 := cell_below (p := ⟨b1, o1 + k * 2 + 1, none⟩) x2 hb
            have v1 := cell_below (p := ⟨b2, o2 + k * 2, none⟩) y1 hb
            have v2 := cell_below (p := ⟨b2, o2 + k * 2 + 1, none⟩) y2 hb
            have HX5 : Hid (RdI w5 r1 l) := Lib.hid (HX3.out.keep hb (Nat.le_refl _))
            have HY5 : Hid (RdI w5 r2 l) := Lib.hid (HY3.out.keep hb (Nat.le_refl _))
            have HW5 : Hid (Below w3.heap.size w3 w5) := Lib.hid (HW.out.trans (hb.mono HW.out.size))
            have u1 : b1 < w5.heap.size := block_lt (p := ⟨b1, o1 + k * 2, none⟩) z1
            have u2 : b2 < w5.heap.size := block_lt (p := ⟨b2, o2 + k * 2, none⟩) v1
            by_cases hk0 : k = 0
            · have g3 : ¬ (0 : Int) < (k : Int) := by omega
              have g4 : decide ((0 : Int) < (k : Int)) = false := decide_eq_false g3
              have g5 : decide (0 < k) = false := decide_eq_false (by omega)
              have g6 : ¬ 0 < k := by omega
              clear x1 x2 y1 y2 hb HX3 HY3 hk0
              go_wp2_with fail
              refine wp_region_held_drew (S := (fun w' => w'.cell? ⟨b1, o1 + k * 2, none⟩ = some (.slice r1 m q1) ∧ w'.cell? ⟨b1, o1 + k * 2 + 1, none⟩ = some (.int .i64 0) ∧ w'.cell? ⟨b2, o2 + k * 2, none⟩ = some (.slice r2 m q2) ∧ w'.cell? ⟨b2, o2 + k * 2 + 1, none⟩ = some (.int .i64 0))) (by kernel_rfl) ?_ (fun hHeld => ?_)
              · go_keep
              refine wpAnyH_take (i := 0) (v := ?_) rfl (by kernel_rfl) (by kernel_rfl) (by kernel_rfl) (fun _ _ _ h => h) (Or.inl ⟨by rfl, ?_⟩) (by assumption) ?_
              rotate_left
              · ((intro w hSw; (try dsimp only at hSw); go_simp) <;> (with_reducible rfl))
              try simp only [Act.put, List.setIfInBounds_toArray, List.set_cons_zero, List.set_cons_succ, List.getElem_toArray, List.getElem_cons_zero, List.getElem_cons_succ]
              refine wpAnyH_take (i := 1) (v := ?_) rfl (by kernel_rfl) (by kernel_rfl) (by kernel_rfl) (fun _ _ _ h => h) (Or.inl ⟨by rfl, ?_⟩) (by assumption) ?_
              rotate_left
              · ((intro w hSw; (try dsimp only at hSw); go_simp) <;> (with_reducible rfl))
              try simp only [Act.put, List.setIfInBounds_toArray, List.set_cons_zero, List.set_cons_succ, List.getElem_toArray, List.getElem_cons_zero, List.getElem_cons_succ]
              refine wpAnyH_take (i := 2) (v := ?_) rfl (by kernel_rfl) (by kernel_rfl) (by kernel_rfl) (fun _ _ _ h => h) (Or.inl ⟨by rfl, ?_⟩) (by assumption) ?_
              rotate_left
              · ((intro w hSw; (try dsimp only at hSw); go_simp) <;> (with_reducible rfl))
              try simp only [Act.put, List.setIfInBounds_toArray, List.set_cons_zero, List.set_cons_succ, List.getElem_toArray, List.getElem_cons_zero, List.getElem_cons_succ]
              refine wpAnyH_take (i := 3) (v := ?_) rfl (by kernel_rfl) (by kernel_rfl) (by kernel_rfl) (fun _ _ _ h => h) (Or.inl ⟨by rfl, ?_⟩) (by assumption) ?_
              rotate_left
              · ((intro w hSw; (try dsimp only at hSw); go_simp) <;> (with_reducible rfl))
              try simp only [Act.put, List.setIfInBounds_toArray, List.set_cons_zero, List.set_cons_succ, List.getElem_toArray, List.getElem_cons_zero, List.getElem_cons_succ]
              refine wpAnyH_take (i := 4) (v := ?_) rfl (by kernel_rfl) (by kernel_rfl) (by kernel_rfl) (fun _ _ _ h => h) (Or.inl ⟨by rfl, ?_⟩) (by assumption) ?_
              rotate_left
              · ((intro w hSw; (try dsimp only at hSw); go_simp) <;> (with_reducible rfl))
              try simp only [Act.put, List.setIfInBounds_toArray, List.set_cons_zero, List.set_cons_succ, List.getElem_toArray, List.getElem_cons_zero, List.getElem_cons_succ]
              refine wpAnyH_take (i := 5) (v := ?_) rfl (by kernel_rfl) (by kernel_rfl) (by kernel_rfl) (fun _ _ _ h => h) (Or.inl ⟨by rfl, ?_⟩) (by assumption) ?_
              rotate_left
              · ((intro w hSw; (try dsimp only at hSw); go_simp) <;> (with_reducible rfl))
              try simp only [Act.put, List.setIfInBounds_toArray, List.set_cons_zero, List.set_cons_succ, List.getElem_toArray, List.getElem_cons_zero, List.getElem_cons_succ]
              refine wpAnyH_take (i := 6) (v := ?_) rfl (by kernel_rfl) (by kernel_rfl) (by kernel_rfl) (fun _ _ _ h => h) (Or.inl ⟨by rfl, ?_⟩) (by assumption) ?_
              rotate_left
              · ((intro w hSw; (try dsimp only at hSw); go_simp) <;> (with_reducible rfl))
              try simp only [Act.put, List.setIfInBounds_toArray, List.set_cons_zero, List.set_cons_succ, List.getElem_toArray, List.getElem_cons_zero, List.getElem_cons_succ]
              refine wpAnyH_take (i := 7) (v := ?_) rfl (by kernel_rfl) (by kernel_rfl) (by kernel_rfl) (fun _ _ _ h => h) (Or.inl ⟨by rfl, ?_⟩) (by assumption) ?_
              rotate_left
              · ((intro w hSw; (try dsimp only at hSw); go_simp) <;> (with_reducible rfl))
              try simp only [Act.put, List.setIfInBounds_toArray, List.set_cons_zero, List.set_cons_succ, List.getElem_toArray, List.getElem_cons_zero, List.getElem_cons_succ]
              refine wpAnyH_take (i := 8) (v := ?_) rfl (by kernel_rfl) (by kernel_rfl) (by kernel_rfl) (fun _ _ _ h => h) (Or.inl ⟨by rfl, ?_⟩) (by assumption) ?_
              rotate_left
              · ((intro w hSw; (try dsimp only at hSw); go_simp) <;> (with_reducible rfl))
              try simp only [Act.put, List.setIfInBounds_toArray, List.set_cons_zero, List.set_cons_succ, List.getElem_toArray, List.getElem_cons_zero, List.getElem_cons_succ]
              refine wpAnyH_take (i := 9) (v := ?_) rfl (by kernel_rfl) (by kernel_rfl) (by kernel_rfl) (fun _ _ _ h => h) (Or.inl ⟨by rfl, ?_⟩) (by assumption) ?_
              rotate_left
              · ((intro w hSw; (try dsimp only at hSw); go_simp) <;> (with_reducible rfl))
              try simp only [Act.put, List.setIfInBounds_toArray, List.set_cons_zero, List.set_cons_succ, List.getElem_toArray, List.getElem_cons_zero, List.getElem_cons_succ]
              refine wpAnyH_take (i := 10) (v := ?_) rfl (by kernel_rfl) (by kernel_rfl) (by kernel_rfl) (fun _ _ _ h => h) (Or.inl ⟨by rfl, ?_⟩) (by assumption) ?_
              rotate_left
              · ((intro w hSw; (try dsimp only at hSw); go_simp) <;> (with_reducible rfl))
              try simp only [Act.put, List.setIfInBounds_toArray, List.set_cons_zero, List.set_cons_succ, List.getElem_toArray, List.getElem_cons_zero, List.getElem_cons_succ]
              refine wpAnyH_take (i := 11) (v := ?_) rfl (by kernel_rfl) (by kernel_rfl) (by kernel_rfl) (fun _ _ _ h => h) (Or.inl ⟨by rfl, ?_⟩) (by assumption) ?_
              rotate_left
              · ((intro w hSw; (try dsimp only at hSw); go_simp) <;> (with_reducible rfl))
              try simp only [Act.put, List.setIfInBounds_toArray, List.set_cons_zero, List.set_cons_succ, List.getElem_toArray, List.getElem_cons_zero, List.getElem_cons_succ]
              refine wpAnyH_take (i := 12) (v := ?_) rfl (by kernel_rfl) (by kernel_rfl) (by kernel_rfl) (fun _ _ _ h => h) (Or.inl ⟨by rfl, ?_⟩) (by assumption) ?_
              rotate_left
              · ((intro w hSw; (try dsimp only at hSw); go_simp) <;> (with_reducible rfl))
              try simp only [Act.put, List.setIfInBounds_toArray, List.set_cons_zero, List.set_cons_succ, List.getElem_toArray, List.getElem_cons_zero, List.getElem_cons_succ]
              refine wpAnyH_take (i := 13) (v := ?_) rfl (by kernel_rfl) (by kernel_rfl) (by kernel_rfl) (fun _ _ _ h => h) (Or.inl ⟨by rfl, ?_⟩) (by assumption) ?_
              rotate_left
              · ((intro w hSw; (try dsimp only at hSw); go_simp) <;> (with_reducible rfl))
              try simp only [Act.put, List.setIfInBounds_toArray, List.set_cons_zero, List.set_cons_succ, List.getElem_toArray, List.getElem_cons_zero, List.getElem_cons_succ]
              refine wpAnyH_take (i := 14) (v := ?_) rfl (by kernel_rfl) (by kernel_rfl) (by kernel_rfl) (fun _ _ _ h => h) (Or.inl ⟨by rfl, ?_⟩) (by assumption) ?_
              rotate_left
              · ((intro w hSw; (try dsimp only at hSw); go_simp) <;> (with_reducible rfl))
              try simp only [Act.put, List.setIfInBounds_toArray, List.set_cons_zero, List.set_cons_succ, List.getElem_toArray, List.getElem_cons_zero, List.getElem_cons_succ]
              refine wpAnyH_take (i := 15) (v := ?_) rfl (by kernel_rfl) (by kernel_rfl) (by kernel_rfl) (fun _ _ _ h => h) (Or.inl ⟨by rfl, ?_⟩) (by assumption) ?_
              rotate_left
              · ((intro w hSw; (try dsimp only at hSw); go_simp) <;> (with_reducible rfl))
              try simp only [Act.put, List.setIfInBounds_toArray, List.set_cons_zero, List.set_cons_succ, List.getElem_toArray, List.getElem_cons_zero, List.getElem_cons_succ]
              refine wpAnyH_ready (rs := [16]) (by kernel_rfl) (by simp) ?_
              refine AllReadyH.cons rfl (fun K hK => ?_) AllReadyH.nil
              go_simp
              (go_at_call 70; (with_reducible refine (likeAb_b r1 r2 m m q1 q2 l l _ ?_ ?_ HML.out HML.out (by omega) (by omega)).mono ?_); exact HX5.out; exact HY5.out; rw [decide_eq_true rfl]; rintro e w6 ⟨rfl, hb0⟩; have hb : Below w5.heap.size w5 w6 := ⟨hb0.os, hb0.tape, hb0.output, hb0.size, hb0.block⟩; have z1' := cell_below (p := ⟨b1, o1 + k * 2, none⟩) z1 hb; have z2' := cell_below (p := ⟨b1, o1 + k * 2 + 1, none⟩) z2 hb; have v1' := cell_below (p := ⟨b2, o2 + k * 2, none⟩) v1 hb; have v2' := cell_below (p := ⟨b2, o2 + k * 2 + 1, none⟩) v2 hb; have HW6 : Hid (Below w3.heap.size w3 w6) := Lib.hid (HW5.out.trans (hb.mono HW5.out.size)); clear hb hb0)
              refine hK.out _ _ ?_ (fun hHeld => ?_)
              · go_keep
              clear hK K
              try simp only [Act.put, List.setIfInBounds_toArray, List.set_cons_zero, List.set_cons_succ]
              refine wpAnyH_take (i := 17) (v := ?_) rfl (by kernel_rfl) (by kernel_rfl) (by kernel_rfl) (fun _ _ _ h => h) (Or.inl ⟨by rfl, ?_⟩) (by assumption) ?_
              rotate_left
              · ((intro w hSw; (try dsimp only at hSw); go_simp) <;> (with_reducible rfl))
              try simp only [Act.put, List.setIfInBounds_toArray, List.set_cons_zero, List.set_cons_succ, List.getElem_toArray, List.getElem_cons_zero, List.getElem_cons_succ]
              refine wpAnyH_take (i := 18) (v := ?_) rfl (by kernel_rfl) (by kernel_rfl) (by kernel_rfl) (fun _ _ _ h => h) (Or.inl ⟨by rfl, ?_⟩) (by assumption) ?_
              rotate_left
              · ((intro w hSw; (try dsimp only at hSw); go_simp) <;> (with_reducible rfl))
              try simp only [Act.put, List.setIfInBounds_toArray, List.set_cons_zero, List.set_cons_succ, List.getElem_toArray, List.getElem_cons_zero, List.getElem_cons_succ]
              refine wpAnyH_take (i := 19) (v := ?_) rfl (by kernel_rfl) (by kernel_rfl) (by kernel_rfl) (fun _ _ _ h => h) (Or.inl ⟨by rfl, ?_⟩) (by assumption) ?_
              rotate_left
              · ((intro w hSw; (try dsimp only at hSw); go_simp) <;> (with_reducible rfl))
              try simp only [Act.put, List.setIfInBounds_toArray, List.set_cons_zero, List.set_cons_succ, List.getElem_toArray, List.getElem_cons_zero, List.getElem_cons_succ]
              refine wpAnyH_take (i := 20) (v := ?_) rfl (by kernel_rfl) (by kernel_rfl) (by kernel_rfl) (fun _ _ _ h => h) (Or.inl ⟨by rfl, ?_⟩) (by assumption) ?_
              rotate_left
              · ((intro w hSw; (try dsimp only at hSw); go_simp) <;> (with_reducible rfl))
              try simp only [Act.put, List.setIfInBounds_toArray, List.set_cons_zero, List.set_cons_succ, List.getElem_toArray, List.getElem_cons_zero, List.getElem_cons_succ]
              refine wpAnyH_take (i := 21) (v := ?_) rfl (by kernel_rfl) (by kernel_rfl) (by kernel_rfl) (fun _ _ _ h => h) (Or.inl ⟨by rfl, ?_⟩) (by assumption) ?_
              rotate_left
              · ((intro w hSw; (try dsimp only at hSw); go_simp) <;> (with_reducible rfl))
              try simp only [Act.put, List.setIfInBounds_toArray, List.set_cons_zero, List.set_cons_succ, List.getElem_toArray, List.getElem_cons_zero, List.getElem_cons_succ]
              refine wpAnyH_take (i := 22) (v := ?_) rfl (by kernel_rfl) (by kernel_rfl) (by kernel_rfl) (fun _ _ _ h => h) (Or.inl ⟨by rfl, ?_⟩) (by assumption) ?_
              rotate_left
              · ((intro w hSw; (try dsimp only at hSw); go_simp) <;> (with_reducible rfl))
              try simp only [Act.put, List.setIfInBounds_toArray, List.set_cons_zero, List.set_cons_succ, List.getElem_toArray, List.getElem_cons_zero, List.getElem_cons_succ]
              refine wpAnyH_take (i := 23) rfl (by kernel_rfl) (by kernel_rfl) (by kernel_rfl) (fun _ _ _ h => h) (Or.inr ⟨by rfl, rfl⟩) (by assumption) ?_
              try simp only [Act.put, List.setIfInBounds_toArray, List.set_cons_zero, List.set_cons_succ, List.getElem_toArray, List.getElem_cons_zero, List.getElem_cons_succ]
              refine wpAnyH_take (i := 24) rfl (by kernel_rfl) (by kernel_rfl) (by kernel_rfl) (fun _ _ _ h => h) (Or.inr ⟨by rfl, rfl⟩) (by assumption) ?_
              try simp only [Act.put, List.setIfInBounds_toArray, List.set_cons_zero, List.set_cons_succ, List.getElem_toArray, List.getElem_cons_zero, List.getElem_cons_succ]
              refine wpAnyH_take (i := 25) rfl (by kernel_rfl) (by kernel_rfl) (by kernel_rfl) (fun _ _ _ h => h) (Or.inr ⟨by rfl, rfl⟩) (by assumption) ?_
              try simp only [Act.put, List.setIfInBounds_toArray, List.set_cons_zero, List.set_cons_succ, List.getElem_toArray, List.getElem_cons_zero, List.getElem_cons_succ]
              refine wpAnyH_take (i := 26) rfl (by kernel_rfl) (by kernel_rfl) (by kernel_rfl) (fun _ _ _ h => h) (Or.inr ⟨by rfl, rfl⟩) (by assumption) ?_
              try simp only [Act.put, List.setIfInBounds_toArray, List.set_cons_zero, List.set_cons_succ, List.getElem_toArray, List.getElem_cons_zero, List.getElem_cons_succ]
              refine wpAnyH_take (i := 27) rfl (by kernel_rfl) (by kernel_rfl) (by kernel_rfl) (fun _ _ _ h => h) (Or.inr ⟨by rfl, rfl⟩) (by assumption) ?_
              try simp only [Act.put, List.setIfInBounds_toArray, List.set_cons_zero, List.set_cons_succ, List.getElem_toArray, List.getElem_cons_zero, List.getElem_cons_succ]
              refine wpAnyH_take (i := 28) rfl (by kernel_rfl) (by kernel_rfl) (by kernel_rfl) (fun _ _ _ h => h) (Or.inr ⟨by rfl, rfl⟩) (by assumption) ?_
              try simp only [Act.put, List.setIfInBounds_toArray, List.set_cons_zero, List.set_cons_succ, List.getElem_toArray, List.getElem_cons_zero, List.getElem_cons_succ]
              refine wpAnyH_take (i := 29) rfl (by kernel_rfl) (by kernel_rfl) (by kernel_rfl) (fun _ _ _ h => h) (Or.inr ⟨by rfl, rfl⟩) (by assumption) ?_
              try simp only [Act.put, List.setIfInBounds_toArray, List.set_cons_zero, List.set_cons_succ, List.getElem_toArray, List.getElem_cons_zero, List.getElem_cons_succ]
              refine wpAnyH_take (i := 30) rfl (by kernel_rfl) (by kernel_rfl) (by kernel_rfl) (fun _ _ _ h => h) (Or.inr ⟨by rfl, rfl⟩) (by assumption) ?_
              try simp only [Act.put, List.setIfInBounds_toArray, List.set_cons_zero, List.set_cons_succ, List.getElem_toArray, List.getElem_cons_zero, List.getElem_cons_succ]
              refine wpAnyH_take (i := 31) rfl (by kernel_rfl) (by kernel_rfl) (by kernel_rfl) (fun _ _ _ h => h) (Or.inr ⟨by rfl, rfl⟩) (by assumption) ?_
              try simp only [Act.put, List.setIfInBounds_toArray, List.set_cons_zero, List.set_cons_succ, List.getElem_toArray, List.getElem_cons_zero, List.getElem_cons_succ]
              refine wpAnyH_take (i := 32) rfl (by kernel_rfl) (by kernel_rfl) (by kernel_rfl) (fun _ _ _ h => h) (Or.inr ⟨by rfl, rfl⟩) (by assumption) ?_
              try simp only [Act.put, List.setIfInBounds_toArray, List.set_cons_zero, List.set_cons_succ, List.getElem_toArray, List.getElem_cons_zero, List.getElem_cons_succ]
              refine wpAnyH_take (i := 33) (v := ?_) rfl (by kernel_rfl) (by kernel_rfl) (by kernel_rfl) (fun _ _ _ h => h) (Or.inl ⟨by rfl, ?_⟩) (by assumption) ?_
              rotate_left
              · ((intro w hSw; (try dsimp only at hSw); go_simp) <;> (with_reducible rfl))
              try simp only [Act.put, List.setIfInBounds_toArray, List.set_cons_zero, List.set_cons_succ, List.getElem_toArray, List.getElem_cons_zero, List.getElem_cons_succ]
              refine wpAnyH_take (i := 34) (v := ?_) rfl (by kernel_rfl) (by kernel_rfl) (by kernel_rfl) (fun _ _ _ h => h) (Or.inl ⟨by rfl, ?_⟩) (by assumption) ?_
              rotate_left
              · ((intro w hSw; (try dsimp only at hSw); go_simp) <;> (with_reducible rfl))
              try simp only [Act.put, List.setIfInBounds_toArray, List.set_cons_zero, List.set_cons_succ, List.getElem_toArray, List.getElem_cons_zero, List.getElem_cons_succ]
              refine wpAnyH_done (by kernel_rfl) ?_ _
              try go_wp2_with fail
              go_roundw
              case rel => exact ⟨k + 1, by omega, by go_num, HW6⟩
              case measure => simp [intOf]; omega
            · have g3 : (0 : Int) < (k : Int) := by omega
              have g4 : decide ((0 : Int) < (k : Int)) = true := decide_eq_true g3
              have g5 : decide (0 < k) = true := decide_eq_true (by omega)
              have hj1 : (k : Int) - 1 = ((k - 1 : Nat) : Int) := by omega
              obtain ⟨j, hj⟩ : ∃ j, j = k - 1 := ⟨_, rfl⟩
              rw [← hj] at hj1
              have hjn : j < n := by omega
              have hjI : (j : Int) < (n : Int) := by omega
              have hjZ : (0 : Int) ≤ (j : Int) := by omega
              have hjU : (0 : Int) ≤ (k : Int) - 1 := by omega
              have hjV : (k : Int) - 1 < (n : Int) := by omega
              have hjW : IntKind.i64.wrap (j : Int) = (j : Int) := IntWalk.i64_in _ (by omega)
              obtain ⟨r4, q4, t1, t2, t3, _⟩ := HE2.out j hjn
              obtain ⟨l4, hl4⟩ : ∃ l4, l4 = rw_ L j := ⟨_, rfl⟩
              rw [← hl4] at t1 t3
              obtain ⟨m4, hm4⟩ : ∃ m4, m4 = l4.length := ⟨_, rfl⟩
              have hm10 : m4 ≤ 10 := by rw [hm4, hl4]; exact HX.out j
              rw [← hm4] at t1
              have HML4 : Hid (l4.length = m4) := Lib.hid hm4.symm
              have HNE : Hid (decide (l = l4) = false) := Lib.hid (decide_eq_false (fun e => by
                rw [HLE.out, hl4, HLR.out] at e
                rw [show k = j + 1 by omega] at e
                exact ref_ne HOK.out (i := j) (by rw [← HLR.out, HLN.out]; omega) e))
              have s1 := cell_below (p := ⟨b2, o2 + j * 2, none⟩) t1 hb
              have s2 := cell_below (p := ⟨b2, o2 + j * 2 + 1, none⟩) t2 hb
              have HT5 : Hid (RdI w5 r4 l4) := Lib.hid (t3.keep hb (Nat.le_refl _))
              clear x1 x2 y1 y2 hb HX3 HY3 hk0 hj hl4 hm4 t1 t2 t3
              go_wp2_with fail
              refine wp_region_held_drew (S := (fun w' => w'.cell? ⟨b1, o1 + k * 2, none⟩ = some (.slice r1 m q1) ∧ w'.cell? ⟨b1, o1 + k * 2 + 1, none⟩ = some (.int .i64 0) ∧ w'.cell? ⟨b2, o2 + k * 2, none⟩ = some (.slice r2 m q2) ∧ w'.cell? ⟨b2, o2 + k * 2 + 1, none⟩ = some (.int .i64 0) ∧ w'.cell? ⟨b2, o2 + j * 2, none⟩ = some (.slice r4 m4 q4) ∧ w'.cell? ⟨b2, o2 + j * 2 + 1, none⟩ = some (.int .i64 0))) (by kernel_rfl) ?_ (fun hHeld => ?_)
              · go_keep
              refine wpAnyH_take (i := 0) (v := ?_) rfl (by kernel_rfl) (by kernel_rfl) (by kernel_rfl) (fun _ _ _ h => h) (Or.inl ⟨by rfl, ?_⟩) (by assumption) ?_
              rotate_left
              · ((intro w hSw; (try dsimp only at hSw); go_simp) <;> (with_reducible rfl))
              try simp only [Act.put, List.setIfInBounds_toArray, List.set_cons_zero, List.set_cons_succ, List.getElem_toArray, List.getElem_cons_zero, List.getElem_cons_succ]
              refine wpAnyH_take (i := 1) (v := ?_) rfl (by kernel_rfl) (by kernel_rfl) (by kernel_rfl) (fun _ _ _ h => h) (Or.inl ⟨by rfl, ?_⟩) (by assumption) ?_
              rotate_left
              · ((intro w hSw; (try dsimp only at hSw); go_simp) <;> (with_reducible rfl))
              try simp only [Act.put, List.setIfInBounds_toArray, List.set_cons_zero, List.set_cons_succ, List.getElem_toArray, List.getElem_cons_zero, List.getElem_cons_succ]
              refine wpAnyH_take (i := 2) (v := ?_) rfl (by kernel_rfl) (by kernel_rfl) (by kernel_rfl) (fun _ _ _ h => h) (Or.inl ⟨by rfl, ?_⟩) (by assumption) ?_
              rotate_left
              · ((intro w hSw; (try dsimp only at hSw); go_simp) <;> (with_reducible rfl))
              try simp only [Act.put, List.setIfInBounds_toArray, List.set_cons_zero, List.set_cons_succ, List.getElem_toArray, List.getElem_cons_zero, List.getElem_cons_succ]
              refine wpAnyH_take (i := 3) (v := ?_) rfl (by kernel_rfl) (by kernel_rfl) (by kernel_rfl) (fun _ _ _ h => h) (Or.inl ⟨by rfl, ?_⟩) (by assumption) ?_
              rotate_left
              · ((intro w hSw; (try dsimp only at hSw); go_simp) <;> (with_reducible rfl))
              try simp only [Act.put, List.setIfInBounds_toArray, List.set_cons_zero, List.set_cons_succ, List.getElem_toArray, List.getElem_cons_zero, List.getElem_cons_succ]
              refine wpAnyH_take (i := 4) (v := ?_) rfl (by kernel_rfl) (by kernel_rfl) (by kernel_rfl) (fun _ _ _ h => h) (Or.inl ⟨by rfl, ?_⟩) (by assumption) ?_
              rotate_left
              · ((intro w hSw; (try dsimp only at hSw); go_simp) <;> (with_reducible rfl))
              try simp only [Act.put, List.setIfInBounds_toArray, List.set_cons_zero, List.set_cons_succ, List.getElem_toArray, List.getElem_cons_zero, List.getElem_cons_succ]
              refine wpAnyH_take (i := 5) (v := ?_) rfl (by kernel_rfl) (by kernel_rfl) (by kernel_rfl) (fun _ _ _ h => h) (Or.inl ⟨by rfl, ?_⟩) (by assumption) ?_
              rotate_left
              · ((intro w hSw; (try dsimp only at hSw); go_simp) <;> (with_reducible rfl))
              try simp only [Act.put, List.setIfInBounds_toArray, List.set_cons_zero, List.set_cons_succ, List.getElem_toArray, List.getElem_cons_zero, List.getElem_cons_succ]
              refine wpAnyH_take (i := 6) (v := ?_) rfl (by kernel_rfl) (by kernel_rfl) (by kernel_rfl) (fun _ _ _ h => h) (Or.inl ⟨by rfl, ?_⟩) (by assumption) ?_
              rotate_left
              · ((intro w hSw; (try dsimp only at hSw); go_simp) <;> (with_reducible rfl))
              try simp only [Act.put, List.setIfInBounds_toArray, List.set_cons_zero, List.set_cons_succ, List.getElem_toArray, List.getElem_cons_zero, List.getElem_cons_succ]
              refine wpAnyH_take (i := 7) (v := ?_) rfl (by kernel_rfl) (by kernel_rfl) (by kernel_rfl) (fun _ _ _ h => h) (Or.inl ⟨by rfl, ?_⟩) (by assumption) ?_
              rotate_left
              · ((intro w hSw; (try dsimp only at hSw); go_simp) <;> (with_reducible rfl))
              try simp only [Act.put, List.setIfInBounds_toArray, List.set_cons_zero, List.set_cons_succ, List.getElem_toArray, List.getElem_cons_zero, List.getElem_cons_succ]
              refine wpAnyH_take (i := 8) (v := ?_) rfl (by kernel_rfl) (by kernel_rfl) (by kernel_rfl) (fun _ _ _ h => h) (Or.inl ⟨by rfl, ?_⟩) (by assumption) ?_
              rotate_left
              · ((intro w hSw; (try dsimp only at hSw); go_simp) <;> (with_reducible rfl))
              try simp only [Act.put, List.setIfInBounds_toArray, List.set_cons_zero, List.set_cons_succ, List.getElem_toArray, List.getElem_cons_zero, List.getElem_cons_succ]
              refine wpAnyH_take (i := 9) (v := ?_) rfl (by kernel_rfl) (by kernel_rfl) (by kernel_rfl) (fun _ _ _ h => h) (Or.inl ⟨by rfl, ?_⟩) (by assumption) ?_
              rotate_left
              · ((intro w hSw; (try dsimp only at hSw); go_simp) <;> (with_reducible rfl))
              try simp only [Act.put, List.setIfInBounds_toArray, List.set_cons_zero, List.set_cons_succ, List.getElem_toArray, List.getElem_cons_zero, List.getElem_cons_succ]
              refine wpAnyH_take (i := 10) (v := ?_) rfl (by kernel_rfl) (by kernel_rfl) (by kernel_rfl) (fun _ _ _ h => h) (Or.inl ⟨by rfl, ?_⟩) (by assumption) ?_
              rotate_left
              · ((intro w hSw; (try dsimp only at hSw); go_simp) <;> (with_reducible rfl))
              try simp only [Act.put, List.setIfInBounds_toArray, List.set_cons_zero, List.set_cons_succ, List.getElem_toArray, List.getElem_cons_zero, List.getElem_cons_succ]
              refine wpAnyH_take (i := 11) (v := ?_) rfl (by kernel_rfl) (by kernel_rfl) (by kernel_rfl) (fun _ _ _ h => h) (Or.inl ⟨by rfl, ?_⟩) (by assumption) ?_
              rotate_left
              · ((intro w hSw; (try dsimp only at hSw); go_simp) <;> (with_reducible rfl))
              try simp only [Act.put, List.setIfInBounds_toArray, List.set_cons_zero, List.set_cons_succ, List.getElem_toArray, List.getElem_cons_zero, List.getElem_cons_succ]
              refine wpAnyH_take (i := 12) (v := ?_) rfl (by kernel_rfl) (by kernel_rfl) (by kernel_rfl) (fun _ _ _ h => h) (Or.inl ⟨by rfl, ?_⟩) (by assumption) ?_
              rotate_left
              · ((intro w hSw; (try dsimp only at hSw); go_simp) <;> (with_reducible rfl))
              try simp only [Act.put, List.setIfInBounds_toArray, List.set_cons_zero, List.set_cons_succ, List.getElem_toArray, List.getElem_cons_zero, List.getElem_cons_succ]
              refine wpAnyH_take (i := 13) (v := ?_) rfl (by kernel_rfl) (by kernel_rfl) (by kernel_rfl) (fun _ _ _ h => h) (Or.inl ⟨by rfl, ?_⟩) (by assumption) ?_
              rotate_left
              · ((intro w hSw; (try dsimp only at hSw); go_simp) <;> (with_reducible rfl))
              try simp only [Act.put, List.setIfInBounds_toArray, List.set_cons_zero, List.set_cons_succ, List.getElem_toArray, List.getElem_cons_zero, List.getElem_cons_succ]
              refine wpAnyH_take (i := 14) (v := ?_) rfl (by kernel_rfl) (by kernel_rfl) (by kernel_rfl) (fun _ _ _ h => h) (Or.inl ⟨by rfl, ?_⟩) (by assumption) ?_
              rotate_left
              · ((intro w hSw; (try dsimp only at hSw); go_simp) <;> (with_reducible rfl))
              try simp only [Act.put, List.setIfInBounds_toArray, List.set_cons_zero, List.set_cons_succ, List.getElem_toArray, List.getElem_cons_zero, List.getElem_cons_succ]
              refine wpAnyH_take (i := 15) (v := ?_) rfl (by kernel_rfl) (by kernel_rfl) (by kernel_rfl) (fun _ _ _ h => h) (Or.inl ⟨by rfl, ?_⟩) (by assumption) ?_
              rotate_left
              · ((intro w hSw; (try dsimp only at hSw); go_simp) <;> (with_reducible rfl))
              try simp only [Act.put, List.setIfInBounds_toArray, List.set_cons_zero, List.set_cons_succ, List.getElem_toArray, List.getElem_cons_zero, List.getElem_cons_succ]
              refine wpAnyH_ready (rs := [16]) (by kernel_rfl) (by simp) ?_
              refine AllReadyH.cons rfl (fun K hK => ?_) AllReadyH.nil
              go_simp
              (go_at_call 70; (with_reducible refine (likeAb_b r1 r2 m m q1 q2 l l _ ?_ ?_ HML.out HML.out (by omega) (by omega)).mono ?_); exact HX5.out; exact HY5.out; rw [decide_eq_true rfl]; rintro e w6 ⟨rfl, hb0⟩; have hb : Below w5.heap.size w5 w6 := ⟨hb0.os, hb0.tape, hb0.output, hb0.size, hb0.block⟩; have z1' := cell_below (p := ⟨b1, o1 + k * 2, none⟩) z1 hb; have z2' := cell_below (p := ⟨b1, o1 + k * 2 + 1, none⟩) z2 hb; have v1' := cell_below (p := ⟨b2, o2 + k * 2, none⟩) v1 hb; have v2' := cell_below (p := ⟨b2, o2 + k * 2 + 1, none⟩) v2 hb; have s1' := cell_below (p := ⟨b2, o2 + j * 2, none⟩) s1 hb; have s2' := cell_below (p := ⟨b2, o2 + j * 2 + 1, none⟩) s2 hb; have HW6 : Hid (Below w3.heap.size w3 w6) := Lib.hid (HW5.out.trans (hb.mono HW5.out.size)); have HY6 : Hid (RdI w6 r2 l) := Lib.hid (HY5.out.keep hb (Nat.le_refl _)); have HT6 : Hid (RdI w6 r4 l4) := Lib.hid (HT5.out.keep hb (Nat.le_refl _)); clear hb hb0)
              refine hK.out _ _ ?_ (fun hHeld => ?_)
              · go_keep
              clear hK K
              try simp only [Act.put, List.setIfInBounds_toArray, List.set_cons_zero, List.set_cons_succ]
              refine wpAnyH_take (i := 17) (v := ?_) rfl (by kernel_rfl) (by kernel_rfl) (by kernel_rfl) (fun _ _ _ h => h) (Or.inl ⟨by rfl, ?_⟩) (by assumption) ?_
              rotate_left
              · ((intro w hSw; (try dsimp only at hSw); go_simp) <;> (with_reducible rfl))
              try simp only [Act.put, List.setIfInBounds_toArray, List.set_cons_zero, List.set_cons_succ, List.getElem_toArray, List.getElem_cons_zero, List.getElem_cons_succ]
              refine wpAnyH_take (i := 18) (v := ?_) rfl (by kernel_rfl) (by kernel_rfl) (by kernel_rfl) (fun _ _ _ h => h) (Or.inl ⟨by rfl, ?_⟩) (by assumption) ?_
              rotate_left
              · ((intro w hSw; (try dsimp only at hSw); go_simp) <;> (with_reducible rfl))
              try simp only [Act.put, List.setIfInBounds_toArray, List.set_cons_zero, List.set_cons_succ, List.getElem_toArray, List.getElem_cons_zero, List.getElem_cons_succ]
              refine wpAnyH_take (i := 19) (v := ?_) rfl (by kernel_rfl) (by kernel_rfl) (by kernel_rfl) (fun _ _ _ h => h) (Or.inl ⟨by rfl, ?_⟩) (by assumption) ?_
              rotate_left
              · ((intro w hSw; (try dsimp only at hSw); go_simp) <;> (with_reducible rfl))
              try simp only [Act.put, List.setIfInBounds_toArray, List.set_cons_zero, List.set_cons_succ, List.getElem_toArray, List.getElem_cons_zero, List.getElem_cons_succ]
              refine wpAnyH_take (i := 20) (v := ?_) rfl (by kernel_rfl) (by kernel_rfl) (by kernel_rfl) (fun _ _ _ h => h) (Or.inl ⟨by rfl, ?_⟩) (by assumption) ?_
              rotate_left
              · ((intro w hSw; (try dsimp only at hSw); go_simp) <;> (with_reducible rfl))
              try simp only [Act.put, List.setIfInBounds_toArray, List.set_cons_zero, List.set_cons_succ, List.getElem_toArray, List.getElem_cons_zero, List.getElem_cons_succ]
              refine wpAnyH_take (i := 21) (v := ?_) rfl (by kernel_rfl) (by kernel_rfl) (by kernel_rfl) (fun _ _ _ h => h) (Or.inl ⟨by rfl, ?_⟩) (by assumption) ?_
              rotate_left
              · ((intro w hSw; (try dsimp only at hSw); go_simp) <;> (with_reducible rfl))
              try simp only [Act.put, List.setIfInBounds_toArray, List.set_cons_zero, List.set_cons_succ, List.getElem_toArray, List.getElem_cons_zero, List.getElem_cons_succ]
              refine wpAnyH_take (i := 22) (v := ?_) rfl (by kernel_rfl) (by kernel_rfl) (by kernel_rfl) (fun _ _ _ h => h) (Or.inl ⟨by rfl, ?_⟩) (by assumption) ?_
              rotate_left
              · ((intro w hSw; (try dsimp only at hSw); go_simp) <;> (with_reducible rfl))
              try simp only [Act.put, List.setIfInBounds_toArray, List.set_cons_zero, List.set_cons_succ, List.getElem_toArray, List.getElem_cons_zero, List.getElem_cons_succ]
              refine wpAnyH_take (i := 23) (v := ?_) rfl (by kernel_rfl) (by kernel_rfl) (by kernel_rfl) (fun _ _ _ h => h) (Or.inl ⟨by rfl, ?_⟩) (by assumption) ?_
              rotate_left
              · ((intro w hSw; (try dsimp only at hSw); go_simp) <;> (with_reducible rfl))
              try simp only [Act.put, List.setIfInBounds_toArray, List.set_cons_zero, List.set_cons_succ, List.getElem_toArray, List.getElem_cons_zero, List.getElem_cons_succ]
              refine wpAnyH_take (i := 24) (v := ?_) rfl (by kernel_rfl) (by kernel_rfl) (by kernel_rfl) (fun _ _ _ h => h) (Or.inl ⟨by rfl, ?_⟩) (by assumption) ?_
              rotate_left
              · ((intro w hSw; (try dsimp only at hSw); go_simp) <;> (with_reducible rfl))
              try simp only [Act.put, List.setIfInBounds_toArray, List.set_cons_zero, List.set_cons_succ, List.getElem_toArray, List.getElem_cons_zero, List.getElem_cons_succ]
              refine wpAnyH_take (i := 25) (v := ?_) rfl (by kernel_rfl) (by kernel_rfl) (by kernel_rfl) (fun _ _ _ h => h) (Or.inl ⟨by rfl, ?_⟩) (by assumption) ?_
              rotate_left
              · ((intro w hSw; (try dsimp only at hSw); go_simp) <;> (with_reducible rfl))
              try simp only [Act.put, List.setIfInBounds_toArray, List.set_cons_zero, List.set_cons_succ, List.getElem_toArray, List.getElem_cons_zero, List.getElem_cons_succ]
              refine wpAnyH_take (i := 26) (v := ?_) rfl (by kernel_rfl) (by kernel_rfl) (by kernel_rfl) (fun _ _ _ h => h) (Or.inl ⟨by rfl, ?_⟩) (by assumption) ?_
              rotate_left
              · ((intro w hSw; (try dsimp only at hSw); go_simp) <;> (with_reducible rfl))
              try simp only [Act.put, List.setIfInBounds_toArray, List.set_cons_zero, List.set_cons_succ, List.getElem_toArray, List.getElem_cons_zero, List.getElem_cons_succ]
              refine wpAnyH_take (i := 27) (v := ?_) rfl (by kernel_rfl) (by kernel_rfl) (by kernel_rfl) (fun _ _ _ h => h) (Or.inl ⟨by rfl, ?_⟩) (by assumption) ?_
              rotate_left
              · ((intro w hSw; (try dsimp only at hSw); go_simp) <;> (with_reducible rfl))
              try simp only [Act.put, List.setIfInBounds_toArray, List.set_cons_zero, List.set_cons_succ, List.getElem_toArray, List.getElem_cons_zero, List.getElem_cons_succ]
              refine wpAnyH_take (i := 28) (v := ?_) rfl (by kernel_rfl) (by kernel_rfl) (by kernel_rfl) (fun _ _ _ h => h) (Or.inl ⟨by rfl, ?_⟩) (by assumption) ?_
              rotate_left
              · ((intro w hSw; (try dsimp only at hSw); go_simp) <;> (with_reducible rfl))
              try simp only [Act.put, List.setIfInBounds_toArray, List.set_cons_zero, List.set_cons_succ, List.getElem_toArray, List.getElem_cons_zero, List.getElem_cons_succ]
              refine wpAnyH_take (i := 29) (v := ?_) rfl (by kernel_rfl) (by kernel_rfl) (by kernel_rfl) (fun _ _ _ h => h) (Or.inl ⟨by rfl, ?_⟩) (by assumption) ?_
              rotate_left
              · ((intro w hSw; (try dsimp only at hSw); go_simp) <;> (with_reducible rfl))
              try simp only [Act.put, List.setIfInBounds_toArray, List.set_cons_zero, List.set_cons_succ, List.getElem_toArray, List.getElem_cons_zero, List.getElem_cons_succ]
              refine wpAnyH_take (i := 30) (v := ?_) rfl (by kernel_rfl) (by kernel_rfl) (by kernel_rfl) (fun _ _ _ h => h) (Or.inl ⟨by rfl, ?_⟩) (by assumption) ?_
              rotate_left
              · ((intro w hSw; (try dsimp only at hSw); go_simp) <;> (with_reducible rfl))
              try simp only [Act.put, List.setIfInBounds_toArray, List.set_cons_zero, List.set_cons_succ, List.getElem_toArray, List.getElem_cons_zero, List.getElem_cons_succ]
              refine wpAnyH_take (i := 31) (v := ?_) rfl (by kernel_rfl) (by kernel_rfl) (by kernel_rfl) (fun _ _ _ h => h) (Or.inl ⟨by rfl, ?_⟩) (by assumption) ?_
              rotate_left
              · ((intro w hSw; (try dsimp only at hSw); go_simp) <;> (with_reducible rfl))
              try simp only [Act.put, List.setIfInBounds_toArray, List.set_cons_zero, List.set_cons_succ, List.getElem_toArray, List.getElem_cons_zero, List.getElem_cons_succ]
              refine wpAnyH_ready (rs := [32]) (by kernel_rfl) (by simp) ?_
              refine AllReadyH.cons rfl (fun K hK => ?_) AllReadyH.nil
              go_simp
              (go_at_call 70; (with_reducible refine (likeAb_b r2 r4 m m4 q2 q4 l l4 _ ?_ ?_ HML.out HML4.out (by omega) (by omega)).mono ?_); exact HY6.out; exact HT6.out; rw [HNE.out]; rintro e w7 ⟨rfl, hb0⟩; have hb : Below w6.heap.size w6 w7 := ⟨hb0.os, hb0.tape, hb0.output, hb0.size, hb0.block⟩; have z1'' := cell_below (p := ⟨b1, o1 + k * 2, none⟩) z1' hb; have z2'' := cell_below (p := ⟨b1, o1 + k * 2 + 1, none⟩) z2' hb; have v1'' := cell_below (p := ⟨b2, o2 + k * 2, none⟩) v1' hb; have v2'' := cell_below (p := ⟨b2, o2 + k * 2 + 1, none⟩) v2' hb; have s1'' := cell_below (p := ⟨b2, o2 + j * 2, none⟩) s1' hb; have s2'' := cell_below (p := ⟨b2, o2 + j * 2 + 1, none⟩) s2' hb; have HW7 : Hid (Below w3.heap.size w3 w7) := Lib.hid (HW6.out.trans (hb.mono HW6.out.size)); clear hb hb0)
              refine hK.out _ _ ?_ (fun hHeld => ?_)
              · go_keep
              clear hK K
              try simp only [Act.put, List.setIfInBounds_toArray, List.set_cons_zero, List.set_cons_succ]
              refine wpAnyH_take (i := 33) (v := ?_) rfl (by kernel_rfl) (by kernel_rfl) (by kernel_rfl) (fun _ _ _ h => h) (Or.inl ⟨by rfl, ?_⟩) (by assumption) ?_
              rotate_left
              · ((intro w hSw; (try dsimp only at hSw); go_simp) <;> (with_reducible rfl))
              try simp only [Act.put, List.setIfInBounds_toArray, List.set_cons_zero, List.set_cons_succ, List.getElem_toArray, List.getElem_cons_zero, List.getElem_cons_succ]
              refine wpAnyH_take (i := 34) (v := ?_) rfl (by kernel_rfl) (by kernel_rfl) (by kernel_rfl) (fun _ _ _ h => h) (Or.inl ⟨by rfl, ?_⟩) (by assumption) ?_
              rotate_left
              · ((intro w hSw; (try dsimp only at hSw); go_simp) <;> (with_reducible rfl))
              try simp only [Act.put, List.setIfInBounds_toArray, List.set_cons_zero, List.set_cons_succ, List.getElem_toArray, List.getElem_cons_zero, List.getElem_cons_succ]
              refine wpAnyH_done (by kernel_rfl) ?_ _
              try go_wp2_with fail
              go_roundw
              case rel => exact ⟨k + 1, by omega, by go_num, HW7⟩
              case measure => simp [intOf]; omega
          · have k1 : ¬ (k : Int) < n := by omega
            have k2 : decide ((k : Int) < n) = false := decide_eq_false k1
            have hVn : (n : Int) = (V : Int) := by have := HVN.out; omega
            have hVb : ((n : Int) == (V : Int)) = true := beq_iff_eq.2 hVn
            have HVB := Lib.hid hVb
            clear hVn hVb
            go_wp2_with fail
            go_ret
            exact ⟨by first | rfl | (rw [HVB.out]; rfl) | (simp; have := HVN.out; omega), HB3.out.trans (HW.out.mono HB3.out.size)⟩
  · have hd2 : d = 2 := by rw [HDX.out]; unfold allD; rw [if_neg hin]
    subst hd2
    go_wp2_with fail
    go_ret
    exact ⟨rfl, HB3.out⟩
end Go.Proofs.Ytkidohohiihbaaa
