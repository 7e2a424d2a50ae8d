/- The complement that the unit vectors at no pivot span: the program and the reference. -/
import Derived.Test.YtngikcjdhbflkaaMatHas
import Derived.Test.YtngikcjdhbflkaaNullW
import Derived.Test.YtngikcjdhbflkaaInvM
set_option linter.unusedVariables false
set_option linter.unusedSimpArgs false
namespace Go.Proofs.Ytngikcjdhbflkaa
open Go.RowKit

def hit (piv : Nat → Nat) (r j : Nat) : Bool := (List.range r).any fun i => piv i == j
theorem hit_t {piv : Nat → Nat} {r j i : Nat} (hi : i < r) (h : piv i = j) : hit piv r j = true := by
  unfold hit
  rw [List.any_eq_true]
  exact ⟨i, by simpa using hi, by simpa using h⟩
theorem hit_f {piv : Nat → Nat} {r j : Nat} (h : ∀ i, i < r → piv i ≠ j) : hit piv r j = false := by
  unfold hit
  rw [List.any_eq_false]
  intro i hi
  simpa using h i (by simpa using hi)
/-- the unit vectors at the first k places that are no pivots -/
def compL (piv : Nat → Nat) (r q k : Nat) : List (List Int) := ((List.range k).filter fun j => !hit piv r j).map (unitR q)
theorem compL_yes {piv : Nat → Nat} {r q k : Nat} (h : hit piv r k = true) : compL piv r q (k + 1) = compL piv r q k := by
  unfold compL; rw [List.range_succ, List.filter_append, List.map_append]; simp [h]
theorem compL_no {piv : Nat → Nat} {r q k : Nat} (h : hit piv r k = false) : compL piv r q (k + 1) = compL piv r q k ++ [unitR q k] := by
  unfold compL; rw [List.range_succ, List.filter_append, List.map_append]; simp [h]
theorem compL_congr {piv piv' : Nat → Nat} {r q k : Nat} (h : ∀ i, i < r → piv i = piv' i) : compL piv r q k = compL piv' r q k := by
  have e : ∀ j, hit piv r j = hit piv' r j := fun j => by
    by_cases hj : ∃ i, i < r ∧ piv i = j
    · obtain ⟨i, hi, he⟩ := hj
      rw [hit_t hi he, hit_t hi ((h i hi).symm.trans he)]
    · rw [hit_f (fun i hi he => hj ⟨i, hi, he⟩), hit_f (fun i hi he => hj ⟨i, hi, (h i hi).trans he⟩)]
  unfold compL
  simp only [e]
theorem compL_le (piv : Nat → Nat) (r q k : Nat) : (compL piv r q k).length ≤ k := by
  unfold compL
  rw [List.length_map]
  have := List.length_filter_le (fun j => !hit piv r j) (List.range k)
  simpa using this
theorem compL_row (piv : Nat → Nat) (r q k i : Nat) (h : i < (compL piv r q k).length) : (rw_ (compL piv r q k) i).length = q := by
  have hm := rw_mem h
  unfold compL at hm
  obtain ⟨j, _, hj⟩ := List.mem_map.1 hm
  unfold compL
  rw [← hj, unitR_len]
def res_StandardComplement (xss : List (List Int)) (p q P Q : Int) (R : List (List Int)) (d : Int) : Prop :=
  (subB xss p q = true ∧ P = p ∧ Q = q ∧ d = 0 ∧ ∃ piv, Rref p q.toNat xss piv ∧ R = compL piv xss.length q.toNat q.toNat) ∨ (subB xss p q = false ∧ (P, Q, R, d) = mvBad 1)
theorem res_StandardComplement_uniq {xss : List (List Int)} {p q P1 Q1 P2 Q2 d1 d2 : Int} {R1 R2 : List (List Int)} (h : res_StandardComplement xss p q P1 Q1 R1 d1) (k : res_StandardComplement xss p q P2 Q2 R2 d2) : P1 = P2 ∧ Q1 = Q2 ∧ R1 = R2 ∧ d1 = d2 := by
  rcases h with ⟨h0, h1, h2, h3, piv, h4, h5⟩ | ⟨h0, h⟩ <;> rcases k with ⟨k0, k1, k2, k3, piv', k4, k5⟩ | ⟨k0, k⟩
  · exact ⟨by rw [h1, k1], by rw [h2, k2], by rw [h5, k5]; exact compL_congr fun i hi => (h4.isLead hi).unique (k4.isLead hi), by rw [h3, k3]⟩
  · rw [h0] at k0; cases k0
  · rw [h0] at k0; cases k0
  · exact mv_uniq h k
theorem res_StandardComplement_small {xss : List (List Int)} {p q P Q d : Int} {R : List (List Int)} (h : res_StandardComplement xss p q P Q R d) : R.length ≤ 1048576 ∧ ∀ i, i < R.length → (rw_ R i).length ≤ 1048576 := by
  rcases h with ⟨h0, _, _, _, piv, h4, h5⟩ | ⟨_, h⟩
  · have h8 := (isMx_ok (subB_yes h0).1).q8
    subst h5
    have := compL_le piv xss.length q.toNat q.toNat
    exact ⟨by omega, fun i hi => by rw [compL_row _ _ _ _ _ hi]; omega⟩
  · exact mvBad_small h
set_option maxHeartbeats 400000 in
theorem indexInt_any (a : Option Addr) (n c : Nat) (xs : List Int) (v : Int) (w : World) (ha : RdI w a xs) (hl : xs.length = n) (hn : n ≤ 1048576) :
    Calls Try.prog 108 #[.slice a n c, .int .i64 v] w fun e w' => ((∃ k : Nat, k < n ∧ el xs k = v ∧ e = .returned (.int .i64 k)) ∨ ((∀ k, k < n → el xs k ≠ v) ∧ e = .returned (.int .i64 (-1)))) ∧ w = w' := by
  have HA := Lib.hid ha
  have HL := Lib.hid hl
  clear ha hl
  have H0 : Hid (∀ j, j < 0 → el xs j ≠ v) := Lib.hid fun j h => absurd h (by omega)
  go_enter Try.func108, Try.ntmps108
  go_wp2
  go_loop [8] (fun i => ∃ k : Nat, k ≤ n ∧ i = .int .i64 k ∧ Hid (∀ j, j < k → el xs j ≠ v)) (fun i => n - (intOf i).toNat)
  case atStart => exact ⟨0, Nat.zero_le _, rfl, H0⟩
  case round =>
    obtain ⟨k, hk, rfl, HK⟩ := hrel
    clear H0
    by_cases hlt : k < n
    · obtain ⟨b, o, rfl, hc⟩ := HA.out (by rw [HL.out]; omega)
      have d := hc k (by rw [HL.out]; exact hlt)
      have J1 : (k : Int) < (n : Int) := by omega
      clear hc
      by_cases hz : v = el xs k
      · have b1 : (v == el xs k) = true := by rw [hz]; simp
        have HZ := Lib.hid hz
        clear hz
        go_wp2
        go_ret
        exact ⟨.inl ⟨k, hlt, HZ.out.symm, rfl⟩, rfl⟩
      · have b1 : (v == el xs k) = false := beq_eq_false_iff_ne.2 hz
        have HK1 : Hid (∀ j, j < k + 1 → el xs j ≠ v) := Lib.hid fun j hj => by
          by_cases he : j = k
          · rw [he]; exact fun h => hz h.symm
          · exact HK.out j (by omega)
        clear hz
        go_wp2
        go_round
        case rel => exact ⟨k + 1, by omega, by go_num, HK1⟩
        case measure => simp [intOf]; omega
    · obtain rfl : k = n := by omega
      go_wp2
      go_ret
      exact ⟨.inr ⟨HK.out, rfl⟩, rfl⟩
set_option maxHeartbeats 400000 in
theorem containsPiv_any (a : Option Addr) (n c : Nat) (piv : Nat → Nat) (k : Nat) (w : World) (ha : RdI w a (pivL piv n)) (hn : n ≤ 1048576) (hk : k ≤ 1048576) :
    Calls Try.prog 85 #[.slice a n c, .int .i64 k] w fun e w' => e = .returned (.bool (hit piv n k)) ∧ w = w' := by
  have HA := Lib.hid ha
  clear ha
  by_cases hh : ∃ i, i < n ∧ piv i = k
  · obtain ⟨i, hi, he⟩ := hh
    have HT := Lib.hid (hit_t hi he)
    go_enter Try.func85, Try.ntmps85
    go_wp2_with fail
    refine (indexInt_any _ _ _ (pivL piv n) _ _ (by exact HA.out) (pivL_len _ _) hn).mono ?_
    rintro e w' ⟨⟨k1, h1, h2, rfl⟩ | ⟨h1, rfl⟩, rfl⟩
    · have b1 : decide (0 ≤ (k1 : Int)) = true := decide_eq_true (by omega)
      go_wp2_with fail
      go_ret
      exact ⟨ret_bool (by rw [HT.out]), rfl⟩
    · exact absurd (by rw [pivL_el hi, he]) (h1 i hi)
  · have HT := Lib.hid (hit_f (piv := piv) (r := n) (j := k) (fun i hi he => hh ⟨i, hi, he⟩))
    go_enter Try.func85, Try.ntmps85
    go_wp2_with fail
    refine (indexInt_any _ _ _ (pivL piv n) _ _ (by exact HA.out) (pivL_len _ _) hn).mono ?_
    rintro e w' ⟨⟨k1, h1, h2, rfl⟩ | ⟨h1, rfl⟩, rfl⟩
    · rw [pivL_el h1] at h2
      exact absurd ⟨k1, h1, by omega⟩ hh
    · go_wp2_with fail
      go_ret
      exact ⟨ret_bool (by rw [HT.out]), rfl⟩
set_option maxRecDepth 20000 in
set_option maxHeartbeats 4000000 in
theorem impl_StandardComplement_any (p q : Int) (a : Option Addr) (n c : Nat) (xss : List (List Int)) (w : World) (hp : I64 p) (hq : I64 q) (ha : RdR w a xss) (hl : xss.length = n) (hx : ∀ i, i < n → (rw_ xss i).length ≤ 1048576) (hn : n ≤ 1048576) (hcp : n ≤ c) :
    Calls Try.prog 47 #[.agg #[.int .i64 p, .int .i64 q, .slice a n c]] w fun e w' => ∃ (P Q : Int) (R : List (List Int)) (d : Int) (a' : Option Addr) (c' : Nat), e = .returned (.tuple #[.agg #[.int .i64 P, .int .i64 Q, .slice a' R.length c'], .int .i64 d]) ∧ res_StandardComplement xss p q P Q R d ∧ MadeR 38 2 w' w.heap.size a' R.length c' R ∧ Below w.heap.size w w' := by
  have HP := Lib.hid hp
  have HQ := Lib.hid hq
  have HA := Lib.hid ha
  have HL := Lib.hid hl
  have HX := Lib.hid hx
  clear hp hq ha hl hx
  by_cases hs : subB xss p q = true
  rotate_left
  · have hsf : subB xss p q = false := by simpa using hs
    have HS := Lib.hid hsf
    have HR : Hid (res_StandardComplement xss p q 0 0 [] 1) := Lib.hid (.inr ⟨hsf, rfl⟩)
    clear hs hsf
    go_enter Try.func47, Try.ntmps47
    go_wp2_with fail
    refine (impl_IsSubspace_any _ _ _ _ _ xss _ HP.out HQ.out (by exact (HA.out.alloc _).alloc _) HL.out HX.out hn hcp).mono ?_
    rintro e w1 ⟨he, hb⟩
    rw [HS.out] at he
    obtain rfl := he
    have X0 : Hid (BX 24 w1 w.heap.size #[.int .i64 p, .int .i64 q, .slice a n c]) := Lib.hid (((BX.new w _ _).alloc _).keep hb)
    have X1 : Hid (BX 24 w1 (w.heap.size + 1) #[.int .i64 0, .int .i64 0, .slice none 0 0]) := Lib.hid ((BX.newAt (by simp)).keep hb)
    have HB1 : Hid (Below w.heap.size w w1) := Lib.hid (below_al2 hb)
    have s1 : w.heap.size + 2 ≤ w1.heap.size := by have := hb.size; simp at this; omega
    clear hb
    have p0 : w1.cell? ⟨w.heap.size, 0, none⟩ = some (.int .i64 p) := X0.out.cell 0
    have p1 : w1.cell? ⟨w.heap.size, 1, none⟩ = some (.int .i64 q) := X0.out.cell 1
    have p2 : w1.cell? ⟨w.heap.size, 2, none⟩ = some (.slice a n c) := X0.out.cell 2
    have y0 : w1.cell? ⟨w.heap.size + 1, 0, none⟩ = some (.int .i64 0) := X1.out.cell 0
    have y1 : w1.cell? ⟨w.heap.size + 1, 1, none⟩ = some (.int .i64 0) := X1.out.cell 1
    have y2 : w1.cell? ⟨w.heap.size + 1, 2, none⟩ = some (.slice none 0 0) := X1.out.cell 2
    have f0 := X1.out.frz 0
    have f1 := X1.out.frz 1
    have f2 := X1.out.frz 2
    go_wp2_with fail
    refine bodyPost_ret (v := .tuple #[.agg #[.int .i64 0, .int .i64 0, .slice none 0 0], .int .i64 1]) (by simp [results, Try.results47, go_sem, y0, y1, y2]) rfl ⟨0, 0, [], 1, none, 0, rfl, HR.out, MadeR.none, ?_⟩
    exact (((HB1.out.setCell (by first | (simp; done) | (simp; omega)) _).setCell (by first | (simp; done) | (simp; omega)) _).setCell (by first | (simp; done) | (simp; omega)) _)
  · have hy := subB_yes hs
    have hm0 := isMx_ok hy.1
    have q0 := hm0.q0
    have q8 := hm0.q8
    have hl8 := hm0.len
    rw [HL.out] at hl8
    obtain ⟨m, rfl⟩ : ∃ m : Nat, q = m := ⟨q.toNat, by omega⟩
    have HS := Lib.hid hs
    obtain ⟨piv, hR, _⟩ := hy.2
    rw [Int.toNat_natCast] at hR
    have HRR := Lib.hid hR
    have HR : Hid (res_StandardComplement xss p m p m (compL piv n m m) 0) := Lib.hid (.inl ⟨hs, rfl, rfl, rfl, piv, by rw [Int.toNat_natCast]; exact hR, by rw [HL.out, Int.toNat_natCast]⟩)
    clear hs hy hm0 hR
    go_enter Try.func47, Try.ntmps47
    go_wp2_with fail
    refine (impl_IsSubspace_any _ _ _ _ _ xss _ HP.out HQ.out (by exact (HA.out.alloc _).alloc _) HL.out HX.out hn hcp).mono ?_
    rintro e w1 ⟨he, hb⟩
    rw [HS.out] at he
    obtain rfl := he
    have X0 : Hid (BX 24 w1 w.heap.size #[.int .i64 p, .int .i64 m, .slice a n c]) := Lib.hid (((BX.new w _ _).alloc _).keep hb)
    have X1 : Hid (BX 24 w1 (w.heap.size + 1) #[.int .i64 0, .int .i64 0, .slice none 0 0]) := Lib.hid ((BX.newAt (by simp)).keep hb)
    have HB1 : Hid (Below w.heap.size w w1) := Lib.hid (below_al2 hb)
    have s1 : w.heap.size + 2 ≤ w1.heap.size := by have := hb.size; simp at this; omega
    clear hb
    have p0 : w1.cell? ⟨w.heap.size, 0, none⟩ = some (.int .i64 p) := X0.out.cell 0
    have p1 : w1.cell? ⟨w.heap.size, 1, none⟩ = some (.int .i64 m) := X0.out.cell 1
    have p2 : w1.cell? ⟨w.heap.size, 2, none⟩ = some (.slice a n c) := X0.out.cell 2
    have y0 : w1.cell? ⟨w.heap.size + 1, 0, none⟩ = some (.int .i64 0) := X1.out.cell 0
    have y1 : w1.cell? ⟨w.heap.size + 1, 1, none⟩ = some (.int .i64 0) := X1.out.cell 1
    have y2 : w1.cell? ⟨w.heap.size + 1, 2, none⟩ = some (.slice none 0 0) := X1.out.cell 2
    have f0 := X1.out.frz 0
    have f1 := X1.out.frz 1
    have f2 := X1.out.frz 2
    have lt0 : w.heap.size < w1.heap.size := by omega
    have lt1 : w.heap.size + 1 < w1.heap.size := by omega
    go_wp2_with fail
    refine (pivots_any _ _ _ m xss piv _ (by exact (HA.out.keep HB1.out (Nat.le_refl _)).alloc _) HL.out (fun i hi => HRR.out.len i (by rw [HL.out]; exact hi)) (by omega) (by omega) (fun i hi => HRR.out.isLead (by rw [HL.out]; exact hi)) (fun i hi => HRR.out.pn i (by rw [HL.out]; exact hi))).mono ?_
    rintro e w2 ⟨ap, cp, rfl, ho, hb⟩
    clear p0 p1 p2 y0 y1 y2 f0 f1 f2 lt0 lt1
    have s2 : w1.heap.size + 1 ≤ w2.heap.size := by have := hb.size; simp at this; omega
    have HO : Hid (OwnI 3 w2 (w1.heap.size + 1) ap n cp (pivL piv n)) := Lib.hid (ho.mono (by simp))
    have X2 : Hid (BX 24 w2 w1.heap.size #[.int .i64 p, .int .i64 m, .slice none 0 0]) := Lib.hid ((BX.new w1 _ _).keep hb)
    replace X0 : Hid (BX 24 w2 w.heap.size #[.int .i64 p, .int .i64 m, .slice a n c]) := Lib.hid ((X0.out.alloc _).keep hb)
    replace X1 : Hid (BX 24 w2 (w.heap.size + 1) #[.int .i64 0, .int .i64 0, .slice none 0 0]) := Lib.hid ((X1.out.alloc _).keep hb)
    have HB2 : Hid (Below w.heap.size w w2) := Lib.hid ((HB1.out.alloc HB1.out.size _).trans (hb.mono (by simp; omega)))
    clear ho hb
    have p1 : w2.cell? ⟨w.heap.size, 1, none⟩ = some (.int .i64 m) := X0.out.cell 1
    go_wp2_with fail
    clear p1
    go_loopw [22] (fun i wr => ∃ (k r : Nat) (a1 : Option Addr) (c1 : Nat) (A : Nat → Option Addr) (C : Nat → Nat), k ≤ m ∧ r ≤ k ∧ i = .int .i64 k ∧ Hid (BX 24 wr w1.heap.size #[.int .i64 p, .int .i64 m, .slice a1 r c1]) ∧ Hid (OwnR 38 2 wr w2.heap.size a1 r c1 (compL piv n m k) A C ∧ (∀ k, k < w2.heap.size → k ≠ w1.heap.size → wr.heap[k]? = w2.heap[k]?) ∧ Below w.heap.size w wr ∧ w2.heap.size ≤ wr.heap.size)) (fun i _ => m - (intOf i).toNat)
    case atStart => exact ⟨0, 0, none, 0, fun _ => none, fun _ => 0, Nat.zero_le _, Nat.le_refl _, rfl, X2, Lib.hid ⟨OwnR.none _ _, fun _ _ _ => rfl, HB2.out, Nat.le_refl _⟩⟩
    case round =>
      obtain ⟨k, r, a1, c1, A, C, hk, hrk, rfl, HX, HJ⟩ := hrel
      obtain ⟨wi, rfl⟩ : ∃ x, x = wr := ⟨wr, rfl⟩
      clear X2
      have hsz := HJ.out.2.2.2
      have X0i : Hid (BX 24 wi w.heap.size #[.int .i64 p, .int .i64 m, .slice a n c]) := Lib.hid ((HJ.out.2.1 _ (by omega) (by omega)).trans X0.out)
      have X1i : Hid (BX 24 wi (w.heap.size + 1) #[.int .i64 0, .int .i64 0, .slice none 0 0]) := Lib.hid ((HJ.out.2.1 _ (by omega) (by omega)).trans X1.out)
      have HPi : Hid (OwnI 3 wi (w1.heap.size + 1) ap n cp (pivL piv n)) := Lib.hid (HO.out.same fun x hx => HJ.out.2.1 _ (HO.out.block x hx).2 (by have := (HO.out.block x hx).1; omega))
      have lt0 : w.heap.size < wi.heap.size := by omega
      have lt1 : w.heap.size + 1 < wi.heap.size := by omega
      have lt2 : w1.heap.size < wi.heap.size := by omega
      have p1 : wi.cell? ⟨w.heap.size, 1, none⟩ = some (.int .i64 m) := X0i.out.cell 1
      by_cases hkm : k < m
      · have J1 : (k : Int) < (m : Int) := by omega
        by_cases hh : hit piv n k = true
        · have HC : Hid (compL piv n m (k + 1) = compL piv n m k) := Lib.hid (compL_yes hh)
          have HH := Lib.hid hh
          clear hh
          go_wp2_with (go_at_call 85; refine (containsPiv_any _ _ _ piv k _ (by exact HPi.out.rd) (by omega) (by omega)).mono ?_; rintro e w' ⟨rfl, rfl⟩; rw [HH.out])
          have HN2 : Hid (OwnR 38 2 wi w2.heap.size a1 r c1 (compL piv n m (k + 1)) A C ∧ (∀ k, k < w2.heap.size → k ≠ w1.heap.size → wi.heap[k]? = w2.heap[k]?) ∧ Below w.heap.size w wi ∧ w2.heap.size ≤ wi.heap.size) := Lib.hid (by rw [HC.out]; exact HJ.out)
          go_roundw
          case rel => exact ⟨k + 1, r, a1, c1, A, C, by omega, by omega, by go_num, HX, HN2⟩
          case measure => simp [intOf]; omega
        · have hf : hit piv n k = false := by simpa using hh
          have HC : Hid (compL piv n m (k + 1) = compL piv n m k ++ [unitR m k]) := Lib.hid (compL_no hf)
          have HH := Lib.hid hf
          clear hh hf
          have hmk := run_make_row' (P := Try.prog) 38 2 (.int .i64 0) 8 Try.underlying38 Try.info2 rfl .i64 .i64 m (by omega) (by omega)
          have e1 := (OwnI.made wi 2 m (by unfold maxLen; omega)).cellAt hkm
          rw [el_tab hkm] at e1
          have e2 := (OwnI.made wi 2 m (by unfold maxLen; omega)).frozen k
          have HOu := Lib.hid (unit_own2 wi 2 hkm (by omega))
          have HBo : Hid (Below wi.heap.size wi (wi.alloc (.cells ((madeCells #[.int .i64 0] m).setIfInBounds k (.int .i64 1)) 2))) := Lib.hid ((Below.refl _ _).alloc (Nat.le_refl _) _)
          have x1 : wi.cell? ⟨w1.heap.size, 2, none⟩ = some (.slice a1 r c1) := HX.out.cell 2
          go_wp2_with (first
            | (go_at_call 85; refine (containsPiv_any _ _ _ piv k _ (by exact HPi.out.rd) (by omega) (by omega)).mono ?_; rintro e w' ⟨rfl, rfl⟩; rw [HH.out])
            | (at_builtin; refine wpList_pushB rfl (.tmp 36) (.tmp 38) 22 rfl w2.heap.size 38 (.slice none 0 0) 24 Try.underlying22 Try.infoR rfl (by decide) (.slice (some ⟨wi.heap.size, 0, none⟩) m m) rfl _ _ _ _ _ rfl rfl (by simp) (by exact (HJ.out.1.keep HBo.out (Nat.le_refl _)).own) (by omega) (by exact Nat.le_trans hsz HBo.out.size) ?_; rintro a4 c4 w4 r4 q4 g4; have HN := Lib.hid (HJ.out.1.pushNew2 hsz HBo.out HOu.out (Nat.le_refl _) r4 q4 g4); have Y2 := Lib.hid ((HX.out.keep HBo.out).chg g4 (fun hx => by obtain ⟨x, hx, e⟩ := hx; have := (ownsRow_block HJ.out.1.own x hx).1; omega)); have z1 : w4.cell? ⟨w1.heap.size, 2, none⟩ = some (.slice a1 r c1) := Y2.out.cell 2; have z2 := Y2.out.frz 2; clear r4 q4 g4))
          clear hmk e1 e2 x1
          have HR2 : Hid (BX 24 (w4.setCell ⟨w1.heap.size, 2, none⟩ (.slice a4 (r + 1) c4)) w1.heap.size #[.int .i64 p, .int .i64 m, .slice a4 (r + 1) c4]) := Lib.hid (Y2.out.set 2 _)
          have HN2 : Hid (OwnR 38 2 (w4.setCell ⟨w1.heap.size, 2, none⟩ (.slice a4 (r + 1) c4)) w2.heap.size a4 (r + 1) c4 (compL piv n m (k + 1)) (upd A r (some ⟨wi.heap.size, 0, none⟩)) (upd C r m) ∧ (∀ k, k < w2.heap.size → k ≠ w1.heap.size → (w4.setCell ⟨w1.heap.size, 2, none⟩ (.slice a4 (r + 1) c4)).heap[k]? = w2.heap[k]?) ∧ Below w.heap.size w (w4.setCell ⟨w1.heap.size, 2, none⟩ (.slice a4 (r + 1) c4)) ∧ w2.heap.size ≤ (w4.setCell ⟨w1.heap.size, 2, none⟩ (.slice a4 (r + 1) c4)).heap.size) := by
            refine Lib.hid ⟨?_, fun k hk hne => ?_, ?_, ?_⟩
            · rw [HC.out]; exact HN.out.1.setLow _ (by simp; omega) _
            · exact (Below.heap_setCell _ _ _ _ (by simp; omega)).trans ((HN.out.2.block k hk).trans (HJ.out.2.1 k hk hne))
            · exact (HJ.out.2.2.1.trans (HN.out.2.mono (by omega))).setCell (by simp; omega) _
            · have := HN.out.2.size; simp; omega
          go_roundw
          case rel => exact ⟨k + 1, r + 1, a4, c4, _, _, by omega, by omega, by go_num, HR2, HN2⟩
          case measure => simp [intOf]; omega
      · obtain rfl : m = k := by omega
        have hrl := HJ.out.1.len
        subst hrl
        have HM : Hid (MadeR 38 2 wi w2.heap.size a1 (compL piv n m m).length c1 (compL piv n m m)) := Lib.hid ⟨A, C, HJ.out.1⟩
        have HBf := Lib.hid HJ.out.2.2.1
        have x0 : wi.cell? ⟨w1.heap.size, 0, none⟩ = some (.int .i64 p) := HX.out.cell 0
        have x1 : wi.cell? ⟨w1.heap.size, 1, none⟩ = some (.int .i64 m) := HX.out.cell 1
        have x2 : wi.cell? ⟨w1.heap.size, 2, none⟩ = some (.slice a1 (compL piv n m m).length c1) := HX.out.cell 2
        have y0 : wi.cell? ⟨w.heap.size + 1, 0, none⟩ = some (.int .i64 0) := X1i.out.cell 0
        have y1 : wi.cell? ⟨w.heap.size + 1, 1, none⟩ = some (.int .i64 0) := X1i.out.cell 1
        have y2 : wi.cell? ⟨w.heap.size + 1, 2, none⟩ = some (.slice none 0 0) := X1i.out.cell 2
        have f0 := X1i.out.frz 0
        have f1 := X1i.out.frz 1
        have f2 := X1i.out.frz 2
        go_wp2_with fail
        refine bodyPost_ret (v := .tuple #[.agg #[.int .i64 (p), .int .i64 (m), .slice a1 (compL piv n m m).length c1], .int .i64 0]) (by simp [results, Try.results47, go_sem, y0, y1, y2]) rfl ⟨p, m, compL piv n m m, 0, a1, c1, rfl, HR.out, ?_, ?_⟩
        · refine MadeR.mono (B := w2.heap.size) ?_ (by omega)
          exact (((HM.out).setLow _ (by first | (simp; done) | (simp; omega)) _).setLow _ (by first | (simp; done) | (simp; omega)) _).setLow _ (by first | (simp; done) | (simp; omega)) _
        · exact (((HBf.out.setCell (by first | (simp; done) | (simp; omega)) _).setCell (by first | (simp; done) | (simp; omega)) _).setCell (by first | (simp; done) | (simp; omega)) _)
set_option maxRecDepth 20000 in
set_option maxHeartbeats 4000000 in
theorem spec_StandardComplement_any (p q : Int) (a : Option Addr) (n c : Nat) (xss : List (List Int)) (w : World) (hp : I64 p) (hq : I64 q) (ha : RdR w a xss) (hl : xss.length = n) (hx : ∀ i, i < n → (rw_ xss i).length ≤ 1048576) (hn : n ≤ 1048576) (hcp : n ≤ c) :
    Calls Try.prog 46 #[.agg #[.int .i64 p, .int .i64 q, .slice a n c]] w fun e w' => ∃ (P Q : Int) (R : List (List Int)) (d : Int) (a' : Option Addr) (c' : Nat), e = .returned (.tuple #[.agg #[.int .i64 P, .int .i64 Q, .slice a' R.length c'], .int .i64 d]) ∧ res_StandardComplement xss p q P Q R d ∧ MadeR 38 2 w' w.heap.size a' R.length c' R ∧ Below w.heap.size w w' := by
  have HP := Lib.hid hp
  have HQ := Lib.hid hq
  have HA := Lib.hid ha
  have HL := Lib.hid hl
  have HX := Lib.hid hx
  clear hp hq ha hl hx
  by_cases hs : subB xss p q = true
  rotate_left
  · have hsf : subB xss p q = false := by simpa using hs
    have HS := Lib.hid hsf
    have HR : Hid (res_StandardComplement xss p q 0 0 [] 1) := Lib.hid (.inr ⟨hsf, rfl⟩)
    clear hs hsf
    go_enter Try.func46, Try.ntmps46
    go_wp2_with fail
    refine (spec_IsSubspace_any _ _ _ _ _ xss _ HP.out HQ.out (by exact (HA.out.alloc _).alloc _) HL.out HX.out hn hcp).mono ?_
    rintro e w1 ⟨he, hb⟩
    rw [HS.out] at he
    obtain rfl := he
    have X0 : Hid (BX 24 w1 w.heap.size #[.int .i64 p, .int .i64 q, .slice a n c]) := Lib.hid (((BX.new w _ _).alloc _).keep hb)
    have X1 : Hid (BX 24 w1 (w.heap.size + 1) #[.int .i64 0, .int .i64 0, .slice none 0 0]) := Lib.hid ((BX.newAt (by simp)).keep hb)
    have HB1 : Hid (Below w.heap.size w w1) := Lib.hid (below_al2 hb)
    have s1 : w.heap.size + 2 ≤ w1.heap.size := by have := hb.size; simp at this; omega
    clear hb
    have p0 : w1.cell? ⟨w.heap.size, 0, none⟩ = some (.int .i64 p) := X0.out.cell 0
    have p1 : w1.cell? ⟨w.heap.size, 1, none⟩ = some (.int .i64 q) := X0.out.cell 1
    have p2 : w1.cell? ⟨w.heap.size, 2, none⟩ = some (.slice a n c) := X0.out.cell 2
    have y0 : w1.cell? ⟨w.heap.size + 1, 0, none⟩ = some (.int .i64 0) := X1.out.cell 0
    have y1 : w1.cell? ⟨w.heap.size + 1, 1, none⟩ = some (.int .i64 0) := X1.out.cell 1
    have y2 : w1.cell? ⟨w.heap.size + 1, 2, none⟩ = some (.slice none 0 0) := X1.out.cell 2
    have f0 := X1.out.frz 0
    have f1 := X1.out.frz 1
    have f2 := X1.out.frz 2
    go_wp2_with fail
    refine bodyPost_ret (v := .tuple #[.agg #[.int .i64 0, .int .i64 0, .slice none 0 0], .int .i64 1]) (by simp [results, Try.results46, go_sem, y0, y1, y2]) rfl ⟨0, 0, [], 1, none, 0, rfl, HR.out, MadeR.none, ?_⟩
    exact (((HB1.out.setCell (by first | (simp; done) | (simp; omega)) _).setCell (by first | (simp; done) | (simp; omega)) _).setCell (by first | (simp; done) | (simp; omega)) _)
  · have hy := subB_yes hs
    have hm0 := isMx_ok hy.1
    have q0 := hm0.q0
    have q8 := hm0.q8
    have hl8 := hm0.len
    rw [HL.out] at hl8
    obtain ⟨m, rfl⟩ : ∃ m : Nat, q = m := ⟨q.toNat, by omega⟩
    have HS := Lib.hid hs
    obtain ⟨piv, hR, _⟩ := hy.2
    rw [Int.toNat_natCast] at hR
    have HRR := Lib.hid hR
    have HR : Hid (res_StandardComplement xss p m p m (compL piv n m m) 0) := Lib.hid (.inl ⟨hs, rfl, rfl, rfl, piv, by rw [Int.toNat_natCast]; exact hR, by rw [HL.out, Int.toNat_natCast]⟩)
    clear hs hy hm0 hR
    go_enter Try.func46, Try.ntmps46
    go_wp2_with fail
    refine (spec_IsSubspace_any _ _ _ _ _ xss _ HP.out HQ.out (by exact (HA.out.alloc _).alloc _) HL.out HX.out hn hcp).mono ?_
    rintro e w1 ⟨he, hb⟩
    rw [HS.out] at he
    obtain rfl := he
    have X0 : Hid (BX 24 w1 w.heap.size #[.int .i64 p, .int .i64 m, .slice a n c]) := Lib.hid (((BX.new w _ _).alloc _).keep hb)
    have X1 : Hid (BX 24 w1 (w.heap.size + 1) #[.int .i64 0, .int .i64 0, .slice none 0 0]) := Lib.hid ((BX.newAt (by simp)).keep hb)
    have HB1 : Hid (Below w.heap.size w w1) := Lib.hid (below_al2 hb)
    have s1 : w.heap.size + 2 ≤ w1.heap.size := by have := hb.size; simp at this; omega
    clear hb
    have p0 : w1.cell? ⟨w.heap.size, 0, none⟩ = some (.int .i64 p) := X0.out.cell 0
    have p1 : w1.cell? ⟨w.heap.size, 1, none⟩ = some (.int .i64 m) := X0.out.cell 1
    have p2 : w1.cell? ⟨w.heap.size, 2, none⟩ = some (.slice a n c) := X0.out.cell 2
    have y0 : w1.cell? ⟨w.heap.size + 1, 0, none⟩ = some (.int .i64 0) := X1.out.cell 0
    have y1 : w1.cell? ⟨w.heap.size + 1, 1, none⟩ = some (.int .i64 0) := X1.out.cell 1
    have y2 : w1.cell? ⟨w.heap.size + 1, 2, none⟩ = some (.slice none 0 0) := X1.out.cell 2
    have f0 := X1.out.frz 0
    have f1 := X1.out.frz 1
    have f2 := X1.out.frz 2
    have lt0 : w.heap.size < w1.heap.size := by omega
    have lt1 : w.heap.size + 1 < w1.heap.size := by omega
    go_wp2_with fail
    refine (l02Unit_any m _ (by omega)).mono ?_
    rintro e w2 ⟨au, cu, rfl, ho, hb⟩
    have HU := Lib.hid ho.rd
    clear p0 p1 p2 y0 y1 y2 f0 f1 f2
    replace X0 : Hid (BX 24 w2 w.heap.size #[.int .i64 p, .int .i64 m, .slice a n c]) := Lib.hid (X0.out.keep hb)
    replace X1 : Hid (BX 24 w2 (w.heap.size + 1) #[.int .i64 0, .int .i64 0, .slice none 0 0]) := Lib.hid (X1.out.keep hb)
    have HB2 : Hid (Below w.heap.size w w2) := Lib.hid (HB1.out.trans (hb.mono HB1.out.size))
    have p0 : w2.cell? ⟨w.heap.size, 0, none⟩ = some (.int .i64 p) := X0.out.cell 0
    have p1 : w2.cell? ⟨w.heap.size, 1, none⟩ = some (.int .i64 m) := X0.out.cell 1
    have p2 : w2.cell? ⟨w.heap.size, 2, none⟩ = some (.slice a n c) := X0.out.cell 2
    have y0 : w2.cell? ⟨w.heap.size + 1, 0, none⟩ = some (.int .i64 0) := X1.out.cell 0
    have y1 : w2.cell? ⟨w.heap.size + 1, 1, none⟩ = some (.int .i64 0) := X1.out.cell 1
    have y2 : w2.cell? ⟨w.heap.size + 1, 2, none⟩ = some (.slice none 0 0) := X1.out.cell 2
    have f0 := X1.out.frz 0
    have f1 := X1.out.frz 1
    have f2 := X1.out.frz 2
    have s2 := hb.size
    clear ho hb
    go_wp2_with fail
    clear p0 p1 p2 y0 y1 y2 f0 f1 f2
    go_loopw [7, 5, 6] (fun i v x wr => ∃ (j r nx : Nat) (a1 : Option Addr) (c1 : Nat) (A : Nat → Option Addr) (C : Nat → Nat), j ≤ m ∧ r ≤ j ∧ nx ≤ n ∧ i = .int .i64 j ∧ v = .slice a1 r c1 ∧ x = .int .i64 nx ∧ Hid ((∀ i, i < nx → piv i < j) ∧ (∀ i, nx ≤ i → i < n → j ≤ piv i)) ∧ Hid (Vw 38 w2 wr a1 r c1 (compL piv n m j) A C)) (fun i _ _ _ => m - (intOf i).toNat)
    case atStart => exact ⟨0, 0, 0, _, 0, fun _ => none, fun _ => 0, Nat.zero_le _, Nat.le_refl _, Nat.zero_le _, rfl, rfl, rfl, Lib.hid ⟨fun i hi => absurd hi (by omega), fun i _ _ => Nat.zero_le _⟩, Lib.hid ⟨rfl, (OwnR.empty w2 _ 2 (fun _ => none) (fun _ => 0)).own, fun i hi => absurd hi (by omega), (Below.refl _ _).alloc (Nat.le_refl _) _⟩⟩
    case round =>
      obtain ⟨j, r, nx, a1, c1, A, C, hj, hrj, hnx, rfl, rfl, rfl, HI, HV⟩ := hrel
      obtain ⟨wi, rfl⟩ : ∃ x, x = wr := ⟨wr, rfl⟩
      have HBv := Lib.hid HV.out.below
      have X0i : Hid (BX 24 wi w.heap.size #[.int .i64 p, .int .i64 m, .slice a n c]) := Lib.hid (X0.out.keep HBv.out)
      have X1i : Hid (BX 24 wi (w.heap.size + 1) #[.int .i64 0, .int .i64 0, .slice none 0 0]) := Lib.hid (X1.out.keep HBv.out)
      have HBi : Hid (Below w.heap.size w wi) := Lib.hid (HB2.out.trans (HBv.out.mono (by omega)))
      have hsz := HBv.out.size
      have p0 : wi.cell? ⟨w.heap.size, 0, none⟩ = some (.int .i64 p) := X0i.out.cell 0
      have p1 : wi.cell? ⟨w.heap.size, 1, none⟩ = some (.int .i64 m) := X0i.out.cell 1
      have p2 : wi.cell? ⟨w.heap.size, 2, none⟩ = some (.slice a n c) := X0i.out.cell 2
      by_cases hjm : j < m
      · have J1 : (j : Int) < (m : Int) := by omega
        obtain ⟨bu, ou, rfl, hcu⟩ := HU.out (by rw [unitRs_len]; omega)
        obtain ⟨aj, cj, dj0, rj, kj⟩ := hcu j (by rw [unitRs_len]; exact hjm)
        rw [unitRs_row hjm, unitR_len] at dj0 kj
        rw [unitRs_row hjm] at rj
        have RJ := Lib.hid rj
        have dj := cell_below (p := ⟨bu, ou + j, none⟩) dj0 HBv.out
        clear hcu dj0 rj
        by_cases hnn : nx < n
        · have b1 : decide ((nx : Int) < (n : Int)) = true := decide_eq_true (by omega)
          have J2 : (nx : Int) < (n : Int) := by omega
          obtain ⟨b, o, rfl, hc⟩ := (HA.out.keep HBi.out (Nat.le_refl _)) (by rw [HL.out]; omega)
          obtain ⟨an, cn, dn, rn, _⟩ := hc nx (by rw [HL.out]; exact hnn)
          have hln := HRR.out.len nx (by rw [HL.out]; exact hnn)
          rw [hln] at dn
          have RN := Lib.hid rn
          have HLN := Lib.hid hln
          have HLD := Lib.hid (HRR.out.isLead (i := nx) (by rw [HL.out]; exact hnn))
          clear hc rn hln
          by_cases he : piv nx = j
          · have b2 : ((piv nx : Int) == (j : Int)) = true := by rw [he]; simp
            have HC := Lib.hid (compL_yes (q := m) (hit_t hnn he))
            have HI2 : Hid ((∀ i, i < nx + 1 → piv i < j + 1) ∧ (∀ i, nx + 1 ≤ i → i < n → j + 1 ≤ piv i)) := Lib.hid ⟨fun i hi => (by
              by_cases h : i = nx
              · subst h; omega
              · have := HI.out.1 i (by omega); omega), fun i h1 h2 => (by have := HRR.out.mono nx i (by omega) (by rw [HL.out]; exact h2); omega)⟩
            clear he
            go_wp2_with (go_at_call 83; refine (l02Lead_any _ _ _ (rw_ xss nx) _ (by exact RN.out) HLN.out (by omega)).mono ?_; rintro e w' ⟨k1, rfl, hk, rfl⟩; obtain rfl : k1 = piv nx := hk.unique HLD.out; clear hk)
            have HN2 : Hid (Vw 38 w2 wi a1 r c1 (compL piv n m (j + 1)) A C) := Lib.hid (by rw [HC.out]; exact HV.out)
            go_roundw
            case rel => exact ⟨j + 1, r, nx + 1, a1, c1, A, C, by omega, by omega, by omega, by go_num, rfl, by go_num, HI2, HN2⟩
            case measure => simp [intOf]; omega
          · have b2 : ((piv nx : Int) == (j : Int)) = false := beq_eq_false_iff_ne.2 (by omega)
            have HC := Lib.hid (compL_no (q := m) (hit_f (piv := piv) (r := n) (j := j) fun i hi h => by
              by_cases h1 : i < nx
              · have := HI.out.1 i h1; omega
              · by_cases h2 : i = nx
                · subst h2; exact he h
                · have := HRR.out.mono nx i (by omega) (by rw [HL.out]; exact hi)
                  have := HI.out.2 nx (Nat.le_refl _) hnn
                  omega))
            have HI2 : Hid ((∀ i, i < nx → piv i < j + 1) ∧ (∀ i, nx ≤ i → i < n → j + 1 ≤ piv i)) := Lib.hid ⟨fun i hi => (by have := HI.out.1 i hi; omega), fun i h1 h2 => (by
              have h3 := HI.out.2 nx (Nat.le_refl _) hnn
              by_cases h : i = nx
              · subst h; omega
              · have := HRR.out.mono nx i (by omega) (by rw [HL.out]; exact h2); omega)⟩
            clear he
            go_wp2_with (first
              | (go_at_call 83; refine (l02Lead_any _ _ _ (rw_ xss nx) _ (by exact RN.out) HLN.out (by omega)).mono ?_; rintro e w' ⟨k1, rfl, hk, rfl⟩; obtain rfl : k1 = piv nx := hk.unique HLD.out; clear hk)
              | (at_builtin; refine wpList_push rfl (.tmp 39) (.tmp 44) 22 rfl w2.heap.size 38 (.slice none 0 0) 24 Try.underlying22 Try.infoR rfl (by decide) (.slice aj m cj) rfl _ _ _ _ rfl rfl (by exact HV.out.own) (by omega) (by exact hsz) ?_; rintro a4 c4 w4 r4 q4 g4; have HN := Lib.hid (HV.out.push RJ.out (unitR_len _ _) kj r4 g4); clear r4 q4 g4))
            have HN2 : Hid (Vw 38 w2 w4 a4 (r + 1) c4 (compL piv n m (j + 1)) (upd A r aj) (upd C r cj)) := Lib.hid (by rw [HC.out]; exact HN.out)
            go_roundw
            case rel => exact ⟨j + 1, r + 1, nx, a4, c4, _, _, by omega, by omega, by omega, by go_num, rfl, rfl, HI2, HN2⟩
            case measure => simp [intOf]; omega
        · have b1 : decide ((nx : Int) < (n : Int)) = false := decide_eq_false (by omega)
          have HC := Lib.hid (compL_no (q := m) (hit_f (piv := piv) (r := n) (j := j) fun i hi h => by have := HI.out.1 i (by omega); omega))
          have HI2 : Hid ((∀ i, i < nx → piv i < j + 1) ∧ (∀ i, nx ≤ i → i < n → j + 1 ≤ piv i)) := Lib.hid ⟨fun i hi => (by have := HI.out.1 i hi; omega), fun i h1 h2 => absurd h2 (by omega)⟩
          go_wp2_with (first
            | (at_builtin; refine wpList_push rfl (.tmp 39) (.tmp 44) 22 rfl w2.heap.size 38 (.slice none 0 0) 24 Try.underlying22 Try.infoR rfl (by decide) (.slice aj m cj) rfl _ _ _ _ rfl rfl (by exact HV.out.own) (by omega) (by exact hsz) ?_; rintro a4 c4 w4 r4 q4 g4; have HN := Lib.hid (HV.out.push RJ.out (unitR_len _ _) kj r4 g4); clear r4 q4 g4))
          have HN2 : Hid (Vw 38 w2 w4 a4 (r + 1) c4 (compL piv n m (j + 1)) (upd A r aj) (upd C r cj)) := Lib.hid (by rw [HC.out]; exact HN.out)
          go_roundw
          case rel => exact ⟨j + 1, r + 1, nx, a4, c4, _, _, by omega, by omega, by omega, by go_num, rfl, rfl, HI2, HN2⟩
          case measure => simp [intOf]; omega
      · obtain rfl : m = j := by omega
        have hrl := HV.out.len
        subst hrl
        have HM := Lib.hid HV.out.rd
        have hle := compL_le piv n m m
        have HSM : Hid (∀ i, i < (compL piv n m m).length → (rw_ (compL piv n m m) i).length ≤ 1048576) := Lib.hid fun i hi => by rw [compL_row _ _ _ _ _ hi]; omega
        go_wp2_with fail
        refine (l02Make_any _ _ _ _ _ (compL piv n m m) _ (by exact HM.out) rfl HSM.out (by omega)).mono ?_
        rintro e w4 ⟨a', c', rfl, ho, hb⟩
        have HO4 := Lib.hid ho
        have X1f : Hid (BX 24 w4 (w.heap.size + 1) #[.int .i64 0, .int .i64 0, .slice none 0 0]) := Lib.hid (X1i.out.keep hb)
        have HBf : Hid (Below w.heap.size w w4) := Lib.hid (HBi.out.trans (hb.mono HBi.out.size))
        have y0 : w4.cell? ⟨w.heap.size + 1, 0, none⟩ = some (.int .i64 0) := X1f.out.cell 0
        have y1 : w4.cell? ⟨w.heap.size + 1, 1, none⟩ = some (.int .i64 0) := X1f.out.cell 1
        have y2 : w4.cell? ⟨w.heap.size + 1, 2, none⟩ = some (.slice none 0 0) := X1f.out.cell 2
        have f0 := X1f.out.frz 0
        have f1 := X1f.out.frz 1
        have f2 := X1f.out.frz 2
        clear ho hb
        go_wp2_with fail
        refine bodyPost_ret (v := .tuple #[.agg #[.int .i64 (p), .int .i64 (m), .slice a' (compL piv n m m).length c'], .int .i64 0]) (by simp [results, Try.results46, go_sem, y0, y1, y2]) rfl ⟨p, m, compL piv n m m, 0, a', c', rfl, HR.out, ?_, ?_⟩
        · refine MadeR.mono (B := wi.heap.size) ?_ (by omega)
          exact (((HO4.out).setLow _ (by first | (simp; done) | (simp; omega)) _).setLow _ (by first | (simp; done) | (simp; omega)) _).setLow _ (by first | (simp; done) | (simp; omega)) _
        · exact (((HBf.out.setCell (by first | (simp; done) | (simp; omega)) _).setCell (by first | (simp; done) | (simp; omega)) _).setCell (by first | (simp; done) | (simp; omega)) _)
end Go.Proofs.Ytngikcjdhbflkaa
