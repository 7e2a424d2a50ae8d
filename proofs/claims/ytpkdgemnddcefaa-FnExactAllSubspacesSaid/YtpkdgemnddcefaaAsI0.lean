/- What the program's allSubspaces works on: pairs of places, a matrix under way. -/
import Derived.Test.YtpkdgemnddcefaaMtSrt
import Derived.Test.YtpkdgemnddcefaaAsS4
import Derived.Test.YtpkdgemnddcefaaChsW
set_option linter.unusedVariables false
set_option linter.unusedSimpArgs false
namespace Go.Proofs.Ytpkdgemnddcefaa
open Go.RowKit
set_option maxHeartbeats 400000 in
theorem indexInt_any (a : Option Addr) (n c : Nat) (xs : List Int) (v : Int) (w : World) (ha : RdI w a xs) (hl : xs.length = n) (hn : n ≤ 1048576) :
    Calls Try.prog 65 #[.slice a n c, .int .i64 v] w fun e w' => ((∃ k : Nat, k < n ∧ el xs k = v ∧ e = .returned (.int .i64 k)) ∨ ((∀ k, k < n → el xs k ≠ v) ∧ e = .returned (.int .i64 (-1)))) ∧ w = w' := by
  have HA := Lib.hid ha
  have HL := Lib.hid hl
  clear ha hl
  have H0 : Hid (∀ j, j < 0 → el xs j ≠ v) := Lib.hid fun j h => absurd h (by omega)
  go_enter Try.func65, Try.ntmps65
  go_wp2
  go_loop [8] (fun i => ∃ k : Nat, k ≤ n ∧ i = .int .i64 k ∧ Hid (∀ j, j < k → el xs j ≠ v)) (fun i => n - (intOf i).toNat)
  case atStart => exact ⟨0, Nat.zero_le _, rfl, H0⟩
  case round =>
    obtain ⟨k, hk, rfl, HK⟩ := hrel
    clear H0
    by_cases hlt : k < n
    · obtain ⟨b, o, rfl, hc⟩ := HA.out (by rw [HL.out]; omega)
      have d := hc k (by rw [HL.out]; exact hlt)
      have J1 : (k : Int) < (n : Int) := by omega
      clear hc
      by_cases hz : v = el xs k
      · have b1 : (v == el xs k) = true := by rw [hz]; simp
        have HZ := Lib.hid hz
        clear hz
        go_wp2
        go_ret
        exact ⟨.inl ⟨k, hlt, HZ.out.symm, rfl⟩, rfl⟩
      · have b1 : (v == el xs k) = false := beq_eq_false_iff_ne.2 hz
        have HK1 : Hid (∀ j, j < k + 1 → el xs j ≠ v) := Lib.hid fun j hj => by
          by_cases he : j = k
          · rw [he]; exact fun h => hz h.symm
          · exact HK.out j (by omega)
        clear hz
        go_wp2
        go_round
        case rel => exact ⟨k + 1, by omega, by go_num, HK1⟩
        case measure => simp [intOf]; omega
    · obtain rfl : k = n := by omega
      go_wp2
      go_ret
      exact ⟨.inr ⟨HK.out, rfl⟩, rfl⟩
set_option maxHeartbeats 400000 in
theorem containsInt_any (a : Option Addr) (n c : Nat) (xs : List Int) (v : Int) (w : World) (ha : RdI w a xs) (hl : xs.length = n) (hn : n ≤ 1048576) :
    Calls Try.prog 33 #[.slice a n c, .int .i64 v] w fun e w' => e = .returned (.bool (xs.contains v)) ∧ w = w' := by
  have HA := Lib.hid ha
  have HL := Lib.hid hl
  clear ha hl
  go_enter Try.func33, Try.ntmps33
  go_wp2_with fail
  refine (indexInt_any _ _ _ xs _ _ (by exact HA.out) HL.out hn).mono ?_
  rintro e w' ⟨⟨k1, h1, h2, rfl⟩ | ⟨h1, rfl⟩, rfl⟩
  · have b1 : decide (0 ≤ (k1 : Int)) = true := decide_eq_true (by omega)
    have HT : Hid (xs.contains v = true) := Lib.hid (by rw [List.contains_iff_mem, ← h2]; exact el_mem (by rw [HL.out]; exact h1))
    clear h2
    go_wp2_with fail
    go_ret
    exact ⟨ret_bool (by rw [HT.out]), rfl⟩
  · have HT : Hid (xs.contains v = false) := Lib.hid (by
      rw [← Bool.not_eq_true, List.contains_iff_mem]
      intro hm
      obtain ⟨k, hk, e⟩ := List.getElem_of_mem hm
      exact h1 k (by rw [← HL.out]; exact hk) (by rw [el_eq hk]; exact e))
    clear h1
    go_wp2_with fail
    go_ret
    exact ⟨ret_bool (by rw [HT.out]), rfl⟩
/-! ### the choices -/
def chkC : Bool := (List.range 9).all fun n => (List.range (n + 1)).all fun k => decide (0 < (chs n k).length) && (chs n k).all fun c => c.all fun x => decide (0 ≤ x) && decide (x < (n : Int))
theorem chkC_t : chkC = true := by decide +kernel
theorem chs_ok {n k : Nat} (hn : n ≤ 8) (hk : k ≤ n) : 0 < (chs n k).length ∧ ∀ c ∈ chs n k, PvS c n k := by
  have h := chkC_t
  unfold chkC at h
  rw [List.all_eq_true] at h
  have h1 := h n (by simp; omega)
  rw [List.all_eq_true] at h1
  have h2 := h1 k (by simp; omega)
  rw [Bool.and_eq_true, List.all_eq_true, decide_eq_true_eq] at h2
  refine ⟨h2.1, fun c hc => ?_⟩
  have h3 := h2.2 c hc
  rw [List.all_eq_true] at h3
  have hl := chs_row hc
  have h4 : ∀ i, i < k → 0 ≤ el c i ∧ el c i < n := fun i hi => by
    have := h3 (el c i) (el_mem (by omega))
    rw [Bool.and_eq_true, decide_eq_true_eq, decide_eq_true_eq] at this
    exact this
  exact ⟨hl, fun i hi => (h4 i hi).1, fun i hi => (h4 i hi).2, by omega, hn⟩
/-! ### pairs -/
def pairVals (ps : List (Nat × Int)) : List Value := ps.flatMap fun q => [.int .i64 (q.1 : Int), .int .i64 q.2]
theorem pairVals_len : ∀ ps, (pairVals ps).length = ps.length * 2
  | [] => rfl
  | q :: ps => by
    have := pairVals_len ps
    unfold pairVals at this ⊢
    rw [List.flatMap_cons, List.length_append, this]; simp; omega
theorem pairVals_snoc (ps : List (Nat × Int)) (q : Nat × Int) : pairVals (ps ++ [q]) = pairVals ps ++ [.int .i64 (q.1 : Int), .int .i64 q.2] := by
  unfold pairVals; rw [List.flatMap_append]; simp
theorem pairVals_at : ∀ {ps : List (Nat × Int)} {t : Nat} {q : Nat × Int}, ps[t]? = some q → (pairVals ps)[t * 2]? = some (.int .i64 (q.1 : Int)) ∧ (pairVals ps)[t * 2 + 1]? = some (.int .i64 q.2)
  | [], _, _, h => by simp at h
  | q0 :: ps, 0, q, h => by
    simp at h; subst h
    exact ⟨rfl, rfl⟩
  | q0 :: ps, t + 1, q, h => by
    have := pairVals_at (ps := ps) (t := t) (q := q) (by simpa using h)
    have e : pairVals (q0 :: ps) = .int .i64 (q0.1 : Int) :: .int .i64 q0.2 :: pairVals ps := by unfold pairVals; rw [List.flatMap_cons]; rfl
    rw [e, show (t + 1) * 2 = t * 2 + 1 + 1 by omega]
    exact this
structure OwnP (T : TypeId) (w : World) (B : Nat) (a : Option Addr) (n cap : Nat) (ps : List (Nat × Int)) : Prop where
  len : ps.length = n
  own : w.ownsRow B T 2 (.slice a n cap) n (pairVals ps)
section
variable {T : TypeId} {w w' : World} {B : Nat} {a a4 : Option Addr} {n cap c4 : Nat} {ps : List (Nat × Int)} {q : Nat × Int}
theorem OwnP.none : OwnP T w B Option.none 0 0 [] := ⟨rfl, World.ownsRow_nil w B T 2⟩
theorem OwnP.keep {B1 : Nat} (h : OwnP T w B a n cap ps) (hb : Below B1 w w') (hB : w.heap.size ≤ B1) : OwnP T w' B a n cap ps := ⟨h.len, ownsK_same h.own (fun p hp => hb.block _ (Nat.lt_of_lt_of_le (ownsK_block (by omega) h.own p hp).2 hB))⟩
theorem OwnP.push (r4 : w'.ownsRow B T 2 (.slice a4 (n + 1) c4) (n + 1) (pairVals ps ++ [.int .i64 (q.1 : Int), .int .i64 q.2])) (h : OwnP T w B a n cap ps) : OwnP T w' B a4 (n + 1) c4 (ps ++ [q]) := ⟨by simp [h.len], by rw [pairVals_snoc]; exact r4⟩
theorem OwnP.at_ (h : OwnP T w B a n cap ps) {t : Nat} (ht : t < n) : ∃ g q, a = some ⟨g, 0, Option.none⟩ ∧ ps[t]? = some q ∧ w.cell? ⟨g, t * 2, Option.none⟩ = some (.int .i64 (q.1 : Int)) ∧ w.cell? ⟨g, t * 2 + 1, Option.none⟩ = some (.int .i64 q.2) := by
  obtain ⟨g, ha, hc⟩ := ownsK_cell (by omega) h.own (by omega)
  have hlt : t < ps.length := by rw [h.len]; exact ht
  have hq : ps[t]? = some ps[t] := List.getElem?_eq_getElem hlt
  obtain ⟨h1, h2⟩ := pairVals_at hq
  exact ⟨g, _, ha, hq, by rw [hc _ (by omega), h1], by rw [hc _ (by omega), h2]⟩
end
/-! ### a matrix under way -/
structure MS (T0 T1 T2 : TypeId) (w wr : World) (p q : Int) (ad : Option Addr) (n cap : Nat) (xs : List (List Int)) (A : Nat → Option Addr) (C : Nat → Nat) : Prop where
  bx : BX T0 wr w.heap.size #[.int .i64 p, .int .i64 q, .slice ad n cap]
  own : OwnR T1 T2 wr (w.heap.size + 1) ad n cap xs A C
  low : Below w.heap.size w wr
section
variable {T0 T1 T2 : TypeId} {w wr w2 : World} {p q : Int} {ad a4 av : Option Addr} {n cap c4 cv nv : Nat} {xs : List (List Int)} {v : List Int} {A : Nat → Option Addr} {C : Nat → Nat}
theorem MS.start (w : World) (T0 T1 T2 : TypeId) (p q : Int) (A : Nat → Option Addr) (C : Nat → Nat) : MS T0 T1 T2 w (w.alloc (.cells #[.int .i64 p, .int .i64 q, .slice none 0 0] T0)) p q none 0 0 [] A C :=
  ⟨BX.new _ _ _, OwnR.none _ _, (Below.refl _ _).alloc (Nat.le_refl _) _⟩
theorem MS.sz (h : MS T0 T1 T2 w wr p q ad n cap xs A C) : w.heap.size + 1 ≤ wr.heap.size := h.bx.lt
theorem MS.al (h : MS T0 T1 T2 w wr p q ad n cap xs A C) (o : Obj) : MS T0 T1 T2 w (wr.alloc o) p q ad n cap xs A C :=
  ⟨h.bx.alloc o, h.own.keep ((Below.refl wr.heap.size wr).alloc (Nat.le_refl _) o) (Nat.le_refl _), h.low.alloc h.low.size o⟩
theorem MS.keep (h : MS T0 T1 T2 w wr p q ad n cap xs A C) (hb : Below wr.heap.size wr w2) : MS T0 T1 T2 w w2 p q ad n cap xs A C :=
  ⟨h.bx.keep hb, h.own.keep hb (Nat.le_refl _), h.low.trans (hb.mono h.low.size)⟩
/-- one more row, made in a block of its own -/
theorem MS.push {wc : World} {Bc : Nat} (h : MS T0 T1 T2 w wr p q ad n cap xs A C) (hb : Below wr.heap.size wr wc) (ho : OwnI T2 wc Bc av nv cv v) (hBc : wr.heap.size ≤ Bc)
    (r4 : w2.ownsRow (w.heap.size + 1) T1 1 (.slice a4 (n + 1) c4) (n + 1) (rowVals xs A C n ++ [.slice av nv cv])) (q4 : a4 = ad ∨ ∃ p, a4 = some p ∧ wc.heap.size ≤ p.block) (g4 : Chg (fun k => ∃ p, ad = some p ∧ p.block = k) wc w2) :
    MS T0 T1 T2 w (w2.setCell ⟨w.heap.size, 2, none⟩ (.slice a4 (n + 1) c4)) p q a4 (n + 1) c4 (xs ++ [v]) (upd A n av) (upd C n cv) ∧ BX T0 w2 w.heap.size #[.int .i64 p, .int .i64 q, .slice ad n cap] := by
  obtain ⟨h1, h2⟩ := h.own.pushNew2 h.sz hb ho hBc r4 q4 g4
  have hbx : BX T0 w2 w.heap.size #[.int .i64 p, .int .i64 q, .slice ad n cap] := (h.bx.keep hb).chg g4 (fun hx => by obtain ⟨x, hx, e⟩ := hx; have := (ownsRow_block h.own.own x hx).1; omega)
  exact ⟨⟨hbx.set 2 _, h1.setLow ⟨w.heap.size, 2, none⟩ (by simp) _, (h.low.trans (h2.mono (Nat.le_succ _))).setCell (p := ⟨w.heap.size, 2, none⟩) (Nat.le_refl _) _⟩, hbx⟩
/-- one number of one row is written -/
theorem MS.setInt {i k g0 : Nat} {x : Int} (h : MS T0 T1 T2 w wr p q ad n cap xs A C) (hi : i < n) (hA : A i = some ⟨g0, 0, Option.none⟩) (hk : k < (rw_ xs i).length) :
    MS T0 T1 T2 w (wr.setCell ⟨g0, k, Option.none⟩ (.int .i64 x)) p q ad n cap (tab xs.length fun t => if t = i then (rw_ xs t).set k x else rw_ xs t) A C := by
  have hr := h.own.row i hi
  have hb0 := hr.block _ hA
  simp at hb0
  have hl := h.own.len
  have hne : ∀ j, j < n → j ≠ i → ∀ p, A j = some p → p.block ≠ g0 := fun j hj hji p hp e => h.own.ap j i hj hi hji p _ hp hA e
  have hout : ∀ p, ad = some p → p.block ≠ g0 := fun p hp e => h.own.apo i hi p _ hp hA e
  have er : ∀ j, j < n → rw_ (tab xs.length fun t => if t = i then (rw_ xs t).set k x else rw_ xs t) j = if j = i then (rw_ xs j).set k x else rw_ xs j := fun j hj => rw_tab (by omega)
  have el2 : ∀ j, j < n → (rw_ (tab xs.length fun t => if t = i then (rw_ xs t).set k x else rw_ xs t) j).length = (rw_ xs j).length := fun j hj => by
    rw [er j hj]; split
    · rw [List.length_set]
    · rfl
  refine ⟨h.bx.other (by simp; omega) _, ⟨by rw [tab_len, hl], ?_, fun j hj => ?_, h.own.ap, h.own.apo⟩, h.low.setCell (p := ⟨g0, k, Option.none⟩) (by show w.heap.size ≤ g0; omega) _⟩
  · have e1 : rowVals (tab xs.length fun t => if t = i then (rw_ xs t).set k x else rw_ xs t) A C n = rowVals xs A C n := by
      unfold rowVals
      refine List.map_congr_left fun j hj => ?_
      rw [el2 j (by simpa using hj)]
    rw [e1]
    exact ownsRow_same h.own.own (fun p hp => Below.heap_setCell _ _ _ _ (hout p hp))
  · rw [el2 j hj, er j hj]
    by_cases hji : j = i
    · subst hji
      rw [if_pos rfl, hA]
      rw [hA] at hr
      exact hr.set hk x
    · rw [if_neg hji]
      exact (h.own.row j hj).same (fun p hp => Below.heap_setCell _ _ _ _ (hne j hj hji p hp))
end
end Go.Proofs.Ytpkdgemnddcefaa
