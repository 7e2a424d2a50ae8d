/- The library's sort of abelian groups by their factors. -/
import Derived.Test.YtkidohohiihbaaaAbs
import Derived.Test.YtkidohohiihbaaaSortRow
import Derived.Test.YtkidohohiihbaaaPpCmp
import Derived.Test.YtkidohohiihbaaaShelfG
import Derived.StillTailTactics
set_option linter.unusedVariables false
set_option linter.unusedSimpArgs false
namespace Go.Proofs.Ytkidohohiihbaaa
open Go.RowKit Go.Sort Go.Shelf

/-! ### lexicographic order -/
def cmpL : List Int → List Int → Int
  | [], [] => 0
  | [], _ :: _ => -1
  | _ :: _, [] => 1
  | x :: xs, y :: ys => if cmpI x y = 0 then cmpL xs ys else cmpI x y
theorem cmpL_lt {x y : Int} (xs ys : List Int) (h : x < y) : cmpL (x :: xs) (y :: ys) = -1 := by
  have e : cmpI x y = -1 := by unfold cmpI; rw [if_pos h]
  unfold cmpL; rw [e]; rfl
theorem cmpL_gt {x y : Int} (xs ys : List Int) (h : y < x) : cmpL (x :: xs) (y :: ys) = 1 := by
  have e : cmpI x y = 1 := by unfold cmpI; rw [if_neg (by omega), if_pos h]
  unfold cmpL; rw [e]; rfl
theorem cmpL_eq (x : Int) (xs ys : List Int) : cmpL (x :: xs) (x :: ys) = cmpL xs ys := by
  have e : cmpI x x = 0 := by unfold cmpI; rw [if_neg (by omega), if_neg (by omega)]
  rw [cmpL, if_pos e]
theorem cmpL_self : ∀ xs : List Int, cmpL xs xs = 0
  | [] => rfl
  | x :: xs => by rw [cmpL_eq, cmpL_self xs]
theorem cmpL_trans : ∀ xs ys zs : List Int, cmpL xs ys < 0 → cmpL ys zs < 0 → cmpL xs zs < 0
  | [], [], _, h, _ => absurd h (by simp [cmpL])
  | [], _ :: _, [], _, h => absurd h (by simp [cmpL])
  | [], _ :: _, _ :: _, _, _ => by simp [cmpL]
  | _ :: _, [], _, h, _ => absurd h (by simp [cmpL])
  | _ :: _, _ :: _, [], _, h => absurd h (by simp [cmpL])
  | x :: xs, y :: ys, z :: zs, h1, h2 => by
    rcases Int.lt_trichotomy x y with h | h | h
    · rcases Int.lt_trichotomy y z with k | k | k
      · rw [cmpL_lt _ _ (show x < z by omega)]; decide
      · rw [cmpL_lt _ _ (show x < z by omega)]; decide
      · rw [cmpL_gt _ _ k] at h2; omega
    · subst h
      rcases Int.lt_trichotomy x z with k | k | k
      · rw [cmpL_lt _ _ k]; decide
      · subst k
        rw [cmpL_eq] at h1 h2 ⊢
        exact cmpL_trans xs ys zs h1 h2
      · rw [cmpL_gt _ _ k] at h2; omega
    · rw [cmpL_gt _ _ h] at h1; omega
theorem cmpL_ntrans : ∀ xs ys zs : List Int, ¬ cmpL xs ys < 0 → ¬ cmpL ys zs < 0 → ¬ cmpL xs zs < 0
  | [], [], [], _, _ => by simp [cmpL]
  | [], [], _ :: _, _, h => absurd (by simp [cmpL]) h
  | [], _ :: _, _, h, _ => absurd (by simp [cmpL]) h
  | _ :: _, [], [], _, _ => by simp [cmpL]
  | _ :: _, [], _ :: _, _, h => absurd (by simp [cmpL]) h
  | _ :: _, _ :: _, [], _, _ => by simp [cmpL]
  | x :: xs, y :: ys, z :: zs, h1, h2 => by
    rcases Int.lt_trichotomy x y with h | h | h
    · rw [cmpL_lt _ _ h] at h1; omega
    · subst h
      rcases Int.lt_trichotomy x z with k | k | k
      · rw [cmpL_lt _ _ k] at h2; omega
      · subst k
        rw [cmpL_eq] at h1 h2 ⊢
        exact cmpL_ntrans xs ys zs h1 h2
      · rw [cmpL_gt _ _ k]; decide
    · rcases Int.lt_trichotomy y z with k | k | k
      · rw [cmpL_lt _ _ k] at h2; omega
      · rw [cmpL_gt _ _ (show z < x by omega)]; decide
      · rw [cmpL_gt _ _ (show z < x by omega)]; decide
theorem cmpL_rng : ∀ xs ys : List Int, -1 ≤ cmpL xs ys ∧ cmpL xs ys ≤ 1
  | [], [] => by simp [cmpL]
  | [], _ :: _ => by simp [cmpL]
  | _ :: _, [] => by simp [cmpL]
  | x :: xs, y :: ys => by
    rcases Int.lt_trichotomy x y with h | h | h
    · rw [cmpL_lt _ _ h]; decide
    · subst h; rw [cmpL_eq]; exact cmpL_rng xs ys
    · rw [cmpL_gt _ _ h]; decide
theorem drop_el {xs : List Int} {k : Nat} (h : k < xs.length) : xs.drop k = el xs k :: xs.drop (k + 1) := by
  rw [el_eq h]; exact List.drop_eq_getElem_cons h
theorem cmpI_ne {x y : Int} (h : cmpI x y ≠ 0) (xs ys : List Int) : cmpL (x :: xs) (y :: ys) = cmpI x y := by unfold cmpL; rw [if_neg h]
theorem cmpI_z {x y : Int} (h : cmpI x y = 0) (xs ys : List Int) : cmpL (x :: xs) (y :: ys) = cmpL xs ys := by rw [cmpL, if_pos h]
set_option maxHeartbeats 1000000 in
theorem compareL_any (a b : Option Addr) (n m ca cb : Nat) (xs ys : List Int) (w : World) (ha : RdI w a xs) (hb : RdI w b ys) (hn : xs.length = n) (hm : ys.length = m) (h1 : n ≤ 1048576) (h2 : m ≤ 1048576) :
    Calls Try.prog 145 #[.slice a n ca, .slice b m cb] w fun e w' => e = .returned (.int .i64 (cmpL xs ys)) ∧ w = w' := by
  have HA := Lib.hid ha
  have HB := Lib.hid hb
  have HN := Lib.hid hn
  have HM := Lib.hid hm
  clear ha hb hn hm
  go_enter Try.func145, Try.ntmps145
  go_wp2
  go_loop [11] (fun i => ∃ k : Nat, k ≤ n ∧ k ≤ m ∧ i = .int .i64 k ∧ cmpL (xs.drop k) (ys.drop k) = cmpL xs ys) (fun i => n - (intOf i).toNat)
  case atStart => exact ⟨0, Nat.zero_le _, Nat.zero_le _, rfl, rfl⟩
  case round =>
    obtain ⟨k, hk, hkm, rfl, hc⟩ := hrel
    by_cases hlt : k < n
    · obtain ⟨b1, o1, rfl, c1⟩ := rdI_at HA.out (show k < xs.length by rw [HN.out]; exact hlt)
      by_cases hmt : k < m
      · obtain ⟨b2, o2, rfl, c2⟩ := rdI_at HB.out (show k < ys.length by rw [HM.out]; exact hmt)
        rw [drop_el (xs := xs) (k := k) (by rw [HN.out]; exact hlt), drop_el (xs := ys) (k := k) (by rw [HM.out]; exact hmt)] at hc
        obtain ⟨x, hx⟩ : ∃ x, x = el xs k := ⟨_, rfl⟩
        obtain ⟨y, hy⟩ : ∃ y, y = el ys k := ⟨_, rfl⟩
        rw [← hx, ← hy] at hc
        rw [← hx] at c1
        rw [← hy] at c2
        have HC := Lib.hid hc
        clear hc hx hy
        have g1 : ¬ (m : Int) ≤ (k : Int) := by omega
        have g2 : decide ((m : Int) ≤ (k : Int)) = false := decide_eq_false g1
        have g3 : decide (m ≤ k) = false := decide_eq_false (by omega)
        by_cases hz : cmpI x y = 0
        · have HZ : Hid (cmpI x y = 0) := Lib.hid hz
          obtain ⟨z, hzz⟩ : ∃ z, z = cmpI x y := ⟨_, rfl⟩
          have HZZ := Lib.hid hzz
          have z0 : z = 0 := by rw [hzz]; exact hz
          clear hz hzz
          go_wp2_with (go_at_call 147; refine (compare_any x y _).mono ?_; rintro e w' ⟨rfl, rfl⟩; rw [HZ.out])
          go_round
          case rel => exact ⟨k + 1, by omega, by omega, by go_num, by rw [← HC.out, cmpI_z HZ.out]⟩
          case measure => simp [intOf]; omega
        · have HZ := Lib.hid hz
          obtain ⟨z, hzz⟩ : ∃ z, z = cmpI x y := ⟨_, rfl⟩
          have HZZ := Lib.hid hzz
          have z0 : (z == 0) = false := by rw [hzz]; exact beq_eq_false_iff_ne.2 hz
          have z1 : (z != 0) = true := by rw [hzz]; simp [hz]
          have z2 : ¬ z = 0 := by rw [hzz]; exact hz
          clear hz hzz
          go_wp2_with (go_at_call 147; refine (compare_any x y _).mono ?_; rintro e w' ⟨rfl, rfl⟩; rw [← HZZ.out])
          go_ret
          exact ⟨by rw [← HC.out, cmpI_ne HZ.out, HZZ.out]; rfl, rfl⟩
      · have g1 : (m : Int) ≤ (k : Int) := by omega
        have g2 : decide ((m : Int) ≤ (k : Int)) = true := decide_eq_true g1
        have g3 : decide (m ≤ k) = true := decide_eq_true (by omega)
        have HC : Hid (cmpL xs ys = 1) := Lib.hid (by
          rw [← hc, drop_el (xs := xs) (k := k) (by rw [HN.out]; exact hlt), List.drop_eq_nil_of_le (show ys.length ≤ k by rw [HM.out]; omega)]; rfl)
        clear hc
        go_wp2_with fail
        go_ret
        exact ⟨by rw [HC.out]; rfl, rfl⟩
    · have hkn : k = n := by omega
      have HC : Hid (cmpL xs ys = if n < m then -1 else 0) := Lib.hid (by
        rw [← hc, List.drop_eq_nil_of_le (show xs.length ≤ k by rw [HN.out]; omega)]
        by_cases h : n < m
        · rw [if_pos h, drop_el (xs := ys) (k := k) (by rw [HM.out]; omega)]; rfl
        · rw [if_neg h, List.drop_eq_nil_of_le (show ys.length ≤ k by rw [HM.out]; omega)]; rfl)
      clear hc hkn
      by_cases h : n < m
      · have g1 : (n : Int) < m := by omega
        have g2 : decide ((n : Int) < m) = true := decide_eq_true g1
        have g3 : decide (n < m) = true := decide_eq_true h
        go_wp2_with fail
        go_ret
        exact ⟨by rw [HC.out, if_pos h]; rfl, rfl⟩
      · have g1 : ¬ (n : Int) < m := by omega
        have g2 : decide ((n : Int) < m) = false := decide_eq_false g1
        have g3 : decide (n < m) = false := decide_eq_false h
        go_wp2_with fail
        go_ret
        exact ⟨by rw [HC.out, if_neg h]; rfl, rfl⟩
set_option maxHeartbeats 1000000 in
theorem cmpAb_any (a b : Option Addr) (n m ca cb : Nat) (xs ys : List Int) (r s : Int) (w : World) (ha : RdI w a xs) (hb : RdI w b ys) (hn : xs.length = n) (hm : ys.length = m) (h1 : n ≤ 1048576) (h2 : m ≤ 1048576) :
    Calls Try.prog 144 #[.agg #[.slice a n ca, .int .i64 r], .agg #[.slice b m cb, .int .i64 s]] w fun e w' => e = .returned (.int .i64 (cmpL xs ys)) ∧ ∃ q os', w' = Go.Sort.grow (w.drewN q) os' := by
  have HA := Lib.hid ha
  have HB := Lib.hid hb
  have HN := Lib.hid hn
  have HM := Lib.hid hm
  clear ha hb hn hm
  obtain ⟨W, hW⟩ : ∃ W, W = (w.alloc (.cells #[.slice a n ca, .int .i64 r] 37)).alloc (.cells #[.slice b m cb, .int .i64 s] 37) := ⟨_, rfl⟩
  have HW := Lib.hid hW
  have RA : Hid (RdI W a xs) := Lib.hid (by rw [hW]; exact (HA.out.alloc _).alloc _)
  have RB : Hid (RdI W b ys) := Lib.hid (by rw [hW]; exact (HB.out.alloc _).alloc _)
  have HG : Hid (∀ t, ∃ q os', W.drewN t = Go.Sort.grow (w.drewN q) os') := Lib.hid (fun t => by
    refine grow_of ?_ ?_
    · rw [hW]; exact below_drewN' (((Below.refl _ _).alloc (Nat.le_refl _) _).alloc (by simp) _) t
    · rw [hW]
      show w.drawn ≤ w.drawn + t
      omega)
  go_enter Try.func144, Try.ntmps144
  go_wp2_with fail
  rw [← hW]
  clear hW
  refine (compareL_any a b n m ca cb xs ys _ RA.out RB.out HN.out HM.out h1 h2).mono ?_
  rintro e w' ⟨rfl, rfl⟩
  go_wp2_with fail
  go_ret
  exact ⟨rfl, HG.out 0⟩
/-! ### the sort -/
theorem sortWorldK_chg {α : Type} [Inhabited α] (enc : α → List Value) (k : Nat) (w : World) (blk off m : Nat) (dk : Array α) (os : Array Obj) : Chg (fun j => j = blk) w (sortWorldK enc k w blk off m dk os) :=
  sortWorld_chg id w blk off m (flatK enc k dk) os
/-- the groups' order of places -/
def ordF {n : Nat} [Inhabited (Fin n)] (d : Array (Fin n)) (i : Nat) : Nat := (d[i]!).val
theorem range_rows (L : List (List Int)) {n : Nat} (h : L.length = n) : (List.range n).map (rw_ L) = L := by
  subst h
  refine rows_ext (by simp) fun i hi => ?_
  have hi' : i < L.length := by simpa using hi
  simp [rw_, hi']
theorem flat_ab (L : List (List Int)) (A : Nat → Option Addr) (C : Nat → Nat) {m : Nat} (d : Array (Fin (m + 1))) {n : Nat} (hd : d.size = n) :
    (flatK (fun j : Fin (m + 1) => [.slice (A j) (rw_ L j).length (C j), .int .i64 0]) 2 d).toList = abVals ((List.range n).map fun i => rw_ L (ordF d i)) (fun i => A (ordF d i)) (fun i => C (ordF d i)) (fun _ => 0) n := by
  subst hd
  refine List.ext_getElem? fun t => ?_
  by_cases ht : t < d.size * 2
  · have e1 : (flatK (fun j : Fin (m + 1) => [.slice (A j) (rw_ L j).length (C j), .int .i64 0]) 2 d).toList[t]? = some ((fun j : Fin (m + 1) => [(.slice (A j) (rw_ L j).length (C j) : Value), .int .i64 0]) d[t / 2]!)[t % 2]! := by
      rw [Array.getElem?_toList, Array.getElem?_eq_getElem (by simpa using ht)]
      congr 1
      rw [← getElem!_pos (flatK (fun j : Fin (m + 1) => [.slice (A j) (rw_ L j).length (C j), .int .i64 0]) 2 d) t (by simpa using ht)]
      exact get_flatK _ _ _ t ht
    have hi : t / 2 < d.size := by omega
    have er : rw_ ((List.range d.size).map fun i => rw_ L (ordF d i)) (t / 2) = rw_ L (ordF d (t / 2)) := by simp [rw_, hi]
    rw [e1]
    rcases (show t % 2 = 0 ∨ t % 2 = 1 by omega) with h | h
    · have := abVals_0 (L := (List.range d.size).map fun i => rw_ L (ordF d i)) (A := fun i => A (ordF d i)) (C := fun i => C (ordF d i)) (K := fun _ => 0) hi
      rw [show t / 2 * 2 = t by omega, er] at this
      rw [this, h]; rfl
    · have := abVals_1 (L := (List.range d.size).map fun i => rw_ L (ordF d i)) (A := fun i => A (ordF d i)) (C := fun i => C (ordF d i)) (K := fun _ => 0) hi
      rw [show t / 2 * 2 + 1 = t by omega] at this
      rw [this, h]; rfl
  · rw [List.getElem?_eq_none (by simp; omega), List.getElem?_eq_none (by rw [abVals_len]; omega)]
theorem sortAb_any (T2 : TypeId) (B g m cap : Nat) (L : List (List Int)) (A : Nat → Option Addr) (C : Nat → Nat) (w : World) (h : OwnA 37 T2 w B (some ⟨g, 0, none⟩) (m + 1) cap L A C (fun _ => 0)) (hm : m ≤ 1000000) (hx : ∀ i, (rw_ L i).length ≤ 1000) :
    Calls Try.prog 143 #[.slice (some ⟨g, 0, none⟩) (m + 1) cap, .func (.func 144) #[] #[]] w fun e w' => e = .returned (.tuple #[]) ∧
      ∃ (L' : List (List Int)) (A' : Nat → Option Addr) (C' : Nat → Nat), L'.Perm L ∧ L'.Pairwise (fun x y => ¬ cmpL y x < 0) ∧ OwnA 37 T2 w' B (some ⟨g, 0, none⟩) (m + 1) cap L' A' C' (fun _ => 0) ∧ Chg (fun k => k = g) w w' := by
  obtain ⟨g', cur, ha, hg, hh, h1, h2, h3, h4⟩ : ∃ g' cur, (some ⟨g, 0, none⟩ : Option Addr) = some ⟨g', 0, none⟩ ∧ B ≤ g' ∧ w.heap[g']? = some (.cells cur 37 (0, 0)) ∧ m + 1 ≤ cap ∧ cap ≤ maxLen ∧ cur.size = cap * 2 ∧ cur.toList.take ((m + 1) * 2) = abVals L A C (fun _ => 0) (m + 1) := by
    rcases owns2_cases h.own with ⟨hx, _⟩ | hx
    · cases hx
    · exact hx
  injection ha with e; injection e with e1; subst e1
  have hgl : g < w.heap.size := (Array.getElem?_eq_some_iff.1 hh).1
  obtain ⟨enc, henc⟩ : ∃ enc : Fin (m + 1) → List Value, enc = fun j => [.slice (A j) (rw_ L j).length (C j), .int .i64 0] := ⟨_, rfl⟩
  obtain ⟨d, hd⟩ : ∃ d : Array (Fin (m + 1)), d = (List.ofFn fun j : Fin (m + 1) => j).toArray := ⟨_, rfl⟩
  have hds : d.size = m + 1 := by rw [hd]; simp
  have hdi : ∀ i, i < m + 1 → ordF d i = i := fun i hi => by
    unfold ordF
    rw [getElem!_pos d i (by omega)]
    subst hd
    rw [List.getElem_toArray, List.getElem_ofFn]
  have hfl : (flatK enc 2 d).toList = abVals L A C (fun _ => 0) (m + 1) := by
    rw [henc, flat_ab L A C d hds]
    refine abVals_congr fun i hi => ⟨?_, ?_, ?_, rfl⟩
    · simp [rw_, hi, hdi i hi]
    · show A (ordF d i) = A i; rw [hdi i hi]
    · show C (ordF d i) = C i; rw [hdi i hi]
  have hH : HoldsK enc 2 w g 0 d := by
    intro t ht
    have ht' : t < (m + 1) * 2 := by simp at ht; omega
    have e : cur[t]? = some (flatK enc 2 d)[t]! := by
      have e1 : (cur.toList.take ((m + 1) * 2))[t]? = (flatK enc 2 d).toList[t]? := by rw [h4, hfl]
      rw [List.getElem?_take, if_pos ht', Array.getElem?_toList, Array.getElem?_toList, Array.getElem?_eq_getElem ht] at e1
      rw [e1, getElem!_pos _ t ht]
    refine ⟨?_, ?_⟩
    · rw [Nat.zero_add, wr_cell hh, e]; rfl
    · exact wr_frozen hh
  have hcmp : CmpLays Try.prog 144 #[] enc 2 (fun x y : Fin (m + 1) => cmpL (rw_ L x) (rw_ L y)) g 0 d.size w := by
    intro q os dk hs x y
    have hc := sortWorldK_chg enc 2 w g 0 q dk os
    have hr : ∀ z : Fin (m + 1), RdI (sortWorldK enc 2 w g 0 q dk os) (A z) (rw_ L z) := fun z =>
      (h.row z.val z.isLt).rd.same (fun p hp => hc.block _ ((h.row z.val z.isLt).block p hp).2 (fun e => h.apo z.val z.isLt ⟨g, 0, none⟩ p rfl hp e.symm))
    have := cmpAb_any (A x) (A y) (rw_ L x).length (rw_ L y).length (C x) (C y) (rw_ L x) (rw_ L y) 0 0 _ (hr x) (hr y) rfl rfl (by have := hx x; omega) (by have := hx y; omega)
    subst henc
    exact this
  have hO : SWO (ltOf fun x y : Fin (m + 1) => cmpL (rw_ L x) (rw_ L y)) := by
    refine ⟨fun x => ?_, fun x y z k1 k2 => ?_, fun x y z k1 k2 => ?_⟩
    · show decide (cmpL (rw_ L x) (rw_ L x) < 0) = false; rw [cmpL_self]; decide
    · exact decide_eq_true (cmpL_trans _ _ _ (of_decide_eq_true k1) (of_decide_eq_true k2))
    · exact decide_eq_false (cmpL_ntrans _ _ _ (of_decide_eq_false k1) (of_decide_eq_false k2))
  have hcon := AnyQ.slices_SortFunc Ytkidohohiihbaaa.sortG 2 (fun w => by kernel_rfl) (fun w => by kernel_rfl) enc (fun x => by rw [henc]; rfl) (fun x v hv => by rw [henc] at hv; simp at hv; rcases hv with rfl | rfl <;> rfl) _ hO 144 #[] g 0 cap d w (enters_of Try.func144 (by kernel_rfl) rfl) hcmp hH hgl (by omega)
  rw [hds] at hcon
  refine hcon.mono ?_
  rintro e w' ⟨rfl, d', q, os, hp, hs, rfl⟩
  obtain ⟨hp1, _, hp3⟩ := hp
  have hds' : d'.size = m + 1 := by omega
  have hpl : d'.toList.Perm d.toList := by
    have e1 : (d'.extract 0 (m + 1)) = d' := by have e9 := Array.extract_size (xs := d'); rwa [hds'] at e9
    have e2 : (d.extract 0 (m + 1)) = d := by have e9 := Array.extract_size (xs := d); rwa [hds] at e9
    rwa [e1, e2] at hp3
  have hnd : d'.toList.Nodup := by
    refine hpl.nodup_iff.2 ?_
    rw [hd]
    show List.Pairwise (fun x y => x ≠ y) (List.ofFn fun j : Fin (m + 1) => j)
    rw [List.pairwise_iff_getElem]
    intro i j hi hj hij e
    rw [List.getElem_ofFn, List.getElem_ofFn] at e
    have := congrArg Fin.val e
    simp only at this
    omega
  have hlt : ∀ i, ordF d' i < m + 1 := fun i => (d'[i]!).isLt
  have hinj : ∀ i j, i < m + 1 → j < m + 1 → i ≠ j → ordF d' i ≠ ordF d' j := fun i j hi hj hne e => by
    unfold ordF at e
    have e2 := Fin.ext e
    rw [getElem!_pos d' i (by omega), getElem!_pos d' j (by omega)] at e2
    have := (List.getElem_inj (h₀ := by simpa using (show i < d'.size by omega)) (h₁ := by simpa using (show j < d'.size by omega)) hnd).1 (by simpa using e2)
    exact hne this
  have hLd : ∀ (e : Array (Fin (m + 1))), e.size = m + 1 → ((List.range (m + 1)).map fun i => rw_ L (ordF e i)) = e.toList.map fun j => rw_ L j.val := fun e he => by
    refine List.ext_getElem? fun i => ?_
    by_cases hi : i < m + 1
    · rw [List.getElem?_map, List.getElem?_map, List.getElem?_range hi, Array.getElem?_toList, Array.getElem?_eq_getElem (by omega)]
      show some (rw_ L (ordF e i)) = some (rw_ L _)
      unfold ordF
      rw [getElem!_pos e i (by omega)]
    · rw [List.getElem?_eq_none (by simp; omega), List.getElem?_eq_none (by simp; omega)]
  have hc := sortWorldK_chg enc 2 w g 0 q d' os
  refine ⟨rfl, (List.range (m + 1)).map (fun i => rw_ L (ordF d' i)), fun i => A (ordF d' i), fun i => C (ordF d' i), ?_, ?_, ⟨by simp, ?_, fun i hi => ?_, fun i j hi hj hne => h.ap _ _ (hlt i) (hlt j) (hinj i j hi hj hne), fun i hi => h.apo _ (hlt i)⟩, hc⟩
  · have e0 : L = (List.range (m + 1)).map fun i => rw_ L (ordF d i) := by
      have := range_rows L h.len
      rw [← this]
      refine List.map_congr_left fun i hi => ?_
      have hi' : i < m + 1 := by simpa using hi
      rw [this, hdi i hi']
    rw [hLd d' hds']
    have e1 : L = d.toList.map fun j => rw_ L j.val := by rw [← hLd d hds]; exact e0
    conv => rhs; rw [e1]
    exact hpl.map _
  · rw [List.pairwise_iff_getElem]
    intro i j hi hj hij
    have hj' : j < m + 1 := by simpa using hj
    have hi' : i < m + 1 := by omega
    have := hs i j (Nat.zero_le _) hij (by omega)
    unfold ltOf at this
    rw [decide_eq_false_iff_not] at this
    simp only [List.getElem_map, List.getElem_range]
    exact this
  · refine ⟨by rw [abVals_len], .inr ⟨g, cap, putCells id 0 (flatK enc 2 d') cur, rfl, hg, ?_, h1, h2, ?_, ?_⟩⟩
    · have : (sortWorldK enc 2 w g 0 q d' os).heap = w.heap.modify g (onCells (putCells id 0 (flatK enc 2 d'))) ++ os := rfl
      rw [this, Array.getElem?_append_left (by simpa using hgl), Array.getElem?_modify, if_pos rfl, hh]
      rfl
    · simp [putCells, h3]
    · rw [putCells_list _ _ _ (by rw [size_flatK, hds', h3]; omega), List.map_id, List.take_append_of_le_length (by simp [hds']), henc, flat_ab L A C d' hds', List.take_of_length_le (by rw [abVals_len]; exact Nat.le_refl _)]
  · have e : rw_ ((List.range (m + 1)).map fun i => rw_ L (ordF d' i)) i = rw_ L (ordF d' i) := by simp [rw_, hi]
    rw [e]
    exact (h.row _ (hlt i)).kept hc (fun p hp e2 => h.apo _ (hlt i) ⟨g, 0, none⟩ p rfl hp e2.symm)
end Go.Proofs.Ytkidohohiihbaaa
