/- The library's sort of matrices by their entries, read row by row. -/
import Derived.Test.YtpkdgemnddcefaaMts
import Derived.Test.YtpkdgemnddcefaaSortRow
import Derived.Test.YtpkdgemnddcefaaConD
import Derived.Test.YtpkdgemnddcefaaShelfH
import Derived.Deep.RegionHeld3
import Derived.StillTailTactics
set_option linter.unusedVariables false
set_option linter.unusedSimpArgs false
namespace Go.Proofs.Ytpkdgemnddcefaa
open Go.RowKit Go.Sort Go.Shelf
/-- rows that may be compared -/
structure CmR (xs : List (List Int)) : Prop where
  one : ∀ i, i < xs.length → 1 ≤ (rw_ xs i).length
  sz : xs.length ≤ 1000
  off : offs xs xs.length ≤ 1000000
theorem flM_flat {xs : List (List Int)} {n : Nat} (h : xs.length = n) : flat xs n = flM xs := flat_all h
set_option maxHeartbeats 2000000 in
theorem cmpMt_any (a b : Option Addr) (n m ca cb : Nat) (p q r s : Int) (xs ys : List (List Int)) (w : World) (ha : RdR w a xs) (hb : RdR w b ys) (hn : xs.length = n) (hm : ys.length = m) (hx : CmR xs) (hy : CmR ys) :
    Calls Try.prog 75 #[.agg #[.int .i64 p, .int .i64 q, .slice a n ca], .agg #[.int .i64 r, .int .i64 s, .slice b m cb]] w fun e w' => e = .returned (.int .i64 (cmpL (flM xs) (flM ys))) ∧ ∃ q os', w' = Go.Sort.grow (w.drewN q) os' := by
  subst hn
  subst hm
  obtain ⟨n, hn⟩ : ∃ n, n = xs.length := ⟨_, rfl⟩
  obtain ⟨m, hm⟩ : ∃ m, m = ys.length := ⟨_, rfl⟩
  have HX := Lib.hid hx
  have HY := Lib.hid hy
  obtain ⟨W, hW⟩ : ∃ W, W = (w.alloc (.cells #[.int .i64 p, .int .i64 q, .slice a n ca] 26)).alloc (.cells #[.int .i64 r, .int .i64 s, .slice b m cb] 26) := ⟨_, rfl⟩
  have HW := Lib.hid hW
  have RA : Hid (RdR W a xs) := Lib.hid (by rw [hW]; exact (ha.alloc _).alloc _)
  have RB : Hid (RdR W b ys) := Lib.hid (by rw [hW]; exact (hb.alloc _).alloc _)
  have e1 : W.cell? ⟨w.heap.size, 2, none⟩ = some (.slice a n ca) := by rw [hW]; simp
  have e2 : W.cell? ⟨w.heap.size + 1, 2, none⟩ = some (.slice b m cb) := by rw [hW]; simp
  have l1 : w.heap.size < W.heap.size := by rw [hW]; simp; omega
  have l2 : w.heap.size + 1 < W.heap.size := by rw [hW]; simp
  have HG : Hid (∀ w', Below W.heap.size W w' → W.drawn ≤ w'.drawn → ∃ q os', w' = Go.Sort.grow (w.drewN q) os') := Lib.hid (fun w' h1 h2 => by
    have hb0 : Below w.heap.size w W := by rw [hW]; exact ((Below.refl _ _).alloc (Nat.le_refl _) _).alloc (by simp) _
    refine grow_of (hb0.trans (h1.mono hb0.size)) (Nat.le_trans ?_ h2)
    rw [hW]; exact Nat.le_refl _)
  have HNA := Lib.hid hn.symm
  have HNB := Lib.hid hm.symm
  rw [← hn, ← hm]
  clear hn hm ha hb hx hy
  go_enter Try.func75, Try.ntmps75
  go_wp2_with fail
  rw [← hW]
  clear hW
  obtain ⟨b1, hb1⟩ : ∃ x, x = w.heap.size := ⟨_, rfl⟩
  rw [← hb1] at e1 e2 l1 l2 ⊢
  clear hb1
  go_region_held3 (fun w' => w'.cell? ⟨b1, 2, none⟩ = some (.slice a n ca) ∧ w'.cell? ⟨b1 + 1, 2, none⟩ = some (.slice b m cb)) (first | exact ⟨e1, e2⟩ | exact ⟨e1A, e2A⟩ | exact ⟨e1B, e2B⟩)
    (first
      | (go_at_call 77; ((with_reducible refine (concat_anyD a n ca xs _ ?_ HNA.out ?_ ?_ ?_).mono ?_); (first | exact RA.out | exact RA.out.keep HBB.out.1 (Nat.le_refl _)); (have := HX.out.sz; have := HNA.out; omega); (have := HX.out.off; rw [HNA.out] at this; omega); (intro i hi; exact HX.out.one i (by rw [HNA.out]; exact hi)); rintro e wA ⟨aA, cA, rfl, hoA, hbA, hdA⟩; have HAA : Hid (Below W.heap.size W wA ∧ W.drawn ≤ wA.drawn) := Lib.hid (by first | exact ⟨⟨hbA.os, hbA.tape, hbA.output, hbA.size, hbA.block⟩, Nat.le_trans (Nat.le_succ _) hdA⟩ | exact ⟨HBB.out.1.trans (hbA.mono HBB.out.1.size), Nat.le_trans HBB.out.2 hdA⟩); have HAR := Lib.hid hoA.rd; have HAB := Lib.hid hbA; have e1A := cell_below e1 HAA.out.1; have e2A := cell_below e2 HAA.out.1; clear hoA hbA hdA))
      | (go_at_call 77; ((with_reducible refine (concat_anyD b m cb ys _ ?_ HNB.out ?_ ?_ ?_).mono ?_); (first | exact RB.out | exact RB.out.keep HAA.out.1 (Nat.le_refl _)); (have := HY.out.sz; have := HNB.out; omega); (have := HY.out.off; rw [HNB.out] at this; omega); (intro i hi; exact HY.out.one i (by rw [HNB.out]; exact hi)); rintro e wB ⟨aB, cB, rfl, hoB, hbB, hdB⟩; have HBB : Hid (Below W.heap.size W wB ∧ W.drawn ≤ wB.drawn) := Lib.hid (by first | exact ⟨⟨hbB.os, hbB.tape, hbB.output, hbB.size, hbB.block⟩, Nat.le_trans (Nat.le_succ _) hdB⟩ | exact ⟨HAA.out.1.trans (hbB.mono HAA.out.1.size), Nat.le_trans HAA.out.2 hdB⟩); have HBR := Lib.hid hoB.rd; have HBL := Lib.hid hbB; have e1B := cell_below e1 HBB.out.1; have e2B := cell_below e2 HBB.out.1; clear hoB hbB hdB))
      | (go_at_call 76; ((with_reducible refine (compareL_any aA aB (offs xs n) (offs ys m) cA cB (flat xs n) (flat ys m) _ ?_ ?_ ?_ ?_ ?_ ?_).mono ?_); (first | exact HAR.out | exact HAR.out.keep HBL.out (Nat.le_refl _)); (first | exact HBR.out | exact HBR.out.keep HAB.out (Nat.le_refl _)); exact flat_len _ _; exact flat_len _ _; (have := HX.out.off; rw [HNA.out] at this; omega); (have := HY.out.off; rw [HNB.out] at this; omega); rintro e wC ⟨rfl, rfl⟩)))
  all_goals
    go_wp2_with fail
    go_ret
    refine ⟨by rw [← flM_flat HNA.out, ← flM_flat HNB.out]; rfl, ?_⟩
    first
      | exact HG.out _ HBB.out.1 HBB.out.2
      | exact HG.out _ HAA.out.1 HAA.out.2
/-! ### the sort -/
theorem sortWorldK_chg {α : Type} [Inhabited α] (enc : α → List Value) (k : Nat) (w : World) (blk off m : Nat) (dk : Array α) (os : Array Obj) : Chg (fun j => j = blk) w (sortWorldK enc k w blk off m dk os) :=
  sortWorld_chg id w blk off m (flatK enc k dk) os
/-- the matrices' order of places -/
def ordF {n : Nat} [Inhabited (Fin n)] (d : Array (Fin n)) (i : Nat) : Nat := (d[i]!).val
theorem range_mts (L : List (List (List Int))) {n : Nat} (h : L.length = n) : (List.range n).map (mx_ L) = L := by
  subst h
  refine mts_ext (by simp) fun i hi => ?_
  have hi' : i < L.length := by simpa using hi
  simp [mx_, hi']
theorem flat_mt (L : List (List (List Int))) (A : Nat → Option Addr) (C : Nat → Nat) (p q : Int) {m : Nat} (d : Array (Fin (m + 1))) {n : Nat} (hd : d.size = n) :
    (flatK (fun j : Fin (m + 1) => [.int .i64 p, .int .i64 q, .slice (A j) (mx_ L j).length (C j)]) 3 d).toList = mtVals (fun _ => p) (fun _ => q) ((List.range n).map fun i => mx_ L (ordF d i)) (fun i => A (ordF d i)) (fun i => C (ordF d i)) n := by
  subst hd
  refine List.ext_getElem? fun t => ?_
  by_cases ht : t < d.size * 3
  · have e1 : (flatK (fun j : Fin (m + 1) => [.int .i64 p, .int .i64 q, .slice (A j) (mx_ L j).length (C j)]) 3 d).toList[t]? = some ((fun j : Fin (m + 1) => [(.int .i64 p : Value), .int .i64 q, .slice (A j) (mx_ L j).length (C j)]) d[t / 3]!)[t % 3]! := by
      rw [Array.getElem?_toList, Array.getElem?_eq_getElem (by simpa using ht)]
      congr 1
      rw [← getElem!_pos (flatK (fun j : Fin (m + 1) => [.int .i64 p, .int .i64 q, .slice (A j) (mx_ L j).length (C j)]) 3 d) t (by simpa using ht)]
      exact get_flatK _ _ _ t ht
    have hi : t / 3 < d.size := by omega
    have er : mx_ ((List.range d.size).map fun i => mx_ L (ordF d i)) (t / 3) = mx_ L (ordF d (t / 3)) := by simp [mx_, hi]
    rw [e1]
    have e2 := mtVals_at (P := fun _ => p) (Q := fun _ => q) (L := (List.range d.size).map fun i => mx_ L (ordF d i)) (A := fun i => A (ordF d i)) (C := fun i => C (ordF d i)) (t := t % 3) (by omega) hi
    rw [show t / 3 * 3 + t % 3 = t by omega, er] at e2
    rw [e2]
    rcases (show t % 3 = 0 ∨ t % 3 = 1 ∨ t % 3 = 2 by omega) with h | h | h <;> rw [h] <;> rfl
  · rw [List.getElem?_eq_none (by simp; omega), List.getElem?_eq_none (by rw [mtVals_len]; omega)]
theorem sortMt_any (T1 T2 : TypeId) (B g m cap : Nat) (p q : Int) (L : List (List (List Int))) (A : Nat → Option Addr) (C : Nat → Nat) (AA : Nat → Nat → Option Addr) (CC : Nat → Nat → Nat) (lo hi : Nat → Nat) (w : World) (h : OwnM 26 T1 T2 w B (some ⟨g, 0, none⟩) (m + 1) cap (fun _ => p) (fun _ => q) L A C AA CC lo hi) (hm : m ≤ 1000000) (hx : ∀ i, i < m + 1 → CmR (mx_ L i)) :
    Calls Try.prog 74 #[.slice (some ⟨g, 0, none⟩) (m + 1) cap, .func (.func 75) #[] #[]] w fun e w' => e = .returned (.tuple #[]) ∧
      ∃ (L' : List (List (List Int))) (A' : Nat → Option Addr) (C' : Nat → Nat) (AA' : Nat → Nat → Option Addr) (CC' : Nat → Nat → Nat) (lo' hi' : Nat → Nat), L'.Perm L ∧ SortedM L' ∧ OwnM 26 T1 T2 w' B (some ⟨g, 0, none⟩) (m + 1) cap (fun _ => p) (fun _ => q) L' A' C' AA' CC' lo' hi' ∧ Chg (fun k => k = g) w w' := by
  obtain ⟨g', cur, ha, hg, hh, h1, h2, h3, h4⟩ : ∃ g' cur, (some ⟨g, 0, none⟩ : Option Addr) = some ⟨g', 0, none⟩ ∧ B ≤ g' ∧ w.heap[g']? = some (.cells cur 26 (0, 0)) ∧ m + 1 ≤ cap ∧ cap ≤ maxLen ∧ cur.size = cap * 3 ∧ cur.toList.take ((m + 1) * 3) = mtVals (fun _ => p) (fun _ => q) L A C (m + 1) := by
    rcases ownsK_cases (by omega) h.own with ⟨hx, _⟩ | hx
    · cases hx
    · exact hx
  injection ha with e; injection e with e1; subst e1
  have hgl : g < w.heap.size := (Array.getElem?_eq_some_iff.1 hh).1
  have hout := h.out _ rfl
  simp at hout
  obtain ⟨enc, henc⟩ : ∃ enc : Fin (m + 1) → List Value, enc = fun j => [.int .i64 p, .int .i64 q, .slice (A j) (mx_ L j).length (C j)] := ⟨_, rfl⟩
  obtain ⟨d, hd⟩ : ∃ d : Array (Fin (m + 1)), d = (List.ofFn fun j : Fin (m + 1) => j).toArray := ⟨_, rfl⟩
  have hds : d.size = m + 1 := by rw [hd]; simp
  have hdi : ∀ i, i < m + 1 → ordF d i = i := fun i hi => by
    unfold ordF
    rw [getElem!_pos d i (by omega)]
    subst hd
    rw [List.getElem_toArray, List.getElem_ofFn]
  have hfl : (flatK enc 3 d).toList = mtVals (fun _ => p) (fun _ => q) L A C (m + 1) := by
    rw [henc, flat_mt L A C p q d hds]
    refine mtVals_congr fun i hi => ⟨rfl, rfl, ?_, ?_, ?_⟩
    · simp [mx_, hi, hdi i hi]
    · show A (ordF d i) = A i; rw [hdi i hi]
    · show C (ordF d i) = C i; rw [hdi i hi]
  have hH : HoldsK enc 3 w g 0 d := by
    intro t ht
    have ht' : t < (m + 1) * 3 := by simp at ht; omega
    have e : cur[t]? = some (flatK enc 3 d)[t]! := by
      have e1 : (cur.toList.take ((m + 1) * 3))[t]? = (flatK enc 3 d).toList[t]? := by rw [h4, hfl]
      rw [List.getElem?_take, if_pos ht', Array.getElem?_toList, Array.getElem?_toList, Array.getElem?_eq_getElem ht] at e1
      rw [e1, getElem!_pos _ t ht]
    refine ⟨?_, ?_⟩
    · rw [Nat.zero_add, wr_cell hh, e]; rfl
    · exact wr_frozen hh
  have hcmp : CmpLays Try.prog 75 #[] enc 3 (fun x y : Fin (m + 1) => cmpL (flM (mx_ L x)) (flM (mx_ L y))) g 0 d.size w := by
    intro q1 os dk hs x y
    have hc := sortWorldK_chg enc 3 w g 0 q1 dk os
    have hr : ∀ z : Fin (m + 1), RdR (sortWorldK enc 3 w g 0 q1 dk os) (A z) (mx_ L z) := fun z =>
      ((h.row z.val z.isLt).same (fun p' hp => hc.block _ (ownsRow_block (h.row z.val z.isLt).own p' hp).2 (fun e => by have q2 := (ownsRow_block (h.row z.val z.isLt).own p' hp).1; have q3 := h.hiA z.val z.isLt p' hp; have := hout z.val z.isLt; omega)) (fun t ht p' hp => hc.block _ (((h.row z.val z.isLt).row t ht).block p' hp).2 (fun e => by have q2 := (((h.row z.val z.isLt).row t ht).block p' hp).1; have q3 := h.hiR z.val z.isLt t ht p' hp; have := hout z.val z.isLt; omega))).rd
    have := cmpMt_any (A x) (A y) (mx_ L x).length (mx_ L y).length (C x) (C y) p q p q (mx_ L x) (mx_ L y) _ (hr x) (hr y) rfl rfl (hx x x.isLt) (hx y y.isLt)
    subst henc
    exact this
  have hO : SWO (ltOf fun x y : Fin (m + 1) => cmpL (flM (mx_ L x)) (flM (mx_ L y))) := by
    refine ⟨fun x => ?_, fun x y z k1 k2 => ?_, fun x y z k1 k2 => ?_⟩
    · show decide (cmpL (flM (mx_ L x)) (flM (mx_ L x)) < 0) = false; rw [cmpL_self]; decide
    · exact decide_eq_true (cmpL_trans _ _ _ (of_decide_eq_true k1) (of_decide_eq_true k2))
    · exact decide_eq_false (cmpL_ntrans _ _ _ (of_decide_eq_false k1) (of_decide_eq_false k2))
  have hcon := AnyQ.slices_SortFunc Ytpkdgemnddcefaa.sortG 3 (fun w => by kernel_rfl) (fun w => by kernel_rfl) enc (fun x => by rw [henc]; rfl) (fun x v hv => by rw [henc] at hv; simp at hv; rcases hv with rfl | rfl | rfl <;> rfl) _ hO 75 #[] g 0 cap d w (enters_of Try.func75 (by kernel_rfl) rfl) hcmp hH hgl (by omega)
  rw [hds] at hcon
  refine hcon.mono ?_
  rintro e w' ⟨rfl, d', q1, os, hp, hs, rfl⟩
  obtain ⟨hp1, _, hp3⟩ := hp
  have hds' : d'.size = m + 1 := by omega
  have hpl : d'.toList.Perm d.toList := by
    have e1 : (d'.extract 0 (m + 1)) = d' := by have e9 := Array.extract_size (xs := d'); rwa [hds'] at e9
    have e2 : (d.extract 0 (m + 1)) = d := by have e9 := Array.extract_size (xs := d); rwa [hds] at e9
    rwa [e1, e2] at hp3
  have hnd : d'.toList.Nodup := by
    refine hpl.nodup_iff.2 ?_
    rw [hd]
    show List.Pairwise (fun x y => x ≠ y) (List.ofFn fun j : Fin (m + 1) => j)
    rw [List.pairwise_iff_getElem]
    intro i j hi hj hij e
    rw [List.getElem_ofFn, List.getElem_ofFn] at e
    have := congrArg Fin.val e
    simp only at this
    omega
  have hlt : ∀ i, ordF d' i < m + 1 := fun i => (d'[i]!).isLt
  have hinj : ∀ i j, i < m + 1 → j < m + 1 → i ≠ j → ordF d' i ≠ ordF d' j := fun i j hi hj hne e => by
    unfold ordF at e
    have e2 := Fin.ext e
    rw [getElem!_pos d' i (by omega), getElem!_pos d' j (by omega)] at e2
    have := (List.getElem_inj (h₀ := by simpa using (show i < d'.size by omega)) (h₁ := by simpa using (show j < d'.size by omega)) hnd).1 (by simpa using e2)
    exact hne this
  have hLd : ∀ (e : Array (Fin (m + 1))), e.size = m + 1 → ((List.range (m + 1)).map fun i => mx_ L (ordF e i)) = e.toList.map fun j => mx_ L j.val := fun e he => by
    refine List.ext_getElem? fun i => ?_
    by_cases hi : i < m + 1
    · rw [List.getElem?_map, List.getElem?_map, List.getElem?_range hi, Array.getElem?_toList, Array.getElem?_eq_getElem (by omega)]
      show some (mx_ L (ordF e i)) = some (mx_ L _)
      unfold ordF
      rw [getElem!_pos e i (by omega)]
    · rw [List.getElem?_eq_none (by simp; omega), List.getElem?_eq_none (by simp; omega)]
  have hc := sortWorldK_chg enc 3 w g 0 q1 d' os
  have er : ∀ i, i < m + 1 → mx_ ((List.range (m + 1)).map fun i => mx_ L (ordF d' i)) i = mx_ L (ordF d' i) := fun i hi => by simp [mx_, hi]
  refine ⟨rfl, (List.range (m + 1)).map (fun i => mx_ L (ordF d' i)), fun i => A (ordF d' i), fun i => C (ordF d' i), fun i => AA (ordF d' i), fun i => CC (ordF d' i), fun i => lo (ordF d' i), fun i => hi (ordF d' i), ?_, ?_, ⟨by simp, ?_, fun i hi' => ?_, fun i hi' p' hp => h.hiA _ (hlt i) p' hp, fun i hi' j hj p' hp => ?_, fun i hi' => ?_, fun i j hi' hj hne => h.dis _ _ (hlt i) (hlt j) (hinj i j hi' hj hne), fun p' hp i hi' => h.out p' hp _ (hlt i)⟩, hc⟩
  · have e0 : L = (List.range (m + 1)).map fun i => mx_ L (ordF d i) := by
      have := range_mts L h.len
      rw [← this]
      refine List.map_congr_left fun i hi => ?_
      have hi' : i < m + 1 := by simpa using hi
      rw [this, hdi i hi']
    rw [hLd d' hds']
    have e1 : L = d.toList.map fun j => mx_ L j.val := by rw [← hLd d hds]; exact e0
    conv => rhs; rw [e1]
    exact hpl.map _
  · unfold SortedM
    rw [List.pairwise_iff_getElem]
    intro i j hi hj hij
    have hj' : j < m + 1 := by simpa using hj
    have hi' : i < m + 1 := by omega
    have := hs i j (Nat.zero_le _) hij (by omega)
    unfold ltOf at this
    rw [decide_eq_false_iff_not] at this
    simp only [List.getElem_map, List.getElem_range]
    exact this
  · refine ⟨by rw [mtVals_len], .inr ⟨g, cap, putCells id 0 (flatK enc 3 d') cur, rfl, hg, ?_, h1, h2, ?_, ?_⟩⟩
    · have : (sortWorldK enc 3 w g 0 q1 d' os).heap = w.heap.modify g (onCells (putCells id 0 (flatK enc 3 d'))) ++ os := rfl
      rw [this, Array.getElem?_append_left (by simpa using hgl), Array.getElem?_modify, if_pos rfl, hh]
      rfl
    · simp [putCells, h3]
    · rw [putCells_list _ _ _ (by rw [size_flatK, hds', h3]; omega), List.map_id, List.take_append_of_le_length (by simp [hds']), henc, flat_mt L A C p q d' hds', List.take_of_length_le (by rw [mtVals_len]; exact Nat.le_refl _)]
  · rw [er i hi']
    have ho := h.row _ (hlt i)
    have := hout _ (hlt i)
    exact ho.kept hc (fun p' hp e2 => by have q2 := (ownsRow_block ho.own p' hp).1; have q3 := h.hiA _ (hlt i) p' hp; omega) (fun t ht p' hp e2 => by have q2 := ((ho.row t ht).block p' hp).1; have q3 := h.hiR _ (hlt i) t ht p' hp; omega)
  · rw [er i hi'] at hj; exact h.hiR _ (hlt i) j hj p' hp
  · have := h.bl _ (hlt i); have := hc.size; omega
end Go.Proofs.Ytpkdgemnddcefaa
