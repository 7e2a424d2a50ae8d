/- Rows of the identity matrix, copies of rows, and the makers of matrices. -/
import Derived.Test.YtngikcjdhbflkaaMatIs
import Derived.Test.YtngikcjdhbflkaaConcat
import Derived.Test.YtngikcjdhbflkaaPush
import Derived.Test.YtngikcjdhbflkaaRed
set_option linter.unusedVariables false
set_option linter.unusedSimpArgs false
namespace Go.Proofs.Ytngikcjdhbflkaa
open Go.RowKit

/-! ### a row of the call's own that is written -/
theorem OwnI.frozen {T : TypeId} {w : World} {B g n cap : Nat} {xs : List Int} (h : OwnI T w B (some ⟨g, 0, Option.none⟩) n cap xs) (i : Nat) : w.frozen? ⟨g, i, Option.none⟩ = false := by
  rcases h.cases with ⟨h1, _⟩ | ⟨g', cur, h1, h2, h3, _⟩
  · cases h1
  · injection h1 with e; injection e with e1; subst e1
    exact wr_frozen h3
theorem OwnI.cellAt {T : TypeId} {w : World} {B g n cap : Nat} {xs : List Int} (h : OwnI T w B (some ⟨g, 0, Option.none⟩) n cap xs) {i : Nat} (hi : i < n) : w.cell? ⟨g, i, Option.none⟩ = some (.int .i64 (el xs i)) := by
  obtain ⟨b, o, ha, hc⟩ := h.rd (by rw [h.len]; omega)
  injection ha with e; injection e with e1 e2; subst e1; subst e2
  have := hc i (by rw [h.len]; exact hi)
  rwa [Nat.zero_add] at this
theorem el_set {xs : List Int} {k i : Nat} {v : Int} (hk : k < xs.length) : el (xs.set k v) i = if i = k then v else el xs i := by
  unfold el
  rw [List.getElem?_set]
  by_cases h : k = i
  · subst h; rw [if_pos rfl, if_pos rfl, if_pos hk]; rfl
  · rw [if_neg h, if_neg (fun e => h e.symm)]
theorem OwnI.set {T : TypeId} {w : World} {B g n cap k : Nat} {xs : List Int} (h : OwnI T w B (some ⟨g, 0, Option.none⟩) n cap xs) (hk : k < n) (v : Int) :
    OwnI T (w.setCell ⟨g, k, Option.none⟩ (.int .i64 v)) B (some ⟨g, 0, Option.none⟩) n cap (xs.set k v) := by
  have hl := h.len
  rcases h.cases with ⟨h1, _⟩ | ⟨g', cur, h1, h2, h3, h4, h5, h6, h7⟩
  · cases h1
  · injection h1 with e; injection e with e1; subst e1
    refine ⟨by simp [hl], .inr ⟨g, cap, _, rfl, h2, wr_setCell h3 _, h4, h5, by simpa using h6, ?_⟩⟩
    rw [Nat.mul_one]
    refine List.ext_getElem? fun i => ?_
    rw [List.map_set, List.getElem?_take, List.getElem?_set]
    have hx : ∀ j, j < n → cur[j]? = (xs.map (Value.int .i64))[j]? := fun j hj => by
      rw [← h7, List.getElem?_take, if_pos hj, Array.getElem?_toList]
    by_cases hi : i < n
    · rw [if_pos hi, Array.getElem?_toList, Array.getElem?_setIfInBounds]
      by_cases hki : k = i
      · subst hki
        rw [if_pos rfl, if_pos (by omega), if_pos rfl, if_pos (by simp; omega)]
      · rw [if_neg hki, if_neg hki, hx i hi]
    · rw [if_neg hi]
      by_cases hki : k = i
      · omega
      · rw [if_neg hki, List.getElem?_eq_none (by simp; omega)]
theorem OwnI.made (w : World) (T : TypeId) (n : Nat) (hn : n ≤ maxLen) : OwnI T (w.alloc (.cells (madeCells #[.int .i64 0] n) T)) w.heap.size (some ⟨w.heap.size, 0, Option.none⟩) n n (tab n (fun _ => 0)) := by
  refine ⟨by simp [tab], .inr ⟨w.heap.size, n, _, rfl, Nat.le_refl _, heap_alloc_new w _, Nat.le_refl _, hn, by simp [size_madeCells], ?_⟩⟩
  rw [Nat.mul_one, toList_madeCells_one, List.take_of_length_le (by simp)]
  refine List.ext_getElem? fun i => ?_
  by_cases hi : i < n
  · simp [tab, hi]
  · simp [tab, hi]
/-- the row with 1 at one place -/
def unitR (n k : Nat) : List Int := tab n fun j => if j = k then 1 else 0
def unitRs (n : Nat) : List (List Int) := tab n (unitR n)
theorem set_unit {n k : Nat} : (tab n (fun _ => (0 : Int))).set k 1 = unitR n k := by
  refine list_ext (by simp [unitR, tab]) fun i hi => ?_
  have hi' : i < n := by simpa [tab] using hi
  unfold unitR
  rw [el_tab hi']
  by_cases hk : k < n
  · rw [el_set (by rw [tab_len]; exact hk), el_tab hi']
  · rw [List.set_eq_of_length_le (by rw [tab_len]; omega), el_tab hi', if_neg (by omega)]
theorem unitR_len (n k : Nat) : (unitR n k).length = n := tab_len _ _
theorem unitRs_len (n : Nat) : (unitRs n).length = n := tab_len _ _
theorem unitRs_row {n i : Nat} (h : i < n) : rw_ (unitRs n) i = unitR n i := rw_tab h
theorem take_row2 {A : List (List Int)} {j : Nat} (h : j < A.length) : A.take (j + 1) = A.take j ++ [rw_ A j] := by
  rw [List.take_add_one, rw_get h]; rfl

/-! ### a box known whole -/
def BX (T : TypeId) (w : World) (b : Nat) (vs : Array Value) : Prop := w.heap[b]? = some (.cells vs T (0, 0))
section
variable {T : TypeId} {w w' : World} {b : Nat} {vs : Array Value}
theorem BX.lt (h : BX T w b vs) : b < w.heap.size := (Array.getElem?_eq_some_iff.1 h).1
theorem BX.cell (h : BX T w b vs) (i : Nat) : w.cell? ⟨b, i, none⟩ = vs[i]? := wr_cell h
theorem BX.frz (h : BX T w b vs) (i : Nat) : w.frozen? ⟨b, i, none⟩ = false := wr_frozen h
theorem BX.keep (h : BX T w b vs) (hb : Below w.heap.size w w') : BX T w' b vs := (hb.block b h.lt).trans h
theorem BX.chg {S : Nat → Prop} (h : BX T w b vs) (hc : Chg S w w') (hs : ¬ S b) : BX T w' b vs := (hc.block b h.lt hs).trans h
theorem BX.set (h : BX T w b vs) (i : Nat) (v : Value) : BX T (w.setCell ⟨b, i, none⟩ v) b (vs.setIfInBounds i v) := wr_setCell h v
theorem BX.other (h : BX T w b vs) {p : Addr} (hp : p.block ≠ b) (v : Value) : BX T (w.setCell p v) b vs := (Below.heap_setCell _ _ _ _ (fun e => hp e.symm)).trans h
theorem BX.new (w : World) (T : TypeId) (vs : Array Value) : BX T (w.alloc (.cells vs T)) w.heap.size vs := heap_alloc_new w _
theorem BX.alloc (h : BX T w b vs) (o : Obj) : BX T (w.alloc o) b vs := (Below.heap_alloc _ _ _ h.lt).trans h
end

set_option maxHeartbeats 1000000 in
theorem l01Own_any (a : Option Addr) (n c : Nat) (xs : List Int) (w : World) (ha : RdI w a xs) (hl : xs.length = n) (hn : n ≤ 1048576) :
    Calls Try.prog 98 #[.slice a n c] w fun e w' => ∃ a' c', e = .returned (.slice a' n c') ∧ OwnI 2 w' w.heap.size a' n c' xs ∧ Below w.heap.size w w' := by
  have HA := Lib.hid ha
  have HL := Lib.hid hl
  clear ha hl
  go_enter Try.func98, Try.ntmps98
  go_wp2_with (at_builtin; refine wpList_appS rfl (.tmp 3) (.tmp 4) 38 rfl w.heap.size 2 (.int .i64 0) 8 Try.underlying38 Try.info2 rfl (by decide) _ _ _ _ rfl _ _ _ rfl (by exact OwnI.empty w _) (xs.map (Value.int .i64)) (by rw [List.length_map]; exact HL.out) (by exact (HA.out.alloc _).vals) (map_one _) (by omega) (by simp) ?_; rintro a4 c4 w4 r4 q4 g4; rw [Nat.zero_add] at r4 ⊢; have R4 := Lib.hid r4; have G4 := Lib.hid g4; clear r4 q4 g4)
  go_ret
  exact ⟨a4, c4, rfl, by have := R4.out; simpa [OwnI] using this, ((Below.refl _ _).alloc (Nat.le_refl _) _).trans (G4.out.below (by simp) (fun m hm hx => by obtain ⟨x, hx, e⟩ := hx; injection hx with hx; subst hx; simp at e; omega))⟩

set_option maxHeartbeats 1000000 in
theorem l01Own2_any (a : Option Addr) (n c : Nat) (xss : List (List Int)) (w : World) (ha : RdR w a xss) (hl : xss.length = n) (hx : ∀ i, i < n → (rw_ xss i).length ≤ 1048576) (hn : n ≤ 1048576) :
    Calls Try.prog 79 #[.slice a n c] w fun e w' => ∃ a' c', e = .returned (.slice a' n c') ∧ MadeR 38 2 w' w.heap.size a' n c' xss ∧ Below w.heap.size w w' := by
  have HA := Lib.hid ha
  have HL := Lib.hid hl
  have HX := Lib.hid hx
  clear ha hl hx
  go_enter Try.func79, Try.ntmps79
  go_wp2
  go_loopw [4, 3] (fun i v wr => ∃ (j : Nat) (a1 : Option Addr) (c1 : Nat) (A : Nat → Option Addr) (C : Nat → Nat), j ≤ n ∧ i = .int .i64 j ∧ v = .slice a1 j c1 ∧ Hid (OwnR 38 2 wr w.heap.size a1 j c1 (xss.take j) A C ∧ Below w.heap.size w wr)) (fun i _ _ => n - (intOf i).toNat)
  case atStart => exact ⟨0, _, 0, fun _ => none, fun _ => 0, Nat.zero_le _, rfl, rfl, Lib.hid ⟨by simpa using OwnR.empty w _ _ _ _, (Below.refl _ _).alloc (Nat.le_refl _) _⟩⟩
  case round =>
    obtain ⟨j, a1, c1, A, C, hj, rfl, rfl, HJ⟩ := hrel
    obtain ⟨wi, rfl⟩ : ∃ x, x = wr := ⟨wr, rfl⟩
    by_cases hjt : j < n
    · obtain ⟨b, o, rfl, hc⟩ := (HA.out.keep HJ.out.2 (Nat.le_refl _)) (by rw [HL.out]; omega)
      obtain ⟨aj, cj, dj, rj, _⟩ := hc j (by rw [HL.out]; exact hjt)
      have R := Lib.hid rj
      have hxj := HX.out j hjt
      have hsz := HJ.out.2.size
      clear hc rj
      go_wp2_with (first
        | (go_at_call 98; refine (l01Own_any _ _ _ (rw_ xss j) _ (by exact R.out) rfl hxj).mono ?_; rintro e w' ⟨ar, cr, rfl, ho, hb⟩; have HO := Lib.hid ho; have HBo := Lib.hid hb; have sb := hb.size; clear ho hb)
        | (at_builtin; refine wpList_push rfl (.tmp 12) (.tmp 18) 22 rfl w.heap.size 38 (.slice none 0 0) 24 Try.underlying22 Try.infoR rfl (by decide) (.slice ar (rw_ xss j).length cr) rfl _ _ _ _ rfl rfl (by exact (HJ.out.1.keep HBo.out (Nat.le_refl _)).own) (by omega) (by exact Nat.le_trans hsz sb) ?_; rintro a4 c4 w4 r4 q4 g4; have HN := Lib.hid (HJ.out.1.pushNew2 hsz HBo.out HO.out (Nat.le_refl _) r4 q4 g4); clear r4 q4 g4))
      have HN2 : Hid (OwnR 38 2 w4 w.heap.size a4 (j + 1) c4 (xss.take (j + 1)) (upd A j ar) (upd C j cr) ∧ Below w.heap.size w w4) := Lib.hid ⟨by rw [take_row2 (by rw [HL.out]; exact hjt)]; exact HN.out.1, HJ.out.2.trans HN.out.2⟩
      go_roundw
      case rel => exact ⟨j + 1, a4, c4, _, _, by omega, by go_num, rfl, HN2⟩
      case measure => simp [intOf]; omega
    · obtain rfl : n = j := by omega
      have HM := Lib.hid HJ.out
      rw [List.take_of_length_le (by rw [HL.out]; omega)] at HM
      go_wp2
      go_ret
      exact ⟨a1, c1, rfl, ⟨A, C, HM.out.1⟩, HM.out.2⟩

set_option maxHeartbeats 1000000 in
theorem l02Make_any (p q : Int) (a : Option Addr) (n c : Nat) (xss : List (List Int)) (w : World) (ha : RdR w a xss) (hl : xss.length = n) (hx : ∀ i, i < n → (rw_ xss i).length ≤ 1048576) (hn : n ≤ 1048576) :
    Calls Try.prog 50 #[.int .i64 p, .int .i64 q, .slice a n c] w fun e w' => ∃ a' c', e = .returned (.agg #[.int .i64 p, .int .i64 q, .slice a' n c']) ∧ MadeR 38 2 w' w.heap.size a' n c' xss ∧ Below w.heap.size w w' := by
  have HA := Lib.hid ha
  have HL := Lib.hid hl
  have HX := Lib.hid hx
  clear ha hl hx
  go_enter Try.func50, Try.ntmps50
  go_wp2_with fail
  refine (l01Own2_any _ _ _ xss _ (by exact HA.out.alloc _) HL.out HX.out hn).mono ?_
  rintro e w1 ⟨a', c', rfl, ho, hb⟩
  have HO := Lib.hid ho
  have HB := Lib.hid hb
  obtain ⟨hc, hf⟩ := bcell hb
  have hz : w.heap.size < w1.heap.size := by have := hb.size; simp at this; omega
  clear ho hb
  go_wp2_with fail
  refine bodyPost_ret (v := .agg #[.int .i64 p, .int .i64 q, .slice a' n c']) (by simp [results, Try.results50, go_sem, hc, hz]) rfl ⟨a', c', rfl, ?_, ?_⟩
  · refine MadeR.mono (B := w.heap.size + 1) ?_ (by omega)
    exact (((HO.out.mono (by simp)).setLow _ (by first | (simp; done) | (simp; omega)) _).setLow _ (by first | (simp; done) | (simp; omega)) _).setLow _ (by first | (simp; done) | (simp; omega)) _
  · exact ((((((Below.refl _ _).alloc (Nat.le_refl _) _).trans (HB.out.mono (by simp))).setCell (by first | (simp; done) | (simp; omega)) _).setCell (by first | (simp; done) | (simp; omega)) _).setCell (by first | (simp; done) | (simp; omega)) _)

/-- what is made and then written at one place -/
theorem unit_own (w : World) (T : TypeId) {n j : Nat} (hj : j < n) (hn : n ≤ 1048576) :
    OwnI T ((w.alloc (.cells (madeCells #[.int .i64 0] n) T)).setCell ⟨w.heap.size, j, none⟩ (.int .i64 1)) w.heap.size (some ⟨w.heap.size, 0, none⟩) n n (unitR n j) := by
  have h := (OwnI.made w T n (by unfold maxLen; omega)).set hj 1
  rwa [set_unit] at h
theorem unit_own2 (w : World) (T : TypeId) {n j : Nat} (hj : j < n) (hn : n ≤ 1048576) :
    OwnI T (w.alloc (.cells ((madeCells #[.int .i64 0] n).setIfInBounds j (.int .i64 1)) T)) w.heap.size (some ⟨w.heap.size, 0, none⟩) n n (unitR n j) := by
  have h := unit_own w T hj hn
  rwa [World.setCell_alloc_at _ _ _ _ _ rfl] at h
set_option maxHeartbeats 1000000 in
theorem l02Unit_any (n : Nat) (w : World) (hn : n ≤ 1000) :
    Calls Try.prog 51 #[.int .i64 n] w fun e w' => ∃ a' c', e = .returned (.slice a' n c') ∧ MadeR 38 2 w' w.heap.size a' n c' (unitRs n) ∧ Below w.heap.size w w' := by
  go_enter Try.func51, Try.ntmps51
  go_wp2
  go_loopw [4, 3] (fun i v wr => ∃ (j : Nat) (a1 : Option Addr) (c1 : Nat) (A : Nat → Option Addr) (C : Nat → Nat), j ≤ n ∧ i = .int .i64 j ∧ v = .slice a1 j c1 ∧ Hid (OwnR 38 2 wr w.heap.size a1 j c1 ((unitRs n).take j) A C ∧ Below w.heap.size w wr)) (fun i _ _ => n - (intOf i).toNat)
  case atStart => exact ⟨0, _, 0, fun _ => none, fun _ => 0, Nat.zero_le _, rfl, rfl, Lib.hid ⟨by simpa using OwnR.empty w _ _ _ _, (Below.refl _ _).alloc (Nat.le_refl _) _⟩⟩
  case round =>
    obtain ⟨j, a1, c1, A, C, hj, rfl, rfl, HJ⟩ := hrel
    obtain ⟨wi, rfl⟩ : ∃ x, x = wr := ⟨wr, rfl⟩
    by_cases hjt : j < n
    · have hmk := run_make_row' (P := Try.prog) 38 2 (.int .i64 0) 8 Try.underlying38 Try.info2 rfl .i64 .i64 n (by omega) (by omega)
      have hsz := HJ.out.2.size
      have e1 := (OwnI.made wi 2 n (by unfold maxLen; omega)).cellAt hjt
      rw [el_tab hjt] at e1
      have e2 := (OwnI.made wi 2 n (by unfold maxLen; omega)).frozen j
      have HO := Lib.hid (unit_own2 wi 2 hjt (by omega))
      have HBo : Hid (Below wi.heap.size wi (wi.alloc (.cells ((madeCells #[.int .i64 0] n).setIfInBounds j (.int .i64 1)) 2))) := Lib.hid ((Below.refl _ _).alloc (Nat.le_refl _) _)
      go_wp2_with (at_builtin; refine wpList_pushB rfl (.tmp 17) (.tmp 19) 22 rfl w.heap.size 38 (.slice none 0 0) 24 Try.underlying22 Try.infoR rfl (by decide) (.slice (some ⟨wi.heap.size, 0, none⟩) n n) rfl _ _ _ _ _ rfl rfl (by simp) (by exact (HJ.out.1.keep HBo.out (Nat.le_refl _)).own) (by omega) (by exact Nat.le_trans hsz HBo.out.size) ?_; rintro a4 c4 w4 r4 q4 g4; have HN := Lib.hid (HJ.out.1.pushNew2 hsz HBo.out HO.out (Nat.le_refl _) r4 q4 g4); clear r4 q4 g4)
      clear hmk e1 e2
      have HN2 : Hid (OwnR 38 2 w4 w.heap.size a4 (j + 1) c4 ((unitRs n).take (j + 1)) (upd A j (some ⟨wi.heap.size, 0, none⟩)) (upd C j n) ∧ Below w.heap.size w w4) := Lib.hid ⟨by rw [take_row2 (by rw [unitRs_len]; exact hjt), unitRs_row hjt]; exact HN.out.1, HJ.out.2.trans HN.out.2⟩
      go_roundw
      case rel => exact ⟨j + 1, a4, c4, _, _, by omega, by go_num, rfl, HN2⟩
      case measure => simp [intOf]; omega
    · obtain rfl : n = j := by omega
      have HM := Lib.hid HJ.out
      rw [List.take_of_length_le (by rw [unitRs_len]; omega)] at HM
      go_wp2
      go_ret
      exact ⟨a1, c1, rfl, ⟨A, C, HM.out.1⟩, HM.out.2⟩

set_option maxHeartbeats 1000000 in
theorem identityOf_any (p : Int) (n : Nat) (w : World) (hn : n ≤ 1000) :
    Calls Try.prog 54 #[.int .i64 p, .int .i64 n] w fun e w' => ∃ a' c', e = .returned (.agg #[.int .i64 p, .int .i64 n, .slice a' n c']) ∧ MadeR 38 2 w' w.heap.size a' n c' (unitRs n) ∧ Below w.heap.size w w' := by
  go_enter Try.func54, Try.ntmps54
  go_wp2
  go_loopw [12] (fun i wr => ∃ (j : Nat) (a1 : Option Addr) (c1 : Nat) (A : Nat → Option Addr) (C : Nat → Nat), j ≤ n ∧ i = .int .i64 j ∧ Hid (BX 24 wr w.heap.size #[.int .i64 0, .int .i64 0, .slice none 0 0] ∧ BX 24 wr (w.heap.size + 1) #[.int .i64 p, .int .i64 n, .slice a1 j c1]) ∧ Hid (OwnR 38 2 wr (w.heap.size + 2) a1 j c1 ((unitRs n).take j) A C ∧ Below w.heap.size w wr ∧ w.heap.size + 2 ≤ wr.heap.size)) (fun i _ => n - (intOf i).toNat)
  case atStart =>
    refine ⟨0, none, 0, fun _ => none, fun _ => 0, Nat.zero_le _, rfl, Lib.hid ⟨?_, ?_⟩, Lib.hid ⟨by simpa using OwnR.none _ _, ?_, ?_⟩⟩
    · exact (BX.new w _ _).alloc _
    · have := BX.new (w.alloc (.cells #[.int .i64 0, .int .i64 0, .slice none 0 0] 24)) 24 #[.int .i64 p, .int .i64 n, .slice none 0 0]
      simpa using this
    · exact ((Below.refl _ _).alloc (Nat.le_refl _) _).alloc (by simp) _
    · simp
  case round =>
    obtain ⟨j, a1, c1, A, C, hj, rfl, HX, HJ⟩ := hrel
    obtain ⟨wi, rfl⟩ : ∃ x, x = wr := ⟨wr, rfl⟩
    by_cases hjt : j < n
    · have hmk := run_make_row' (P := Try.prog) 38 2 (.int .i64 0) 8 Try.underlying38 Try.info2 rfl .i64 .i64 n (by omega) (by omega)
      have hsz := HJ.out.2.2
      have e1 := (OwnI.made wi 2 n (by unfold maxLen; omega)).cellAt hjt
      rw [el_tab hjt] at e1
      have e2 := (OwnI.made wi 2 n (by unfold maxLen; omega)).frozen j
      have HO := Lib.hid (unit_own2 wi 2 hjt (by omega))
      have HBo : Hid (Below wi.heap.size wi (wi.alloc (.cells ((madeCells #[.int .i64 0] n).setIfInBounds j (.int .i64 1)) 2))) := Lib.hid ((Below.refl _ _).alloc (Nat.le_refl _) _)
      have x1 : wi.cell? ⟨w.heap.size + 1, 2, none⟩ = some (.slice a1 j c1) := HX.out.2.cell 2
      have lt1 : w.heap.size + 1 < wi.heap.size := by omega
      go_wp2_with (at_builtin; refine wpList_pushB rfl (.tmp 21) (.tmp 23) 22 rfl (w.heap.size + 2) 38 (.slice none 0 0) 24 Try.underlying22 Try.infoR rfl (by decide) (.slice (some ⟨wi.heap.size, 0, none⟩) n n) rfl _ _ _ _ _ rfl rfl (by simp) (by exact (HJ.out.1.keep HBo.out (Nat.le_refl _)).own) (by omega) (by exact Nat.le_trans hsz HBo.out.size) ?_; rintro a4 c4 w4 r4 q4 g4; have HN := Lib.hid (HJ.out.1.pushNew2 hsz HBo.out HO.out (Nat.le_refl _) r4 q4 g4); have Y1 := Lib.hid ((HX.out.1.keep HBo.out).chg g4 (fun hx => by obtain ⟨x, hx, e⟩ := hx; have := (ownsRow_block HJ.out.1.own x hx).1; omega)); have Y2 := Lib.hid ((HX.out.2.keep HBo.out).chg g4 (fun hx => by obtain ⟨x, hx, e⟩ := hx; have := (ownsRow_block HJ.out.1.own x hx).1; omega)); have z1 : w4.cell? ⟨w.heap.size + 1, 2, none⟩ = some (.slice a1 j c1) := Y2.out.cell 2; have z2 := Y2.out.frz 2; clear r4 q4 g4)
      clear hmk e1 e2 x1
      have HR : Hid (BX 24 (w4.setCell ⟨w.heap.size + 1, 2, none⟩ (.slice a4 (j + 1) c4)) w.heap.size #[.int .i64 0, .int .i64 0, .slice none 0 0] ∧ BX 24 (w4.setCell ⟨w.heap.size + 1, 2, none⟩ (.slice a4 (j + 1) c4)) (w.heap.size + 1) #[.int .i64 p, .int .i64 n, .slice a4 (j + 1) c4]) := Lib.hid ⟨Y1.out.other (by simp) _, Y2.out.set 2 _⟩
      have HN2 : Hid (OwnR 38 2 (w4.setCell ⟨w.heap.size + 1, 2, none⟩ (.slice a4 (j + 1) c4)) (w.heap.size + 2) a4 (j + 1) c4 ((unitRs n).take (j + 1)) (upd A j (some ⟨wi.heap.size, 0, none⟩)) (upd C j n) ∧ Below w.heap.size w (w4.setCell ⟨w.heap.size + 1, 2, none⟩ (.slice a4 (j + 1) c4)) ∧ w.heap.size + 2 ≤ (w4.setCell ⟨w.heap.size + 1, 2, none⟩ (.slice a4 (j + 1) c4)).heap.size) := Lib.hid ⟨by rw [take_row2 (by rw [unitRs_len]; exact hjt), unitRs_row hjt]; exact HN.out.1.setLow _ (by simp) _, (HJ.out.2.1.trans (HN.out.2.mono (by omega))).setCell (by simp) _, by have := HN.out.2.size; simp; omega⟩
      go_roundw
      case rel => exact ⟨j + 1, a4, c4, _, _, by omega, by go_num, HR, HN2⟩
      case measure => simp [intOf]; omega
    · obtain rfl : n = j := by omega
      have HM : Hid (MadeR 38 2 wi (w.heap.size + 2) a1 n c1 (unitRs n) ∧ Below w.heap.size w wi) := Lib.hid ⟨⟨A, C, by have := HJ.out.1; rwa [List.take_of_length_le (by rw [unitRs_len]; omega)] at this⟩, HJ.out.2.1⟩
      have x0 : wi.cell? ⟨w.heap.size + 1, 0, none⟩ = some (.int .i64 p) := HX.out.2.cell 0
      have x1 : wi.cell? ⟨w.heap.size + 1, 1, none⟩ = some (.int .i64 n) := HX.out.2.cell 1
      have x2 : wi.cell? ⟨w.heap.size + 1, 2, none⟩ = some (.slice a1 n c1) := HX.out.2.cell 2
      have y0 : wi.cell? ⟨w.heap.size, 0, none⟩ = some (.int .i64 0) := HX.out.1.cell 0
      have y1 : wi.cell? ⟨w.heap.size, 1, none⟩ = some (.int .i64 0) := HX.out.1.cell 1
      have y2 : wi.cell? ⟨w.heap.size, 2, none⟩ = some (.slice none 0 0) := HX.out.1.cell 2
      have f0 := HX.out.1.frz 0
      have f1 := HX.out.1.frz 1
      have f2 := HX.out.1.frz 2
      go_wp2
      refine bodyPost_ret (v := .agg #[.int .i64 p, .int .i64 n, .slice a1 n c1]) (by simp [results, Try.results54, go_sem, y0, y1, y2]) rfl ⟨a1, c1, rfl, ?_, ?_⟩
      · refine MadeR.mono (B := w.heap.size + 2) ?_ (by omega)
        exact (((HM.out.1).setLow _ (by first | (simp; done) | (simp; omega)) _).setLow _ (by first | (simp; done) | (simp; omega)) _).setLow _ (by first | (simp; done) | (simp; omega)) _
      · exact (((HM.out.2.setCell (by first | (simp; done) | (simp; omega)) _).setCell (by first | (simp; done) | (simp; omega)) _).setCell (by first | (simp; done) | (simp; omega)) _)
end Go.Proofs.Ytngikcjdhbflkaa
