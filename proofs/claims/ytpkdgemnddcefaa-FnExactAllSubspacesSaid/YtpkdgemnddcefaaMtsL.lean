/- The laws' helpers on slices of matrices. -/
import Derived.Test.YtpkdgemnddcefaaMts
import Derived.Test.YtpkdgemnddcefaaKitM
import Derived.Deep.RegionHeld3
set_option linter.unusedVariables false
set_option linter.unusedSimpArgs false
namespace Go.Proofs.Ytpkdgemnddcefaa
open Go.RowKit
/-- small shapes -/
def SmM (L : List (List (List Int))) : Prop := ∀ i, (mx_ L i).length ≤ 1000 ∧ ∀ j, (rw_ (mx_ L i) j).length ≤ 1000
theorem offs_sm {X : List (List Int)} (h : ∀ j, (rw_ X j).length ≤ 1000) : ∀ n, offs X n ≤ 1000 * n
  | 0 => Nat.le_refl _
  | n + 1 => by have := offs_sm h n; have := h n; unfold offs; omega
/-- where the marks of the i-th matrix begin -/
def stM (k : Int) (L : List (List (List Int))) : Nat → Int
  | 0 => k
  | i + 1 => stM k L i + 2 + (offs (mx_ L i) (mx_ L i).length : Int)
theorem stM_ge {k : Int} {L : List (List (List Int))} : ∀ i, k ≤ stM k L i
  | 0 => Int.le_refl _
  | i + 1 => by have := stM_ge (k := k) (L := L) i; rw [stM]; omega
theorem stM_le {k : Int} {L : List (List (List Int))} (hx : SmM L) : ∀ i : Nat, stM k L i ≤ k + 1000002 * i
  | 0 => by simp [stM]
  | i + 1 => by
    have := stM_le (k := k) hx i
    have h1 := offs_sm (hx i).2 (mx_ L i).length
    have h2 := (hx i).1
    rw [stM]; omega
def mkM (k : Int) (L : List (List (List Int))) : List (List (List Int)) := (List.range L.length).map fun i => mkR (stM k L i + 2) (mx_ L i)
theorem mkM_row {k : Int} {L : List (List (List Int))} {i : Nat} (h : i < L.length) : mx_ (mkM k L) i = mkR (stM k L i + 2) (mx_ L i) := by simp [mkM, mx_, h]
set_option maxHeartbeats 1000000 in
theorem eqMatrixS_t (a b : Option Addr) (n ca cb : Nat) (L : List (List (List Int))) (P Q : Nat → Int) (w : World) (ha : RdM w a n P Q L) (hb : RdM w b n P Q L) (hn : n ≤ 100000) (hx : SmM L) :
    Calls Try.prog 16 #[.slice a n ca, .slice b n cb] w fun e w' => e = .returned (.bool true) ∧ Below w.heap.size w w' := by
  have HA := Lib.hid ha
  have HB := Lib.hid hb
  have HX := Lib.hid hx
  clear ha hb hx
  go_enter Try.func16, Try.ntmps16
  go_wp2
  go_loopw [5] (fun i wr => ∃ k : Nat, k ≤ n ∧ i = .int .i64 k ∧ Hid (Below w.heap.size w wr)) (fun i _ => n - (intOf i).toNat)
  case atStart => exact ⟨0, Nat.zero_le _, rfl, Lib.hid (Below.refl _ _)⟩
  case round =>
    obtain ⟨k, hk, rfl, HW⟩ := hrel
    by_cases hlt : k < n
    · obtain ⟨b1, o1, a1, d1, rfl, x1, x2, x4, x3, _⟩ := (HA.out.keep HW.out (Nat.le_refl _)).at_ hlt
      obtain ⟨b2, o2, a2, d2, rfl, y1, y2, y4, y3, _⟩ := (HB.out.keep HW.out (Nat.le_refl _)).at_ hlt
      have R1 := Lib.hid x3
      have R2 := Lib.hid y3
      obtain ⟨hxk, hxr⟩ := HX.out k
      obtain ⟨m, hm⟩ : ∃ m, m = (mx_ L k).length := ⟨_, rfl⟩
      rw [← hm] at x4 y4 hxk
      have HM1 : Hid ((mx_ L k).length = m) := Lib.hid hm.symm
      have HXR : Hid (∀ j, j < m → (rw_ (mx_ L k) j).length ≤ 1048576) := Lib.hid (fun j _ => by have := hxr j; omega)
      clear x3 y3 hm hxr
      obtain ⟨wi, rfl⟩ : ∃ x, x = wr := ⟨wr, rfl⟩
      go_wp2_with fail
      have b1l : b1 < wi.heap.size := block_lt (p := ⟨b1, o1 + k * 3, none⟩) x1
      have b2l : b2 < wi.heap.size := block_lt (p := ⟨b2, o2 + k * 3, none⟩) y1
      go_region_held3 (fun w' => w'.cell? ⟨b1, o1 + k * 3, none⟩ = some (.int .i64 (P k)) ∧ w'.cell? ⟨b1, o1 + k * 3 + 1, none⟩ = some (.int .i64 (Q k)) ∧ w'.cell? ⟨b1, o1 + k * 3 + 2, none⟩ = some (.slice a1 m d1) ∧ w'.cell? ⟨b2, o2 + k * 3, none⟩ = some (.int .i64 (P k)) ∧ w'.cell? ⟨b2, o2 + k * 3 + 1, none⟩ = some (.int .i64 (Q k)) ∧ w'.cell? ⟨b2, o2 + k * 3 + 2, none⟩ = some (.slice a2 m d2)) (go_keep)
        (first
          | (go_at_call 38; (with_reducible refine (eqMatrix_t (P k) (Q k) a1 a2 m m d1 d2 (mx_ L k) _ ?_ ?_ HM1.out HM1.out ?_ HXR.out).mono ?_); exact R1.out; exact R2.out; omega; rintro e w2 ⟨rfl, hb0⟩; have hb : Below wi.heap.size wi w2 := ⟨hb0.os, hb0.tape, hb0.output, hb0.size, hb0.block⟩; have x1' := cell_below (p := ⟨b1, o1 + k * 3, none⟩) x1 hb; have x2' := cell_below (p := ⟨b1, o1 + k * 3 + 1, none⟩) x2 hb; have x4' := cell_below (p := ⟨b1, o1 + k * 3 + 2, none⟩) x4 hb; have y1' := cell_below (p := ⟨b2, o2 + k * 3, none⟩) y1 hb; have y2' := cell_below (p := ⟨b2, o2 + k * 3 + 1, none⟩) y2 hb; have y4' := cell_below (p := ⟨b2, o2 + k * 3 + 2, none⟩) y4 hb; have HW2 : Hid (Below w.heap.size w w2) := Lib.hid (HW.out.trans (hb.mono HW.out.size)); clear hb hb0))
      go_wp2_with fail
      go_roundw
      case rel => exact ⟨k + 1, by omega, by go_num, HW2⟩
      case measure => simp [intOf]; omega
    · go_wp2
      go_ret
      exact ⟨rfl, HW.out⟩
/-- rows read in the blocks from lo to hi, where their slices are known -/
structure RdIv (w : World) (lo hi : Nat) (A : Option Addr) (X : List (List Int)) (AA : Nat → Option Addr) (CC : Nat → Nat) : Prop where
  row : ∀ t, t < X.length → RdI w (AA t) (rw_ X t) ∧ (rw_ X t).length ≤ CC t ∧ ∀ p, AA t = some p → lo ≤ p.block ∧ p.block < hi
  out : 0 < X.length → ∃ g, A = some ⟨g, 0, none⟩ ∧ lo ≤ g ∧ g < hi ∧ ∀ t, t < X.length → w.cell? ⟨g, t, none⟩ = some (.slice (AA t) (rw_ X t).length (CC t))
theorem RdIv.same {w w' : World} {lo hi : Nat} {A : Option Addr} {X : List (List Int)} {AA : Nat → Option Addr} {CC : Nat → Nat} (h : RdIv w lo hi A X AA CC) (hs : ∀ k, lo ≤ k → k < hi → w'.heap[k]? = w.heap[k]?) : RdIv w' lo hi A X AA CC := by
  refine ⟨fun t ht => ?_, fun h0 => ?_⟩
  · obtain ⟨h1, h2, h3⟩ := h.row t ht
    exact ⟨h1.same (fun p hp => hs _ (h3 p hp).1 (h3 p hp).2), h2, h3⟩
  · obtain ⟨g, e, h1, h2, h3⟩ := h.out h0
    exact ⟨g, e, h1, h2, fun t ht => (World.cell?_of_block (w := w) (a := ⟨g, t, none⟩) (hs g h1 h2)).trans (h3 t ht)⟩
theorem RdIv.rd {w : World} {lo hi : Nat} {A : Option Addr} {X : List (List Int)} {AA : Nat → Option Addr} {CC : Nat → Nat} (h : RdIv w lo hi A X AA CC) : RdR w A X := fun h0 => by
  obtain ⟨g, e, h1, h2, h3⟩ := h.out h0
  exact ⟨g, 0, e, fun t ht => ⟨AA t, CC t, by rw [Nat.zero_add]; exact h3 t ht, (h.row t ht).1, (h.row t ht).2.1⟩⟩
theorem mark_iv {T1 T2 : TypeId} {wr w' : World} {lo hi n c : Nat} {A : Option Addr} {X : List (List Int)} {AA : Nat → Option Addr} {CC : Nat → Nat} {m : Int} (h : OwnR T1 T2 wr lo A n c X AA CC) (hr : RdR w' A (mkR m X)) (hc : Chg (RowBlk n AA) wr w') (hA : ∀ p, A = some p → p.block < hi) (hR : ∀ t, t < n → ∀ p, AA t = some p → p.block < hi) : RdIv w' lo hi A (mkR m X) AA CC := by
  have hl := h.len
  have hml : (mkR m X).length = n := by rw [mkR_len, hl]
  by_cases h0 : 0 < n
  · obtain ⟨g, rfl, hcl, _, hlo, hgs⟩ := h.addr h0
    have hg : w'.heap[g]? = wr.heap[g]? := hc.block g hgs (fun hx => by obtain ⟨i, hi', p, hp, e⟩ := hx; exact h.apo i hi' _ p rfl hp e.symm)
    have hcell : ∀ t, t < n → w'.cell? ⟨g, t, none⟩ = some (.slice (AA t) (rw_ X t).length (CC t)) := fun t ht => (World.cell?_of_block (w := wr) (a := ⟨g, t, none⟩) hg).trans (hcl t ht)
    obtain ⟨b, o, e, hx⟩ := hr (by omega)
    injection e with e; injection e with e1 e2; subst e1; subst e2
    have hlen : ∀ t, t < n → (rw_ (mkR m X) t).length = (rw_ X t).length := fun t ht => by rw [mkR_row (by omega), marks_len]
    refine ⟨fun t ht => ?_, fun _ => ⟨g, rfl, hlo, hA _ rfl, fun t ht => ?_⟩⟩
    · obtain ⟨ai, ci, d1, d2, d3⟩ := hx t ht
      rw [Nat.zero_add, hcell t (by omega)] at d1
      injection d1 with d1; injection d1 with x1 x2 x3
      subst x1; subst x3
      exact ⟨d2, d3, fun p hp => ⟨((h.row t (by omega)).block p hp).1, hR t (by omega) p hp⟩⟩
    · rw [hlen t (by omega)]; exact hcell t (by omega)
  · exact ⟨fun t ht => absurd ht (by omega), fun h1 => absurd h1 (by omega)⟩
/-- marks are being laid: i matrices are done -/
structure MkM (T0 T1 T2 : TypeId) (w wr : World) (B : Nat) (a : Option Addr) (n : Nat) (P Q : Nat → Int) (L : List (List (List Int))) (A : Nat → Option Addr) (C : Nat → Nat) (AA : Nat → Nat → Option Addr) (CC : Nat → Nat → Nat) (lo hi : Nat → Nat) (k : Int) (i : Nat) : Prop where
  out : 0 < n → ∃ g cur, a = some ⟨g, 0, none⟩ ∧ B ≤ g ∧ wr.heap[g]? = some (.cells cur T0 (0, 0)) ∧ ∀ j, j < n → cur[j * 3]? = some (.int .i64 (if j < i then stM k L j else P j)) ∧ cur[j * 3 + 1]? = some (.int .i64 (if j < i then stM k L j + 1 else Q j)) ∧ cur[j * 3 + 2]? = some (.slice (A j) (mx_ L j).length (C j))
  done : ∀ j, j < i → RdIv wr (lo j) (hi j) (A j) (mkR (stM k L j + 2) (mx_ L j)) (AA j) (CC j)
  todo : ∀ j, i ≤ j → j < n → OwnR T1 T2 wr (lo j) (A j) (mx_ L j).length (C j) (mx_ L j) (AA j) (CC j)
  bel : Below B w wr
section
variable {T0 T1 T2 : TypeId} {w wr w3 : World} {B : Nat} {a : Option Addr} {n cap : Nat} {P Q : Nat → Int} {L : List (List (List Int))} {A : Nat → Option Addr} {C : Nat → Nat} {AA : Nat → Nat → Option Addr} {CC : Nat → Nat → Nat} {lo hi : Nat → Nat} {k : Int} {i g : Nat}
theorem MkM.start (h : OwnM T0 T1 T2 w B a n cap P Q L A C AA CC lo hi) (k : Int) : MkM T0 T1 T2 w w B a n P Q L A C AA CC lo hi k 0 := by
  refine ⟨fun h0 => ?_, fun j hj => absurd hj (by omega), fun j _ hj => h.row j hj, Below.refl _ _⟩
  rcases ownsK_cases (by omega) h.own with ⟨_, hn, _⟩ | ⟨g, cur, ha, hg, hh, h1, h2, h3, h4⟩
  · omega
  · refine ⟨g, cur, ha, hg, hh, fun j hj => ?_⟩
    have e : ∀ t, t < n * 3 → cur[t]? = (mtVals P Q L A C n)[t]? := fun t ht => by rw [← h4, List.getElem?_take, if_pos ht]; simp
    rw [if_neg (by omega), if_neg (by omega), e _ (by omega), e _ (by omega), e _ (by omega)]
    exact ⟨mtVals_0 hj, mtVals_1 hj, mtVals_2 hj⟩
theorem MkM.step (h : MkM T0 T1 T2 w wr B a n P Q L A C AA CC lo hi k i) (hO : OwnM T0 T1 T2 w B a n cap P Q L A C AA CC lo hi) (hi' : i < n) (ha : a = some ⟨g, 0, none⟩) (hr : RdR w3 (A i) (mkR (stM k L i + 2) (mx_ L i))) (hc : Chg (RowBlk (mx_ L i).length (AA i)) ((wr.setCell ⟨g, i * 3, none⟩ (.int .i64 (stM k L i))).setCell ⟨g, i * 3 + 1, none⟩ (.int .i64 (stM k L i + 1))) w3) :
    MkM T0 T1 T2 w w3 B a n P Q L A C AA CC lo hi k (i + 1) := by
  obtain ⟨g', cur, ha', hg, hh, hcur⟩ := h.out (by omega)
  rw [ha] at ha'
  injection ha' with e; injection e with e1; subst e1
  have hgl : g < wr.heap.size := (Array.getElem?_eq_some_iff.1 hh).1
  have hout := hO.out _ ha
  simp at hout
  obtain ⟨w2, hw2⟩ : ∃ x, x = (wr.setCell ⟨g, i * 3, none⟩ (.int .i64 (stM k L i))).setCell ⟨g, i * 3 + 1, none⟩ (.int .i64 (stM k L i + 1)) := ⟨_, rfl⟩
  rw [← hw2] at hc
  have hz2 : w2.heap.size = wr.heap.size := by rw [hw2]; simp
  have hset : ∀ m, m ≠ g → w2.heap[m]? = wr.heap[m]? := fun m hm => by
    rw [hw2, Below.heap_setCell _ _ _ _ (by simpa using hm), Below.heap_setCell _ _ _ _ (by simpa using hm)]
  have hg2 : w2.heap[g]? = some (.cells ((cur.setIfInBounds (i * 3) (.int .i64 (stM k L i))).setIfInBounds (i * 3 + 1) (.int .i64 (stM k L i + 1))) T0 (0, 0)) := by rw [hw2]; exact wr_setCell (wr_setCell hh _) _
  have hrow2 : OwnR T1 T2 w2 (lo i) (A i) (mx_ L i).length (C i) (mx_ L i) (AA i) (CC i) := (h.todo i (Nat.le_refl _) hi').same (fun p hp => hset _ (by have h1 := (ownsRow_block (h.todo i (Nat.le_refl _) hi').own p hp).1; have h2 := hO.hiA i hi' p hp; have := hout i hi'; omega)) (fun t ht p hp => hset _ (by have h1 := (((h.todo i (Nat.le_refl _) hi').row t ht).block p hp).1; have h2 := hO.hiR i hi' t ht p hp; have := hout i hi'; omega))
  have hin : ∀ m, RowBlk (mx_ L i).length (AA i) m → lo i ≤ m ∧ m < hi i := fun m hx => by
    obtain ⟨t, ht, p, hp, e⟩ := hx
    have h1 := ((hrow2.row t ht).block p hp).1
    have h2 := hO.hiR i hi' t ht p hp
    omega
  have hsz : ∀ j, j < n → hi j ≤ wr.heap.size := fun j hj => Nat.le_trans (hO.bl j hj).2 h.bel.size
  have hoth : ∀ j, j < n → j ≠ i → ∀ m, lo j ≤ m → m < hi j → w3.heap[m]? = wr.heap[m]? := fun j hj hne m h1 h2 => by
    have hd := hO.dis j i hj hi' hne
    have := hout j hj
    have h3 := hsz j hj
    rw [hc.block m (by omega) (fun hx => by have := hin m hx; omega), hset m (by omega)]
  have hgn : ¬ RowBlk (mx_ L i).length (AA i) g := fun hx => by have := hin g hx; have := hout i hi'; omega
  refine ⟨fun _ => ⟨g, _, ha, hg, (hc.block g (by omega) hgn).trans hg2, fun j hj => ?_⟩, fun j hj => ?_, fun j hj1 hj2 => ?_, ?_⟩
  · obtain ⟨c1, c2, c3⟩ := hcur j hj
    have s1 := (Array.getElem?_eq_some_iff.1 c1).1
    have s2 := (Array.getElem?_eq_some_iff.1 c2).1
    by_cases he : j = i
    · subst he
      rw [if_pos (by omega), if_pos (by omega)]
      refine ⟨?_, ?_, ?_⟩
      · rw [Array.getElem?_setIfInBounds_ne (by omega), Array.getElem?_setIfInBounds_self_of_lt s1]
      · rw [Array.getElem?_setIfInBounds_self_of_lt (by simpa using s2)]
      · rw [Array.getElem?_setIfInBounds_ne (by omega), Array.getElem?_setIfInBounds_ne (by omega)]; exact c3
    · have e1 : (if j < i + 1 then stM k L j else P j) = if j < i then stM k L j else P j := by
        by_cases h1 : j < i
        · rw [if_pos h1, if_pos (by omega)]
        · rw [if_neg h1, if_neg (by omega)]
      have e2 : (if j < i + 1 then stM k L j + 1 else Q j) = if j < i then stM k L j + 1 else Q j := by
        by_cases h1 : j < i
        · rw [if_pos h1, if_pos (by omega)]
        · rw [if_neg h1, if_neg (by omega)]
      rw [e1, e2]
      refine ⟨?_, ?_, ?_⟩
      · rw [Array.getElem?_setIfInBounds_ne (by omega), Array.getElem?_setIfInBounds_ne (by omega)]; exact c1
      · rw [Array.getElem?_setIfInBounds_ne (by omega), Array.getElem?_setIfInBounds_ne (by omega)]; exact c2
      · rw [Array.getElem?_setIfInBounds_ne (by omega), Array.getElem?_setIfInBounds_ne (by omega)]; exact c3
  · by_cases he : j = i
    · subst he; exact mark_iv hrow2 hr hc (hO.hiA j hi') (hO.hiR j hi')
    · exact (h.done j (by omega)).same (hoth j (by omega) he)
  · have hto := h.todo j (by omega) hj2
    exact hto.same (fun p hp => hoth j hj2 (by omega) _ (ownsRow_block hto.own p hp).1 (hO.hiA j hj2 p hp)) (fun t ht p hp => hoth j hj2 (by omega) _ ((hto.row t ht).block p hp).1 (hO.hiR j hj2 t ht p hp))
  · have h1 : Below B wr w2 := by rw [hw2]; exact ((Below.refl _ _).setCell (p := ⟨g, i * 3, none⟩) hg _).setCell (p := ⟨g, i * 3 + 1, none⟩) hg _
    exact h.bel.trans (h1.trans (hc.below (by have := h.bel.size; have := h1.size; have := (ownsK_block (by omega) hO.own _ ha).2; simp at this; omega) (fun m hm hx => by have := hin m hx; have := (hO.bl i hi').1; omega)))
theorem MkM.rd (h : MkM T0 T1 T2 w wr B a n P Q L A C AA CC lo hi k n) (hO : OwnM T0 T1 T2 w B a n cap P Q L A C AA CC lo hi) : RdM wr a n (stM k L) (fun i => stM k L i + 1) (mkM k L) := fun h0 => by
  have hl := hO.len
  obtain ⟨g, cur, ha, hg, hh, hcur⟩ := h.out h0
  refine ⟨g, 0, ha, fun i hi' => ⟨A i, C i, ?_, ?_, ?_, ?_, ?_⟩⟩
  · rw [Nat.zero_add, wr_cell hh, (hcur i hi').1, if_pos hi']
  · rw [Nat.zero_add, wr_cell hh, (hcur i hi').2.1, if_pos hi']
  · rw [Nat.zero_add, wr_cell hh, (hcur i hi').2.2, mkM_row (by omega), mkR_len]
  · rw [mkM_row (by omega)]; exact (h.done i hi').rd
  · rw [mkM_row (by omega), mkR_len]; exact (hO.row i hi').capl
end
set_option maxHeartbeats 1000000 in
theorem markMatrixS_t (T0 : TypeId) (T1 T2 : TypeId) (a : Option Addr) (n c B : Nat) (L : List (List (List Int))) (P Q : Nat → Int) (A : Nat → Option Addr) (C : Nat → Nat) (AA : Nat → Nat → Option Addr) (CC : Nat → Nat → Nat) (lo hi : Nat → Nat) (k : Int) (w : World) (h : OwnM T0 T1 T2 w B a n c P Q L A C AA CC lo hi) (hn : n ≤ 100000) (hx : SmM L) (h0 : 0 ≤ k) (h1 : k ≤ 1000000000) :
    Calls Try.prog 17 #[.slice a n c, .int .i64 k] w fun e w' => e = .returned (.int .i64 (stM k L n)) ∧ RdM w' a n (stM k L) (fun i => stM k L i + 1) (mkM k L) ∧ Below B w w' := by
  have HO := Lib.hid h
  have HX := Lib.hid hx
  clear h hx
  go_enter Try.func17, Try.ntmps17
  go_wp2
  go_loopw [5, 1] (fun i q wr => ∃ j : Nat, j ≤ n ∧ i = .int .i64 j ∧ q = .int .i64 (stM k L j) ∧ Hid (MkM T0 T1 T2 w wr B a n P Q L A C AA CC lo hi k j)) (fun i _ _ => n - (intOf i).toNat)
  case atStart => exact ⟨0, Nat.zero_le _, rfl, rfl, Lib.hid (MkM.start HO.out k)⟩
  case round =>
    obtain ⟨j, hj, rfl, rfl, HM⟩ := hrel
    by_cases hlt : j < n
    · obtain ⟨g, cur, ha, hg, hh, hcur⟩ := HM.out.out (by omega)
      have d0 : ∃ v, wr.cell? ⟨g, j * 3, none⟩ = some v := ⟨_, by rw [wr_cell hh]; exact (hcur j hlt).1⟩
      have d1 : ∃ v, wr.cell? ⟨g, j * 3 + 1, none⟩ = some v := ⟨_, by rw [wr_cell hh]; exact (hcur j hlt).2.1⟩
      have d2 : wr.cell? ⟨g, j * 3 + 2, none⟩ = some (.slice (A j) (mx_ L j).length (C j)) := by rw [wr_cell hh]; exact (hcur j hlt).2.2
      have f0 : wr.frozen? ⟨g, j * 3, none⟩ = false := wr_frozen hh
      have f1 : wr.frozen? ⟨g, j * 3 + 1, none⟩ = false := wr_frozen hh
      obtain ⟨v0, d0⟩ := d0
      obtain ⟨v1, d1⟩ := d1
      have hs1 := stM_le (k := k) HX.out j
      have hs2 := stM_ge (k := k) (L := L) j
      have ho1 := offs_sm (HX.out j).2 (mx_ L j).length
      have hl9 := (HX.out j).1
      obtain ⟨s, hs⟩ : ∃ s, s = stM k L j := ⟨_, rfl⟩
      have HSE := Lib.hid hs
      obtain ⟨l, hl⟩ : ∃ l, l = (mx_ L j).length := ⟨_, rfl⟩
      obtain ⟨u, hu⟩ : ∃ u, u = offs (mx_ L j) l := ⟨_, rfl⟩
      have HUE := Lib.hid hu
      have HLE := Lib.hid hl
      have HST : Hid (stM k L (j + 1) = s + 2 + u) := Lib.hid (by rw [stM, ← hs, hu, hl])
      rw [← hl] at d2 hl9 ho1
      rw [← hu] at ho1
      rw [← hs] at hs1 hs2 ⊢
      subst ha
      obtain ⟨wi, rfl⟩ : ∃ x, x = wr := ⟨wr, rfl⟩
      have hgl : g < wi.heap.size := block_lt (p := ⟨g, j * 3, none⟩) d0
      have hol : u ≤ 1000000 := by omega
      obtain ⟨w2, hw2⟩ : ∃ x, x = (wi.setCell ⟨g, j * 3, none⟩ (.int .i64 s)).setCell ⟨g, j * 3 + 1, none⟩ (.int .i64 (s + 1)) := ⟨_, rfl⟩
      have HW2 := Lib.hid hw2
      have HRW : Hid (OwnR T1 T2 w2 (lo j) (A j) l (C j) (mx_ L j) (AA j) (CC j)) := Lib.hid (by
        have hto := HM.out.todo j (Nat.le_refl _) hlt
        have hout := HO.out.out _ rfl j hlt
        simp at hout
        rw [hw2, hl]
        refine hto.same (fun p hp => ?_) (fun t ht p hp => ?_)
        · have q1 := (ownsRow_block hto.own p hp).1
          have q2 := HO.out.hiA j hlt p hp
          rw [Below.heap_setCell _ _ _ _ (by simp; omega), Below.heap_setCell _ _ _ _ (by simp; omega)]
        · have q1 := ((hto.row t ht).block p hp).1
          have q2 := HO.out.hiR j hlt t ht p hp
          rw [Below.heap_setCell _ _ _ _ (by simp; omega), Below.heap_setCell _ _ _ _ (by simp; omega)])
      clear hcur hh hs hg hw2 hl hu
      have W1 : IntKind.i64.wrap (s + 1) = s + 1 := IntWalk.i64_in _ (by omega)
      have W2 : IntKind.i64.wrap (s + 1 + 1) = s + 2 := by rw [IntWalk.i64_in _ (by omega)]; omega
      go_wp2_with fail
      rw [← HW2.out]
      refine (markInt64SS_t T2 (A j) l (C j) (lo j) (mx_ L j) (AA j) (CC j) (s + 2) w2 HRW.out.has (by omega) (fun t ht => by have := (HX.out j).2 t; omega) (by rw [← HUE.out]; omega) (by omega) (by omega)).mono ?_
      rintro e w3 ⟨rfl, hr, hc⟩
      have HN : Hid (MkM T0 T1 T2 w w3 B (some ⟨g, 0, none⟩) n P Q L A C AA CC lo hi k (j + 1)) := Lib.hid (HM.out.step HO.out hlt rfl (by rw [← HSE.out]; exact hr) (by rw [← HSE.out, ← HW2.out, ← HLE.out]; exact hc))
      rw [← HUE.out]
      clear hr hc
      go_wp2_with fail
      go_roundw
      case rel => exact ⟨j + 1, by omega, by go_num, by rw [HST.out], HN⟩
      case measure => simp [intOf]; omega
    · obtain rfl : j = n := by omega
      go_wp2
      go_ret
      exact ⟨rfl, HM.out.rd HO.out, HM.out.bel⟩
set_option maxHeartbeats 1000000 in
theorem heldMatrixS_t (a : Option Addr) (n c : Nat) (L : List (List (List Int))) (k : Int) (w : World) (h : RdM w a n (stM k L) (fun i => stM k L i + 1) (mkM k L)) (hL : L.length = n) (hn : n ≤ 100000) (hx : SmM L) (h0 : 0 ≤ k) (h1 : k ≤ 1000000000) :
    Calls Try.prog 18 #[.slice a n c, .int .i64 k] w fun e w' => e = .returned (.int .i64 (stM k L n)) ∧ w = w' := by
  have HO := Lib.hid h
  have HX := Lib.hid hx
  have HL := Lib.hid hL
  clear h hx hL
  go_enter Try.func18, Try.ntmps18
  go_wp2
  go_loop [5, 1] (fun i q => ∃ j : Nat, j ≤ n ∧ i = .int .i64 j ∧ q = .int .i64 (stM k L j)) (fun i _ => n - (intOf i).toNat)
  case atStart => exact ⟨0, Nat.zero_le _, rfl, rfl⟩
  case round =>
    obtain ⟨j, hj, rfl, rfl⟩ := hrel
    by_cases hlt : j < n
    · obtain ⟨b, o, ai, ci, rfl, d0, d1, d2, r1, _⟩ := HO.out.at_ hlt
      rw [mkM_row (by rw [HL.out]; exact hlt)] at d2 r1
      rw [mkR_len] at d2
      have hs1 := stM_le (k := k) HX.out j
      have hs2 := stM_ge (k := k) (L := L) j
      have ho1 := offs_sm (HX.out j).2 (mx_ L j).length
      have hl9 := (HX.out j).1
      obtain ⟨s, hs⟩ : ∃ s, s = stM k L j := ⟨_, rfl⟩
      obtain ⟨l, hl⟩ : ∃ l, l = (mx_ L j).length := ⟨_, rfl⟩
      obtain ⟨u, hu⟩ : ∃ u, u = offs (mx_ L j) l := ⟨_, rfl⟩
      have HUE := Lib.hid hu
      have HLE := Lib.hid hl
      have HST : Hid (stM k L (j + 1) = s + 2 + u) := Lib.hid (by rw [stM, ← hs, hu, hl])
      rw [← hl] at d2 hl9 ho1
      rw [← hu] at ho1
      rw [← hs] at hs1 hs2 d0 d1 r1 ⊢
      have R1 := Lib.hid r1
      have hol : u ≤ 1000000 := by omega
      have W1 : IntKind.i64.wrap (s + 1) = s + 1 := IntWalk.i64_in _ (by omega)
      have W2 : IntKind.i64.wrap (s + 1 + 1) = s + 2 := by rw [IntWalk.i64_in _ (by omega)]; omega
      have b1 : (s != s) = false := by simp
      have b2 : (s + 1 != s + 1) = false := by simp
      have g1 : ¬ s + 2 + (u : Int) < 0 := by omega
      have g2 : decide (s + 2 + (u : Int) < 0) = false := decide_eq_false g1
      clear r1 hl hs hu
      go_wp2_with fail
      refine (heldInt64SS_t ai l ci (mx_ L j) (s + 2) w R1.out HLE.out.symm (by omega) (fun t ht => by have := (HX.out j).2 t; omega) (by rw [← HUE.out]; omega) (by omega) (by omega)).mono ?_
      rintro e w3 ⟨rfl, rfl⟩
      rw [← HUE.out]
      go_wp2_with fail
      go_round
      case rel => exact ⟨j + 1, by omega, by go_num, by rw [HST.out]⟩
      case measure => simp [intOf]; omega
    · obtain rfl : j = n := by omega
      go_wp2
      go_ret
      exact ⟨rfl, rfl⟩
end Go.Proofs.Ytpkdgemnddcefaa
