/- The program's hermite: its rows by their columns, pass by pass. -/
import Derived.Test.YtcnphhcdjhmmkaaHerT
import Derived.Test.YtcnphhcdjhmmkaaTabDet
set_option linter.unusedVariables false
set_option linter.unusedSimpArgs false
namespace Go.Proofs.Ytcnphhcdjhmmkaa
open Go.RowKit
/-- what the heap holds between two rows -/
structure HO (T1 T2 : TypeId) (w wr : World) (g n : Nat) (bs : List (List Int)) (A : Nat → Option Addr) (C : Nat → Nat) : Prop where
  own : OwnR T1 T2 wr w.heap.size (some ⟨g, 0, none⟩) n n bs A C
  nil : ∀ c, c < n → rw_ bs c = [] → A c = none ∧ C c = 0
  low : Below w.heap.size w wr
section
variable {T1 T2 : TypeId} {w wr w2 : World} {g n : Nat} {bs : List (List Int)} {A : Nat → Option Addr} {C : Nat → Nat} {av : Option Addr} {cv : Nat} {v : List Int}
theorem HB.ho (h : HB T1 T2 w wr g n bs A C av cv v) : HO T1 T2 w wr g n bs A C := ⟨h.own, h.nil, h.low⟩
theorem HO.take (h : HO T1 T2 w wr g n bs A C) (hb : Below wr.heap.size wr w2) (hv : OwnI T2 w2 wr.heap.size av n cv v) : HB T1 T2 w w2 g n bs A C av cv v := by
  have hg := (ownsRow_block h.own.own _ rfl).2
  refine ⟨h.own.keep hb (Nat.le_refl _), h.nil, hv.mono h.low.size, fun p hp => ?_, fun i hi p q hp hq => ?_, h.low.trans (hb.mono h.low.size)⟩
  · have := (hv.block p hp).1
    simp at hg
    omega
  · have h1 := ((h.own.row i hi).block p hp).2
    have h2 := (hv.block q hq).1
    omega
theorem HO.start (w : World) (T1 T2 : TypeId) (n : Nat) (hn : n ≤ maxLen) : HO T1 T2 w (w.alloc (.cells (madeCells #[.slice none 0 0] n) T1)) w.heap.size n (tab n fun _ => []) (fun _ => none) (fun _ => 0) := by
  refine ⟨⟨tab_len _ _, ?_, fun i hi => ?_, fun i j _ _ _ => Apart.none _, fun i _ => Apart.none_r _⟩, fun c _ _ => ⟨rfl, rfl⟩, (Below.refl _ _).alloc (Nat.le_refl _) _⟩
  · refine ⟨by simp [rowVals_len], .inr ⟨w.heap.size, n, _, rfl, Nat.le_refl _, heap_alloc_new w _, Nat.le_refl _, hn, by simp [size_madeCells], ?_⟩⟩
    rw [Nat.mul_one, toList_madeCells_one, List.take_of_length_le (by simp)]
    refine List.ext_getElem? fun i => ?_
    by_cases hi : i < n
    · rw [rowVals_get hi, rw_tab hi]; simp [hi]
    · rw [List.getElem?_eq_none (by simp; omega), List.getElem?_eq_none (by rw [rowVals_len]; omega)]
  · rw [rw_tab hi]; exact OwnI.none
end
theorem rowSet_two' {xss : List (List Int)} {i : Nat} {r s : List Int} : rowSet (rowSet xss i r) i s = rowSet xss i s := rowSet_two
theorem rowSet_idW {xss : List (List Int)} {i : Nat} : rowSet xss i (rw_ xss i) = xss := rowSet_id
theorem euS_eq {c : Nat} {v b v1 : List Int} (h1 : v1 = subW (quoW (el v c) (el b c)) v b) (h : el v1 c = 0) : euS c (v, b) = (v1, b) := by
  subst h1; unfold euS; rw [if_pos h]
theorem euS_ne {c : Nat} {v b v1 : List Int} (h1 : v1 = subW (quoW (el v c) (el b c)) v b) (h : el v1 c ≠ 0) : euS c (v, b) = (b, v1) := by
  subst h1; unfold euS; rw [if_neg h]
/-- the rows that are there -/
def outR (bs : List (List Int)) : List (List Int) := bs.filter fun r => decide (r ≠ [])
/-! ### numbers read off the heap -/
def ptrAt (v : Value) : Option Addr := match v with
  | .slice p _ _ => p
  | _ => none
def numAt (w : World) (p : Option Addr) (k : Nat) : Int := match p with
  | some p => (match w.cell? ⟨p.block, k, none⟩ with
    | some (.int _ x) => x
    | _ => 0)
  | none => 0
def rowP (w : World) (g k : Nat) : Option Addr := match w.cell? ⟨g, k, none⟩ with
  | some v => ptrAt v
  | none => none
def euW (w : World) (g k : Nat) (u : Value) : Nat := (numAt w (rowP w g k) k).natAbs + if numAt w (ptrAt u) k = 0 then 0 else 1
theorem numAt_own {T : TypeId} {w : World} {B n cap : Nat} {a : Option Addr} {xs : List Int} {k : Nat} (h : OwnI T w B a n cap xs) (hk : k < n) : numAt w a k = el xs k := by
  obtain ⟨g, rfl⟩ := h.addr (by omega)
  unfold numAt
  show (match w.cell? ⟨g, k, none⟩ with
    | some (.int _ x) => x
    | _ => 0) = _
  rw [h.cellAt hk]
theorem euW_own {T1 T2 : TypeId} {w wr : World} {g n k : Nat} {bs : List (List Int)} {A : Nat → Option Addr} {C : Nat → Nat} {av : Option Addr} {cv : Nat} {v : List Int} (h : HB T1 T2 w wr g n bs A C av cv v) (hk : k < n) (hl : (rw_ bs k).length = n) : euW wr g k (.slice av n cv) = euM k (v, rw_ bs k) := by
  have h1 := (h.own.at_ hk).1
  have h2 : rowP wr g k = A k := by
    unfold rowP
    rw [h1]; rfl
  have h3 := h.own.row k hk
  rw [hl] at h3
  unfold euW euM
  rw [h2, numAt_own h3 hk]
  show _ + (if numAt wr av k = 0 then 0 else 1) = _
  rw [numAt_own h.vo hk]
/-- the rows that are there among the first -/
def outT (bs : List (List Int)) (j : Nat) : List (List Int) := outR (bs.take j)
theorem outT_no {bs : List (List Int)} {j : Nat} (hj : j < bs.length) (h : rw_ bs j = []) : outT bs (j + 1) = outT bs j := by
  unfold outT outR
  rw [List.take_add_one, rw_get hj, h, List.filter_append]; simp
theorem outT_yes {bs : List (List Int)} {j : Nat} (hj : j < bs.length) (h : rw_ bs j ≠ []) : outT bs (j + 1) = outT bs j ++ [rw_ bs j] := by
  unfold outT outR
  rw [List.take_add_one, rw_get hj, List.filter_append]; simp [h]
theorem outT_all {bs : List (List Int)} {n : Nat} (h : bs.length = n) : outT bs n = outR bs := by
  unfold outT; rw [List.take_of_length_le (by omega)]
/-- an outer slice of the call's own whose rows are read where they stood in an elder world -/
structure VwU (T1 : TypeId) (wb w : World) (a : Option Addr) (n cap : Nat) (xss : List (List Int)) (A : Nat → Option Addr) (C : Nat → Nat) : Prop where
  len : xss.length = n
  own : w.ownsRow wb.heap.size T1 1 (.slice a n cap) n (rowVals xss A C n)
  row : ∀ i, i < n → RdI wb (A i) (rw_ xss i) ∧ (rw_ xss i).length ≤ C i
  below : Below wb.heap.size wb w
theorem VwU.none (T1 : TypeId) (wb : World) (A : Nat → Option Addr) (C : Nat → Nat) : VwU T1 wb wb Option.none 0 0 [] A C :=
  ⟨rfl, World.ownsRow_nil _ _ T1 1, fun i h => absurd h (by omega), Below.refl _ _⟩
theorem VwU.rd {T1 : TypeId} {wb w : World} {a : Option Addr} {n cap : Nat} {xss : List (List Int)} {A : Nat → Option Addr} {C : Nat → Nat} (h : VwU T1 wb w a n cap xss A C) : RdR w a xss := fun h0 => by
  obtain ⟨g, ha, hc⟩ := ownsRow_cell h.own (by rw [← h.len]; exact h0)
  refine ⟨g, 0, ha, fun i hi => ?_⟩
  rw [h.len] at hi
  refine ⟨A i, C i, ?_, (h.row i hi).1.keep h.below (Nat.le_refl _), (h.row i hi).2⟩
  rw [Nat.zero_add, hc i hi, rowVals_get hi]
theorem rowVals_pushU {xss : List (List Int)} {xs : List Int} {A : Nat → Option Addr} {C : Nat → Nat} {n cr : Nat} {ar : Option Addr} (hlen : xss.length = n) :
    rowVals (xss ++ [xs]) (upd A n ar) (upd C n cr) (n + 1) = rowVals xss A C n ++ [.slice ar xs.length cr] := by
  unfold rowVals
  rw [List.range_succ, List.map_append]
  congr 1
  · refine List.map_congr_left fun i hi => ?_
    have hi' : i < n := by simpa using hi
    rw [rw_append_lt (by omega), upd_lt hi', upd_lt hi']
  · simp only [List.map_cons, List.map_nil]
    rw [← hlen, rw_append_eq, upd_eq, upd_eq]
theorem VwU.push {T1 : TypeId} {wb w w' : World} {a a' ar : Option Addr} {n cap cap' cr m : Nat} {xss : List (List Int)} {xs : List Int} {A : Nat → Option Addr} {C : Nat → Nat} (h : VwU T1 wb w a n cap xss A C)
    (hr : RdI wb ar xs) (hm : xs.length = m) (hc : m ≤ cr) (r : w'.ownsRow wb.heap.size T1 1 (.slice a' (n + 1) cap') (n + 1) (rowVals xss A C n ++ [.slice ar m cr]))
    (g : Chg (fun k => ∃ p, a = some p ∧ p.block = k) w w') : VwU T1 wb w' a' (n + 1) cap' (xss ++ [xs]) (upd A n ar) (upd C n cr) := by
  subst hm
  refine ⟨by simp [h.len], by rw [rowVals_pushU h.len]; exact r, fun i hi => ?_, h.below.trans (g.below h.below.size fun k hk hx => ?_)⟩
  · by_cases he : i = n
    · subst he
      rw [upd_eq, upd_eq]
      have e : rw_ (xss ++ [xs]) i = xs := by rw [← h.len]; exact rw_append_eq
      rw [e]; exact ⟨hr, hc⟩
    · rw [upd_lt (by omega), upd_lt (by omega), rw_append_lt (by rw [h.len]; omega)]
      exact h.row i (by omega)
  · obtain ⟨x, hx, e⟩ := hx
    have := (ownsRow_block h.own x hx).1
    omega
set_option maxRecDepth 20000 in
set_option maxHeartbeats 16000000 in
theorem hermite_any (Q : Nat) (a : Option Addr) (n c : Nat) (xs : List (List Int)) (w : World) (ha : RdR w a xs) (hl : xs.length = n) (hr : ∀ i, i < n → Hnd Q 0 (rw_ xs i)) (hn : n ≤ 1048576) (h1 : 1 ≤ Q) (h4 : Q ≤ 4) :
    Calls Try.prog 26 #[.agg #[.int .i64 (Q : Int), .slice a n c]] w fun e w' => ∃ (bs : List (List Int)) (a' : Option Addr) (c' : Nat), e = .returned (.slice a' (outR bs).length c') ∧ RndR Q xs n bs ∧ RdR w' a' (outR bs) ∧ Below w.heap.size w w' := by
  have HA := Lib.hid ha
  have HL := Lib.hid hl
  have HR := Lib.hid hr
  have Q1 := eqN_t
  have Q2 := eqN_f
  have Q3 := neN_t
  have Q4 := neN_f
  have hmk := run_make_row' (P := Try.prog) 24 31 (.slice none 0 0) 24 Try.underlying24 Try.infoR rfl .i64 .i64 Q (by omega) (by omega)
  have H0 := Lib.hid (HO.start (w.alloc (.cells #[.int .i64 (Q : Int), .slice a n c] 26)) 31 2 Q (by unfold maxLen; omega))
  have HX := Lib.hid (BX.new w 26 #[.int .i64 (Q : Int), .slice a n c])
  have HA1 := Lib.hid (ha.keep ((Below.refl w.heap.size w).alloc (Nat.le_refl _) (.cells #[.int .i64 (Q : Int), .slice a n c] 26)) (Nat.le_refl _))
  have HW : Hid (Below w.heap.size w (w.alloc (.cells #[.int .i64 (Q : Int), .slice a n c] 26))) := Lib.hid ((Below.refl w.heap.size w).alloc (Nat.le_refl _) _)
  clear ha hl hr HA
  go_enter Try.func26, Try.ntmps26
  go_wp2_with fail
  have esz : (w.alloc (.cells #[.int .i64 (Q : Int), .slice a n c] 26)).heap.size = w.heap.size + 1 := by simp
  rw [← esz]
  obtain ⟨w1, hw1⟩ : ∃ x, x = w.alloc (.cells #[.int .i64 (Q : Int), .slice a n c] 26) := ⟨_, rfl⟩
  rw [← hw1] at H0 HX HA1 HW ⊢
  obtain ⟨b0, hb0⟩ : ∃ x, x = w.heap.size := ⟨_, rfl⟩
  rw [← hb0] at HX ⊢
  obtain ⟨g, hg⟩ : ∃ x, x = w1.heap.size := ⟨_, rfl⟩
  have H00 : Hid (HO 31 2 w1 (w1.alloc (.cells (madeCells #[.slice none 0 0] Q) 31)) g Q (tab Q fun _ => []) (fun _ => none) (fun _ => 0)) := Lib.hid (by rw [hg]; exact H0.out)
  rw [← hg]
  clear hw1 esz hmk H0 hb0 hg
  go_loopw [17] (fun i wr => ∃ (I : Nat) (bs : List (List Int)) (A : Nat → Option Addr) (C : Nat → Nat), I ≤ n ∧ i = .int .i64 I ∧ Hid (HO 31 2 w1 wr g Q bs A C ∧ RndR Q xs I bs ∧ Ech Q bs)) (fun i _ => n - (intOf i).toNat)
  case atStart => exact ⟨0, _, _, _, Nat.zero_le _, rfl, Lib.hid ⟨H00.out, .start, Ech.start Q⟩⟩
  case round =>
    obtain ⟨I, bs, A, C, hI, rfl, HJ⟩ := hrel
    obtain ⟨wo, rfl⟩ : ∃ x, x = wr := ⟨wr, rfl⟩
    clear H00
    by_cases hIt : I < n
    · have b1 : decide ((I : Int) < (n : Int)) = true := decide_eq_true (by omega)
      have J1 : (I : Int) < (n : Int) := by omega
      obtain ⟨bA, oA, aI, cI, rfl, dI, rI, kI⟩ := rdR_at (HA1.out.keep HJ.out.1.low (Nat.le_refl _)) (show I < xs.length by rw [HL.out]; exact hIt)
      have lI := (HR.out I hIt).len
      rw [lI] at dI
      have RI := Lib.hid rI
      have LI := Lib.hid lI
      clear rI kI lI
      go_wp2_with fail
      refine (clone_any _ _ _ (rw_ xs I) _ (by exact RI.out) LI.out (by omega)).mono ?_
      rintro e w2 ⟨av, cv, rfl, ho, hb⟩
      have H1 := Lib.hid (HJ.out.1.take hb ho)
      have HE := Lib.hid HJ.out.2.2
      have HRn := Lib.hid HJ.out.2.1
      have H1p : Hid (PassR Q (bs, rw_ xs I) 0 (bs, rw_ xs I)) := Lib.hid .start
      clear HJ hb ho dI RI
      go_wp2_with fail
      go_loopw [25, 6] (fun i u wr => ∃ (k : Nat) (bt : List (List Int)) (A : Nat → Option Addr) (C : Nat → Nat) (av : Option Addr) (cv : Nat) (v : List Int), k ≤ Q ∧ i = .int .i64 k ∧ u = .slice av Q cv ∧ Hid (HB 31 2 w1 wr g Q bt A C av cv v ∧ PassR Q (bs, rw_ xs I) k (bt, v))) (fun i _ _ => Q - (intOf i).toNat)
      case atStart => exact ⟨0, _, _, _, _, _, _, Nat.zero_le _, rfl, rfl, Lib.hid ⟨H1.out, H1p.out⟩⟩
      case round =>
        obtain ⟨k, bt, A, C, av, cv, v, hk, rfl, rfl, HP⟩ := hrel
        obtain ⟨wp, rfl⟩ : ∃ x, x = wr := ⟨wr, rfl⟩
        clear H1 H1p
        by_cases hkt : k < Q
        · have b2 : decide ((k : Int) < (Q : Int)) = true := decide_eq_true (by omega)
          have J2 : (k : Int) < (Q : Int) := by omega
          have HEV := Lib.hid (HP.out.2.keep hk HE.out (HR.out I hIt))
          have HPs := Lib.hid HP.out.2
          have HPb := Lib.hid HP.out.1
          clear HP
          by_cases hbn : rw_ bt k = []
          · obtain ⟨gv, rfl⟩ := HPb.out.vo.addr (by omega)
            have ev := HPb.out.vo.cellAt hkt
            obtain ⟨ca, cf, cs, cb⟩ := HPb.out.own.at_ hkt
            have e0 := HPb.out.nil k hkt hbn
            rw [hbn, e0.1, e0.2] at ca
            have HBN := Lib.hid hbn
            clear hbn e0
            go_wp2_with fail
            go_loopw [6] (fun u wr => u = .slice (some ⟨gv, 0, none⟩) Q cv ∧ wr = wp) (fun _ _ => 0)
            case atStart => exact ⟨rfl, rfl⟩
            case round =>
              obtain ⟨rfl, rfl⟩ := hrel
              by_cases h0 : el v k = 0
              · have b3 : (el v k != 0) = false := by simp [h0]
                have HN1 := Lib.hid (PassR.step HPs.out (.skip h0))
                clear h0
                go_wp2_with fail
                go_roundw
                case rel => exact ⟨k + 1, _, _, _, _, _, _, by omega, by go_num, rfl, Lib.hid ⟨HPb.out, HN1.out⟩⟩
                case measure => simp [intOf]; omega
              · have b3 : (el v k != 0) = true := by simp [h0]
                have HN1 := Lib.hid (PassR.step HPs.out (.put h0 HBN.out))
                have HN2 := Lib.hid (HPb.out.place hkt (by unfold maxLen; omega))
                have hxb := (HX.out.keep HPb.out.low).other (p := ⟨g, k, none⟩) (by have := HX.out.lt; simp; omega) (.slice (some ⟨gv, 0, none⟩) Q cv)
                have x0 := hxb.cell 0
                have x1 := hxb.lt
                simp at x0
                clear h0 hxb
                have hmk2 := run_make_row' (P := Try.prog) 31 2 (.int .i64 0) 8 Try.underlying31 Try.info2 rfl .i64 .i64 Q (by omega) (by omega)
                go_wp2_with fail
                go_roundw
                case rel => exact ⟨k + 1, _, _, _, _, _, _, by omega, by go_num, rfl, Lib.hid ⟨HN2.out, HN1.out⟩⟩
                case measure => simp [intOf]; omega
          · have HEB := Lib.hid (HEV.out.1.eui HEV.out.2 hkt hbn)
            have HBN := Lib.hid hbn
            have HS0 : Hid (HB 31 2 w1 wp g Q (rowSet bt k (rw_ bt k)) A C av cv v ∧ EuF k (v, rw_ bt k) (v, rw_ bt k)) := Lib.hid ⟨by rw [rowSet_idW]; exact HPb.out, .refl⟩
            have LBT := Lib.hid HEV.out.1.len
            clear hbn
            go_wp2_with fail
            go_loopw [6] (fun u wr => ∃ (A : Nat → Option Addr) (C : Nat → Nat) (av : Option Addr) (cv : Nat) (v' b : List Int), u = .slice av Q cv ∧ Hid (HB 31 2 w1 wr g Q (rowSet bt k b) A C av cv v' ∧ EuF k (v, rw_ bt k) (v', b))) (fun u wr => euW wr g k u)
            case atStart => exact ⟨_, _, _, _, _, _, rfl, HS0⟩
            case round =>
              obtain ⟨A, C, av, cv, v', b, rfl, HU⟩ := hrel
              obtain ⟨wu, rfl⟩ : ∃ x, x = wr := ⟨wr, rfl⟩
              clear HS0
              have HI := Lib.hid (HU.out.2.inv HEB.out hkt)
              have hrb : rw_ (rowSet bt k b) k = b := rowSet_eq (by rw [LBT.out]; exact hkt)
              have HRB := Lib.hid hrb
              obtain ⟨gv, rfl⟩ := HU.out.1.vo.addr (by omega)
              have ev := HU.out.1.vo.cellAt hkt
              by_cases h0 : el v' k = 0
              · have b3 : (el v' k != 0) = false := by simp [h0]
                have HN1 := Lib.hid (PassR.step HPs.out (.eu HBN.out HU.out.2 h0))
                clear h0 hrb
                go_wp2_with fail
                go_roundw
                case rel => exact ⟨k + 1, _, _, _, _, _, _, by omega, by go_num, rfl, Lib.hid ⟨HU.out.1, HN1.out⟩⟩
                case measure => simp [intOf]; omega
              · have b3 : (el v' k != 0) = true := by simp [h0]
                have hlb := HI.out.l2
                have how := HU.out.1.own.row k hkt
                rw [hrb, hlb] at how
                obtain ⟨gb, hgb⟩ := how.addr (by omega)
                rw [hgb] at how
                have eb := how.cellAt hkt
                obtain ⟨ca, cf, cs, cb⟩ := HU.out.1.own.at_ hkt
                rw [hrb, hlb, hgb] at ca
                have HOW := Lib.hid how.rd
                have HGB := Lib.hid hgb
                have HLB := Lib.hid hlb
                have HMS := Lib.hid (euW_own HU.out.1 hkt (by rw [hrb]; exact hlb))
                have HLS := Lib.hid (HI.out.less hkt h0)
                have HH0 := Lib.hid h0
                have HAP : Hid (Apart (some ⟨gv, 0, none⟩) (some ⟨gb, 0, none⟩)) := Lib.hid (by have := HU.out.1.va k hkt; rw [hgb] at this; exact this.symm)
                have Z1 : el b k ≠ 0 := HI.out.nz
                have e1 : IntKind.i64.wrap ((el v' k).tdiv (el b k)) = quoW (el v' k) (el b k) := rfl
                clear how hgb hlb hrb h0
                go_wp2_with fail
                go_still_tail 17, (by kernel_rfl)
                repeat still_step
                change wpList _ _ _ _ _ wu.drew
                go_wp2_with fail
                refine (subtractMultiple_wr 2 w1.heap.size _ _ Q Q _ _ v' b _ _ (by exact HU.out.1.vo.same (fun _ _ => rfl)) (by exact HOW.out.same (fun _ _ => rfl)) HLB.out (Nat.le_refl _) (by omega) HAP.out).mono ?_
                rintro e w8 ⟨rfl, ho, hch⟩
                obtain ⟨v1, hv1⟩ : ∃ x, x = subW (quoW (el v' k) (el b k)) v' b := ⟨_, rfl⟩
                rw [← hv1] at ho
                have HV1 := Lib.hid hv1
                have HB8 := Lib.hid (HU.out.1.drew.hand ho hch)
                have ev8 := ho.cellAt hkt
                clear ho hch hv1 ev eb ca cf
                obtain ⟨ca, cf, _, _⟩ := HB8.out.own.at_ hkt
                rw [HRB.out, HLB.out, HGB.out] at ca
                by_cases h5 : el v1 k = 0
                · have b4 : (el v1 k != 0) = false := by simp [h5]
                  have HE1 := Lib.hid (euS_eq HV1.out h5)
                  have HM : Hid (euW w8 g k (.slice (some ⟨gv, 0, none⟩) Q cv) < euW wu g k (.slice (some ⟨gv, 0, none⟩) Q cv)) := Lib.hid (by
                    rw [euW_own HB8.out hkt (by rw [HRB.out]; exact HLB.out), HMS.out, HRB.out, ← HE1.out]
                    exact HLS.out)
                  have HN1 : Hid (EuF k (v, rw_ bt k) (v1, b)) := Lib.hid (by have := EuF.step HU.out.2 HH0.out; rwa [HE1.out] at this)
                  clear h5
                  go_wp2_with fail
                  go_roundw
                  case rel => exact ⟨A, C, _, _, v1, b, rfl, Lib.hid ⟨HB8.out, HN1.out⟩⟩
                  case measure => exact HM.out
                · have b4 : (el v1 k != 0) = true := by simp [h5]
                  have HE1 := Lib.hid (euS_ne HV1.out h5)
                  have HN1 : Hid (EuF k (v, rw_ bt k) (b, v1)) := Lib.hid (by have := EuF.step HU.out.2 HH0.out; rwa [HE1.out] at this)
                  have hsw := HB8.out.swap hkt (by rw [HRB.out]; exact HLB.out) (by omega)
                  rw [rowSet_two', HRB.out, HGB.out] at hsw
                  have HSW := Lib.hid hsw
                  have HLV : Hid ((rw_ (rowSet bt k v1) k).length = Q) := Lib.hid (by rw [rowSet_eq (by rw [LBT.out]; exact hkt)]; exact HB8.out.vo.len)
                  have HM : Hid (euW (w8.setCell ⟨g, k, none⟩ (.slice (some ⟨gv, 0, none⟩) Q cv)) g k (.slice (some ⟨gb, 0, none⟩) Q (C k)) < euW wu g k (.slice (some ⟨gv, 0, none⟩) Q cv)) := Lib.hid (by
                    rw [euW_own HSW.out hkt HLV.out, HMS.out, HRB.out, rowSet_eq (by rw [LBT.out]; exact hkt), ← HE1.out]
                    exact HLS.out)
                  clear h5 hsw
                  go_wp2_with fail
                  go_roundw
                  case rel => exact ⟨_, _, _, _, b, v1, rfl, Lib.hid ⟨HSW.out, HN1.out⟩⟩
                  case measure => exact HM.out
        · obtain rfl : Q = k := by omega
          have HHO := Lib.hid HP.out.1.ho
          have HPF := Lib.hid HP.out.2
          have HEV := Lib.hid (HP.out.2.keep (Nat.le_refl _) HE.out (HR.out I hIt)).1
          clear HP
          go_wp2_with (go_at_call 41; refine (tidy_any w1.heap.size g Q bt A C _ (by exact HHO.out.own) HEV.out (by exact HHO.out.nil) (by omega) (by exact HHO.out.low.size)).mono ?_; rintro e w3 ⟨rfl, ho, hb⟩; have HO3 := Lib.hid ho; have HB3 := Lib.hid hb; clear ho hb)
          have HN : Hid (HO 31 2 w1 w3 g Q (tidyN Q bt) A C ∧ RndR Q xs (I + 1) (tidyN Q bt) ∧ Ech Q (tidyN Q bt)) := Lib.hid ⟨⟨HO3.out, fun c hc hb => HHO.out.nil c hc ((tidyN_nil (by rw [HEV.out.len]; exact hc) Q).1 hb), HHO.out.low.trans HB3.out⟩, .step HRn.out HPF.out, HEV.out.tidyN Q (Nat.le_refl _)⟩
          go_roundw
          case rel => exact ⟨I + 1, _, _, _, by omega, by go_num, HN⟩
          case measure => simp [intOf]; omega
    · obtain rfl : n = I := by omega
      have b1 : decide ((n : Int) < (n : Int)) = false := by simp
      have HE := Lib.hid HJ.out.2.2
      have HRn := Lib.hid HJ.out.2.1
      have HOo := Lib.hid HJ.out.1
      have LB := Lib.hid HJ.out.2.2.len
      clear HJ
      go_wp2_with fail
      go_loopw [82, 8] (fun i v wr => ∃ (j k : Nat) (a1 : Option Addr) (c1 : Nat) (A' : Nat → Option Addr) (C' : Nat → Nat), j ≤ Q ∧ k ≤ j ∧ i = .int .i64 j ∧ v = .slice a1 k c1 ∧ Hid (VwU 31 wo wr a1 k c1 (outT bs j) A' C')) (fun i _ _ => Q - (intOf i).toNat)
      case atStart => exact ⟨0, 0, none, 0, fun _ => none, fun _ => 0, Nat.zero_le _, Nat.le_refl _, rfl, rfl, Lib.hid (VwU.none _ _ _ _)⟩
      case round =>
        obtain ⟨j, k, a1, c1, A', C', hj, hkj, rfl, rfl, HV⟩ := hrel
        obtain ⟨wi, rfl⟩ : ∃ x, x = wr := ⟨wr, rfl⟩
        by_cases hjt : j < Q
        · have b2 : decide ((j : Int) < (Q : Int)) = true := decide_eq_true (by omega)
          have J2 : (j : Int) < (Q : Int) := by omega
          obtain ⟨ca0, cf0, cs, cb⟩ := HOo.out.own.at_ hjt
          have ca := cell_below (p := ⟨g, j, none⟩) ca0 HV.out.below
          clear ca0 cf0
          by_cases hbn : rw_ bs j = []
          · have e0 := HOo.out.nil j hjt hbn
            rw [hbn, e0.1, e0.2] at ca
            have HN2 : Hid (VwU 31 wo wi a1 k c1 (outT bs (j + 1)) A' C') := Lib.hid (by rw [outT_no (by rw [LB.out]; exact hjt) hbn]; exact HV.out)
            clear hbn e0
            go_wp2_with fail
            go_roundw
            case rel => exact ⟨j + 1, k, _, _, _, _, by omega, by omega, by go_num, rfl, HN2⟩
            case measure => simp [intOf]; omega
          · obtain ⟨gj, hgj, hlj⟩ := HOo.out.own.full HE.out hjt hbn
            have hrj := HOo.out.own.row j hjt
            rw [hgj, hlj] at ca hrj
            have RJ := Lib.hid hrj.rd
            have LJ := Lib.hid hlj
            have KJ : Q ≤ C j := hrj.capl
            have HX := Lib.hid (outT_yes (bs := bs) (by rw [LB.out]; exact hjt) hbn)
            have hsz := HV.out.below.size
            clear hbn hgj hlj hrj
            go_wp2_with (at_builtin; go_loud (refine wpList_push rfl (.tmp 88) (.tmp 90) 24 rfl wo.heap.size 31 (.slice none 0 0) 24 Try.underlying24 Try.infoR rfl (by decide) (.slice (some ⟨gj, 0, none⟩) Q (C j)) rfl _ _ _ _ rfl rfl (by exact HV.out.own) (by omega) (by exact hsz) ?_; rintro a4 c4 w4 r4 q4 g4; have HN := Lib.hid (HV.out.push RJ.out LJ.out KJ r4 g4); clear r4 q4 g4))
            have HN2 : Hid (VwU 31 wo w4 a4 (k + 1) c4 (outT bs (j + 1)) (upd A' k (some ⟨gj, 0, none⟩)) (upd C' k (C j))) := Lib.hid (by rw [HX.out]; exact HN.out)
            go_roundw
            case rel => exact ⟨j + 1, k + 1, a4, c4, _, _, by omega, by omega, by go_num, rfl, HN2⟩
            case measure => simp [intOf]; omega
        · obtain rfl : Q = j := by omega
          have b2 : decide ((Q : Int) < (Q : Int)) = false := by simp
          have HM := Lib.hid HV.out.rd
          have hrl := HV.out.len
          have HL2 : Hid (outT bs Q = outR bs) := Lib.hid (outT_all LB.out)
          have HBF : Hid (Below w.heap.size w wi) := Lib.hid ((HW.out.trans (HOo.out.low.mono HW.out.size)).trans (HV.out.below.mono (Nat.le_trans HW.out.size HOo.out.low.size)))
          go_wp2_with fail
          go_ret
          exact ⟨bs, a1, c1, (by rw [← HL2.out, hrl]; rfl), HRn.out, by rw [← HL2.out]; exact HM.out, HBF.out⟩
end Go.Proofs.Ytcnphhcdjhmmkaa
