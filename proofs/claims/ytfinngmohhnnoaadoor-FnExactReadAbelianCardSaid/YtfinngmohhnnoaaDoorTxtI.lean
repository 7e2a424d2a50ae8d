/- The text of an abelian group: the program's function. -/
import Derived.Test.YtfinngmohhnnoaaDoorTxt
import Derived.Test.YtfinngmohhnnoaaDoorAppK
set_option linter.unusedVariables false
set_option linter.unusedSimpArgs false
namespace Go.Proofs.YtfinngmohhnnoaaDoor
open Go.RowKit
def strs (ws : List (List UInt8)) : List Value := ws.map fun l => .string (bs l)
/-- the words so far, a slice of the call's own -/
structure TxW (wb wr : World) (o : Option Addr) (k cap : Nat) (ws : List (List UInt8)) : Prop where
  bel : Below wb.heap.size wb wr
  own : wr.ownsRow wb.heap.size 9 1 (.slice o k cap) k (strs ws)
theorem TxW.push {wb wr wc w4 : World} {o a4 : Option Addr} {k cap c4 : Nat} {ws : List (List UInt8)} {s : ByteArray} {l : List UInt8} (h : TxW wb wr o k cap ws) (hb : Below wr.heap.size wr wc) (hs : s = bs l)
    (r4 : w4.ownsRow wb.heap.size 9 1 (.slice a4 (k + 1) c4) (k + 1) (strs ws ++ [.string s])) (g4 : Chg (fun m => ∃ p, o = some p ∧ p.block = m) wc w4) : TxW wb w4 a4 (k + 1) c4 (ws ++ [l]) := by
  have hz : wb.heap.size ≤ wc.heap.size := Nat.le_trans h.bel.size hb.size
  refine ⟨?_, ?_⟩
  · refine (h.bel.trans (hb.mono h.bel.size)).trans (g4.below hz (fun m hm hx => ?_))
    obtain ⟨p, hp, e⟩ := hx
    have := (ownsRow_block h.own p hp).1
    omega
  · unfold strs at r4 ⊢
    rw [List.map_append, List.map_cons, List.map_nil, ← hs]
    exact r4
theorem TxW.keep {wb wr wc : World} {o : Option Addr} {k cap : Nat} {ws : List (List UInt8)} (h : TxW wb wr o k cap ws) (hb : Below wr.heap.size wr wc) : TxW wb wc o k cap ws :=
  ⟨h.bel.trans (hb.mono h.bel.size), ownsRow_same h.own (fun p hp => hb.block _ (ownsRow_block h.own p hp).2)⟩
theorem one_cell (w : World) (T : TypeId) (v : Value) : ∀ j u, [v][j]? = some u → (w.alloc (.cells #[v] T)).cell? ⟨w.heap.size, j, none⟩ = some u := fun j u h => by
  rw [(BX.new w T #[v]).cell j]
  simpa using h
theorem sz_alloc {wb wr w6 : World} {B : Nat} {o : Obj} (h1 : Below wb.heap.size wb wr) (h2 : Below B wr w6) : wb.heap.size ≤ (w6.alloc o).heap.size := by
  have := h1.size
  have := h2.size
  simp
  omega
theorem infoS : (Tryd.prog.info? 9).map (fun i => (i.zero, i.size, i.bytes)) = some (some (.string ⟨#[]⟩), 1, 16) := by kernel_rfl
theorem wordsL_tk {xs : List Int} {r k : Nat} (h : k < xs.length) : (wordsL xs r).take (k + 1) = (wordsL xs r).take k ++ [wordF (el xs k)] := by
  rw [List.take_add_one, wordsL_lt h]; rfl
theorem wordsL_tg {xs : List Int} {r k : Nat} (h : k < r) : (wordsL xs r).take (xs.length + k + 1) = (wordsL xs r).take (xs.length + k) ++ [[90]] := by
  rw [List.take_add_one, wordsL_ge h]; rfl
theorem strs_get {ws : List (List UInt8)} {i : Nat} (h : i < ws.length) : (strs ws)[i]? = some (.string (bs ws[i])) := by simp [strs, h]
theorem join_any (wb wr : World) (ad : Option Addr) (n cap : Nat) (ws : List (List UInt8)) (h : TxW wb wr ad n cap ws) (hn : ws.length = n) (h0 : 0 < n) (h1 : n ≤ 1000000) (hj : (Lib.join ws sepX).length ≤ 1000000000) :
    Calls Tryd.prog 31 #[.slice ad n cap, .string ⟨#[32, 120, 32]⟩] wr fun e w' => e = .returned (.string (bs (Lib.join ws sepX))) ∧ Below wr.heap.size wr w' := by
  obtain ⟨g, ha, hc⟩ := ownsRow_cell h.own h0
  subst ha
  have hcap : n ≤ cap := by
    rcases ownsRow_cases h.own with ⟨e, _⟩ | ⟨g, cur, _, _, _, h1, _⟩
    · cases e
    · exact h1
  have hblk := (ownsRow_block h.own _ rfl).2
  have e0 : (ws.map bs).length = n := by simpa using hn
  have e1 : (ws.map bs).map (·.data.toList) = ws := by
    rw [List.map_map]
    conv => rhs; rw [← List.map_id ws]
    exact List.map_congr_left fun x _ => rfl
  have hJ := Any.strings_Join joinS extraJ g 0 cap (ws.map bs) ⟨#[32, 120, 32]⟩ wr (fun j x hx => by
    have hj' : j < n := by
      have := (List.getElem?_eq_some_iff.1 hx).1
      omega
    rw [Nat.zero_add, hc j hj', strs_get (by omega)]
    simp only [List.getElem?_map, List.getElem?_eq_getElem (show j < ws.length by omega), Option.map_some, Option.some.injEq] at hx
    rw [hx]) hblk (by rw [e0]; omega) (by rw [e0]; exact hcap) (by rw [e1]; exact Nat.le_trans hj (by omega))
  rw [e0, e1] at hJ
  exact hJ
set_option maxHeartbeats 1000000 in
theorem impl_text_any (a : Option Addr) (n c : Nat) (xs : List Int) (r : Nat) (w : World) (ha : RdI w a xs) (hl : xs.length = n) (ht : Txt xs r) (hp : Pow w) :
    Calls Tryd.prog 19 #[.agg #[.slice a n c, .int .i64 r]] w fun e w' => e = .returned (.string (bs (txt xs r))) ∧ Below w.heap.size w w' := by
  have HA := Lib.hid ha
  have HL := Lib.hid hl
  have HT := Lib.hid ht
  have HP := Lib.hid hp
  have hn10 : n ≤ 10 := by have := ht.len; omega
  have hr10 : r ≤ 10 := by have := ht.len; omega
  clear ha hl ht hp
  go_enter Tryd.func19, Tryd.ntmps19
  go_wp2_with fail
  obtain ⟨wb, hwb⟩ : ∃ wb, wb = w.alloc (.cells #[.slice a n c, .int .i64 r] 28) := ⟨_, rfl⟩
  have hb0 : Below w.heap.size w wb := by rw [hwb]; exact (Below.refl _ _).alloc (Nat.le_refl _) _
  have s0 : wb.heap.size = w.heap.size + 1 := by rw [hwb]; simp
  have b0 : wb.cell? ⟨w.heap.size, 0, none⟩ = some (.slice a n c) := by rw [hwb]; simp
  have b1 : wb.cell? ⟨w.heap.size, 1, none⟩ = some (.int .i64 r) := by rw [hwb]; simp
  rw [← hwb]
  have HWB := Lib.hid hb0
  have HS0 := Lib.hid s0
  have HB1 := Lib.hid b1
  clear hwb hb0
  have HW0 : Hid (TxW wb wb none 0 0 ((wordsL xs r).take 0)) := Lib.hid ⟨Below.refl _ _, World.ownsRow_nil wb _ _ 1⟩
  go_loopw [9, 3] (fun i o wr => ∃ (k cap : Nat) (ad : Option Addr), k ≤ n ∧ i = .int .i64 k ∧ o = .slice ad k cap ∧ Hid (TxW wb wr ad k cap ((wordsL xs r).take k))) (fun i _ _ => n - (intOf i).toNat)
  case atStart => exact ⟨0, _, _, Nat.zero_le _, rfl, rfl, HW0⟩
  case round =>
    obtain ⟨k, cap, ad, hk, rfl, rfl, HW⟩ := hrel
    clear HW0
    by_cases hlt : k < n
    · obtain ⟨p1, o1, hb1, hc⟩ := (HA.out.keep (HWB.out.trans (HW.out.bel.mono (by rw [HS0.out]; omega))) (Nat.le_refl _)) (by rw [HL.out]; omega)
      have d1 := hc k (by rw [HL.out]; omega)
      subst hb1
      have hk1 : (k : Int) < (n : Int) := by omega
      have hk2 : decide ((k : Int) < (n : Int)) = true := decide_eq_true hk1
      obtain ⟨x, hx⟩ : ∃ x : Nat, el xs k = x := ⟨(el xs k).toNat, by have := HT.out.pos k (by rw [HL.out]; omega); omega⟩
      have hx6 : x ≤ 1000000 := by have := HT.out.pos k (by rw [HL.out]; omega); omega
      rw [hx] at d1
      obtain ⟨d, hd⟩ : ∃ d, d = bs (Lib.decDigits x) := ⟨_, rfl⟩
      have hd1 : d.size ≤ 1000001 := by rw [hd, bs_size]; have := decDigits_len x; omega
      have z1 : ¬ 9223372036854775807 < 1 + d.size := by omega
      have HN : Hid ((⟨#[67]⟩ : ByteArray) ++ d = bs (wordF (el xs k))) := Lib.hid (by
        rw [hx, hd]
        show bs [67] ++ bs _ = bs (67 :: _)
        rw [bs_app]
        rfl)
      have HTK := Lib.hid (wordsL_tk (xs := xs) (r := r) (k := k) (by rw [HL.out]; exact hlt))
      have HPW : Hid (Pow wr) := Lib.hid (HP.out.keep (HWB.out.trans (HW.out.bel.mono (by rw [HS0.out]; omega))) (Nat.le_refl _))
      have HD := Lib.hid hd
      clear hc hx hd hd1
      go_wp2_with (first
        | (go_at_call 30; refine (fmt_any x (by omega) _ (by exact HPW.out)).mono ?_; rw [← HD.out]; rintro e w6 ⟨rfl, hb⟩; have HB6 := Lib.hid hb; clear hb)
        | (at_builtin; refine wpList_pushK rfl (.tmp 13) (.tmp 17) 42 rfl wb.heap.size 9 (.string ⟨#[]⟩) 1 16 Tryd.underlying42 infoS rfl (by decide) (by decide) [.string (⟨#[67]⟩ ++ d)] rfl (by intro u hu; simp at hu; subst hu; rfl) _ _ _ _ rfl w6.heap.size rfl (one_cell _ _ _) (by exact ((HW.out.keep HB6.out).keep ((Below.refl _ _).alloc (Nat.le_refl _) _)).own) (by omega) (sz_alloc HW.out.bel HB6.out) ?_; rintro a4 c4 w4 r4 q4 g4; have HN4 := Lib.hid (HW.out.push (HB6.out.alloc HB6.out.size _) HN.out r4 g4); clear r4 q4 g4))
      go_roundw
      case rel => exact ⟨k + 1, _, _, by omega, by go_num, rfl, Lib.hid (by rw [HTK.out]; exact HN4.out)⟩
      case measure => simp [intOf]; omega
    · obtain rfl : k = n := by omega
      have hk1 : ¬ (k : Int) < (k : Int) := by omega
      have hk2 : decide ((k : Int) < (k : Int)) = false := decide_eq_false hk1
      have HW1 : Hid (TxW wb wr ad (k + 0) cap ((wordsL xs r).take (xs.length + 0))) := Lib.hid (by rw [HL.out]; exact HW.out)
      have b2 := cell_below (p := ⟨w.heap.size, 1, none⟩) HB1.out HW.out.bel
      clear HW
      obtain ⟨w1, hw1⟩ : ∃ w1, w1 = wr := ⟨wr, rfl⟩
      subst hw1
      go_wp2_with fail
      go_loopw [22, 3] (fun i o wr => ∃ (j cap : Nat) (ad : Option Addr), j ≤ r ∧ i = .int .i64 j ∧ o = .slice ad (k + j) cap ∧ Hid (TxW wb wr ad (k + j) cap ((wordsL xs r).take (xs.length + j)))) (fun i _ _ => r - (intOf i).toNat)
      case atStart => exact ⟨0, _, _, Nat.zero_le _, rfl, rfl, HW1⟩
      case round =>
        obtain ⟨j, cap, ad, hj, rfl, rfl, HW⟩ := hrel
        clear HW1
        by_cases hlt : j < r
        · have hj1 : (j : Int) < (r : Int) := by omega
          have hj2 : decide ((j : Int) < (r : Int)) = true := decide_eq_true hj1
          have HTK := Lib.hid (wordsL_tg (xs := xs) hlt)
          go_wp2_with (at_builtin; refine wpList_pushK rfl (.tmp 24) (.tmp 25) 42 rfl wb.heap.size 9 (.string ⟨#[]⟩) 1 16 Tryd.underlying42 infoS rfl (by decide) (by decide) [.string ⟨#[90]⟩] rfl (by intro u hu; simp at hu; subst hu; rfl) _ _ _ _ rfl wr.heap.size rfl (one_cell _ _ _) (by exact (HW.out.keep ((Below.refl _ _).alloc (Nat.le_refl _) _)).own) (by omega) (sz_alloc HW.out.bel (Below.refl wr.heap.size _)) ?_; rintro a4 c4 w4 r4 q4 g4; have HN4 := Lib.hid (HW.out.push ((Below.refl _ _).alloc (Nat.le_refl _) _) (l := [90]) rfl r4 g4); clear r4 q4 g4)
          go_roundw
          case rel => exact ⟨j + 1, _, _, by omega, by go_num, by rw [Nat.add_assoc], Lib.hid (by rw [← Nat.add_assoc, ← Nat.add_assoc, HTK.out]; exact HN4.out)⟩
          case measure => simp [intOf]; omega
        · obtain rfl : j = r := by omega
          have hj1 : ¬ (j : Int) < (j : Int) := by omega
          have hj2 : decide ((j : Int) < (j : Int)) = false := decide_eq_false hj1
          by_cases hz : k + j = 0
          · have e1 : (((k + j : Nat) : Int) == 0) = true := beq_iff_eq.2 (by omega)
            have HE : Hid (bs (txt xs j) = ⟨#[49]⟩) := Lib.hid (by unfold txt; rw [if_pos (by rw [HL.out]; exact hz)]; rfl)
            have HBE : Hid (Below w.heap.size w wr) := Lib.hid (HWB.out.trans (HW.out.bel.mono (by rw [HS0.out]; omega)))
            go_wp2_with fail
            go_ret
            exact ⟨by rw [HE.out]; rfl, HBE.out⟩
          · have hu := txt_upto (xs := xs) (r := j) (by rw [HL.out]; exact hz)
            have hu2 := upto_size HT.out (xs.length + j) (Nat.le_refl _)
            have HBE : Hid (Below w.heap.size w wr) := Lib.hid (HWB.out.trans (HW.out.bel.mono (by rw [HS0.out]; omega)))
            have hJE : Lib.join (wordsL xs j) sepX = txt xs j := by unfold txt; rw [if_neg (by rw [HL.out]; exact hz)]
            have hJL : (txt xs j).length ≤ 1000000000 := by rw [← hu.2, List.length_drop]; have := HT.out.len; omega
            have HJ := Lib.hid (join_any wb wr ad (k + j) cap (wordsL xs j) (by have := HW.out; rwa [wordsL_take] at this) (by rw [wordsL_len, HL.out]) (by omega) (by omega) (by rw [hJE]; exact hJL))
            rw [hJE] at HJ
            have f1 : (((k : Int) + (j : Int)) == 0) = false := beq_eq_false_iff_ne.2 (by omega)
            clear hu hu2 hJE hJL
            go_wp2_with (go_at_call 31; refine HJ.out.mono ?_; rintro e w6 ⟨rfl, hb⟩; have HB6 := Lib.hid (HBE.out.trans (hb.mono HBE.out.size)); clear hb)
            go_ret
            exact ⟨rfl, HB6.out⟩
end Go.Proofs.YtfinngmohhnnoaaDoor
