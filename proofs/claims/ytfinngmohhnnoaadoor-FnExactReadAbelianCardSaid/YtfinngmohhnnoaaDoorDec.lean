/- The decimal text of a number: the library's and the reference's; the library's Join. -/
import Derived.Test.YtfinngmohhnnoaaDoorAb
import Derived.Test.YtfinngmohhnnoaaDoorPush
import Derived.Test.YtfinngmohhnnoaaDoorShelfF
import Derived.Lib.ItoaNum
import Derived.Lib.AppendIntMem
import Derived.Lib.SmallJoins
import Derived.Lib.SlBytesRow
import Derived.Lib.Hide
import Derived.Deep.RegionHeld3
import Derived.Test.YtfinngmohhnnoaaDoorBox
set_option linter.unusedVariables false
set_option linter.unusedSimpArgs false
namespace Go.Proofs.YtfinngmohhnnoaaDoor
open Go.RowKit
theorem extraJ : Builder.Extra Tryd.prog Go.Proofs.YtfinngmohhnnoaaDoor.joinS_ren := {
  sizeBuilder := by kernel_rfl
  liesBuilder := by kernel_rfl
  t5 := fmtInt.t5
  a5 := fmtInt.a5
  z5 := fmtInt.z5
  v5 := fmtInt.v5
  infoByte := by kernel_rfl
  cellsByte := by kernel_rfl
  sizeByte := by kernel_rfl
  neB5 := by decide }
/-- the table of powers of ten -/
def Pow (w : World) : Prop := Lib.TabIs Tryd.prog w "internal/strconv.uint64pow10" .u64 Lib.pow10Tab
theorem Pow.keep {w w' : World} {B : Nat} (h : Pow w) (hb : Below B w w') (hB : w.heap.size ≤ B) : Pow w' := Joins.tab_stays (g := 2) (by kernel_rfl) h hb hB
/-- a string of these bytes -/
def bs (l : List UInt8) : ByteArray := ⟨l.toArray⟩
theorem tdiv10 (n : Nat) : (n : Int).tdiv 10 = ((n / 10 : Nat) : Int) := Int.ofNat_tdiv n 10
theorem tmod10 (n : Nat) : (n : Int).tmod 10 = ((n % 10 : Nat) : Int) := Int.ofNat_tmod n 10
theorem bs_app (a b : List UInt8) : bs a ++ bs b = bs (a ++ b) := by
  apply ByteArray.ext
  show (ByteArray.append _ _).data = _
  unfold bs
  simp
theorem fmt_any (n : Nat) (hn : n ≤ 1000000) (w : World) (hp : Pow w) : Calls Tryd.prog 30 #[.int .i64 n, .int .i64 10] w fun e w' => e = .returned (.string (bs (Lib.decDigits n))) ∧ Below w.heap.size w w' := by
  refine (Any.strconv_FormatInt_10 fmtInt (n : Int) (by omega) (by omega) w hp).mono ?_
  rintro e w' ⟨rfl, k, os, rfl⟩
  refine ⟨?_, ?_⟩
  · unfold bs Lib.itoa
    rw [if_neg (by omega)]
    rfl
  · exact Lib.below_grow _ w (Nat.le_refl _) k os
theorem decDigits_lt {n : Nat} (h : n < 10) : Lib.decDigits n = [UInt8.ofNat (48 + n)] := by rw [Lib.decDigits, dif_pos h]
theorem decDigits_ge {n : Nat} (h : ¬ n < 10) : Lib.decDigits n = Lib.decDigits (n / 10) ++ [UInt8.ofNat (48 + n % 10)] := by rw [Lib.decDigits, dif_neg h]
theorem decDigits_len : ∀ n : Nat, (Lib.decDigits n).length ≤ n + 1 := by
  intro n
  induction n using Nat.strongRecOn with
  | _ n ih =>
    by_cases h : n < 10
    · rw [decDigits_lt h]; simp
    · rw [decDigits_ge h, List.length_append]
      have := ih (n / 10) (by omega)
      simp only [List.length_cons, List.length_nil]
      omega
theorem bs_size (l : List UInt8) : (bs l).size = l.length := by simp [bs, ByteArray.size]
/-- the text of one byte -/
theorem conv1' (w : World) (b n : Nat) (sr : ByteArray) (hn : n ≤ 255) (hs : sr = bs [UInt8.ofNat n]) (z : Int) (hz : z = n) (hc : w.cell? ⟨b, 0, none⟩ = some (.int .u8 z)) : (convert 56 9 (.slice (some ⟨b, 0, none⟩) 1 1)).run Tryd.prog w = .ok (.string sr) w := by
  subst hs hz
  have h := Lib.run_convert_whole (P := Tryd.prog) w 56 5 9 Tryd.underlying56 Tryd.underlying5 Tryd.underlying9 b 0 ⟨#[UInt8.ofNat n]⟩ (fun i hi => by
    have h0 : i = 0 := by have : i < 1 := hi; omega
    subst h0
    rw [hc]
    simp only [ByteArray.getElem_eq_getElem_data]
    simp
    omega) 1
  exact h
theorem conv1 (w : World) (n : Nat) (sr : ByteArray) (hn : n ≤ 255) (hs : sr = bs [UInt8.ofNat n]) (z : Int) (hz : z = n) : (convert 56 9 (.slice (some ⟨w.heap.size, 0, none⟩) 1 1)).run Tryd.prog (w.alloc (.cells #[.int .u8 z] 5)) = .ok (.string sr) (w.alloc (.cells #[.int .u8 z] 5)) :=
  conv1' _ _ n sr hn hs z hz ((BX.new w _ _).cell 0)
theorem l01Dec_lt (n : Nat) (hn : n < 10) (w : World) : Calls Tryd.prog 28 #[.int .i64 n] w fun e w' => e = .returned (.string (bs (Lib.decDigits n))) ∧ Below w.heap.size w w' := by
  go_enter Tryd.func28, Tryd.ntmps28
  have h1 : (n : Int) < 10 := by omega
  have h2 : decide ((n : Int) < 10) = true := decide_eq_true h1
  have h3 : IntKind.u8.wrap (48 + (n : Int)) = 48 + (n : Int) := by rw [IntKind.wrap_u8]; omega
  obtain ⟨sr, hsr⟩ : ∃ sr, sr = bs [UInt8.ofNat (48 + n)] := ⟨_, rfl⟩
  have hc := conv1 w (48 + n) sr (by omega) hsr (48 + (n : Int)) (by omega)
  have HS := Lib.hid hsr
  clear hsr
  go_wp2_with fail
  go_ret
  refine ⟨?_, (Below.refl _ _).alloc (Nat.le_refl _) _⟩
  rw [decDigits_lt hn, ← HS.out]
  rfl
set_option maxRecDepth 100000 in
theorem l01Dec_any : ∀ (n : Nat), n ≤ 1000000 → ∀ w : World, Calls Tryd.prog 28 #[.int .i64 n] w fun e w' => e = .returned (.string (bs (Lib.decDigits n))) ∧ Below w.heap.size w w' := by
  intro n
  induction n using Nat.strongRecOn with
  | _ n ih =>
    intro hn w
    by_cases h0 : n < 10
    · exact l01Dec_lt n h0 w
    · go_enter Tryd.func28, Tryd.ntmps28
      have h1 : ¬ (n : Int) < 10 := by omega
      have h2 : decide ((n : Int) < 10) = false := decide_eq_false h1
      obtain ⟨q, hq⟩ : ∃ q, q = n / 10 := ⟨_, rfl⟩
      obtain ⟨r, hr⟩ : ∃ r, r = n % 10 := ⟨_, rfl⟩
      have hr9 : r < 10 := by omega
      have e1 : (n : Int).tdiv 10 = (q : Int) := by rw [tdiv10, hq]
      have e2 : (n : Int).tmod 10 = (r : Int) := by rw [tmod10, hr]
      have h3 : IntKind.u8.wrap (48 + (r : Int)) = 48 + (r : Int) := by rw [IntKind.wrap_u8]; omega
      obtain ⟨sr, hsr⟩ : ∃ sr, sr = bs [UInt8.ofNat (48 + r)] := ⟨_, rfl⟩
      obtain ⟨sq, hsq⟩ : ∃ sq, sq = bs (Lib.decDigits q) := ⟨_, rfl⟩
      have HI := Lib.hid (ih q (by omega) (by omega))
      rw [← hsq] at HI
      have HD : Hid (bs (Lib.decDigits n) = sq ++ sr) := Lib.hid (by rw [decDigits_ge h0, ← hq, ← hr, hsq, hsr, bs_app])
      have hc : ∀ W : World, _ := fun W => conv1 W (48 + r) sr (by omega) hsr (48 + (r : Int)) (by omega)
      have w1 : IntKind.i64.wrap (q : Int) = (q : Int) := IntWalk.i64_in _ (by omega)
      have w2 : IntKind.i64.wrap (48 + (r : Int)) = 48 + (r : Int) := IntWalk.i64_in _ (by omega)
      have sz3 : ¬ 9223372036854775807 < sq.size + sr.size := by
        have e1 : sr.size = 1 := by rw [hsr]; rfl
        have e2 : sq.size ≤ 1000001 := by rw [hsq, bs_size]; have := decDigits_len q; omega
        omega
      have hc0 := conv1' (w.alloc (.cells #[.int .u8 (48 + (r : Int))] 5)).drew w.heap.size (48 + r) sr (by omega) hsr (48 + (r : Int)) (by omega) (by exact (BX.new w 5 #[.int .u8 (48 + (r : Int))]).cell 0)
      have HR := Lib.hid hsr
      clear ih hq hr hsq hsr h0
      go_wp2_with fail
      go_region_with ((go_at_call 28; refine (HI.out _).mono ?_; rintro e w6 ⟨rfl, hb0⟩; first
          | (have HB : Hid (Below w.heap.size w w6) := Lib.hid (show Below w.heap.size w w6 from ⟨hb0.os, hb0.tape, hb0.output, hb0.size, hb0.block⟩); clear hb0)
          | (have hb1 : Below (w.alloc (.cells #[.int .u8 (48 + (r : Int))] 5)).heap.size (w.alloc (.cells #[.int .u8 (48 + (r : Int))] 5)) w6 := ⟨hb0.os, hb0.tape, hb0.output, hb0.size, hb0.block⟩; have HB : Hid (Below w.heap.size w w6) := Lib.hid (((Below.refl w.heap.size w).alloc (Nat.le_refl _) (.cells #[.int .u8 (48 + (r : Int))] 5)).trans (hb1.mono (by simp))); have hcv := conv1' w6 w.heap.size (48 + r) sr (by omega) HR.out (48 + (r : Int)) (by omega) (cell_below (p := ⟨w.heap.size, 0, none⟩) ((BX.new w 5 #[.int .u8 (48 + (r : Int))]).cell 0) hb1); clear hb0 hb1)))
      all_goals (try go_wp2_with fail)
      all_goals go_ret
      all_goals (refine ⟨by rw [HD.out]; rfl, ?_⟩)
      all_goals first | exact HB.out | exact HB.out.alloc HB.out.size _
end Go.Proofs.YtfinngmohhnnoaaDoor
