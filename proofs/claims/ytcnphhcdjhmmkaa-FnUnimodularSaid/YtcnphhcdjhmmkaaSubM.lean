/- A multiple of a row subtracted from another: the program's in place, the reference's as a new list. The numbers fit in the end; what overflows on the way is no matter. -/
import Derived.Test.YtcnphhcdjhmmkaaBox
import Derived.Test.YtcnphhcdjhmmkaaRowW
import Derived.StillTailTactics
set_option linter.unusedVariables false
set_option linter.unusedSimpArgs false
namespace Go.Proofs.Ytcnphhcdjhmmkaa
open Go.RowKit

/-- xs - k * ys -/
def subM (k : Int) (xs ys : List Int) : List Int := tab xs.length fun j => el xs j - k * el ys j
/-- the first i entries are those of the difference -/
def mixs (k : Int) (xs ys : List Int) (i : Nat) : List Int := tab xs.length fun j => if j < i then el xs j - k * el ys j else el xs j
theorem subM_len (k : Int) (xs ys : List Int) : (subM k xs ys).length = xs.length := tab_len _ _
theorem subM_el {k : Int} {xs ys : List Int} {j : Nat} (h : j < xs.length) : el (subM k xs ys) j = el xs j - k * el ys j := el_tab h
theorem mixs_len (k : Int) (xs ys : List Int) (i : Nat) : (mixs k xs ys i).length = xs.length := tab_len _ _
theorem mixs_zero (k : Int) (xs ys : List Int) : mixs k xs ys 0 = xs := by
  unfold mixs
  rw [tab_congr (g := el xs) (fun i _ => if_neg (by omega)), tab_el]
theorem mixs_full (k : Int) (xs ys : List Int) : mixs k xs ys xs.length = subM k xs ys := by
  unfold mixs subM
  exact tab_congr (fun i hi => if_pos hi)
theorem mixs_el {k : Int} {xs ys : List Int} {i j : Nat} (hj : j < xs.length) (h : i ≤ j) : el (mixs k xs ys i) j = el xs j := by
  unfold mixs
  rw [el_tab hj, if_neg (by omega)]
theorem mixs_set {k : Int} {xs ys : List Int} {i : Nat} (hi : i < xs.length) : (mixs k xs ys i).set i (el xs i - k * el ys i) = mixs k xs ys (i + 1) := by
  refine list_ext (by simp [mixs_len]) fun j hj => ?_
  have hj' : j < xs.length := by simpa [mixs_len] using hj
  rw [el_set (by rw [mixs_len]; exact hi)]
  unfold mixs
  rw [el_tab hj', el_tab hj']
  by_cases h : j = i
  · subst h; rw [if_pos rfl, if_pos (by omega)]
  · rw [if_neg h]
    by_cases h2 : j < i
    · rw [if_pos h2, if_pos (by omega)]
    · rw [if_neg h2, if_neg (by omega)]
theorem wrap_sub_in {x z : Int} (h : I64 (x - z)) : IntKind.i64.wrap (x - IntKind.i64.wrap z) = x - z := by
  obtain ⟨h1, h2⟩ := h
  rw [IntKind.wrap_i64, IntKind.wrap_i64]
  omega
set_option maxRecDepth 20000 in
set_option maxHeartbeats 2000000 in
theorem subtractMultiple_any (T : TypeId) (B : Nat) (a b : Option Addr) (n m ca cb : Nat) (xs ys : List Int) (k : Int) (w : World) (ha : OwnI T w B a n ca xs) (hb : RdI w b ys) (hl : ys.length = m) (hnm : n ≤ m) (hm : m ≤ 1048576) (hap : Apart a b)
    (hx : ∀ j, j < n → I64 (el xs j - k * el ys j)) :
    Calls Try.prog 40 #[.slice a n ca, .slice b m cb, .int .i64 k] w fun e w' => e = .returned (.tuple #[]) ∧ OwnI T w' B a n ca (subM k xs ys) ∧ Chg (fun j => ∃ q, a = some q ∧ q.block = j) w w' := by
  have HL := Lib.hid hl
  have HB := Lib.hid hb
  have HX := Lib.hid hx
  have HP := Lib.hid hap
  have HN : Hid (xs.length = n) := Lib.hid ha.len
  have H0 : Hid (OwnI T w B a n ca (mixs k xs ys 0) ∧ Chg (fun j => ∃ q, a = some q ∧ q.block = j) w w) := Lib.hid ⟨by rw [mixs_zero]; exact ha, Chg.refl _ _⟩
  clear ha hb hl hx hap
  go_enter Try.func40, Try.ntmps40
  go_wp2
  go_loopw [9] (fun i wr => ∃ j : Nat, j ≤ n ∧ i = .int .i64 j ∧ Hid (OwnI T wr B a n ca (mixs k xs ys j) ∧ Chg (fun j => ∃ q, a = some q ∧ q.block = j) w wr)) (fun i _ => n - (intOf i).toNat)
  case atStart => exact ⟨0, Nat.zero_le _, rfl, H0⟩
  case round =>
    obtain ⟨i, hi, rfl, HC⟩ := hrel
    clear H0
    by_cases hlt : i < n
    · obtain ⟨g, rfl⟩ := HC.out.1.addr (by omega)
      have e1 := HC.out.1.cellAt hlt
      rw [mixs_el (by rw [HN.out]; exact hlt) (Nat.le_refl _)] at e1
      have e2 := HC.out.1.frozen i
      have hbw : RdI wr b ys := HB.out.same (fun q hq => HC.out.2.block _ (by obtain ⟨b', o', hb', hc'⟩ := HB.out (by rw [HL.out]; omega); rw [hb'] at hq; injection hq with hq; subst hq; exact (block_lt (hc' i (by rw [HL.out]; omega)) : b' < w.heap.size)) (fun hx => by obtain ⟨x, hx, e⟩ := hx; exact HP.out x q hx hq e))
      obtain ⟨b', o', rfl, hc⟩ := hbw (by rw [HL.out]; omega)
      have e3 := hc i (by rw [HL.out]; omega)
      have W1 := wrap_sub_in (HX.out i hlt)
      have J1 : (i : Int) < (n : Int) := by omega
      have J2 : (i : Int) < (m : Int) := by omega
      clear hc hbw
      go_wp2
      go_still_tail 12, (by kernel_rfl)
      change wpList _ _ _ _ _ wr.drew
      have HN2 : Hid (OwnI T (wr.setCell ⟨g, i, none⟩ (.int .i64 (el xs i - k * el ys i))).drew B (some ⟨g, 0, none⟩) n ca (mixs k xs ys (i + 1)) ∧ Chg (fun j => ∃ q, some (⟨g, 0, none⟩ : Addr) = some q ∧ q.block = j) w (wr.setCell ⟨g, i, none⟩ (.int .i64 (el xs i - k * el ys i))).drew) := Lib.hid ⟨by have := HC.out.1.set hlt (el xs i - k * el ys i); rw [mixs_set (by rw [HN.out]; exact hlt)] at this; exact this, (HC.out.2.setCell ⟨g, i, none⟩ ⟨_, rfl, rfl⟩ _).drew⟩
      go_wp2
      go_roundw
      case rel => exact ⟨i + 1, by omega, by go_num, HN2⟩
      case measure => simp [intOf]; omega
    · obtain rfl : n = i := by omega
      have HM : Hid (OwnI T wr B a n ca (subM k xs ys) ∧ Chg (fun j => ∃ q, a = some q ∧ q.block = j) w wr) := Lib.hid (by have := HC.out; rw [← mixs_full, HN.out]; exact this)
      go_wp2
      go_end0
      exact ⟨rfl, HM.out.1, HM.out.2⟩
set_option maxRecDepth 20000 in
set_option maxHeartbeats 2000000 in
theorem l04Minus_any (a b : Option Addr) (n m ca cb : Nat) (xs ys : List Int) (k : Int) (w : World) (ha : RdI w a xs) (hlx : xs.length = n) (hb : RdI w b ys) (hl : ys.length = m) (hnm : n ≤ m) (hm : m ≤ 1048576)
    (hx : ∀ j, j < n → I64 (el xs j - k * el ys j)) :
    Calls Try.prog 35 #[.slice a n ca, .int .i64 k, .slice b m cb] w fun e w' => ∃ (a' : Option Addr) (c' : Nat), e = .returned (.slice a' n c') ∧ OwnI 2 w' w.heap.size a' n c' (subM k xs ys) ∧ Below w.heap.size w w' := by
  have hmk := run_make_row' (P := Try.prog) 31 2 (.int .i64 0) 8 Try.underlying31 Try.info2 rfl .i64 .i64 n (by omega) (by omega)
  have HA := Lib.hid ha
  have HB := Lib.hid hb
  have HL := Lib.hid hl
  have HLX := Lib.hid hlx
  have HX := Lib.hid hx
  have H0 : Hid (Copied 2 w (w.alloc (.cells (madeCells #[.int .i64 0] n) 2)) w.heap.size n 0 (subM k xs ys)) := Lib.hid (Copied.start w n _)
  clear ha hb hl hlx hx
  go_enter Try.func35, Try.ntmps35
  go_wp2
  clear hmk
  go_loopw [8] (fun i wr => ∃ j : Nat, j ≤ n ∧ i = .int .i64 j ∧ Hid (Copied 2 w wr w.heap.size n j (subM k xs ys))) (fun i _ => n - (intOf i).toNat)
  case atStart => exact ⟨0, Nat.zero_le _, rfl, H0⟩
  case round =>
    obtain ⟨i, hi, rfl, HC⟩ := hrel
    clear H0
    by_cases hlt : i < n
    · obtain ⟨b1, o1, rfl, h1⟩ := (HA.out.keep HC.out.bel (Nat.le_refl _)) (by rw [HLX.out]; omega)
      obtain ⟨b2, o2, rfl, h2⟩ := (HB.out.keep HC.out.bel (Nat.le_refl _)) (by rw [HL.out]; omega)
      have c1 := h1 i (by rw [HLX.out]; exact hlt)
      have c2 := h2 i (by rw [HL.out]; omega)
      have c3 := HC.out.cell hlt
      have c4 := HC.out.frozen i
      have W1 := wrap_sub_in (HX.out i hlt)
      have J1 : (i : Int) < (n : Int) := by omega
      have J2 : (i : Int) < (m : Int) := by omega
      have b1 : decide ((i : Int) < (n : Int)) = true := decide_eq_true J1
      clear h1 h2
      go_wp2
      go_still_tail 14, (by kernel_rfl)
      change wpList _ _ _ _ _ wr.drew
      have HN2 : Hid (Copied 2 w (wr.setCell ⟨w.heap.size, i, none⟩ (.int .i64 (el xs i - k * el ys i))).drew w.heap.size n (i + 1) (subM k xs ys)) := Lib.hid (by have h := HC.out.step hlt; rw [subM_el (by rw [HLX.out]; exact hlt)] at h; obtain ⟨h1, h2, h3⟩ := h; exact ⟨h1.drew, h2, h3⟩)
      go_wp2
      go_roundw
      case rel => exact ⟨i + 1, by omega, by go_num, HN2⟩
      case measure => simp [intOf]; omega
    · obtain rfl : i = n := by omega
      go_wp2
      go_ret
      exact ⟨_, _, rfl, HC.out.own (by rw [subM_len, HLX.out]) (by simp only [maxLen]; omega), HC.out.bel⟩
end Go.Proofs.Ytcnphhcdjhmmkaa
