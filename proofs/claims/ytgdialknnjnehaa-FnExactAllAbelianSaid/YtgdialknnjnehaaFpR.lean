/- The reference's factors from primary parts. -/
import Derived.Test.YtgdialknnjnehaaFpP
import Derived.Test.YtgdialknnjnehaaPpS
import Derived.Test.YtgdialknnjnehaaApp
import Derived.BigQuiet
set_option linter.unusedVariables false
set_option linter.unusedSimpArgs false
namespace Go.Proofs.Ytgdialknnjnehaa
open Go.RowKit

def sliceLen (v : Value) : Nat := match v with
  | .slice _ n _ => n
  | _ => 0
theorem drop_split {s : List Int} {i : Nat} (h : i < s.length) : s.drop i = el s i :: s.drop (i + 1) := by
  rw [List.drop_eq_getElem_cons h, el_eq h]
/-- a pass, at position i: what is on top, what is left over -/
structure PassI (s : List Int) (i : Nat) (T R : List Int) : Prop where
  top : topsL s = T ++ topsL (s.drop i)
  rest : restL s = R ++ restL (s.drop i)
theorem PassI.start (s : List Int) : PassI s 0 [] [] := ⟨by simp, by simp⟩
theorem PassI.over {s : List Int} {i : Nat} {T R : List Int} (h : PassI s i T R) (h1 : i + 1 < s.length) (he : lpf (el s i) = lpf (el s (i + 1))) : PassI s (i + 1) T (R ++ [el s i]) := by
  have e : s.drop i = el s i :: el s (i + 1) :: s.drop (i + 2) := by rw [drop_split (by omega), drop_split h1]
  have e2 : s.drop (i + 1) = el s (i + 1) :: s.drop (i + 2) := drop_split h1
  refine ⟨?_, ?_⟩
  · rw [h.top, e, e2]; simp [topsL, he]
  · rw [h.rest, e, e2]; simp [restL, he]
theorem PassI.take {s : List Int} {i : Nat} {T R : List Int} (h : PassI s i T R) (hi : i < s.length) (he : i + 1 = s.length ∨ lpf (el s i) ≠ lpf (el s (i + 1))) : PassI s (i + 1) (T ++ [el s i]) R := by
  by_cases h1 : i + 1 < s.length
  · have e : s.drop i = el s i :: el s (i + 1) :: s.drop (i + 2) := by rw [drop_split (by omega), drop_split h1]
    have e2 : s.drop (i + 1) = el s (i + 1) :: s.drop (i + 2) := drop_split h1
    have hne : ¬ lpf (el s i) = lpf (el s (i + 1)) := by
      rcases he with he | he
      · omega
      · exact he
    refine ⟨?_, ?_⟩
    · rw [h.top, e, e2]; simp [topsL, hne]
    · rw [h.rest, e, e2]; simp [restL, hne]
  · have e2 : s.drop (i + 1) = [] := List.drop_eq_nil_of_le (by omega)
    have e : s.drop i = [el s i] := by rw [drop_split hi, e2]
    refine ⟨?_, ?_⟩
    · rw [h.top, e, e2]; simp [topsL]
    · rw [h.rest, e, e2]; simp [restL]
theorem PassI.done {s : List Int} {T R : List Int} (h : PassI s s.length T R) : topsL s = T ∧ restL s = R := by
  have h1 := h.top
  have h2 := h.rest
  rw [List.drop_length] at h1 h2
  simpa [topsL, restL] using And.intro h1 h2
/-- too large a product on the way: too large a factor -/
theorem bad_of {qs s F T R : List Int} {i : Nat} (hs : Srt s) (hx : ∀ x ∈ s, isPP x) (hi : i < s.length) (hF : (facD s).reverse ++ F = facG qs) (h : PassI s (i + 1) (T ++ [el s i]) R) (hb : 1000000 < mulL T * el s i) : facBad qs = true := by
  have hpass := facD_pass hs (fun e => by rw [e] at hi; simp at hi)
  have htop : ∀ x ∈ topsL s, 1 ≤ x := fun x hx' => by have := (hx x (topsL_sub s x hx')).1; omega
  have hle : mulL T * el s i ≤ mulL (topsL s) := by
    have h1 := h.top
    rw [h1] at htop ⊢
    have := mulL_le_app (xs := T ++ [el s i]) (ys := topsL (s.drop (i + 1))) htop
    rw [mulL_snoc] at this
    exact this
  unfold facBad
  rw [List.any_eq_true]
  refine ⟨mulL (topsL s), ?_, by simp; omega⟩
  have : mulL (topsL s) ∈ facG qs := by rw [← hF, hpass]; simp
  unfold facG at this
  simpa using this
theorem good_of {qs F : List Int} (hF : F = facG qs) (hb : ∀ x ∈ F, x ≤ 1000000) : facBad qs = false := by
  unfold facBad
  rw [List.any_eq_false]
  intro x hx
  have := hb x (by rw [hF]; unfold facG; simpa using hx)
  simp
  omega
theorem new_block {b a4 : Option Addr} {s s' : Nat} (h : ∀ p, b = some p → s ≤ p.block) (hs : s ≤ s') (q : a4 = b ∨ ∃ p, a4 = some p ∧ s' ≤ p.block) (p : Addr) (hp : a4 = some p) : s ≤ p.block := by
  rcases q with q | ⟨p', q, h2⟩
  · exact h p (by rw [← q]; exact hp)
  · rw [hp] at q; injection q with q; subst q; omega
/-- what the reference's factors are -/
def okB (qs : List Int) : Bool := !facBad qs
def FromR (qs : List Int) (R : List Int) : Prop := okB qs = true → R = facG qs
set_option maxRecDepth 20000 in
set_option maxHeartbeats 4000000 in
theorem l05From_any (a : Option Addr) (n c : Nat) (qs : List Int) (w : World) (ha : RdI w a qs) (hl : qs.length = n) (hn : n ≤ 1000000) (hx : ∀ x ∈ qs, isPP x) :
    Calls Try.prog 59 #[.slice a n c] w fun e w' => ∃ (R : List Int) (a' : Option Addr) (m c' : Nat), e = .returned (.tuple #[.slice a' m c', .bool (okB qs)]) ∧ FromR qs R ∧ OwnI 2 w' w.heap.size a' m c' R ∧ Below w.heap.size w w' := by
  have HA := Lib.hid ha
  have HL := Lib.hid hl
  have HX := Lib.hid hx
  clear ha hl hx
  go_enter Try.func59, Try.ntmps59
  go_wp2_with fail
  refine (l05Sorted_any a n c qs w HA.out HL.out (by omega) HX.out).mono ?_
  rintro e w1 ⟨a1, c1, rfl, ho, hb⟩
  have HO1 := Lib.hid ho
  have HB1 := Lib.hid hb
  clear ho hb
  go_wp2_with fail
  go_loopw [4, 5] (fun u v wr => ∃ (b : Option Addr) (m d : Nat) (b2 : Option Addr) (m2 d2 : Nat) (s F : List Int), u = .slice b m d ∧ v = .slice b2 m2 d2 ∧ m + m2 ≤ 1000000 ∧ Hid (OwnI 2 wr w.heap.size b m d s ∧ OwnI 2 wr w.heap.size b2 m2 d2 F ∧ Below w.heap.size w wr ∧ Srt s ∧ (∀ x ∈ s, isPP x) ∧ (facD s).reverse ++ F = facG qs ∧ ∀ x ∈ F, x ≤ 1000000)) (fun u _ _ => sliceLen u)
  case atStart =>
    refine ⟨a1, n, c1, _, 0, 0, sortP qs, [], rfl, rfl, by omega, Lib.hid ⟨HO1.out.keep ((Below.refl _ _).alloc (Nat.le_refl _) _) (Nat.le_refl _), ?_, HB1.out.trans ((Below.refl _ _).alloc HB1.out.size _), sortP_sorted qs, fun x hx => HX.out x (sortP_mem.1 hx), ?_, by simp⟩⟩
    · exact (OwnI.empty w1 2).mono HB1.out.size
    · rw [List.append_nil]; unfold facG; rw [facD_perm (sortP_perm qs)]
  case round =>
    obtain ⟨b, m, d, b2, m2, d2, s, F, rfl, rfl, hmm, HR⟩ := hrel
    clear HO1 HB1
    have hml := HR.out.1.len
    by_cases hm0 : 0 < m
    · have d1 : (0 : Int) < m := by omega
      have dd2 : decide ((0 : Int) < m) = true := decide_eq_true d1
      have d3 : decide (0 < m) = true := decide_eq_true hm0
      obtain ⟨g, rfl⟩ := HR.out.1.addr hm0
      obtain ⟨wo, rfl⟩ : ∃ x, x = wr := ⟨wr, rfl⟩
      go_wp2_with fail
      have HS1 : Hid (OwnI 2 wo w.heap.size (some ⟨g, 0, none⟩) m d s) := Lib.hid HR.out.1
      have HW1 : Hid (w.heap.size ≤ wo.heap.size) := Lib.hid HR.out.2.2.1.size
      go_loopw [6, 7, 8] (fun u v i wr => ∃ (k : Nat) (P : Int) (b3 : Option Addr) (m3 d3 : Nat) (T R : List Int), u = .int .i64 P ∧ v = .slice b3 m3 d3 ∧ i = .int .i64 k ∧ k ≤ m ∧ 1 ≤ P ∧ P ≤ 1000000 ∧ m3 ≤ k ∧ Hid (P = mulL T ∧ OwnI 2 wr w.heap.size b3 m3 d3 R ∧ Below w.heap.size w wr ∧ wo.heap.size ≤ wr.heap.size ∧ PassI s k T R ∧ (∀ p, b3 = some p → wo.heap.size ≤ p.block) ∧ Below wo.heap.size wo wr)) (fun _ _ i _ => m - (intOf i).toNat)
      case atStart =>
        refine ⟨0, 1, _, 0, 0, [], [], rfl, rfl, rfl, Nat.zero_le _, by omega, by omega, Nat.le_refl _, Lib.hid ⟨rfl, (OwnI.empty wo 2).mono HW1.out, HR.out.2.2.1.trans ((Below.refl _ _).alloc HW1.out _), by simp, PassI.start s, fun p hp => by injection hp with e; subst e; simp, (Below.refl _ _).alloc (Nat.le_refl _) _⟩⟩
      case round =>
        obtain ⟨k, P, b3, m3, d3', T, R, rfl, rfl, rfl, hk, hP1, hP2, hm3, HI⟩ := hrel
        obtain ⟨wi, rfl⟩ : ∃ x, x = wr := ⟨wr, rfl⟩
        have HSi : Hid (OwnI 2 wi w.heap.size (some ⟨g, 0, none⟩) m d s) := Lib.hid (HS1.out.keep HI.out.2.2.2.2.2.2 (Nat.le_refl _))
        by_cases hkm : k < m
        · have k1 : (k : Int) < m := by omega
          have k2 : decide ((k : Int) < m) = true := decide_eq_true k1
          have k3 : decide (k < m) = true := decide_eq_true hkm
          have ck := HSi.out.cellAt (i := k) hkm
          have HPk : Hid (isPP (el s k)) := Lib.hid (HR.out.2.2.2.2.1 _ (el_mem (by omega)))
          have hx2 : 2 ≤ el s k ∧ el s k ≤ 1000000 := ⟨HPk.out.1, HPk.out.2.1⟩
          by_cases hk1 : k + 1 < m
          · have g1 : (k : Int) + 1 < m := by omega
            have g2 : decide ((k : Int) + 1 < m) = true := decide_eq_true g1
            have ck1 := HSi.out.cellAt (i := k + 1) hk1
            have HPk1 : Hid (isPP (el s (k + 1))) := Lib.hid (HR.out.2.2.2.2.1 _ (el_mem (by omega)))
            have hy2 : 2 ≤ el s (k + 1) ∧ el s (k + 1) ≤ 1000000 := ⟨HPk1.out.1, HPk1.out.2.1⟩
            obtain ⟨A, hA⟩ : ∃ A, A = el s k := ⟨_, rfl⟩
            obtain ⟨C, hC⟩ : ∃ C, C = el s (k + 1) := ⟨_, rfl⟩
            rw [← hA] at ck hx2 HPk
            have HAe := Lib.hid hA
            clear hA
            rw [← hC] at ck1 hy2 HPk1
            have HCe := Lib.hid hC
            clear hC
            by_cases hov : lpf A = lpf C
            · have HQ : Hid ((baseV A == baseV C) = true) := Lib.hid (by rw [base_isPP HPk.out, base_isPP HPk1.out]; simpa using hov)
              have HOVR : Hid (PassI s (k + 1) T (R ++ [A])) := Lib.hid (by rw [HAe.out]; exact HI.out.2.2.2.2.1.over (by omega) (by rw [← HAe.out, ← HCe.out]; exact hov))
              clear hov
              go_wp2_with fail
              go_quiet ((go_at_call 55; exact quiet_eq (l05Base_any _ _ (by omega) (by omega))))
              rw [HQ.out]
              have hszi : w.heap.size ≤ wi.heap.size := HI.out.2.2.1.size
              go_wp2_with (at_builtin; refine wpList_push rfl (.tmp 41) (.tmp 46) 22 rfl w.heap.size 2 (.int .i64 0) 8 Try.underlying22 Try.info2f rfl (by decide) (.int .i64 A) rfl _ _ _ _ rfl rfl (by exact HI.out.2.1) (by omega) (by exact hszi) ?_; rintro a4 c4 w4 r4 q4 g4; have HO4 : Hid (OwnI 2 w4 w.heap.size a4 (m3 + 1) c4 (R ++ [A])) := Lib.hid (OwnI.pushed r4); have HB4 : Hid (Below w.heap.size w w4) := Lib.hid ((below_drewN' HI.out.2.2.1 _).trans (g4.below hszi (fun t ht hx => by obtain ⟨p, hp, e⟩ := hx; have := HI.out.2.2.2.2.2.1 p hp; have := HW1.out; omega))); have HC4 : Hid (Below wo.heap.size wo w4) := Lib.hid ((below_drewN' HI.out.2.2.2.2.2.2 _).trans (g4.below HI.out.2.2.2.1 (fun t ht hx => by obtain ⟨p, hp, e⟩ := hx; have := HI.out.2.2.2.2.2.1 p hp; omega))); have HZ4 : Hid (wo.heap.size ≤ w4.heap.size) := Lib.hid (Nat.le_trans HI.out.2.2.2.1 g4.size); have HQ4 : Hid (∀ p, a4 = some p → wo.heap.size ≤ p.block) := Lib.hid (fun p hp => new_block HI.out.2.2.2.2.2.1 HI.out.2.2.2.1 q4 p hp); clear r4 q4 g4)
              go_roundw
              case rel => exact ⟨k + 1, P, a4, m3 + 1, c4, T, R ++ [A], rfl, rfl, by go_num, by omega, hP1, hP2, by omega, Lib.hid ⟨HI.out.1, HO4.out, HB4.out, HZ4.out, HOVR.out, HQ4.out, HC4.out⟩⟩
              case measure => simp [intOf]; omega
            · have HQ : Hid ((baseV A == baseV C) = false) := Lib.hid (by rw [base_isPP HPk.out, base_isPP HPk1.out]; simpa using hov)
              have HOV : Hid (k + 1 = s.length ∨ lpf (el s k) ≠ lpf (el s (k + 1))) := Lib.hid (.inr (by rw [← HAe.out, ← HCe.out]; exact hov))
              clear hov
              go_wp2_with fail
              go_quiet ((go_at_call 55; exact quiet_eq (l05Base_any _ _ (by omega) (by omega))))
              rw [HQ.out]
              go_wp2_with fail
              have HTK : Hid (PassI s (k + 1) (T ++ [A]) R) := Lib.hid (by rw [HAe.out]; exact HI.out.2.2.2.2.1.take (by omega) HOV.out)
              have eq1 : (1000000 : Int).tdiv P = 1000000 / P := Int.tdiv_eq_ediv_of_nonneg (by omega)
              have HBAD : Hid (1000000 / P < A → facBad qs = true) := Lib.hid (fun hz => by
                refine bad_of (T := T) (R := R) (i := k) HR.out.2.2.2.1 HR.out.2.2.2.2.1 (by omega) HR.out.2.2.2.2.2.1 (by rw [← HAe.out]; exact HTK.out) ?_
                rw [← HAe.out, ← HI.out.1]
                rcases Int.lt_or_le 1000000 (P * A) with h | h
                · exact h
                · exfalso
                  have := Int.le_ediv_of_mul_le (a := A) (b := 1000000) (c := P) (by omega) (by rw [Int.mul_comm]; exact h)
                  omega)
              have HLE : Hid (¬ 1000000 / P < A → 1 ≤ P * A ∧ P * A ≤ 1000000) := Lib.hid (fun hz => by
                have h2 := Int.mul_le_mul_of_nonneg_left (show A ≤ 1000000 / P by omega) (show 0 ≤ P by omega)
                have h3 := Int.mul_ediv_self_le (x := 1000000) (k := P) (by omega)
                have h4 := Int.mul_le_mul hP1 (show 1 ≤ A by omega) (by omega) (by omega)
                omega)
              have HP0 : ¬ P = 0 := by omega
              obtain ⟨Z, hZ⟩ : ∃ Z, Z = 1000000 / P := ⟨_, rfl⟩
              have hZ0 : 0 ≤ Z := by rw [hZ]; exact Int.ediv_nonneg (by omega) (by omega)
              have hZ1 : Z ≤ 1000000 := by rw [hZ]; exact Int.ediv_le_self _ (by omega)
              rw [← hZ] at eq1 HBAD HLE
              clear hZ
              go_quiet (fail)
              by_cases hz : Z < A
              · have hzd : decide (Z < A) = true := decide_eq_true hz
                have HF0 : Hid (okB qs = false) := Lib.hid (by unfold okB; rw [HBAD.out hz]; rfl)
                have HBW := Lib.hid HI.out.2.2.1
                have HFR : Hid (FromR qs []) := Lib.hid (fun h => by rw [HF0.out] at h; cases h)
                go_wp2_with fail
                go_ret2
                exact ⟨[], none, 0, 0, by rw [HF0.out]; rfl, HFR.out, OwnI.none, below_drewN' HBW.out _⟩
              · have hzd : decide (Z < A) = false := decide_eq_false hz
                obtain ⟨pa1, pa2⟩ := HLE.out hz
                have HST : Hid (P * A = mulL (T ++ [A])) := Lib.hid (by rw [mulL_snoc, ← HI.out.1])
                go_wp2_with fail
                go_roundw
                case rel => exact ⟨k + 1, P * A, b3, m3, d3', T ++ [A], R, rfl, rfl, by go_num, by omega, pa1, pa2, by omega, Lib.hid ⟨HST.out, HI.out.2.1, below_drewN' HI.out.2.2.1 _, HI.out.2.2.2.1, HTK.out, HI.out.2.2.2.2.2.1, below_drewN' HI.out.2.2.2.2.2.2 _⟩⟩
                case measure => simp [intOf]; omega
          · have g1 : ¬ (k : Int) + 1 < m := by omega
            have g2 : decide ((k : Int) + 1 < m) = false := decide_eq_false g1
            obtain ⟨A, hA⟩ : ∃ A, A = el s k := ⟨_, rfl⟩
            rw [← hA] at ck hx2 HPk
            have HAe := Lib.hid hA
            clear hA
            have HOV : Hid (k + 1 = s.length ∨ lpf (el s k) ≠ lpf (el s (k + 1))) := Lib.hid (.inl (by omega))
            go_wp2_with fail
            go_quiet (fail)
            go_wp2_with fail
            have HTK : Hid (PassI s (k + 1) (T ++ [A]) R) := Lib.hid (by rw [HAe.out]; exact HI.out.2.2.2.2.1.take (by omega) HOV.out)
            have eq1 : (1000000 : Int).tdiv P = 1000000 / P := Int.tdiv_eq_ediv_of_nonneg (by omega)
            have HBAD : Hid (1000000 / P < A → facBad qs = true) := Lib.hid (fun hz => by
              refine bad_of (T := T) (R := R) (i := k) HR.out.2.2.2.1 HR.out.2.2.2.2.1 (by omega) HR.out.2.2.2.2.2.1 (by rw [← HAe.out]; exact HTK.out) ?_
              rw [← HAe.out, ← HI.out.1]
              rcases Int.lt_or_le 1000000 (P * A) with h | h
              · exact h
              · exfalso
                have := Int.le_ediv_of_mul_le (a := A) (b := 1000000) (c := P) (by omega) (by rw [Int.mul_comm]; exact h)
                omega)
            have HLE : Hid (¬ 1000000 / P < A → 1 ≤ P * A ∧ P * A ≤ 1000000) := Lib.hid (fun hz => by
              have h2 := Int.mul_le_mul_of_nonneg_left (show A ≤ 1000000 / P by omega) (show 0 ≤ P by omega)
              have h3 := Int.mul_ediv_self_le (x := 1000000) (k := P) (by omega)
              have h4 := Int.mul_le_mul hP1 (show 1 ≤ A by omega) (by omega) (by omega)
              omega)
            have HP0 : ¬ P = 0 := by omega
            obtain ⟨Z, hZ⟩ : ∃ Z, Z = 1000000 / P := ⟨_, rfl⟩
            have hZ0 : 0 ≤ Z := by rw [hZ]; exact Int.ediv_nonneg (by omega) (by omega)
            have hZ1 : Z ≤ 1000000 := by rw [hZ]; exact Int.ediv_le_self _ (by omega)
            rw [← hZ] at eq1 HBAD HLE
            clear hZ
            go_quiet (fail)
            by_cases hz : Z < A
            · have hzd : decide (Z < A) = true := decide_eq_true hz
              have HF0 : Hid (okB qs = false) := Lib.hid (by unfold okB; rw [HBAD.out hz]; rfl)
              have HBW := Lib.hid HI.out.2.2.1
              have HFR : Hid (FromR qs []) := Lib.hid (fun h => by rw [HF0.out] at h; cases h)
              go_wp2_with fail
              go_ret2
              exact ⟨[], none, 0, 0, by rw [HF0.out]; rfl, HFR.out, OwnI.none, below_drewN' HBW.out _⟩
            · have hzd : decide (Z < A) = false := decide_eq_false hz
              obtain ⟨pa1, pa2⟩ := HLE.out hz
              have HST : Hid (P * A = mulL (T ++ [A])) := Lib.hid (by rw [mulL_snoc, ← HI.out.1])
              go_wp2_with fail
              go_roundw
              case rel => exact ⟨k + 1, P * A, b3, m3, d3', T ++ [A], R, rfl, rfl, by go_num, by omega, pa1, pa2, by omega, Lib.hid ⟨HST.out, HI.out.2.1, below_drewN' HI.out.2.2.1 _, HI.out.2.2.2.1, HTK.out, HI.out.2.2.2.2.2.1, below_drewN' HI.out.2.2.2.2.2.2 _⟩⟩
              case measure => simp [intOf]; omega
        · obtain rfl : k = m := by omega
          have HDn : Hid (topsL s = T ∧ restL s = R) := Lib.hid (by have := HI.out.2.2.2.2.1; rw [← hml] at this; exact this.done)
          have hr3 := HI.out.2.1.len
          have hlt3 : m3 < k := by
            have h := restL_lt (s := s) (fun e => by rw [e] at hml; simp at hml; omega)
            rw [HDn.out.2] at h
            omega
          have HEQ : Hid ((facD R).reverse ++ ([P] ++ F) = facG qs) := Lib.hid (by
            have h := HR.out.2.2.2.2.2.1
            rw [facD_pass HR.out.2.2.2.1 (fun e => by rw [e] at hml; simp at hml; omega), HDn.out.1, HDn.out.2, ← HI.out.1] at h
            simpa using h)
          have HSR : Hid (Srt R ∧ ∀ x ∈ R, isPP x) := Lib.hid (by
            rw [← HDn.out.2]
            exact ⟨List.Pairwise.sublist (restL_sub s) HR.out.2.2.2.1, fun x hx => HR.out.2.2.2.2.1 x ((restL_sub s).subset hx)⟩)
          have HFl := Lib.hid HR.out.2.1.len
          have HFi : Hid (RdI wi b2 F) := Lib.hid ((HR.out.2.1.keep HI.out.2.2.2.2.2.2 (Nat.le_refl _)).rd)
          have HF6 : Hid (∀ x ∈ [P] ++ F, x ≤ 1000000) := Lib.hid (fun x hx => by
            rcases List.mem_append.1 hx with h | h
            · simp at h; omega
            · exact HR.out.2.2.2.2.2.2 x h)
          have hszi : w.heap.size ≤ wi.heap.size := HI.out.2.2.1.size
          have HLT : Hid (OwnI 2 (wi.alloc (.cells #[.int .i64 P] 2)) wi.heap.size (some ⟨wi.heap.size, 0, none⟩) 1 1 [P]) := Lib.hid (OwnI.lit wi 2 [P] #[.int .i64 P] rfl (by simp [maxLen]))
          clear hml hr3
          go_wp2_with (at_builtin; refine wpList_appS rfl (.tmp 62) (.tmp 63) 22 rfl wi.heap.size 2 (.int .i64 0) 8 Try.underlying22 Try.info2f rfl (by decide) _ _ _ _ rfl _ _ _ rfl (by exact HLT.out) (F.map (Value.int .i64)) (by rw [List.length_map]; exact HFl.out) (by exact (HFi.out.alloc _).vals) (map_one _) (by omega) (by simp) ?_; rintro a4 c4 w4 r4 q4 g4; have HO4 : Hid (OwnI 2 w4 w.heap.size a4 (1 + m2) c4 ([P] ++ F)) := Lib.hid ((OwnI.app (xs := [P]) (ys := F) r4).mono hszi); have HB4 : Hid (Below wi.heap.size wi w4) := Lib.hid (((Below.refl _ _).alloc (Nat.le_refl _) _).trans (g4.below (by simp) (fun t ht hx => by obtain ⟨x, hx, e⟩ := hx; injection hx with hx; subst hx; simp at e; omega))); clear r4 q4 g4)
          go_roundw
          case rel => exact ⟨b3, m3, d3', a4, 1 + m2, c4, R, [P] ++ F, rfl, rfl, by omega, Lib.hid ⟨HI.out.2.1.keep HB4.out (Nat.le_refl _), HO4.out, HI.out.2.2.1.trans (HB4.out.mono hszi), HSR.out.1, HSR.out.2, HEQ.out, HF6.out⟩⟩
          case measure => simp [sliceLen]; omega
    · obtain rfl : m = 0 := by omega
      have hs0 : s = [] := List.eq_nil_of_length_eq_zero hml
      have HF : Hid (F = facG qs) := Lib.hid (by have := HR.out.2.2.2.2.2.1; rw [hs0] at this; simpa [facD, prs, nmax, tab] using this)
      have HG : Hid (FromR qs F) := Lib.hid (fun _ => HF.out)
      have HOK : Hid (okB qs = true) := Lib.hid (by unfold okB; rw [good_of HF.out HR.out.2.2.2.2.2.2]; rfl)
      clear hml hs0
      go_wp2_with fail
      go_ret2
      exact ⟨F, b2, m2, d2, by rw [HOK.out]; rfl, HG.out, HR.out.2.1, HR.out.2.2.1⟩
end Go.Proofs.Ytgdialknnjnehaa
