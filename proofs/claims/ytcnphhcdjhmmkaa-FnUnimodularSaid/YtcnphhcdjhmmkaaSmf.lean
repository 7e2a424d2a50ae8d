/- The invariant factors of a table. -/
import Derived.Test.YtcnphhcdjhmmkaaMinD
set_option linter.unusedVariables false
set_option linter.unusedSimpArgs false
namespace Go.Proofs.Ytcnphhcdjhmmkaa
open Go.RowKit

/-- the quotients of the divisors from the k-th on -/
def smL (D : Nat → Int) : Nat → Nat → Int → List Int
  | 0, _, _ => []
  | f + 1, k, b => if D k = 0 then [] else (D k).tdiv b :: smL D f (k + 1) (D k)
def smithL (xss : List (List Int)) (n Q : Nat) : List Int := smL (mdiv xss n Q) Q 1 1
theorem smL_step (D : Nat → Int) {K Q : Nat} (h : K ≤ Q) (b : Int) : smL D (Q + 1 - K) K b = if D K = 0 then [] else (D K).tdiv b :: smL D (Q + 1 - (K + 1)) (K + 1) (D K) := by
  rw [show Q + 1 - K = (Q + 1 - (K + 1)) + 1 by omega]; rfl
theorem smL_len (D : Nat → Int) : ∀ (f k : Nat) (b : Int), (smL D f k b).length ≤ f
  | 0, _, _ => by simp [smL]
  | f + 1, k, b => by
    unfold smL
    by_cases h : D k = 0
    · rw [if_pos h]; simp
    · rw [if_neg h]; simpa using smL_len D f (k + 1) (D k)
theorem tdiv_bd2 {g b B : Int} (h0 : 0 ≤ g) (h1 : g ≤ B) (hb : 1 ≤ b) : 0 ≤ g.tdiv b ∧ g.tdiv b ≤ B := by
  rw [Int.tdiv_eq_ediv_of_nonneg h0]
  have h2 := Int.ediv_nonneg h0 (show 0 ≤ b by omega)
  have h3 := Int.ediv_le_self b h0
  omega
theorem cell_chg2 {S : Nat → Prop} {w w' : World} {p : Addr} {v : Value} (h : w.cell? p = some v) (hc : Chg S w w') (hn : ¬ S p.block) : w'.cell? p = some v := by
  rw [World.cell?_of_block (w := w) (hc.block _ (block_lt h) hn)]
  exact h
set_option maxRecDepth 20000 in
set_option maxHeartbeats 2000000 in
theorem smithFactors_any (Q : Nat) (a : Option Addr) (n c : Nat) (xss : List (List Int)) (w : World) (ha : RdR w a xss) (hl : xss.length = n) (ht : TbOk xss Q) (hcp : n ≤ c) :
    Calls Try.prog 32 #[.agg #[.int .i64 Q, .slice a n c]] w fun e w' => ∃ (a' : Option Addr) (c' : Nat), e = .returned (.slice a' (smithL xss n Q).length c') ∧ OwnI 2 w' w.heap.size a' (smithL xss n Q).length c' (smithL xss n Q) ∧ Below w.heap.size w w' := by
  have HA := Lib.hid ha
  have HL := Lib.hid hl
  have HT := Lib.hid ht
  have hn12 : n ≤ 12 := by have := ht.len; omega
  have hQ4 : Q ≤ 4 := by have := ht.q4; omega
  have hQ1 : 1 ≤ Q := by have := ht.q1; omega
  have HE := Lib.hid (ht.ent (Q := Q) rfl)
  rw [hl] at HE
  clear ha hl ht
  have hbx : Below w.heap.size w (w.alloc (.cells #[.int .i64 Q, .slice a n c] 26)) := (Below.refl _ _).alloc (Nat.le_refl _) _
  have HBX := Lib.hid hbx
  clear hbx
  go_enter Try.func32, Try.ntmps32
  go_wp2
  go_loopw [5, 4, 3] (fun i b v wr => ∃ (K : Nat) (B : Int) (out : List Int) (a1 : Option Addr) (c1 : Nat), 1 ≤ K ∧ K ≤ Q + 1 ∧ out.length + 1 = K ∧ i = .int .i64 K ∧ b = .int .i64 B ∧ v = .slice a1 out.length c1 ∧ Hid (smithL xss n Q = out ++ smL (mdiv xss n Q) (Q + 1 - K) K B ∧ 1 ≤ B ∧ B ≤ 402653184 ∧ OwnI 2 wr (w.heap.size + 1) a1 out.length c1 out ∧ Below w.heap.size w wr ∧ wr.cell? ⟨w.heap.size, 0, none⟩ = some (.int .i64 Q) ∧ wr.cell? ⟨w.heap.size, 1, none⟩ = some (.slice a n c))) (fun i _ _ _ => Q + 1 - (intOf i).toNat)
  case atStart => exact ⟨1, 1, [], none, 0, Nat.le_refl _, by omega, rfl, rfl, rfl, rfl, Lib.hid ⟨rfl, by omega, by omega, OwnI.none, HBX.out, by rw [World.cell?_alloc_at _ _ _ _ rfl]; rfl, by rw [World.cell?_alloc_at _ _ _ _ rfl]; rfl⟩⟩
  case round =>
    obtain ⟨K, B, out, a1, c1, hK1, hKQ, hol, rfl, rfl, rfl, HI⟩ := hrel
    obtain ⟨wi, rfl⟩ : ∃ x, x = wr := ⟨wr, rfl⟩
    have HOL := Lib.hid hol
    have hol2 : out.length ≤ 5 := by omega
    clear hol
    by_cases hlt : K ≤ Q
    · obtain ⟨g0, g1⟩ := gf_bd (i := (chs n K).length) (j := 0) (fun r hr => Pick.of (mem_chs.1 hr)) (fun c hc => Pick.of (mem_chs.1 hc)) HE.out (show K ≤ 4 by omega) (.inr rfl)
      have hb1 := HI.out.2.1
      have hb2 := HI.out.2.2.1
      have HRA : Hid (RdR wi a xss) := Lib.hid (HA.out.keep HI.out.2.2.2.2.1 (Nat.le_refl _))
      have p0 := HI.out.2.2.2.2.2.1
      have p1 := HI.out.2.2.2.2.2.2
      change 0 ≤ mdiv xss n Q K at g0
      change mdiv xss n Q K ≤ 402653184 at g1
      have hle : (K : Int) ≤ Q := by omega
      go_wp2_with fail
      refine (minorsDivisor_any Q K _ _ _ xss _ (by exact HRA.out) HL.out HT.out hcp (by omega) (by omega)).mono ?_
      rintro e w2 ⟨rfl, hb⟩
      have p0 := cell_below HI.out.2.2.2.2.2.1 hb
      have p1 := cell_below HI.out.2.2.2.2.2.2 hb
      have HO2 : Hid (OwnI 2 w2 (w.heap.size + 1) a1 out.length c1 out) := Lib.hid (HI.out.2.2.2.1.keep hb (Nat.le_refl _))
      have HB2 : Hid (Below w.heap.size w w2) := Lib.hid (HI.out.2.2.2.2.1.trans (hb.mono HI.out.2.2.2.2.1.size))
      have hs0 : (w.heap.size + 1) ≤ w2.heap.size := Nat.le_trans (show w.heap.size < wi.heap.size from block_lt HI.out.2.2.2.2.2.1) hb.size
      clear hb
      have HS := Lib.hid (smL_step (mdiv xss n Q) (show K ≤ Q from hlt) B)
      by_cases hz : mdiv xss n Q K = 0
      · have HF : Hid (OwnI 2 w2 (w.heap.size + 1) a1 (smithL xss n Q).length c1 (smithL xss n Q) ∧ Below w.heap.size w w2) := Lib.hid (by rw [HI.out.1, HS.out, if_pos hz, List.append_nil]; exact ⟨HO2.out, HB2.out⟩)
        have he : out.length = (smithL xss n Q).length := by rw [HI.out.1, HS.out, if_pos hz, List.append_nil]
        have hz2 : (mdiv xss n Q K == 0) = true := beq_iff_eq.2 hz
        rw [he]
        clear hz
        go_wp2_with fail
        go_ret
        exact ⟨_, c1, rfl, HF.out.1.mono (by omega), HF.out.2⟩
      · have hz2 : (mdiv xss n Q K == 0) = false := beq_eq_false_iff_ne.2 hz
        have HS2 := Lib.hid hz
        have hpos : 1 ≤ mdiv xss n Q K := by omega
        have hdv : 0 ≤ (mdiv xss n Q K).tdiv B ∧ (mdiv xss n Q K).tdiv B ≤ 402653184 := tdiv_bd2 g0 g1 hb1
        obtain ⟨hd0, hd1⟩ := hdv
        have W1 : IntKind.i64.wrap ((mdiv xss n Q K).tdiv B) = (mdiv xss n Q K).tdiv B := IntWalk.i64_in _ (by omega)
        have hBn : ¬ B = 0 := by omega
        clear hz
        go_wp2_with (at_builtin; refine wpList_push rfl (.tmp 18) (.tmp 22) 31 rfl (w.heap.size + 1) 2 (.int .i64 0) 8 Try.underlying31 Try.info2 rfl (by decide) (.int .i64 ((mdiv xss n Q K).tdiv B)) rfl _ _ _ _ rfl rfl (by exact HO2.out) (by omega) (by exact hs0) ?_; rintro a4 c4 w4 r4 q4 g4; have HN := Lib.hid (OwnI.pushed r4); have G4 := Lib.hid g4; clear r4 q4 g4)
        have HX : Hid (smithL xss n Q = (out ++ [(mdiv xss n Q K).tdiv B]) ++ smL (mdiv xss n Q) (Q + 1 - (K + 1)) (K + 1) (mdiv xss n Q K) ∧ 1 ≤ mdiv xss n Q K ∧ mdiv xss n Q K ≤ 402653184 ∧ OwnI 2 w4 (w.heap.size + 1) a4 (out ++ [(mdiv xss n Q K).tdiv B]).length c4 (out ++ [(mdiv xss n Q K).tdiv B]) ∧ Below w.heap.size w w4 ∧ w4.cell? ⟨w.heap.size, 0, none⟩ = some (.int .i64 Q) ∧ w4.cell? ⟨w.heap.size, 1, none⟩ = some (.slice a n c)) := by
          refine Lib.hid ⟨?_, hpos, g1, by rw [List.length_append]; exact HN.out, HB2.out.trans (G4.out.below HB2.out.size (fun b hb hx => by obtain ⟨x, hx, e⟩ := hx; have := (HO2.out.block x hx).1; omega)), cell_chg2 p0 G4.out (fun hx => by obtain ⟨x, hx, e⟩ := hx; have := (HO2.out.block x hx).1; simp at e; omega), cell_chg2 p1 G4.out (fun hx => by obtain ⟨x, hx, e⟩ := hx; have := (HO2.out.block x hx).1; simp at e; omega)⟩
          rw [HI.out.1, HS.out, if_neg HS2.out, List.append_assoc]; rfl
        go_roundw
        case rel => exact ⟨K + 1, _, out ++ [(mdiv xss n Q K).tdiv B], a4, c4, by omega, by omega, by have := HOL.out; simp; omega, by go_num, rfl, by simp, HX⟩
        case measure => simp [intOf]; omega
    · obtain rfl : K = Q + 1 := by omega
      have hle : ¬ ((Q : Int) + 1 ≤ Q) := by omega
      have HF : Hid (OwnI 2 wi (w.heap.size + 1) a1 (smithL xss n Q).length c1 (smithL xss n Q) ∧ Below w.heap.size w wi) := Lib.hid (by rw [HI.out.1, Nat.sub_self]; simp only [smL, List.append_nil]; exact ⟨HI.out.2.2.2.1, HI.out.2.2.2.2.1⟩)
      have he : out.length = (smithL xss n Q).length := by rw [HI.out.1, Nat.sub_self]; simp only [smL, List.append_nil]
      rw [he]
      have p0 := HI.out.2.2.2.2.2.1
      have p1 := HI.out.2.2.2.2.2.2
      go_wp2_with fail
      go_ret
      exact ⟨_, c1, rfl, HF.out.1.mono (by omega), HF.out.2⟩
end Go.Proofs.Ytcnphhcdjhmmkaa
