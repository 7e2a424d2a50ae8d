/- A map of lists that grow, keyed by numbers: what it holds, key by key. -/
import Derived.Test.YtkidohohiihbaaaApp
import Derived.Test.YtkidohohiihbaaaPushD
import Derived.Maps.RangeWalk
import Derived.Maps.OwnSet
set_option linter.unusedVariables false
set_option linter.unusedSimpArgs false
namespace Go.Proofs.Ytkidohohiihbaaa
open Go.RowKit Go.Maps

/-- a slice as a datum: where it lies, how long it is, how much room it has -/
def codeS : Value → Option (DataW Unit × List MemPlace)
  | .slice none n c => some (.agg [.lit (.int .i64 n), .lit (.int .i64 c)], [])
  | .slice (some ⟨g, 0, none⟩) n c => some (.agg [.lit (.int .i64 g), .lit (.int .i64 n), .lit (.int .i64 c)], [])
  | _ => none
def hdD (h : Nat × Nat × Nat) : DataW Unit := .agg [.lit (.int .i64 h.1), .lit (.int .i64 h.2.1), .lit (.int .i64 h.2.2)]
def noD : DataW Unit := .agg [.lit (.int .i64 0), .lit (.int .i64 0)]
theorem codeS_hd {v : Value} {h : Nat × Nat × Nat} {ps : List MemPlace} (e : codeS v = some (hdD h, ps)) : v = .slice (some ⟨h.1, 0, none⟩) h.2.1 h.2.2 := by
  unfold codeS at e
  split at e
  · simp [hdD] at e
  · rename_i g n c
    simp [hdD] at e
    obtain ⟨⟨e1, e2, e3⟩, _⟩ := e
    have e1 : g = h.1 := by omega
    have e2 : n = h.2.1 := by omega
    have e3 : c = h.2.2 := by omega
    subst e1; subst e2; subst e3
    rfl
  · cases e
theorem codeS_no {v : Value} {ps : List MemPlace} (e : codeS v = some (noD, ps)) : v = .slice none 0 0 := by
  unfold codeS at e
  split at e
  · rename_i n c
    simp [noD] at e
    obtain ⟨⟨e1, e2⟩, _⟩ := e
    have e1 : n = 0 := by omega
    have e2 : c = 0 := by omega
    subst e1; subst e2
    rfl
  · simp [noD] at e
  · cases e
theorem codeS_slice {v : Value} {y : DataW Unit × List MemPlace} (e : codeS v = some y) : ∃ c : Option Addr × Nat × Nat, v = .slice c.1 c.2.1 c.2.2 := by
  unfold codeS at e
  split at e
  · exact ⟨(_, _, _), rfl⟩
  · exact ⟨(_, _, _), rfl⟩
  · cases e
theorem keyLaw : Keyed Try.prog 2 := int_keyed Try.underlying2
theorem keyOfP {p : Int} (h : -9223372036854775808 ≤ p ∧ p ≤ 9223372036854775807) : keyOf Try.prog 2 (.int .i64 p) = some (.int .i64 p) :=
  keyOf_int_mk Try.underlying2 (by simp [Lit.wf, IntKind.min, IntKind.max, IntKind.signed, IntKind.bits]; omega)
theorem isKeyP {p : Int} (h : -9223372036854775808 ≤ p ∧ p ≤ 9223372036854775807) : WideAt.IsKeyLit (.int .i64 p) := keyLaw.key (keyOfP h)
theorem zeroS (w : World) : (zeroValue 25).run Try.prog w = .ok (.slice none 0 0) w := by kernel_rfl
/-- the groups gs, in a map whose datum is D: hd says where each lies -/
structure MG (w : World) (base : Nat) (gs : Int → List Int) (hd : Int → Nat × Nat × Nat) (D : DataW Unit) : Prop where
  isMap : IsMap D
  no : ∀ p, -9223372036854775808 ≤ p ∧ p ≤ 9223372036854775807 → gs p = [] → Maps.has D (.int .i64 p) = false ∧ D.atKey (.int .i64 p) noD = noD
  yes : ∀ p, -9223372036854775808 ≤ p ∧ p ≤ 9223372036854775807 → gs p ≠ [] → Maps.has D (.int .i64 p) = true ∧ D.atKey (.int .i64 p) noD = hdD (hd p)
  row : ∀ p, gs p ≠ [] → OwnI 2 w base (some ⟨(hd p).1, 0, none⟩) (hd p).2.1 (hd p).2.2 (gs p)
  apart : ∀ p q, p ≠ q → gs p ≠ [] → gs q ≠ [] → (hd p).1 ≠ (hd q).1
section
variable {w w' : World} {base : Nat} {gs : Int → List Int} {hd : Int → Nat × Nat × Nat} {D : DataW Unit}
theorem MG.start (w : World) (base : Nat) : MG w base (fun _ => []) (fun _ => (0, 0, 0)) (.map []) :=
  ⟨isMap_empty, fun p _ _ => ⟨rfl, rfl⟩, fun p _ h => absurd rfl h, fun p h => absurd rfl h, fun p q _ h => absurd rfl h⟩
theorem MG.keep (h : MG w base gs hd D) (hb : Below w.heap.size w w') : MG w' base gs hd D :=
  ⟨h.isMap, h.no, h.yes, fun p hp => (h.row p hp).keep hb (Nat.le_refl _), h.apart⟩
/-- other blocks are written -/
theorem MG.kept {S : Nat → Prop} (h : MG w base gs hd D) (hc : Chg S w w') (hs : ∀ p, gs p ≠ [] → ¬ S (hd p).1) : MG w' base gs hd D :=
  ⟨h.isMap, h.no, h.yes, fun p hp => (h.row p hp).kept hc (fun q hq => by injection hq with e; subst e; exact hs p hp), h.apart⟩
theorem MG.blk (h : MG w base gs hd D) {p : Int} (hp : gs p ≠ []) : base ≤ (hd p).1 ∧ (hd p).1 < w.heap.size := (h.row p hp).block _ rfl
/-- one more at the key p -/
theorem MG.put {p x : Int} {g n c : Nat} (h : MG w base gs hd D) (hp : -9223372036854775808 ≤ p ∧ p ≤ 9223372036854775807)
    (hown : OwnI 2 w' base (some ⟨g, 0, none⟩) n c (gs p ++ [x])) (hc : Chg (fun k => gs p ≠ [] ∧ k = (hd p).1) w w')
    (hloc : (gs p ≠ [] ∧ g = (hd p).1) ∨ w.heap.size ≤ g) :
    MG w' base (fun r => if r = p then gs p ++ [x] else gs r) (fun r => if r = p then (g, n, c) else hd r) (D.put (.int .i64 p) (hdD (g, n, c))) := by
  have hne : ∀ r : Int, r ≠ p → (Lit.int IntKind.i64 r) ≠ (Lit.int IntKind.i64 p) := fun r hr e => hr (by injection e)
  refine ⟨h.isMap.put _ _, fun r hr hg => ?_, fun r hr hg => ?_, fun r hg => ?_, fun r q hrq hgr hgq => ?_⟩
  · by_cases e : r = p
    · subst e; simp at hg
    · simp only [if_neg e] at hg
      obtain ⟨h1, h2⟩ := h.no r hr hg
      rw [has_put_other (hne r e), atKey_put_other (hne r e)]
      exact ⟨h1, h2⟩
  · by_cases e : r = p
    · subst e
      rw [has_put_same h.isMap (isKeyP hp), atKey_put_same h.isMap (isKeyP hp)]
      simp
    · simp only [if_neg e] at hg
      obtain ⟨h1, h2⟩ := h.yes r hr hg
      rw [has_put_other (hne r e), atKey_put_other (hne r e)]
      simp only [if_neg e]
      exact ⟨h1, h2⟩
  · by_cases e : r = p
    · simp only [if_pos e]; exact hown
    · simp only [if_neg e] at hg ⊢
      refine (h.row r hg).kept hc (fun q hq hS => ?_)
      injection hq with e1; subst e1
      exact h.apart r p e hg hS.1 hS.2
  · by_cases e1 : r = p
    · by_cases e2 : q = p
      · exact absurd (e1.trans e2.symm) hrq
      · simp only [if_pos e1, if_neg e2] at hgq ⊢
        rcases hloc with ⟨h1, h2⟩ | h2
        · rw [h2]; exact fun e => h.apart q p e2 hgq h1 e.symm
        · have := (h.blk hgq).2; omega
    · by_cases e2 : q = p
      · simp only [if_pos e2, if_neg e1] at hgr ⊢
        rcases hloc with ⟨h1, h2⟩ | h2
        · rw [h2]; exact h.apart r p e1 hgr h1
        · have := (h.blk hgr).2; omega
      · simp only [if_neg e1, if_neg e2] at hgr hgq ⊢
        exact h.apart r q hrq hgr hgq
end
/-- what the map gives at a key -/
def atS (gs : Int → List Int) (hd : Int → Nat × Nat × Nat) (p : Int) : Value := if gs p = [] then .slice none 0 0 else .slice (some ⟨(hd p).1, 0, none⟩) (hd p).2.1 (hd p).2.2
theorem lookupS {w : World} {base B n : Nat} {gs : Int → List Int} {hd : Int → Nat × Nat × Nat} {D : DataW Unit} {p : Int} (h : MG w base gs hd D) (hm : w.ownsMap Try.prog 2 codeS B n D) (hp : -9223372036854775808 ≤ p ∧ p ≤ 9223372036854775807) :
    (Instr.lookup 157 (.map (some B)) (.int .i64 p) false).run Try.prog w = .ok (atS gs hd p) w := by
  obtain ⟨v, ps, hrun, hv⟩ := hm.lookup keyLaw Try.underlying157 (zeroS w) (zd := noD) (zp := []) rfl (keyOfP hp)
  have e : v = atS gs hd p := by
    unfold atS
    by_cases hg : gs p = []
    · rw [if_pos hg]
      rw [(h.no p hp hg).2] at hv
      exact codeS_no hv
    · rw [if_neg hg]
      rw [(h.yes p hp hg).2] at hv
      exact codeS_hd hv
  rw [hrun, e]
/-- the slice at a key is owned -/
theorem MG.at {w : World} {base : Nat} {gs : Int → List Int} {hd : Int → Nat × Nat × Nat} {D : DataW Unit} (h : MG w base gs hd D) (p : Int) : ∃ a n c, atS gs hd p = .slice a n c ∧ OwnI 2 w base a n c (gs p) ∧ (∀ q, a = some q → gs p ≠ [] ∧ q = ⟨(hd p).1, 0, none⟩) := by
  unfold atS
  by_cases hg : gs p = []
  · rw [if_pos hg, hg]
    exact ⟨none, 0, 0, rfl, OwnI.none, fun q hq => by cases hq⟩
  · rw [if_neg hg]
    exact ⟨_, _, _, rfl, h.row p hg, fun q hq => ⟨hg, by injection hq with e; exact e.symm⟩⟩
/-- a look-up in the map as one step of a region that draws its order -/
theorem step_lookupS {W : World} {ops : Array Oper} {o : Oper} {a : Act} {K : Act → World → Prop} {Q : Exit → Act → World → Prop} {E : Prop} (hgd : o.guard = none) (m x : Operand) (hop : o.op = Op.lookup 157 m x false)
    (base B n : Nat) (gs : Int → List Int) (hd : Int → Nat × Nat × Nat) (D : DataW Unit) (p : Int) (hm : a.eval m = .map (some B)) (hx : a.eval x = .int .i64 p) (h : MG W base gs hd D) (ho : W.ownsMap Try.prog 2 codeS B n D) (hp : -9223372036854775808 ≤ p ∧ p ≤ 9223372036854775807)
    (hK : K (a.put o.dst (atS gs hd p)) W) : if Region.wanted o (yielded ops a.tmps) = true then Oper.wp Try.prog o a W K Q else E := by
  have hw : Region.wanted o (yielded ops a.tmps) = true := by simp [Region.wanted, hgd]
  rw [if_pos hw]
  have hrun := lookupS h ho hp
  unfold Oper.wp
  simp [execOp, hop, hm, hx, hrun, Result.andThen]
  exact hK
/-- a store into the map as one step of a region that draws its order -/
theorem step_updateS {W : World} {ops : Array Oper} {o : Oper} {a : Act} {K : Act → World → Prop} {Q : Exit → Act → World → Prop} {E : Prop} (hgd : o.guard = none) (m x v : Operand) (hop : o.op = Op.mapUpdate 157 m x v)
    (B n : Nat) (D : DataW Unit) (p : Int) (g l c : Nat) (hm : a.eval m = .map (some B)) (hx : a.eval x = .int .i64 p) (hv : a.eval v = .slice (some ⟨g, 0, none⟩) l c) (ho : W.ownsMap Try.prog 2 codeS B n D) (hn : n < 1000000) (hp : -9223372036854775808 ≤ p ∧ p ≤ 9223372036854775807)
    (hK : ∀ w', w'.ownsMap Try.prog 2 codeS B (n + 1) (D.put (.int .i64 p) (hdD (g, l, c))) → W.grownBy w' (some B) → K (a.put o.dst undef) w') : if Region.wanted o (yielded ops a.tmps) = true then Oper.wp Try.prog o a W K Q else E := by
  have hw : Region.wanted o (yielded ops a.tmps) = true := by simp [Region.wanted, hgd]
  rw [if_pos hw]
  obtain ⟨w', hrun, r1, r2⟩ := ho.update (val := .slice (some ⟨g, 0, none⟩) l c) (d := hdD (g, l, c)) (ps := []) keyLaw Try.underlying157 (by unfold maxLen; omega) (keyOfP hp) rfl
  unfold Oper.wp
  simp [execOp, hop, hm, hx, hv, hrun, Result.andThen]
  exact hK _ r1 r2
theorem grown_chg {w w' : World} {b : Nat} (h : w.grownBy w' (some b)) : Chg (fun k => k = b) w w' := ⟨h.os, h.tape, h.output, h.size, fun k hk hn => h.block k hk (fun e => hn (by injection e))⟩
theorem chg_grown {w w' : World} {b : Nat} (h : Chg (fun k => k = b) w w') : w.grownBy w' (some b) := ⟨h.os, h.tape, h.output, h.size, fun k hk hn => h.block k hk (fun e => hn (by rw [e]))⟩
theorem below_grown {w w' : World} (h : Below w.heap.size w w') : w.grownBy w' none := ⟨h.os, h.tape, h.output, h.size, fun k hk _ => h.block k hk⟩
end Go.Proofs.Ytkidohohiihbaaa
