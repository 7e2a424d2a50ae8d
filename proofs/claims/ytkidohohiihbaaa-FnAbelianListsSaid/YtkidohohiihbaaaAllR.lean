/- The reference's AllAbelian: a stack of lists beside a slice of groups. -/
import Derived.Test.YtkidohohiihbaaaAllB
import Derived.Test.YtkidohohiihbaaaAbs
import Derived.Test.YtkidohohiihbaaaAbSrt
import Derived.Test.YtkidohohiihbaaaApp
import Derived.Test.YtkidohohiihbaaaPush
import Derived.Deep.RegionHeld3
import Derived.Deep.RegionLaw
set_option linter.unusedVariables false
set_option linter.unusedSimpArgs false
namespace Go.Proofs.Ytkidohohiihbaaa
open Go.RowKit

/-! ### the measure: how many rounds are left -/
def lstF (p : Nat → Bool) : Nat → Nat → Nat
  | 0, s => s
  | k + 1, s => if p s then s else lstF p k (s + 1)
theorem lstF_ok {p : Nat → Bool} : ∀ (k s d : Nat), d < k → p (s + d) = true → p (lstF p k s) = true ∧ lstF p k s ≤ s + d
  | 0, s, d, h, _ => absurd h (by omega)
  | k + 1, s, d, h, hp => by
    unfold lstF
    by_cases hs : p s = true
    · rw [if_pos hs]; exact ⟨hs, by omega⟩
    · rw [if_neg hs]
      have hd : d ≠ 0 := fun e => by subst e; exact hs (by simpa using hp)
      have := lstF_ok k (s + 1) (d - 1) (by omega) (by rw [show s + 1 + (d - 1) = s + d by omega]; exact hp)
      exact ⟨this.1, by omega⟩
def fuelS (st : List (List Nat)) : Nat := lstF (fun f => chkS f st) 1000 0
theorem fuelS_step {l : List Nat} {st : List (List Nat)} {F : Nat} (h : chkS F (l :: st) = true) (hF : F ≤ 400) : fuelS (nextN l st) < fuelS (l :: st) := by
  have h1 := lstF_ok (p := fun f => chkS f (l :: st)) 1000 0 F (by omega) (by rw [Nat.zero_add]; exact h)
  have h2 : chkS (fuelS (l :: st)) (l :: st) = true := h1.1
  have h3 : fuelS (l :: st) ≤ F := by have := h1.2; unfold fuelS; omega
  cases hf : fuelS (l :: st) with
  | zero => rw [hf] at h2; exact absurd h2 (by simp [chkS])
  | succ f =>
    rw [hf] at h2
    simp only [chkS, Bool.and_eq_true] at h2
    have h4 := lstF_ok (p := fun f => chkS f (nextN l st)) 1000 0 f (by omega) (by rw [Nat.zero_add]; exact h2.2)
    have : fuelS (nextN l st) ≤ f := by have := h4.2; unfold fuelS; omega
    omega
def rowAt (w : World) : Value → List Nat
  | .slice (some p) m _ => (List.range m).map fun j => match w.cell? ⟨p.block, p.off + j, none⟩ with
    | some (.int _ x) => x.toNat
    | _ => 0
  | _ => []
def stAt (w : World) : Value → List (List Nat)
  | .slice (some p) m _ => (List.range m).map fun i => match w.cell? ⟨p.block, p.off + i, none⟩ with
    | some u => rowAt w u
    | none => []
  | _ => []
theorem toI_len (l : List Nat) : (toI l).length = l.length := by simp [toI]
theorem toI_el {l : List Nat} {i : Nat} (h : i < l.length) : el (toI l) i = (nel l i : Int) := by simp [toI, el, nel, h]
theorem rw_toI {L : List (List Nat)} {i : Nat} (h : i < L.length) : rw_ (L.map toI) i = toI L[i] := by simp [rw_, h]
theorem rowAt_eq {w : World} {a : Option Addr} {l : List Nat} {c : Nat} (h : RdI w a (toI l)) : rowAt w (.slice a l.length c) = l := by
  cases l with
  | nil => cases a <;> rfl
  | cons x l =>
    obtain ⟨b, o, rfl, hc⟩ := h (by simp [toI])
    refine List.ext_getElem (by simp [rowAt]) fun j h1 h2 => ?_
    have := hc j (by rw [toI_len]; exact h2)
    rw [toI_el h2] at this
    simp only [rowAt, List.getElem_map, List.getElem_range, this]
    simp [nel]
    rw [List.getElem?_eq_getElem h2]; rfl
theorem stAt_eq {w : World} {a : Option Addr} {L : List (List Nat)} {c : Nat} (h : RdR w a (L.map toI)) : stAt w (.slice a L.length c) = L := by
  cases hL : L with
  | nil => cases a <;> rfl
  | cons x l =>
    rw [← hL]
    have h0 : 0 < (L.map toI).length := by rw [hL]; simp
    obtain ⟨b, o, rfl, hc⟩ := h h0
    refine List.ext_getElem (by simp [stAt]) fun j h1 h2 => ?_
    obtain ⟨ai, ci, e, hr, _⟩ := hc j (by simpa using h2)
    rw [rw_toI h2] at e hr
    rw [toI_len] at e
    simp only [stAt, List.getElem_map, List.getElem_range, e]
    exact rowAt_eq hr
/-- an append as one step of a region that draws its order -/
theorem step_appT {P : Program} {W : World} {ops : Array Oper} {o : Oper} {a : Act} {K : Act → World → Prop} {Q : Exit → Act → World → Prop} {E : Prop} (hgd : o.guard = none) (s x : Operand) (t : TypeId)
    (ho : o.op = .call { callee := .builtin .append, args := #[s, x], argTypes := #[t, t] })
    (B : Nat) (e : TypeId) (z : Value) (bytes : Nat) (ht : P.underlying t = some (.slice e)) (hinfo : (P.info? e).map (fun i => (i.zero, i.size, i.bytes)) = some (some z, 1, bytes))
    (hz1 : z.cells.size = 1) (hby : bytes ≤ 24) (ad : Option Addr) (n cap : Nat) (xs : List Value) (hs : a.eval s = .slice ad n cap)
    (ao : Option Addr) (m c : Nat) (hx : a.eval x = .slice ao m c) (hown : W.ownsRow B e 1 (.slice ad n cap) n xs)
    (news : List Value) (hl : news.length = m) (hnews : RdV W ao news) (h1 : ∀ u ∈ news, u.oneCell' = true)
    (hn : n + m ≤ 1000000000000) (hB : B ≤ W.heap.size)
    (h : ∀ ad' cap' w', w'.ownsRow B e 1 (.slice ad' (n + m) cap') (n + m) (xs ++ news) → (ad' = ad ∨ ad' = some ⟨W.heap.size, 0, none⟩) → Chg (fun k => ∃ p, ad = some p ∧ p.block = k) W w' → K (a.put o.dst (.slice ad' (n + m) cap')) w') :
    if Region.wanted o (yielded ops a.tmps) = true then Oper.wp P o a W K Q else E := by
  have hw : Region.wanted o (yielded ops a.tmps) = true := by simp [Region.wanted, hgd]
  rw [if_pos hw]
  obtain ⟨ad', cap', w', hr, h2, h3, h4⟩ := run_appS (P := P) W B t o.type e z bytes ht hinfo hz1 hby ad n cap xs hown ao m c news hl hnews h1 hn hB
  unfold Oper.wp execOp
  simp only [ho, resolve, invoke, builtin, Sem.run_bind, Sem.run_pure, Result.andThen_ok, List.map_toArray, List.map_cons, List.map_nil, hs, hx, hr]
  exact h ad' cap' w' h2 h3 h4
/-! ### two slices that grow side by side -/
structure Sr (T0 T1 T2 : TypeId) (w0 wr : World) (B : Nat) (a1 : Option Addr) (m c1 : Nat) (S : List (List Int)) (A1 : Nat → Option Addr) (C1 : Nat → Nat) (a2 : Option Addr) (k c2 : Nat) (O : List (List Int)) (A2 : Nat → Option Addr) (C2 : Nat → Nat) (rl : Option Addr) (l : List Int) : Prop where
  op : OwnR T1 T2 wr B a1 m c1 S A1 C1
  ou : OwnA T0 T2 wr B a2 k c2 O A2 C2 (fun _ => 0)
  x1 : Apart a1 a2
  x2 : ∀ i, i < k → Apart a1 (A2 i)
  x3 : ∀ i, i < m → Apart a2 (A1 i)
  rd : RdI wr rl l
  rlt : ∀ p, rl = some p → p.block < wr.heap.size
  xl : Apart a1 rl
  xo : Apart a2 rl
  bel : Below B w0 wr
  hB : B ≤ wr.heap.size
theorem apart_new {a b a4 : Option Addr} {N : Nat} (h : Apart a b) (hb : ∀ p, b = some p → p.block < N) (q : a4 = a ∨ ∃ p, a4 = some p ∧ N ≤ p.block) : Apart a4 b := by
  intro p q' hp hq e
  rcases q with q | ⟨p', q, h2⟩
  · rw [q] at hp; exact h p q' hp hq e
  · rw [q] at hp; injection hp with e2; subst e2
    have := hb q' hq
    omega
section
variable {T0 T1 T2 : TypeId} {w0 wr wc w4 : World} {B : Nat} {a1 : Option Addr} {m c1 : Nat} {S : List (List Int)} {A1 : Nat → Option Addr} {C1 : Nat → Nat} {a2 : Option Addr} {k c2 : Nat} {O : List (List Int)} {A2 : Nat → Option Addr} {C2 : Nat → Nat} {rl : Option Addr} {l : List Int}
theorem Sr.push {a4 ac : Option Addr} {c4 mm cc Bc : Nat} {xs : List Int} (h : Sr T0 T1 T2 w0 wr B a1 m c1 S A1 C1 a2 k c2 O A2 C2 rl l) (hb : Below wr.heap.size wr wc) (ho : OwnI T2 wc Bc ac mm cc xs) (hBc : wr.heap.size ≤ Bc)
    (r4 : w4.ownsRow B T1 1 (.slice a4 (m + 1) c4) (m + 1) (rowVals S A1 C1 m ++ [.slice ac mm cc])) (q4 : a4 = a1 ∨ ∃ p, a4 = some p ∧ wc.heap.size ≤ p.block) (g4 : Chg (fun k => ∃ p, a1 = some p ∧ p.block = k) wc w4) :
    Sr T0 T1 T2 w0 w4 B a4 (m + 1) c4 (S ++ [xs]) (upd A1 m ac) (upd C1 m cc) a2 k c2 O A2 C2 rl l := by
  obtain ⟨h1, h2⟩ := h.op.pushNew2 h.hB hb ho hBc r4 q4 g4
  have s1 := hb.size
  have s2 := g4.size
  have lt2 : ∀ p, a2 = some p → p.block < wr.heap.size := fun p hp => (owns2_block h.ou.own p hp).2
  have ltr : ∀ i, i < k → ∀ p, A2 i = some p → p.block < wr.heap.size := fun i hi p hp => ((h.ou.row i hi).block p hp).2
  have same : ∀ b, Apart a1 b → (∀ p, b = some p → p.block < wr.heap.size) → ∀ p, b = some p → w4.heap[p.block]? = wr.heap[p.block]? := fun b hap hlt p hp => by
    have := hlt p hp
    rw [g4.block _ (by omega) (fun hx => by obtain ⟨q, hq, e⟩ := hx; exact hap q p hq hp e), hb.block _ this]
  refine ⟨h1, h.ou.same (same _ h.x1 lt2) (fun i hi => same _ (h.x2 i hi) (ltr i hi)), ?_, fun i hi => ?_, fun i hi => ?_, h.rd.same (same _ h.xl h.rlt), fun p hp => by have := h.rlt p hp; omega, ?_, h.xo, h.bel.trans h2, by have := h.hB; omega⟩
  · exact apart_new h.x1 (fun p hp => by have := lt2 p hp; omega) q4
  · exact apart_new (h.x2 i hi) (fun p hp => by have := ltr i hi p hp; omega) q4
  · by_cases he : i = m
    · subst he
      rw [upd_eq]
      intro p q hp hq e
      have := lt2 p hp
      have := (ho.block q hq).1
      omega
    · rw [upd_lt (by omega)]; exact h.x3 i (by omega)
  · exact apart_new h.xl (fun p hp => by have := h.rlt p hp; omega) q4
theorem Sr.out {a4 ac : Option Addr} {c4 mm cc Bc : Nat} {xs : List Int} (h : Sr T0 T1 T2 w0 wr B a1 m c1 S A1 C1 a2 k c2 O A2 C2 rl l) (hb : Below wr.heap.size wr wc) (ho : OwnI T2 wc Bc ac mm cc xs) (hBc : wr.heap.size ≤ Bc)
    (r4 : w4.ownsRow B T0 2 (.slice a4 (k + 1) c4) (k + 1) (abVals O A2 C2 (fun _ => 0) k ++ [.slice ac mm cc, .int .i64 0])) (q4 : a4 = a2 ∨ a4 = some ⟨wc.heap.size, 0, none⟩) (g4 : Chg (fun k => ∃ p, a2 = some p ∧ p.block = k) wc w4) :
    Sr T0 T1 T2 w0 w4 B a1 m c1 S A1 C1 a4 (k + 1) c4 (O ++ [xs]) (upd A2 k ac) (upd C2 k cc) rl l := by
  obtain ⟨h1, h2⟩ := h.ou.push h.hB hb ho hBc r4 q4 g4
  have e0 : upd (fun _ => (0 : Int)) k 0 = fun _ => 0 := by funext i; unfold upd; split <;> rfl
  rw [e0] at h1
  have s1 := hb.size
  have s2 := g4.size
  have q4' : a4 = a2 ∨ ∃ p, a4 = some p ∧ wc.heap.size ≤ p.block := by
    rcases q4 with q | q
    · exact .inl q
    · exact .inr ⟨_, q, Nat.le_refl _⟩
  have lt1 : ∀ p, a1 = some p → p.block < wr.heap.size := fun p hp => (ownsRow_block h.op.own p hp).2
  have ltr : ∀ i, i < m → ∀ p, A1 i = some p → p.block < wr.heap.size := fun i hi p hp => ((h.op.row i hi).block p hp).2
  have same : ∀ b, Apart a2 b → (∀ p, b = some p → p.block < wr.heap.size) → ∀ p, b = some p → w4.heap[p.block]? = wr.heap[p.block]? := fun b hap hlt p hp => by
    have := hlt p hp
    rw [g4.block _ (by omega) (fun hx => by obtain ⟨q, hq, e⟩ := hx; exact hap q p hq hp e), hb.block _ this]
  refine ⟨h.op.same (same _ h.x1.symm lt1) (fun i hi => same _ (h.x3 i hi) (ltr i hi)), h1, ?_, fun i hi => ?_, fun i hi => ?_, h.rd.same (same _ h.xo h.rlt), fun p hp => by have := h.rlt p hp; omega, h.xl, ?_, h.bel.trans h2, by have := h.hB; omega⟩
  · exact (apart_new h.x1.symm (fun p hp => by have := lt1 p hp; omega) q4').symm
  · by_cases he : i = k
    · subst he
      rw [upd_eq]
      intro p q hp hq e
      have := lt1 p hp
      have := (ho.block q hq).1
      omega
    · rw [upd_lt (by omega)]; exact h.x2 i (by omega)
  · exact apart_new (h.x3 i hi) (fun p hp => by have := ltr i hi p hp; omega) q4'
  · exact apart_new h.xo (fun p hp => by have := h.rlt p hp; omega) q4'
/-- the last row is taken off -/
theorem Sr.pop {x : List Int} (h : Sr T0 T1 T2 w0 wr B a1 (m + 1) c1 (S ++ [x]) A1 C1 a2 k c2 O A2 C2 rl l) (hS : S.length = m) : Sr T0 T1 T2 w0 wr B a1 m c1 S A1 C1 a2 k c2 O A2 C2 (A1 m) x := by
  have ex : rw_ (S ++ [x]) m = x := by rw [← hS]; exact rw_append_eq
  have er : ∀ i, i < m → rw_ (S ++ [x]) i = rw_ S i := fun i hi => rw_append_lt (by omega)
  have hown : wr.ownsRow B T1 1 (.slice a1 m c1) m (rowVals S A1 C1 m) := by
    rcases ownsRow_cases h.op.own with ⟨_, hn, _⟩ | ⟨g, cur, ha, hg, hh, h1, h2, h3, h4⟩
    · omega
    · subst ha
      refine ⟨by simp [rowVals], .inr ⟨g, c1, cur, rfl, hg, hh, by omega, h2, by omega, ?_⟩⟩
      have e : rowVals (S ++ [x]) A1 C1 (m + 1) = rowVals S A1 C1 m ++ [.slice (A1 m) x.length (C1 m)] := by
        unfold rowVals
        rw [List.range_succ, List.map_append]
        congr 1
        · exact List.map_congr_left fun i hi => by rw [er i (by simpa using hi)]
        · simp only [List.map_cons, List.map_nil, ex]
      rw [e] at h4
      have h5 := congrArg (List.take m) h4
      rw [List.take_take, List.take_append_of_le_length (by simp [rowVals])] at h5
      rw [Nat.mul_one]
      rw [show min m (m + 1) = m by omega] at h5
      rw [h5, List.take_of_length_le (by simp [rowVals])]
  have hr := h.op.row m (by omega)
  rw [ex] at hr
  refine ⟨⟨hS, hown, fun i hi => ?_, fun i j hi hj hne => h.op.ap i j (by omega) (by omega) hne, fun i hi => h.op.apo i (by omega)⟩, h.ou, h.x1, h.x2, fun i hi => h.x3 i (by omega), hr.rd, fun p hp => (hr.block p hp).2, h.op.apo m (by omega), h.x3 m (by omega), h.bel, h.hB⟩
  have := h.op.row i (by omega)
  rwa [er i hi] at this
end
end Go.Proofs.Ytkidohohiihbaaa
