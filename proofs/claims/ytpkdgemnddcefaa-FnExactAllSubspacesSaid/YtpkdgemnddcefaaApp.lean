/- 'append(s, xs...)' of a slice that is read, to a slice of the call's own: whatever the source's address. No program in sight. -/
import Derived.Test.YtpkdgemnddcefaaHeap
import Derived.Deep.Upon
set_option linter.unusedVariables false
set_option linter.unusedSimpArgs false
namespace Go.Proofs.Ytpkdgemnddcefaa
open Go.RowKit

/-- the cells behind the address hold the values -/
def RdV (w : World) (a : Option Addr) (vs : List Value) : Prop :=
  0 < vs.length → ∃ b o, a = some ⟨b, o, none⟩ ∧ ∀ i, i < vs.length → w.cell? ⟨b, o + i, none⟩ = vs[i]?
theorem RdI.vals {w : World} {a : Option Addr} {xs : List Int} (h : RdI w a xs) : RdV w a (xs.map (Value.int .i64)) := fun h0 => by
  obtain ⟨b, o, ha, hc⟩ := h (by simpa using h0)
  refine ⟨b, o, ha, fun i hi => ?_⟩
  have hi' : i < xs.length := by simpa using hi
  rw [hc i hi', List.getElem?_map, el_get hi']
  rfl
theorem add_at' (b o i : Nat) : (⟨b, o, none⟩ : Addr).add i = ⟨b, o + i, none⟩ := by unfold Addr.add; split <;> simp_all
theorem run_appS {P : Program} (w : World) (B : Nat) (t ty e : TypeId) (z : Value) (bytes : Nat) (ht : P.underlying t = some (.slice e)) (hinfo : (P.info? e).map (fun i => (i.zero, i.size, i.bytes)) = some (some z, 1, bytes))
    (hz1 : z.cells.size = 1) (hby : bytes ≤ 24) (ad : Option Addr) (n cap : Nat) (xs : List Value) (hown : w.ownsRow B e 1 (.slice ad n cap) n xs)
    (ao : Option Addr) (m c : Nat) (news : List Value) (hl : news.length = m) (hnews : RdV w ao news) (h1 : ∀ u ∈ news, u.oneCell' = true)
    (hn : n + m ≤ 1000000000000) (hB : B ≤ w.heap.size) :
    ∃ ad' cap' w', (Builtin.append_ #[t, t] ty #[.slice ad n cap, .slice ao m c]).run P w = .ok (.slice ad' (n + m) cap') w' ∧ w'.ownsRow B e 1 (.slice ad' (n + m) cap') (n + m) (xs ++ news) ∧
      (ad' = ad ∨ ad' = some ⟨w.heap.size, 0, none⟩) ∧ Chg (fun k => ∃ p, ad = some p ∧ p.block = k) w w' := by
  by_cases hm : m = 0
  · subst hm
    obtain rfl : news = [] := List.eq_nil_of_length_eq_zero hl
    obtain ⟨i0, hi, hz0, hz1', hz2⟩ := info_parts hinfo
    have hs : Src P i0.size t (.slice ao 0 c) 0 [] w := by
      cases ao with
      | none => exact Src.ofNil w ht c
      | some a => exact Src.ofSlice w ht a 0 c [] (by simp) (fun j u h => by simp at h) (fun u h => by cases h)
    have hcap : n ≤ cap := by
      rcases hown.2 with ⟨hv, hn0⟩ | ⟨g, cap0, cur, hv, hBg, hh, hnc, _⟩
      · injection hv with e1 e2 e3; omega
      · injection hv with e1 e2 e3; subst e3; exact hnc
    refine ⟨ad, cap, w, run_append_nothing w t t ty e i0 ht hi ad n cap hcap _ hs, ?_, .inl rfl, Chg.refl _ _⟩
    simpa using hown
  · obtain ⟨b, o, rfl, hc⟩ := hnews (by omega)
    refine run_app w B t ty e z bytes ht hinfo hz1 hby ad n cap xs hown _ m c news hl ?_ h1 hn hB
    intro j u hj
    have hjl : j < news.length := by
      refine Nat.lt_of_not_le fun hle => ?_
      rw [List.getElem?_eq_none hle] at hj; cases hj
    rw [add_at', hc j hjl, hj]
theorem wpList_appS {P : Program} {w : World} {ops : Array Oper} {rest : List Oper} {o : Oper} {a : Act} {Q : Exit → Act → World → Prop} (hgd : o.guard = none) (s x : Operand) (t : TypeId)
    (ho : o.op = .call { callee := .builtin .append, args := #[s, x], argTypes := #[t, t] })
    (B : Nat) (e : TypeId) (z : Value) (bytes : Nat) (ht : P.underlying t = some (.slice e)) (hinfo : (P.info? e).map (fun i => (i.zero, i.size, i.bytes)) = some (some z, 1, bytes))
    (hz1 : z.cells.size = 1) (hby : bytes ≤ 24) (ad : Option Addr) (n cap : Nat) (xs : List Value) (hs : a.eval s = .slice ad n cap)
    (ao : Option Addr) (m c : Nat) (hx : a.eval x = .slice ao m c) (hown : w.ownsRow B e 1 (.slice ad n cap) n xs)
    (news : List Value) (hl : news.length = m) (hnews : RdV w ao news) (h1 : ∀ u ∈ news, u.oneCell' = true)
    (hn : n + m ≤ 1000000000000) (hB : B ≤ w.heap.size)
    (h : ∀ ad' cap' w', w'.ownsRow B e 1 (.slice ad' (n + m) cap') (n + m) (xs ++ news) → (ad' = ad ∨ ad' = some ⟨w.heap.size, 0, none⟩) → Chg (fun k => ∃ p, ad = some p ∧ p.block = k) w w' → wpList P ops Q rest (a.put o.dst (.slice ad' (n + m) cap')) w') :
    wpList P ops Q (o :: rest) a w := by
  refine wpList_plain hgd fun K hK => ?_
  obtain ⟨ad', cap', w', hr, h2, h3, h4⟩ := run_appS (P := P) w B t o.type e z bytes ht hinfo hz1 hby ad n cap xs hown ao m c news hl hnews h1 hn hB
  unfold Oper.wp execOp
  simp only [ho, resolve, invoke, builtin, Sem.run_bind, Sem.run_pure, Result.andThen_ok, List.map_toArray, List.map_cons, List.map_nil, hs, hx, hr]
  exact hK _ _ (h ad' cap' w' h2 h3 h4)
/-- an append of one element as one step of a region that draws its order, told of the world at the append -/
theorem step_pushW {P : Program} {W : World} {ops : Array Oper} {o : Oper} {a : Act} {K : Act → World → Prop} {Q : Exit → Act → World → Prop} {E : Prop} (hgd : o.guard = none) (s x : Operand) (t : TypeId)
    (ho : o.op = .call { callee := .builtin .append, args := #[s, x], argTypes := #[t, t] })
    (B : Nat) (e : TypeId) (z : Value) (bytes : Nat) (ht : P.underlying t = some (.slice e)) (hinfo : (P.info? e).map (fun i => (i.zero, i.size, i.bytes)) = some (some z, 1, bytes))
    (hz1 : z.cells.size = 1) (hby : bytes ≤ 24) (u : Value) (hu : u.oneCell' = true)
    (ad : Option Addr) (n cap : Nat) (xs : List Value) (b : Nat) (hs : a.eval s = .slice ad n cap) (hx : a.eval x = .slice (some ⟨b, 0, none⟩) 1 1) (hb : W.cell? ⟨b, 0, none⟩ = some u)
    (hown : W.ownsRow B e 1 (.slice ad n cap) n xs) (hn : n ≤ 100000000000) (hB : B ≤ W.heap.size)
    (h : ∀ ad' cap' w', w'.ownsRow B e 1 (.slice ad' (n + 1) cap') (n + 1) (xs ++ [u]) → (ad' = ad ∨ ∃ p, ad' = some p ∧ W.heap.size ≤ p.block) → Chg (fun k => ∃ p, ad = some p ∧ p.block = k) W w' → K (a.put o.dst (.slice ad' (n + 1) cap')) w') :
    if Region.wanted o (yielded ops a.tmps) = true then Oper.wp P o a W K Q else E := by
  have hw : Region.wanted o (yielded ops a.tmps) = true := by simp [Region.wanted, hgd]
  rw [if_pos hw]
  obtain ⟨ad', cap', w', hr, h2, h3, h4⟩ := run_app (P := P) W B t o.type e z bytes ht hinfo hz1 hby ad n cap xs hown ⟨b, 0, none⟩ 1 1 [u] rfl
    (fun j v hj => by
      match j, hj with
      | 0, hj => simp at hj; subst hj; simpa [Addr.add] using hb) (fun v hv => by simp at hv; subst hv; exact hu) (by omega) (by omega)
  unfold Oper.wp execOp
  simp only [ho, resolve, invoke, builtin, Sem.run_bind, Sem.run_pure, Result.andThen_ok, List.map_toArray, List.map_cons, List.map_nil, hs, hx, hr]
  refine h ad' cap' w' h2 ?_ h4
  rcases h3 with h3 | h3
  · exact .inl h3
  · exact .inr ⟨_, h3, Nat.le_refl _⟩
theorem map_one (xs : List Int) : ∀ u ∈ xs.map (Value.int .i64), u.oneCell' = true := fun u hu => by
  obtain ⟨x, _, rfl⟩ := List.mem_map.1 hu
  rfl
theorem OwnI.app {T : TypeId} {w : World} {B : Nat} {a : Option Addr} {n m cap : Nat} {xs ys : List Int} (h : w.ownsRow B T 1 (.slice a (n + m) cap) (n + m) (xs.map (Value.int .i64) ++ ys.map (Value.int .i64))) : OwnI T w B a (n + m) cap (xs ++ ys) := by
  unfold OwnI; rw [List.map_append]; exact h
end Go.Proofs.Ytpkdgemnddcefaa
