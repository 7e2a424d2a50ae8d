/- Appends to slices of structs that the call owns. No program in sight. -/
import Derived.Test.YtpkdgemnddcefaaHeap
set_option linter.unusedVariables false
set_option linter.unusedSimpArgs false
namespace Go.Proofs.Ytpkdgemnddcefaa
open Go.RowKit

theorem run_appK {P : Program} (w : World) (B : Nat) (t ty e : TypeId) (z : Value) (size bytes : Nat) (ht : P.underlying t = some (.slice e)) (hinfo : (P.info? e).map (fun i => (i.zero, i.size, i.bytes)) = some (some z, size, bytes))
    (hz1 : z.cells.size = size) (hsz : 0 < size) (hby : bytes ≤ 48) (ad : Option Addr) (n cap : Nat) (xs : List Value) (hown : w.ownsRow B e size (.slice ad n cap) n xs)
    (a : Addr) (m c : Nat) (news : List Value) (hl : news.length = m * size) (hnews : ∀ j u, news[j]? = some u → w.cell? (a.add j) = some u) (h1 : ∀ u ∈ news, u.oneCell' = true)
    (hn : n + m ≤ 1000000000000) (hB : B ≤ w.heap.size) :
    ∃ ad' cap' w', (Builtin.append_ #[t, t] ty #[.slice ad n cap, .slice (some a) m c]).run P w = .ok (.slice ad' (n + m) cap') w' ∧ w'.ownsRow B e size (.slice ad' (n + m) cap') (n + m) (xs ++ news) ∧
      (ad' = ad ∨ ad' = some ⟨w.heap.size, 0, none⟩) ∧ Chg (fun k => ∃ p, ad = some p ∧ p.block = k) w w' := by
  obtain ⟨i0, hi, hz0, hz1', hz2⟩ := info_parts hinfo
  have hbytes : (n + m) * bytes ≤ 140737488355328 := by
    have : (n + m) * bytes ≤ (n + m) * 48 := Nat.mul_le_mul_left _ hby
    omega
  obtain ⟨v', w', hr, ho, hg, hnil⟩ := run_append_own (P := P) w B t ty e i0 z size bytes ht hi hz0 hz1' hz2 hz1 hsz _ n xs hown a m c news hl hnews h1 (by unfold maxLen; omega) hbytes hB
  have hc : Chg (fun k => ∃ p, ad = some p ∧ p.block = k) w w' := by
    refine ⟨hg.os, hg.tape, hg.output, hg.size, fun k hk hs' => hg.block k hk ?_⟩
    rw [ownBlock_slice]; intro e; cases ad with
      | none => cases e
      | some p => simp at e; exact hs' ⟨p, rfl, e.symm⟩
  have hl2 : news.length = m * i0.size := by rw [hz1']; exact hl
  rcases hown.2 with ⟨hv, hn0⟩ | ⟨g, cap0, cur, hv, hBg, hh, hnc, hcm, hcs, htake⟩
  · injection hv with e1 e2 e3
    subst e1; subst e3; subst hn0
    by_cases hm : m = 0
    · subst hm
      have := hnil.2 ⟨rfl, rfl⟩
      subst this
      exact ⟨none, 0, w', hr, ho, .inl rfl, hc⟩
    · have hr2 := run_append_nil (P := P) w t ty e i0 z ht hi hz0 a m c news hl2 hnews (by omega) (by omega) (by rw [hz2]; simp at hbytes; omega)
      rw [hr2] at hr
      injection hr with e1 e2
      subst e1; subst e2
      rw [Nat.zero_add] at ho ⊢
      exact ⟨_, _, _, hr2, ho, .inr rfl, hc⟩
  · injection hv with e1 e2 e3
    subst e1; subst e3
    by_cases hroom : n + m ≤ cap
    · have hr2 := run_append_room (P := P) w t ty e i0 ht hi g n cap cur hh a m c news hl2 hnews h1 hroom (by rw [hz1', hl, hcs, ← Nat.add_mul]; exact Nat.mul_le_mul_right _ hroom)
      rw [hr2] at hr
      injection hr with e1 e2
      subst e1; subst e2
      exact ⟨_, _, _, hr2, ho, .inl rfl, hc⟩
    · have holds : ∀ j u, xs[j]? = some u → w.cell? ((⟨g, 0, none⟩ : Addr).add j) = some u := hown.cells (g := g) rfl
      have hr2 := run_append_grow (P := P) w t ty e i0 z ht hi hz0 ⟨g, 0, none⟩ n cap xs (by rw [hz1']; exact hown.1) holds a m c news hl2 hnews (by omega) (by omega) (by rw [hz2]; exact growslice_fits (by omega) hbytes)
      rw [hr2] at hr
      injection hr with e1 e2
      subst e1; subst e2
      exact ⟨_, _, _, hr2, ho, .inr rfl, hc⟩

/-- 'append(s, x)' of a struct: its cells lie in the block b -/
theorem wpList_pushK {P : Program} {w : World} {ops : Array Oper} {rest : List Oper} {o : Oper} {a : Act} {Q : Exit → Act → World → Prop} (hgd : o.guard = none) (s x : Operand) (t : TypeId)
    (ho : o.op = .call { callee := .builtin .append, args := #[s, x], argTypes := #[t, t] })
    (B : Nat) (e : TypeId) (z : Value) (size bytes : Nat) (ht : P.underlying t = some (.slice e)) (hinfo : (P.info? e).map (fun i => (i.zero, i.size, i.bytes)) = some (some z, size, bytes))
    (hz1 : z.cells.size = size) (hsz : 0 < size) (hby : bytes ≤ 48) (us : List Value) (hus : us.length = size) (hu : ∀ u ∈ us, u.oneCell' = true)
    (ad : Option Addr) (n cap : Nat) (xs : List Value) (hs : a.eval s = .slice ad n cap) (b : Nat) (hx : a.eval x = .slice (some ⟨b, 0, none⟩) 1 1)
    (hb : ∀ j u, us[j]? = some u → w.cell? ⟨b, j, none⟩ = some u)
    (hown : w.ownsRow B e size (.slice ad n cap) n xs) (hn : n ≤ 100000000000) (hB : B ≤ w.heap.size)
    (h : ∀ ad' cap' w', w'.ownsRow B e size (.slice ad' (n + 1) cap') (n + 1) (xs ++ us) → (ad' = ad ∨ ad' = some ⟨w.heap.size, 0, none⟩) → Chg (fun k => ∃ p, ad = some p ∧ p.block = k) w w' → wpList P ops Q rest (a.put o.dst (.slice ad' (n + 1) cap')) w') :
    wpList P ops Q (o :: rest) a w := by
  refine wpList_plain hgd fun K hK => ?_
  obtain ⟨ad', cap', w', hr, h2, h3, h4⟩ := run_appK (P := P) w B t o.type e z size bytes ht hinfo hz1 hsz hby ad n cap xs hown ⟨b, 0, none⟩ 1 1 us (by omega)
    (fun j v hj => by
      have := hb j v hj
      have e : (⟨b, 0, none⟩ : Addr).add j = ⟨b, j, none⟩ := by unfold Addr.add; split <;> simp_all
      rw [e]; exact this) hu (by omega) hB
  unfold Oper.wp execOp
  simp only [ho, resolve, invoke, builtin, Sem.run_bind, Sem.run_pure, Result.andThen_ok, List.map_toArray, List.map_cons, List.map_nil, hs, hx, hr]
  exact hK _ _ (h ad' cap' w' h2 h3 h4)
/-- the same as one step of a region that draws its order -/
theorem step_pushK {P : Program} {W : World} {ops : Array Oper} {o : Oper} {a : Act} {K : Act → World → Prop} {Q : Exit → Act → World → Prop} {E : Prop} (hgd : o.guard = none) (s x : Operand) (t : TypeId)
    (ho : o.op = .call { callee := .builtin .append, args := #[s, x], argTypes := #[t, t] })
    (B : Nat) (e : TypeId) (z : Value) (size bytes : Nat) (ht : P.underlying t = some (.slice e)) (hinfo : (P.info? e).map (fun i => (i.zero, i.size, i.bytes)) = some (some z, size, bytes))
    (hz1 : z.cells.size = size) (hsz : 0 < size) (hby : bytes ≤ 48) (us : List Value) (hus : us.length = size) (hu : ∀ u ∈ us, u.oneCell' = true)
    (ad : Option Addr) (n cap : Nat) (xs : List Value) (hs : a.eval s = .slice ad n cap) (b : Nat) (hx : a.eval x = .slice (some ⟨b, 0, none⟩) 1 1)
    (hb : ∀ j u, us[j]? = some u → W.cell? ⟨b, j, none⟩ = some u)
    (hown : W.ownsRow B e size (.slice ad n cap) n xs) (hn : n ≤ 100000000000) (hB : B ≤ W.heap.size)
    (h : ∀ ad' cap' w', w'.ownsRow B e size (.slice ad' (n + 1) cap') (n + 1) (xs ++ us) → (ad' = ad ∨ ad' = some ⟨W.heap.size, 0, none⟩) → Chg (fun k => ∃ p, ad = some p ∧ p.block = k) W w' → K (a.put o.dst (.slice ad' (n + 1) cap')) w') :
    if Region.wanted o (yielded ops a.tmps) = true then Oper.wp P o a W K Q else E := by
  have hw : Region.wanted o (yielded ops a.tmps) = true := by simp [Region.wanted, hgd]
  rw [if_pos hw]
  obtain ⟨ad', cap', w', hr, h2, h3, h4⟩ := run_appK (P := P) W B t o.type e z size bytes ht hinfo hz1 hsz hby ad n cap xs hown ⟨b, 0, none⟩ 1 1 us (by omega)
    (fun j v hj => by
      have := hb j v hj
      have e : (⟨b, 0, none⟩ : Addr).add j = ⟨b, j, none⟩ := by unfold Addr.add; split <;> simp_all
      rw [e]; exact this) hu (by omega) hB
  unfold Oper.wp execOp
  simp only [ho, resolve, invoke, builtin, Sem.run_bind, Sem.run_pure, Result.andThen_ok, List.map_toArray, List.map_cons, List.map_nil, hs, hx, hr]
  exact h ad' cap' w' h2 h3 h4
end Go.Proofs.Ytpkdgemnddcefaa
