/- An append draws only forwards; what a call leaves behind that changes nothing but makes new blocks. -/
import Derived.Test.YtpkdgemnddcefaaPush
import Derived.Sort.Grow
set_option linter.unusedVariables false
set_option linter.unusedSimpArgs false
namespace Go.Proofs.Ytpkdgemnddcefaa
open Go.RowKit

theorem drawn_al (w : World) (o : Obj) : w.drawn ≤ (w.drew.alloc o).drawn := by
  show w.drawn ≤ w.drawn + 1
  omega
theorem drawn_setCell (w : World) (p : Addr) (v : Value) : (w.setCell p v).drawn = w.drawn := by unfold World.setCell; split <;> rfl
theorem drawn_setCells (b : Nat) : ∀ (vs : List Value) (o : Nat) (w : World), (w.setCells b o vs).drawn = w.drawn
  | [], _, _ => rfl
  | v :: r, o, w => by rw [World.setCells, drawn_setCells b r, drawn_setCell]
theorem run_appD {P : Program} (w : World) (B : Nat) (t ty e : TypeId) (z : Value) (bytes : Nat) (ht : P.underlying t = some (.slice e)) (hinfo : (P.info? e).map (fun i => (i.zero, i.size, i.bytes)) = some (some z, 1, bytes))
    (hz1 : z.cells.size = 1) (hby : bytes ≤ 24) (ad : Option Addr) (n cap : Nat) (xs : List Value) (hown : w.ownsRow B e 1 (.slice ad n cap) n xs)
    (a : Addr) (m c : Nat) (news : List Value) (hl : news.length = m) (hnews : ∀ j u, news[j]? = some u → w.cell? (a.add j) = some u) (h1 : ∀ u ∈ news, u.oneCell' = true)
    (hn : n + m ≤ 1000000000000) (hm1 : 1 ≤ m) (hB : B ≤ w.heap.size) :
    ∃ ad' cap' w', (Builtin.append_ #[t, t] ty #[.slice ad n cap, .slice (some a) m c]).run P w = .ok (.slice ad' (n + m) cap') w' ∧ w'.ownsRow B e 1 (.slice ad' (n + m) cap') (n + m) (xs ++ news) ∧
      (ad' = ad ∨ ad' = some ⟨w.heap.size, 0, none⟩) ∧ Chg (fun k => ∃ p, ad = some p ∧ p.block = k) w w' ∧ w.drawn ≤ w'.drawn := by
  obtain ⟨i0, hi, hz0, hz1', hz2⟩ := info_parts hinfo
  have hbytes : (n + m) * bytes ≤ 140737488355328 := by
    have : (n + m) * bytes ≤ (n + m) * 24 := Nat.mul_le_mul_left _ hby
    omega
  have hl1 : news.length = m * 1 := by omega
  obtain ⟨v', w', hr, ho, hg, hnil⟩ := run_append_own (P := P) w B t ty e i0 z 1 bytes ht hi hz0 hz1' hz2 hz1 (by decide) _ n xs hown a m c news hl1 hnews h1 (by unfold maxLen; omega) hbytes hB
  have hc : Chg (fun k => ∃ p, ad = some p ∧ p.block = k) w w' := by
    refine ⟨hg.os, hg.tape, hg.output, hg.size, fun k hk hs' => hg.block k hk ?_⟩
    rw [ownBlock_slice]; intro e; cases ad with
      | none => cases e
      | some p => simp at e; exact hs' ⟨p, rfl, e.symm⟩
  have hl2 : news.length = m * i0.size := by rw [hz1']; omega
  rcases hown.2 with ⟨hv, hn0⟩ | ⟨g, cap0, cur, hv, hBg, hh, hnc, hcm, hcs, htake⟩
  · injection hv with e1 e2 e3
    subst e1; subst e3; subst hn0
    by_cases hm : m = 0
    · subst hm
      omega
    · have hr2 := run_append_nil (P := P) w t ty e i0 z ht hi hz0 a m c news hl2 hnews (by omega) (by omega) (by rw [hz2]; simp at hbytes; omega)
      rw [hr2] at hr
      injection hr with e1 e2
      subst e1; subst e2
      rw [Nat.zero_add] at ho ⊢
      exact ⟨_, _, _, hr2, ho, .inr rfl, hc, drawn_al _ _⟩
  · injection hv with e1 e2 e3
    subst e1; subst e3
    by_cases hroom : n + m ≤ cap
    · have hr2 := run_append_room (P := P) w t ty e i0 ht hi g n cap cur hh a m c news hl2 hnews h1 hroom (by rw [hz1', hl1, hcs]; omega)
      rw [hr2] at hr
      injection hr with e1 e2
      subst e1; subst e2
      exact ⟨_, _, _, hr2, ho, .inl rfl, hc, by unfold World.setRow; first | exact Nat.le_refl _ | (split <;> exact Nat.le_refl _)⟩
    · have holds : ∀ j u, xs[j]? = some u → w.cell? ((⟨g, 0, none⟩ : Addr).add j) = some u := hown.cells (g := g) rfl
      have hr2 := run_append_grow (P := P) w t ty e i0 z ht hi hz0 ⟨g, 0, none⟩ n cap xs (by rw [hz1']; exact hown.1) holds a m c news hl2 hnews (by omega) (by omega) (by rw [hz2]; exact growslice_fits (by omega) hbytes)
      rw [hr2] at hr
      injection hr with e1 e2
      subst e1; subst e2
      exact ⟨_, _, _, hr2, ho, .inr rfl, hc, drawn_al _ _⟩

theorem wpList_appD {P : Program} {w : World} {ops : Array Oper} {rest : List Oper} {o : Oper} {a : Act} {Q : Exit → Act → World → Prop} (hgd : o.guard = none) (s x : Operand) (t : TypeId)
    (ho : o.op = .call { callee := .builtin .append, args := #[s, x], argTypes := #[t, t] })
    (B : Nat) (e : TypeId) (z : Value) (bytes : Nat) (ht : P.underlying t = some (.slice e)) (hinfo : (P.info? e).map (fun i => (i.zero, i.size, i.bytes)) = some (some z, 1, bytes))
    (hz1 : z.cells.size = 1) (hby : bytes ≤ 24) (ad : Option Addr) (n cap : Nat) (xs : List Value) (hs : a.eval s = .slice ad n cap)
    (b : Addr) (m c : Nat) (hx : a.eval x = .slice (some b) m c) (hown : w.ownsRow B e 1 (.slice ad n cap) n xs)
    (news : List Value) (hl : news.length = m) (hnews : ∀ j u, news[j]? = some u → w.cell? (b.add j) = some u) (h1 : ∀ u ∈ news, u.oneCell' = true)
    (hn : n + m ≤ 1000000000000) (hm1 : 1 ≤ m) (hB : B ≤ w.heap.size)
    (h : ∀ ad' cap' w', w'.ownsRow B e 1 (.slice ad' (n + m) cap') (n + m) (xs ++ news) → (ad' = ad ∨ ad' = some ⟨w.heap.size, 0, none⟩) → Chg (fun k => ∃ p, ad = some p ∧ p.block = k) w w' → w.drawn ≤ w'.drawn → wpList P ops Q rest (a.put o.dst (.slice ad' (n + m) cap')) w') :
    wpList P ops Q (o :: rest) a w := by
  refine wpList_plain hgd fun K hK => ?_
  obtain ⟨ad', cap', w', hr, h2, h3, h4, h5⟩ := run_appD (P := P) w B t o.type e z bytes ht hinfo hz1 hby ad n cap xs hown b m c news hl hnews h1 hn hm1 hB
  unfold Oper.wp execOp
  simp only [ho, resolve, invoke, builtin, Sem.run_bind, Sem.run_pure, Result.andThen_ok, List.map_toArray, List.map_cons, List.map_nil, hs, hx, hr]
  exact hK _ _ (h ad' cap' w' h2 h3 h4 h5)

/-- 'append(s, x)': the operand x lies in a block that was just made for it -/
theorem wpList_pushD {P : Program} {w : World} {ops : Array Oper} {rest : List Oper} {o : Oper} {a : Act} {Q : Exit → Act → World → Prop} (hgd : o.guard = none) (s x : Operand) (t : TypeId)
    (ho : o.op = .call { callee := .builtin .append, args := #[s, x], argTypes := #[t, t] })
    (B : Nat) (e : TypeId) (z : Value) (bytes : Nat) (ht : P.underlying t = some (.slice e)) (hinfo : (P.info? e).map (fun i => (i.zero, i.size, i.bytes)) = some (some z, 1, bytes))
    (hz1 : z.cells.size = 1) (hby : bytes ≤ 24) (u : Value) (hu : u.oneCell' = true)
    (ad : Option Addr) (n cap : Nat) (xs : List Value) (hs : a.eval s = .slice ad n cap) (hx : a.eval x = .slice (some ⟨w.heap.size, 0, none⟩) 1 1)
    (hown : w.ownsRow B e 1 (.slice ad n cap) n xs) (hn : n ≤ 100000000000) (hB : B ≤ w.heap.size)
    (h : ∀ ad' cap' w', w'.ownsRow B e 1 (.slice ad' (n + 1) cap') (n + 1) (xs ++ [u]) → (ad' = ad ∨ ∃ p, ad' = some p ∧ w.heap.size ≤ p.block) → Chg (fun k => ∃ p, ad = some p ∧ p.block = k) w w' → w.drawn ≤ w'.drawn → wpList P ops Q rest (a.put o.dst (.slice ad' (n + 1) cap')) w') :
    wpList P ops Q (o :: rest) a (w.alloc (.cells #[u] e)) := by
  refine wpList_appD hgd s x t ho B e z bytes ht hinfo hz1 hby ad n cap xs hs _ 1 1 hx (hown.alloc _) [u] rfl ?_ ?_ (by omega) (by omega) (by simp; omega) ?_
  · intro j v hj
    match j, hj with
    | 0, hj => simp at hj; subst hj; simp [Addr.add]
  · intro v hv; simp at hv; subst hv; exact hu
  · intro ad' cap' w' h1 h2 h3 h5
    refine h ad' cap' w' h1 ?_ (((Chg.refl _ _).alloc _).trans h3) h5
    rcases h2 with h2 | h2
    · exact .inl h2
    · exact .inr ⟨_, h2, by simp⟩



/-- what changes no old block and makes new ones -/
theorem grow_of {w w' : World} (h : Below w.heap.size w w') (hd : w.drawn ≤ w'.drawn) : ∃ q os, w' = Go.Sort.grow (w.drewN q) os := by
  refine ⟨w'.drawn - w.drawn, w'.heap.extract w.heap.size w'.heap.size, ?_⟩
  obtain ⟨hp, tp, dr, os, ou⟩ := w
  obtain ⟨hp', tp', dr', os', ou'⟩ := w'
  obtain ⟨h1, h2, h3, h4, h5⟩ := h
  simp only at h1 h2 h3 h4 h5 hd
  subst h1; subst h2; subst h3
  unfold Go.Sort.grow World.drewN
  simp only [World.mk.injEq, and_true, true_and]
  refine ⟨?_, by omega⟩
  refine Array.ext_getElem? fun k => ?_
  by_cases hk : k < hp.size
  · rw [h5 k hk, Array.getElem?_append_left hk]
  · rw [Array.getElem?_append_right (by omega), Array.getElem?_extract]
    have : min hp'.size hp'.size - hp.size = hp'.size - hp.size := by simp
    by_cases hk2 : k < hp'.size
    · rw [if_pos (by omega)]
      congr 1
      omega
    · rw [if_neg (by omega), Array.getElem?_eq_none (by omega)]

end Go.Proofs.Ytpkdgemnddcefaa
