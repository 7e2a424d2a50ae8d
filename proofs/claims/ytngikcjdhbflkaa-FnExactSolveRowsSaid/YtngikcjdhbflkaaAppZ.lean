/- 'append(s, make([]T, m)...)' to a slice of the call's own. No program in sight. -/
import Derived.Test.YtngikcjdhbflkaaApp
import Derived.Lib.AppendZeros
set_option linter.unusedVariables false
set_option linter.unusedSimpArgs false
namespace Go.Proofs.Ytngikcjdhbflkaa
open Go.RowKit

theorem zeroCells_one {z : Value} (hz1 : z.cells = #[z]) (n : Nat) : Builtin.zeroCells z.cells n = (List.replicate n z).toArray := by
  rw [hz1]
  apply Array.ext'
  rw [Builtin.zeroCells]
  simp only [List.size_toArray, List.length_cons, List.length_nil]
  rw [List.eq_replicate_iff]
  simp [Nat.mod_one]
theorem run_appZ {P : Program} (w : World) (B : Nat) (t tn ty e : TypeId) (z : Value) (bytes : Nat) (kn k : IntKind) (ht : P.underlying t = some (.slice e)) (htn : P.underlying tn = some (.int kn)) (hinfo : (P.info? e).map (fun i => (i.zero, i.size, i.bytes)) = some (some z, 1, bytes))
    (hz1 : z.cells = #[z]) (hzo : z.oneCell' = true) (hby : bytes ≤ 24) (ad : Option Addr) (n cap : Nat) (xs : List Value) (hown : w.ownsRow B e 1 (.slice ad n cap) n xs) (m : Nat) (hm : 0 < m)
    (hn : n + m ≤ 1000000000000) (hB : B ≤ w.heap.size) :
    ∃ ad' cap' w', (Builtin.append_ #[t, tn] ty #[.slice ad n cap, .int k m]).run P w = .ok (.slice ad' (n + m) cap') w' ∧ w'.ownsRow B e 1 (.slice ad' (n + m) cap') (n + m) (xs ++ List.replicate m z) ∧
      Chg (fun k => ∃ p, ad = some p ∧ p.block = k) w w' := by
  obtain ⟨i, hi, hz, hsz, hbb⟩ := info_parts hinfo
  have hbytes : (n + m) * bytes ≤ 140737488355328 := by
    have : (n + m) * bytes ≤ (n + m) * 24 := Nat.mul_le_mul_left _ hby
    omega
  have hmb : m * bytes ≤ (n + m) * bytes := Nat.mul_le_mul_right _ (by omega)
  have hw : IntKind.i64.wrap (m : Int) = m := by rw [IntKind.wrap_i64]; omega
  have hneg : ¬ ((m : Int) < 0) := by omega
  have h48i : ¬ (281474976710656 < (m : Int) * (bytes : Int)) := by
    rw [← Int.natCast_mul]
    omega
  have hm0 : ¬ m = 0 := by omega
  have hlen : (xs ++ List.replicate m z).length = (n + m) * 1 := by rw [List.length_append, hown.1, List.length_replicate]; omega
  have h63 : n + m ≤ maxLen := by unfold maxLen; omega
  have grown : ∀ (old : Nat), old < n + m →
      (w.drew.alloc (.cells (xs.toArray ++ (List.replicate m z).toArray ++ Builtin.zeroCells z.cells (grownCap w (n + m) old e - (n + m))) e)).ownsRow B e 1
        (.slice (some ⟨w.heap.size, 0, none⟩) (n + m) (grownCap w (n + m) old e)) (n + m) (xs ++ List.replicate m z) ∧
      Chg (fun k => ∃ p, ad = some p ∧ p.block = k) w (w.drew.alloc (.cells (xs.toArray ++ (List.replicate m z).toArray ++ Builtin.zeroCells z.cells (grownCap w (n + m) old e - (n + m))) e)) := by
    intro old ho
    have hge := grownCap_ge w (n + m) old e
    have hcm : grownCap w (n + m) old e ≤ maxLen := grownCap_le_maxLen w (n + m) old e h63
    refine ⟨⟨hlen, .inr ⟨w.heap.size, _, _, rfl, hB, heap_alloc_new w.drew _, hge, hcm, ?_, ?_⟩⟩, ⟨rfl, rfl, rfl, by simp, fun j hk _ => heap_alloc_old w.drew _ hk⟩⟩
    · simp only [Array.size_append, List.size_toArray, size_zeroCells, hz1, hown.1, List.length_replicate]
      simp
      omega
    · simp only [Array.toList_append, List.append_assoc]
      rw [← List.append_assoc, ← hlen]
      exact List.take_left
  rcases hown.2 with ⟨hv, hn0⟩ | ⟨g, cap0, cur, hv, hbg, hg, hnc, hcm, hcs, htake⟩
  · injection hv with e1 e2 e3
    subst e1; subst e3; subst hn0
    have hx : xs = [] := List.eq_nil_of_length_eq_zero (by simpa using hown.1)
    subst hx
    have hr := Lib.run_append_nil_zeros (P := P) w t tn ty e i z k kn ht htn hi hz m hm (by rw [hsz]; omega) (by omega) (by rw [hbb]; omega)
    have hgr := grown 0 (by omega)
    rw [zeroCells_one hz1 m] at hr
    simp only [Nat.zero_add, List.nil_append, Array.empty_append] at hgr ⊢
    exact ⟨_, _, _, hr, hgr.1, hgr.2⟩
  · injection hv with e1 e2 e3
    subst e1; subst e3
    by_cases hroom : n + m ≤ cap
    · have hfit : n * 1 + (List.replicate m z).length ≤ cur.size := by rw [List.length_replicate, hcs]; omega
      have hst := run_storeCells_at P g (n * 1) e (List.replicate m z) 0 cur w hg (by simpa using hfit) (fun u hu => by rw [List.eq_of_mem_replicate hu]; exact hzo)
      simp only [Nat.add_zero] at hst
      have hr : (Builtin.append_ #[t, tn] ty #[.slice (some ⟨g, 0, none⟩) n cap, .int k m]).run P w = .ok (.slice (some ⟨g, 0, none⟩) (n + m) cap) (w.setRow g (cur.toList.take (n * 1) ++ List.replicate m z ++ cur.toList.drop (n * 1 + (List.replicate m z).length)).toArray) := by
        rw [Nat.mul_one] at hst ⊢
        simp only [List.length_replicate, List.append_assoc] at hst
        simp [Builtin.append_, run_underlying ht, run_underlying htn, sizeOf, typeInfo, zeroValue, hi, hz, hsz, hbb, asInt, asIntOf, hw, hm0, hneg, h48i, hroom, zeroCells_one hz1 m, Addr.add_lit, hst]
      refine ⟨_, _, _, hr, ⟨hlen, .inr ⟨g, cap, _, rfl, hbg, setRow_heap w g cur _ e _ hg, hroom, hcm, ?_, ?_⟩⟩, ⟨rfl, rfl, rfl, by simp, fun k _ hk => setRow_other w g k _ (fun e => hk ⟨_, rfl, e.symm⟩)⟩⟩
      · simp only [List.size_toArray, List.length_append, List.length_take, List.length_drop, Array.length_toList, List.length_replicate]
        omega
      · rw [htake, ← hlen]
        exact List.take_left
    · have holds : ∀ j u, xs[j]? = some u → w.cell? ((⟨g, 0, none⟩ : Addr).add j) = some u := hown.cells (g := g) rfl
      have hfo := run_firstCells_some (P := P) w.drew 1 n ⟨g, 0, none⟩ n cap xs (by have := hown.1; omega) (by simpa using holds)
      have h63' : ¬ (9223372036854775807 < ((n : Int) + (m : Int))) := by omega
      have h48' : ¬ (281474976710656 < Builtin.nextslicecap (n + m) cap * bytes) := by have := growslice_fits (show cap < n + m by omega) hbytes; omega
      have hr : (Builtin.append_ #[t, tn] ty #[.slice (some ⟨g, 0, none⟩) n cap, .int k m]).run P w = .ok (.slice (some ⟨w.heap.size, 0, none⟩) (n + m) (grownCap w (n + m) cap e)) (w.drew.alloc (.cells (xs.toArray ++ (List.replicate m z).toArray ++ Builtin.zeroCells z.cells (grownCap w (n + m) cap e - (n + m))) e)) := by
        simp [Builtin.append_, run_underlying ht, run_underlying htn, sizeOf, typeInfo, zeroValue, hi, hz, hsz, hbb, asInt, asIntOf, hw, hm0, hneg, h48i, hroom, h63', h48', Question.forced, hfo, newRow, grownCap, zeroCells_one hz1 m]
      have hgr := grown cap (by omega)
      exact ⟨_, _, _, hr, hgr.1, hgr.2⟩
theorem run_appZ0 {P : Program} (w : World) (B : Nat) (t tn ty e : TypeId) (z : Value) (bytes : Nat) (kn k : IntKind) (ht : P.underlying t = some (.slice e)) (htn : P.underlying tn = some (.int kn)) (hinfo : (P.info? e).map (fun i => (i.zero, i.size, i.bytes)) = some (some z, 1, bytes))
    (hz1 : z.cells = #[z]) (hzo : z.oneCell' = true) (hby : bytes ≤ 24) (ad : Option Addr) (n cap : Nat) (xs : List Value) (hown : w.ownsRow B e 1 (.slice ad n cap) n xs) (m : Nat)
    (hn : n + m ≤ 1000000000000) (hB : B ≤ w.heap.size) :
    ∃ ad' cap' w', (Builtin.append_ #[t, tn] ty #[.slice ad n cap, .int k m]).run P w = .ok (.slice ad' (n + m) cap') w' ∧ w'.ownsRow B e 1 (.slice ad' (n + m) cap') (n + m) (xs ++ List.replicate m z) ∧
      Chg (fun k => ∃ p, ad = some p ∧ p.block = k) w w' := by
  by_cases hm : 0 < m
  · exact run_appZ w B t tn ty e z bytes kn k ht htn hinfo hz1 hzo hby ad n cap xs hown m hm hn hB
  · obtain rfl : m = 0 := by omega
    obtain ⟨i, hi, hz, hsz, hbb⟩ := info_parts hinfo
    have hcap : n ≤ cap := by
      rcases hown.2 with ⟨hv, hn0⟩ | ⟨g, cap0, cur, hv, hBg, hh, hnc, _⟩
      · injection hv with e1 e2 e3; omega
      · injection hv with e1 e2 e3; subst e3; exact hnc
    have hw : IntKind.i64.wrap (0 : Int) = 0 := by rw [IntKind.wrap_i64]; omega
    refine ⟨ad, cap, w, ?_, by simpa using hown, Chg.refl _ _⟩
    cases ad with
    | none => simp [Builtin.append_, run_underlying ht, run_underlying htn, sizeOf, typeInfo, zeroValue, hi, hz, hsz, hbb, asInt, asIntOf, hw, hcap]
    | some a => simp [Builtin.append_, run_underlying ht, run_underlying htn, sizeOf, typeInfo, zeroValue, hi, hz, hsz, hbb, asInt, asIntOf, hw, hcap, storeCells]
section
variable {P : Program} {W : World} {ops : Array Oper} {o : Oper} {a : Act}
theorem wpList_appZ2 {rest : List Oper} {Q : Exit → Act → World → Prop} (hgd : o.guard = none) (s x : Operand) (t tn : TypeId)
    (ho : o.op = .call { callee := .builtin .append, args := #[s, x], argTypes := #[t, tn] })
    (B : Nat) (e : TypeId) (z : Value) (bytes : Nat) (kn k : IntKind) (ht : P.underlying t = some (.slice e)) (htn : P.underlying tn = some (.int kn)) (hinfo : (P.info? e).map (fun i => (i.zero, i.size, i.bytes)) = some (some z, 1, bytes))
    (hz1 : z.cells = #[z]) (hzo : z.oneCell' = true) (hby : bytes ≤ 24) (ad : Option Addr) (n cap : Nat) (xs : List Value) (hs : a.eval s = .slice ad n cap) (m : Nat) (hx : a.eval x = .int k m)
    (hown : W.ownsRow B e 1 (.slice ad n cap) n xs) (hn : n + m ≤ 1000000000000) (hB : B ≤ W.heap.size)
    (h : ∀ ad' cap' w', w'.ownsRow B e 1 (.slice ad' (n + m) cap') (n + m) (xs ++ List.replicate m z) → Chg (fun k => ∃ p, ad = some p ∧ p.block = k) W w' → wpList P ops Q rest (a.put o.dst (.slice ad' (n + m) cap')) w') :
    wpList P ops Q (o :: rest) a W := by
  refine wpList_plain hgd fun K hK => ?_
  obtain ⟨ad', cap', w', hr, h2, h4⟩ := run_appZ0 (P := P) W B t tn o.type e z bytes kn k ht htn hinfo hz1 hzo hby ad n cap xs hown m hn hB
  unfold Oper.wp execOp
  simp only [ho, resolve, invoke, builtin, Sem.run_bind, Sem.run_pure, Result.andThen_ok, List.map_toArray, List.map_cons, List.map_nil, hs, hx, hr]
  exact hK _ _ (h ad' cap' w' h2 h4)
theorem step_appZ2 {K : Act → World → Prop} {Q : Exit → Act → World → Prop} {E : Prop} (hgd : o.guard = none) (s x : Operand) (t tn : TypeId)
    (ho : o.op = .call { callee := .builtin .append, args := #[s, x], argTypes := #[t, tn] })
    (B : Nat) (e : TypeId) (z : Value) (bytes : Nat) (kn k : IntKind) (ht : P.underlying t = some (.slice e)) (htn : P.underlying tn = some (.int kn)) (hinfo : (P.info? e).map (fun i => (i.zero, i.size, i.bytes)) = some (some z, 1, bytes))
    (hz1 : z.cells = #[z]) (hzo : z.oneCell' = true) (hby : bytes ≤ 24) (ad : Option Addr) (n cap : Nat) (xs : List Value) (hs : a.eval s = .slice ad n cap) (m : Nat) (hx : a.eval x = .int k m)
    (hown : W.ownsRow B e 1 (.slice ad n cap) n xs) (hn : n + m ≤ 1000000000000) (hB : B ≤ W.heap.size)
    (h : ∀ ad' cap' w', w'.ownsRow B e 1 (.slice ad' (n + m) cap') (n + m) (xs ++ List.replicate m z) → Chg (fun k => ∃ p, ad = some p ∧ p.block = k) W w' → K (a.put o.dst (.slice ad' (n + m) cap')) w') :
    if Region.wanted o (yielded ops a.tmps) = true then Oper.wp P o a W K Q else E := by
  have hw : Region.wanted o (yielded ops a.tmps) = true := by simp [Region.wanted, hgd]
  rw [if_pos hw]
  obtain ⟨ad', cap', w', hr, h2, h4⟩ := run_appZ0 (P := P) W B t tn o.type e z bytes kn k ht htn hinfo hz1 hzo hby ad n cap xs hown m hn hB
  unfold Oper.wp execOp
  simp only [ho, resolve, invoke, builtin, Sem.run_bind, Sem.run_pure, Result.andThen_ok, List.map_toArray, List.map_cons, List.map_nil, hs, hx, hr]
  exact h ad' cap' w' h2 h4
end
end Go.Proofs.Ytngikcjdhbflkaa
