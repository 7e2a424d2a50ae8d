/- Slices of integers and slices of such slices as they lie in memory: what a slice reads as, what a call owns, what a call may change. No program in sight. -/
import Derived.WalkKit
import Derived.Lib.Hide
import Derived.Deep.Draws
import Derived.Deep.OwnRows
set_option linter.unusedVariables false
set_option linter.unusedSimpArgs false
namespace Go.Proofs.Ytpkdgemnddcefaa
open Go.RowKit

/-- element i of a list of integers -/
def el (xs : List Int) (i : Nat) : Int := xs[i]?.getD 0
theorem el_get {xs : List Int} {i : Nat} (h : i < xs.length) : xs[i]? = some (el xs i) := by simp [el, h]
theorem el_eq {xs : List Int} {i : Nat} (h : i < xs.length) : el xs i = xs[i] := by simp [el, h]
theorem el_mem {xs : List Int} {i : Nat} (h : i < xs.length) : el xs i ∈ xs := by rw [el_eq h]; exact List.getElem_mem h
/-- row i of a list of lists -/
def rw_ (xss : List (List Int)) (i : Nat) : List Int := xss[i]?.getD []
theorem rw_get {xss : List (List Int)} {i : Nat} (h : i < xss.length) : xss[i]? = some (rw_ xss i) := by simp [rw_, h]
theorem rw_mem {xss : List (List Int)} {i : Nat} (h : i < xss.length) : rw_ xss i ∈ xss := by
  have : rw_ xss i = xss[i] := by simp [rw_, h]
  rw [this]; exact List.getElem_mem h

theorem take_el {xs : List Int} {k : Nat} (h : k < xs.length) : xs.take (k + 1) = xs.take k ++ [el xs k] := by
  rw [List.take_add_one, el_get h]; rfl
theorem list_ext {xs ys : List Int} (hl : xs.length = ys.length) (h : ∀ i, i < xs.length → el xs i = el ys i) : xs = ys := by
  refine List.ext_getElem hl fun i h1 h2 => ?_
  have := h i h1
  rwa [el_eq h1, el_eq h2] at this

/-! ### what a call may change: the blocks that meet S, and new ones -/
structure Chg (S : Nat → Prop) (w w' : World) : Prop where
  os : w'.os = w.os
  tape : w'.tape = w.tape
  output : w'.output = w.output
  size : w.heap.size ≤ w'.heap.size
  block : ∀ k, k < w.heap.size → ¬ S k → w'.heap[k]? = w.heap[k]?
theorem Chg.refl (S : Nat → Prop) (w : World) : Chg S w w := ⟨rfl, rfl, rfl, Nat.le_refl _, fun _ _ _ => rfl⟩
theorem Chg.trans {S : Nat → Prop} {a b c : World} (h : Chg S a b) (k : Chg S b c) : Chg S a c :=
  ⟨k.os.trans h.os, k.tape.trans h.tape, k.output.trans h.output, Nat.le_trans h.size k.size, fun i hi hs => (k.block i (Nat.lt_of_lt_of_le hi h.size) hs).trans (h.block i hi hs)⟩
theorem Chg.mono {S S' : Nat → Prop} {w w' : World} (h : Chg S w w') (hs : ∀ k, k < w.heap.size → S k → S' k) : Chg S' w w' :=
  ⟨h.os, h.tape, h.output, h.size, fun k hk hn => h.block k hk (fun hh => hn (hs k hk hh))⟩
theorem Chg.drewN {S : Nat → Prop} {a w : World} (h : Chg S a w) (n : Nat) : Chg S a (w.drewN n) := ⟨h.os, h.tape, h.output, h.size, h.block⟩
theorem Chg.drew {S : Nat → Prop} {a w : World} (h : Chg S a w) : Chg S a w.drew := ⟨h.os, h.tape, h.output, h.size, h.block⟩
theorem Chg.setCell {S : Nat → Prop} {a w : World} (h : Chg S a w) (p : Addr) (hp : S p.block) (u : Value) : Chg S a (w.setCell p u) :=
  ⟨h.os, h.tape, h.output, by simpa [World.setCell] using h.size, fun k hk hs => (Below.heap_setCell _ _ _ _ (fun e => hs (by rw [e]; exact hp))).trans (h.block k hk hs)⟩
theorem Chg.alloc {S : Nat → Prop} {a w : World} (h : Chg S a w) (o : Obj) : Chg S a (w.alloc o) :=
  ⟨h.os, h.tape, h.output, by have := h.size; simp; omega, fun k hk hs => (Below.heap_alloc _ _ _ (by have := h.size; omega)).trans (h.block k hk hs)⟩
theorem Chg.below {S : Nat → Prop} {B : Nat} {w w' : World} (h : Chg S w w') (hB : B ≤ w.heap.size) (hs : ∀ k, k < B → ¬ S k) : Below B w w' :=
  ⟨h.os, h.tape, h.output, h.size, fun k hk => h.block k (by omega) (hs k hk)⟩
theorem Chg.ofBelow {S : Nat → Prop} {B : Nat} {w w' : World} (h : Below B w w') (hs : ∀ k, B ≤ k → k < w.heap.size → S k) : Chg S w w' :=
  ⟨h.os, h.tape, h.output, h.size, fun k hk hn => h.block k (Nat.lt_of_not_le fun hb => hn (hs k hb hk))⟩

theorem below_drewN' {B : Nat} {a w : World} (h : Below B a w) (n : Nat) : Below B a (w.drewN n) := ⟨h.os, h.tape, h.output, h.size, h.block⟩
theorem block_lt {w : World} {p : Addr} {v : Value} (h : w.cell? p = some v) : p.block < w.heap.size := World.block_lt_of_cell? w p h

/-! ### a slice of integers that is read -/
/-- the cells behind the address read as the list -/
def RdI (w : World) (a : Option Addr) (xs : List Int) : Prop :=
  0 < xs.length → ∃ b o, a = some ⟨b, o, none⟩ ∧ ∀ i, i < xs.length → w.cell? ⟨b, o + i, none⟩ = some (.int .i64 (el xs i))
theorem RdI.nil (w : World) (a : Option Addr) : RdI w a [] := fun h => absurd h (by simp)
theorem RdI.keep {B : Nat} {w w' : World} {a : Option Addr} {xs : List Int} (h : RdI w a xs) (hb : Below B w w') (hB : w.heap.size ≤ B) : RdI w' a xs := fun h0 => by
  obtain ⟨b, o, ha, hc⟩ := h h0
  refine ⟨b, o, ha, fun i hi => ?_⟩
  rw [hb.cell (p := ⟨b, o + i, none⟩) (Nat.lt_of_lt_of_le (block_lt (hc i hi)) hB)]
  exact hc i hi
/-- .. kept where a block that it does not lie in is changed -/
def NotIn (a : Option Addr) (k : Nat) : Prop := ∀ p, a = some p → p.block ≠ k
theorem RdI.same {w w' : World} {a : Option Addr} {xs : List Int} (h : RdI w a xs) (hs : ∀ p, a = some p → w'.heap[p.block]? = w.heap[p.block]?) : RdI w' a xs := fun h0 => by
  obtain ⟨b, o, ha, hc⟩ := h h0
  refine ⟨b, o, ha, fun i hi => ?_⟩
  rw [World.cell?_of_block (w := w) (a := ⟨b, o + i, none⟩) (hs ⟨b, o, none⟩ ha)]
  exact hc i hi

/-! ### a slice of slices of integers that is read -/
def RdR (w : World) (a : Option Addr) (xss : List (List Int)) : Prop :=
  0 < xss.length → ∃ b o, a = some ⟨b, o, none⟩ ∧ ∀ i, i < xss.length → ∃ ai ci, w.cell? ⟨b, o + i, none⟩ = some (.slice ai (rw_ xss i).length ci) ∧ RdI w ai (rw_ xss i) ∧ (rw_ xss i).length ≤ ci
theorem RdR.nil (w : World) (a : Option Addr) : RdR w a [] := fun h => absurd h (by simp)
theorem RdR.keep {B : Nat} {w w' : World} {a : Option Addr} {xss : List (List Int)} (h : RdR w a xss) (hb : Below B w w') (hB : w.heap.size ≤ B) : RdR w' a xss := fun h0 => by
  obtain ⟨b, o, ha, hc⟩ := h h0
  refine ⟨b, o, ha, fun i hi => ?_⟩
  obtain ⟨ai, ci, h1, h2, h3⟩ := hc i hi
  refine ⟨ai, ci, ?_, h2.keep hb hB, h3⟩
  rw [hb.cell (p := ⟨b, o + i, none⟩) (Nat.lt_of_lt_of_le (block_lt h1) hB)]
  exact h1

/-! ### a slice of integers that the call owns -/
def OwnI (T : TypeId) (w : World) (B : Nat) (a : Option Addr) (n cap : Nat) (xs : List Int) : Prop := w.ownsRow B T 1 (.slice a n cap) n (xs.map (Value.int .i64))
section
variable {T : TypeId} {w w' : World} {B : Nat} {a : Option Addr} {n cap : Nat} {xs : List Int}
theorem OwnI.len (h : OwnI T w B a n cap xs) : xs.length = n := by have := h.1; simpa using this
theorem OwnI.none : OwnI T w B none 0 0 [] := World.ownsRow_nil w B T 1
theorem OwnI.cases (h : OwnI T w B a n cap xs) : (a = Option.none ∧ n = 0 ∧ cap = 0 ∧ xs = []) ∨
    ∃ g cur, a = some ⟨g, 0, Option.none⟩ ∧ B ≤ g ∧ w.heap[g]? = some (.cells cur T (0, 0)) ∧ n ≤ cap ∧ cap ≤ maxLen ∧ cur.size = cap ∧ cur.toList.take n = xs.map (Value.int .i64) := by
  obtain ⟨h1, h2⟩ := h
  rcases h2 with ⟨h2, h3⟩ | ⟨g, cap', cur, hv, hg, hh, h3, h4, h5, h6⟩
  · injection h2 with e1 e2 e3
    subst e1; subst e2; subst e3
    exact .inl ⟨rfl, rfl, rfl, List.eq_nil_of_length_eq_zero (by simpa using h1)⟩
  · injection hv with e1 e2 e3
    subst e1; subst e3
    exact .inr ⟨g, cur, rfl, hg, hh, h3, h4, by simpa using h5, by simpa using h6⟩
theorem OwnI.mono {B' : Nat} (h : OwnI T w B a n cap xs) (hB : B' ≤ B) : OwnI T w B' a n cap xs := by
  refine ⟨h.1, ?_⟩
  rcases h.2 with h2 | ⟨g, cap', cur, hv, hg, rest⟩
  · exact .inl h2
  · exact .inr ⟨g, cap', cur, hv, Nat.le_trans hB hg, rest⟩
theorem OwnI.block (h : OwnI T w B a n cap xs) : ∀ p, a = some p → B ≤ p.block ∧ p.block < w.heap.size := by
  intro p hp
  rcases h.cases with ⟨ha, _⟩ | ⟨g, cur, ha, hg, hh, _⟩
  · rw [ha] at hp; cases hp
  · rw [ha] at hp; injection hp with e; subst e
    exact ⟨hg, (Array.getElem?_eq_some_iff.1 hh).1⟩
theorem OwnI.same (h : OwnI T w B a n cap xs) (hs : ∀ p, a = some p → w'.heap[p.block]? = w.heap[p.block]?) : OwnI T w' B a n cap xs := by
  refine ⟨h.1, ?_⟩
  rcases h.2 with h2 | ⟨g, cap', cur, hv, hg, hh, rest⟩
  · exact .inl h2
  · refine .inr ⟨g, cap', cur, hv, hg, ?_, rest⟩
    injection hv with e1 e2 e3
    rw [hs _ e1]; exact hh
theorem OwnI.keep {B1 : Nat} (h : OwnI T w B a n cap xs) (hb : Below B1 w w') (hB : w.heap.size ≤ B1) : OwnI T w' B a n cap xs :=
  h.same fun p hp => hb.block _ (Nat.lt_of_lt_of_le (h.block p hp).2 hB)
theorem OwnI.kept {S : Nat → Prop} (h : OwnI T w B a n cap xs) (hc : Chg S w w') (hs : ∀ p, a = some p → ¬ S p.block) : OwnI T w' B a n cap xs :=
  h.same fun p hp => hc.block _ (h.block p hp).2 (hs p hp)
theorem OwnI.drewN (h : OwnI T w B a n cap xs) (k : Nat) : OwnI T (w.drewN k) B a n cap xs := h
theorem OwnI.rd (h : OwnI T w B a n cap xs) : RdI w a xs := fun h0 => by
  rcases h.cases with ⟨_, _, _, hx⟩ | ⟨g, cur, ha, hg, hh, h1, h2, h3, h4⟩
  · rw [hx] at h0; simp at h0
  · refine ⟨g, 0, ha, fun i hi => ?_⟩
    have hl := h.len
    have e : (cur.toList.take n)[i]? = some (.int .i64 (el xs i)) := by rw [h4, List.getElem?_map, el_get hi]; rfl
    rw [List.getElem?_take] at e
    split at e
    · simp [World.cell?, hh]
      simpa using e
    · cases e
theorem OwnI.pushed {x : Int} (h : w.ownsRow B T 1 (.slice a (n + 1) cap) (n + 1) (xs.map (Value.int .i64) ++ [.int .i64 x])) : OwnI T w B a (n + 1) cap (xs ++ [x]) := by
  unfold OwnI; rw [List.map_append]; exact h
/-- what it is to hold a slice literal of one's own -/
theorem OwnI.lit (w : World) (T : TypeId) (xs : List Int) (cs : Array Value) (hc : cs.toList = xs.map (Value.int .i64)) (hl : xs.length ≤ maxLen) :
    OwnI T (w.alloc (.cells cs T)) w.heap.size (some ⟨w.heap.size, 0, Option.none⟩) xs.length xs.length xs := by
  refine ⟨by simp, .inr ⟨w.heap.size, xs.length, cs, rfl, Nat.le_refl _, heap_alloc_new w _, Nat.le_refl _, hl, ?_, ?_⟩⟩
  · have := congrArg List.length hc; simpa using this
  · rw [hc]; exact List.take_of_length_le (by simp)
end

/-- a slice that may be written in place: n cells of a block that is not frozen -/
def WrI (T : TypeId) (w : World) (a : Option Addr) (n : Nat) : Prop := 0 < n → ∃ b o cur, a = some ⟨b, o, none⟩ ∧ w.heap[b]? = some (.cells cur T (0, 0)) ∧ o + n ≤ cur.size
theorem OwnI.wr {T : TypeId} {w : World} {B : Nat} {a : Option Addr} {n cap : Nat} {xs : List Int} (h : OwnI T w B a n cap xs) : WrI T w a n := fun h0 => by
  rcases h.cases with ⟨_, hn, _⟩ | ⟨g, cur, ha, hg, hh, h1, h2, h3, h4⟩
  · omega
  · exact ⟨g, 0, cur, ha, hh, by omega⟩
theorem wr_setCell {w : World} {b o : Nat} {cur : Array Value} {T : TypeId} (h : w.heap[b]? = some (.cells cur T (0, 0))) (v : Value) :
    (w.setCell ⟨b, o, none⟩ v).heap[b]? = some (.cells (cur.setIfInBounds o v) T (0, 0)) := by
  simp [World.setCell, Array.getElem?_modify, h]
theorem wr_cell {w : World} {b o : Nat} {cur : Array Value} {T : TypeId} (h : w.heap[b]? = some (.cells cur T (0, 0))) : w.cell? ⟨b, o, none⟩ = cur[o]? := by
  simp [World.cell?, h]
theorem wr_frozen {w : World} {b o : Nat} {cur : Array Value} {T : TypeId} (h : w.heap[b]? = some (.cells cur T (0, 0))) : w.frozen? ⟨b, o, none⟩ = false := by
  simp [World.frozen?, h]

/-! ### append of one element to a slice of the call's own -/
theorem ownBlock_slice (a : Option Addr) (n cap : Nat) : (Value.slice a n cap).ownBlock = a.map Addr.block := by cases a <;> rfl
theorem run_app {P : Program} (w : World) (B : Nat) (t ty e : TypeId) (z : Value) (bytes : Nat) (ht : P.underlying t = some (.slice e)) (hinfo : (P.info? e).map (fun i => (i.zero, i.size, i.bytes)) = some (some z, 1, bytes))
    (hz1 : z.cells.size = 1) (hby : bytes ≤ 24) (ad : Option Addr) (n cap : Nat) (xs : List Value) (hown : w.ownsRow B e 1 (.slice ad n cap) n xs)
    (a : Addr) (m c : Nat) (news : List Value) (hl : news.length = m) (hnews : ∀ j u, news[j]? = some u → w.cell? (a.add j) = some u) (h1 : ∀ u ∈ news, u.oneCell' = true)
    (hn : n + m ≤ 1000000000000) (hB : B ≤ w.heap.size) :
    ∃ ad' cap' w', (Builtin.append_ #[t, t] ty #[.slice ad n cap, .slice (some a) m c]).run P w = .ok (.slice ad' (n + m) cap') w' ∧ w'.ownsRow B e 1 (.slice ad' (n + m) cap') (n + m) (xs ++ news) ∧
      (ad' = ad ∨ ad' = some ⟨w.heap.size, 0, none⟩) ∧ Chg (fun k => ∃ p, ad = some p ∧ p.block = k) w w' := by
  obtain ⟨i0, hi, hz0, hz1', hz2⟩ := info_parts hinfo
  have hbytes : (n + m) * bytes ≤ 140737488355328 := by
    have : (n + m) * bytes ≤ (n + m) * 24 := Nat.mul_le_mul_left _ hby
    omega
  have hl1 : news.length = m * 1 := by omega
  obtain ⟨v', w', hr, ho, hg, hnil⟩ := run_append_own (P := P) w B t ty e i0 z 1 bytes ht hi hz0 hz1' hz2 hz1 (by decide) _ n xs hown a m c news hl1 hnews h1 (by unfold maxLen; omega) hbytes hB
  have hc : Chg (fun k => ∃ p, ad = some p ∧ p.block = k) w w' := by
    refine ⟨hg.os, hg.tape, hg.output, hg.size, fun k hk hs' => hg.block k hk ?_⟩
    rw [ownBlock_slice]; intro e; cases ad with
      | none => cases e
      | some p => simp at e; exact hs' ⟨p, rfl, e.symm⟩
  have hl2 : news.length = m * i0.size := by rw [hz1']; omega
  rcases hown.2 with ⟨hv, hn0⟩ | ⟨g, cap0, cur, hv, hBg, hh, hnc, hcm, hcs, htake⟩
  · injection hv with e1 e2 e3
    subst e1; subst e3; subst hn0
    by_cases hm : m = 0
    · subst hm
      have := hnil.2 ⟨rfl, rfl⟩
      subst this
      exact ⟨none, 0, w', hr, ho, .inl rfl, hc⟩
    · have hr2 := run_append_nil (P := P) w t ty e i0 z ht hi hz0 a m c news hl2 hnews (by omega) (by omega) (by rw [hz2]; simp at hbytes; omega)
      rw [hr2] at hr
      injection hr with e1 e2
      subst e1; subst e2
      rw [Nat.zero_add] at ho ⊢
      exact ⟨_, _, _, hr2, ho, .inr rfl, hc⟩
  · injection hv with e1 e2 e3
    subst e1; subst e3
    by_cases hroom : n + m ≤ cap
    · have hr2 := run_append_room (P := P) w t ty e i0 ht hi g n cap cur hh a m c news hl2 hnews h1 hroom (by rw [hz1', hl1, hcs]; omega)
      rw [hr2] at hr
      injection hr with e1 e2
      subst e1; subst e2
      exact ⟨_, _, _, hr2, ho, .inl rfl, hc⟩
    · have holds : ∀ j u, xs[j]? = some u → w.cell? ((⟨g, 0, none⟩ : Addr).add j) = some u := hown.cells (g := g) rfl
      have hr2 := run_append_grow (P := P) w t ty e i0 z ht hi hz0 ⟨g, 0, none⟩ n cap xs (by rw [hz1']; exact hown.1) holds a m c news hl2 hnews (by omega) (by omega) (by rw [hz2]; exact growslice_fits (by omega) hbytes)
      rw [hr2] at hr
      injection hr with e1 e2
      subst e1; subst e2
      exact ⟨_, _, _, hr2, ho, .inr rfl, hc⟩

theorem wpList_app {P : Program} {w : World} {ops : Array Oper} {rest : List Oper} {o : Oper} {a : Act} {Q : Exit → Act → World → Prop} (hgd : o.guard = none) (s x : Operand) (t : TypeId)
    (ho : o.op = .call { callee := .builtin .append, args := #[s, x], argTypes := #[t, t] })
    (B : Nat) (e : TypeId) (z : Value) (bytes : Nat) (ht : P.underlying t = some (.slice e)) (hinfo : (P.info? e).map (fun i => (i.zero, i.size, i.bytes)) = some (some z, 1, bytes))
    (hz1 : z.cells.size = 1) (hby : bytes ≤ 24) (ad : Option Addr) (n cap : Nat) (xs : List Value) (hs : a.eval s = .slice ad n cap)
    (b : Addr) (m c : Nat) (hx : a.eval x = .slice (some b) m c) (hown : w.ownsRow B e 1 (.slice ad n cap) n xs)
    (news : List Value) (hl : news.length = m) (hnews : ∀ j u, news[j]? = some u → w.cell? (b.add j) = some u) (h1 : ∀ u ∈ news, u.oneCell' = true)
    (hn : n + m ≤ 1000000000000) (hB : B ≤ w.heap.size)
    (h : ∀ ad' cap' w', w'.ownsRow B e 1 (.slice ad' (n + m) cap') (n + m) (xs ++ news) → (ad' = ad ∨ ad' = some ⟨w.heap.size, 0, none⟩) → Chg (fun k => ∃ p, ad = some p ∧ p.block = k) w w' → wpList P ops Q rest (a.put o.dst (.slice ad' (n + m) cap')) w') :
    wpList P ops Q (o :: rest) a w := by
  refine wpList_plain hgd fun K hK => ?_
  obtain ⟨ad', cap', w', hr, h2, h3, h4⟩ := run_app (P := P) w B t o.type e z bytes ht hinfo hz1 hby ad n cap xs hown b m c news hl hnews h1 hn hB
  unfold Oper.wp execOp
  simp only [ho, resolve, invoke, builtin, Sem.run_bind, Sem.run_pure, Result.andThen_ok, List.map_toArray, List.map_cons, List.map_nil, hs, hx, hr]
  exact hK _ _ (h ad' cap' w' h2 h3 h4)

/-- 'append(s, x)': the operand x lies in a block that was just made for it -/
theorem wpList_push {P : Program} {w : World} {ops : Array Oper} {rest : List Oper} {o : Oper} {a : Act} {Q : Exit → Act → World → Prop} (hgd : o.guard = none) (s x : Operand) (t : TypeId)
    (ho : o.op = .call { callee := .builtin .append, args := #[s, x], argTypes := #[t, t] })
    (B : Nat) (e : TypeId) (z : Value) (bytes : Nat) (ht : P.underlying t = some (.slice e)) (hinfo : (P.info? e).map (fun i => (i.zero, i.size, i.bytes)) = some (some z, 1, bytes))
    (hz1 : z.cells.size = 1) (hby : bytes ≤ 24) (u : Value) (hu : u.oneCell' = true)
    (ad : Option Addr) (n cap : Nat) (xs : List Value) (hs : a.eval s = .slice ad n cap) (hx : a.eval x = .slice (some ⟨w.heap.size, 0, none⟩) 1 1)
    (hown : w.ownsRow B e 1 (.slice ad n cap) n xs) (hn : n ≤ 100000000000) (hB : B ≤ w.heap.size)
    (h : ∀ ad' cap' w', w'.ownsRow B e 1 (.slice ad' (n + 1) cap') (n + 1) (xs ++ [u]) → (ad' = ad ∨ ∃ p, ad' = some p ∧ w.heap.size ≤ p.block) → Chg (fun k => ∃ p, ad = some p ∧ p.block = k) w w' → wpList P ops Q rest (a.put o.dst (.slice ad' (n + 1) cap')) w') :
    wpList P ops Q (o :: rest) a (w.alloc (.cells #[u] e)) := by
  refine wpList_app hgd s x t ho B e z bytes ht hinfo hz1 hby ad n cap xs hs _ 1 1 hx (hown.alloc _) [u] rfl ?_ ?_ (by omega) (by simp; omega) ?_
  · intro j v hj
    match j, hj with
    | 0, hj => simp at hj; subst hj; simp [Addr.add]
  · intro v hv; simp at hv; subst hv; exact hu
  · intro ad' cap' w' h1 h2 h3
    refine h ad' cap' w' h1 ?_ (((Chg.refl _ _).alloc _).trans h3)
    rcases h2 with h2 | h2
    · exact .inl h2
    · exact .inr ⟨_, h2, by simp⟩


/-- the same append as one step of a region that draws its order; W0 is the world ahead of the region -/
theorem step_push {P : Program} {W : World} (W0 : World) {ops : Array Oper} {o : Oper} {a : Act} {K : Act → World → Prop} {Q : Exit → Act → World → Prop} {E : Prop} (hgd : o.guard = none) (s x : Operand) (t : TypeId)
    (ho : o.op = .call { callee := .builtin .append, args := #[s, x], argTypes := #[t, t] })
    (B : Nat) (e : TypeId) (z : Value) (bytes : Nat) (ht : P.underlying t = some (.slice e)) (hinfo : (P.info? e).map (fun i => (i.zero, i.size, i.bytes)) = some (some z, 1, bytes))
    (hz1 : z.cells.size = 1) (hby : bytes ≤ 24) (u : Value) (hu : u.oneCell' = true)
    (ad : Option Addr) (n cap : Nat) (xs : List Value) (b : Nat) (hs : a.eval s = .slice ad n cap) (hx : a.eval x = .slice (some ⟨b, 0, none⟩) 1 1) (hb : W.cell? ⟨b, 0, none⟩ = some u)
    (hown : W.ownsRow B e 1 (.slice ad n cap) n xs) (hn : n ≤ 100000000000) (h0 : Below W0.heap.size W0 W) (hB : B ≤ W0.heap.size)
    (h : ∀ ad' cap' w', w'.ownsRow B e 1 (.slice ad' (n + 1) cap') (n + 1) (xs ++ [u]) → (ad' = ad ∨ ∃ p, ad' = some p ∧ W0.heap.size ≤ p.block) → Chg (fun k => ∃ p, ad = some p ∧ p.block = k) W0 w' → K (a.put o.dst (.slice ad' (n + 1) cap')) w') :
    if Region.wanted o (yielded ops a.tmps) = true then Oper.wp P o a W K Q else E := by
  have hw : Region.wanted o (yielded ops a.tmps) = true := by simp [Region.wanted, hgd]
  rw [if_pos hw]
  have hsz := h0.size
  obtain ⟨ad', cap', w', hr, h2, h3, h4⟩ := run_app (P := P) W B t o.type e z bytes ht hinfo hz1 hby ad n cap xs hown ⟨b, 0, none⟩ 1 1 [u] rfl
    (fun j v hj => by
      match j, hj with
      | 0, hj => simp at hj; subst hj; simpa [Addr.add] using hb) (fun v hv => by simp at hv; subst hv; exact hu) (by omega) (by omega)
  unfold Oper.wp execOp
  simp only [ho, resolve, invoke, builtin, Sem.run_bind, Sem.run_pure, Result.andThen_ok, List.map_toArray, List.map_cons, List.map_nil, hs, hx, hr]
  refine h ad' cap' w' h2 ?_ ((Chg.ofBelow h0 (fun k hk hk' => absurd hk (by omega))).trans h4)
  rcases h3 with h3 | h3
  · exact .inl h3
  · exact .inr ⟨_, h3, hsz⟩
theorem RdI.alloc {w : World} {a : Option Addr} {xs : List Int} (h : RdI w a xs) (o : Obj) : RdI (w.alloc o) a xs := h.keep ((Below.refl w.heap.size w).alloc (Nat.le_refl _) o) (Nat.le_refl _)
theorem OwnI.alloc {T : TypeId} {w : World} {B : Nat} {a : Option Addr} {n cap : Nat} {xs : List Int} (h : OwnI T w B a n cap xs) (o : Obj) : OwnI T (w.alloc o) B a n cap xs := h.keep ((Below.refl w.heap.size w).alloc (Nat.le_refl _) o) (Nat.le_refl _)
theorem ret_bool {a b : Bool} (h : a = b) : Ending.returned (.bool a) = .returned (.bool b) := by rw [h]
/-- two slices do not lie in one block -/
def Apart (a b : Option Addr) : Prop := ∀ p q, a = some p → b = some q → p.block ≠ q.block
theorem Apart.none (b : Option Addr) : Apart Option.none b := fun p q h => by cases h
theorem Apart.none_r (a : Option Addr) : Apart a Option.none := fun p q _ h => by cases h
theorem Apart.symm {a b : Option Addr} (h : Apart a b) : Apart b a := fun p q hp hq e => h q p hq hp e.symm
end Go.Proofs.Ytpkdgemnddcefaa
