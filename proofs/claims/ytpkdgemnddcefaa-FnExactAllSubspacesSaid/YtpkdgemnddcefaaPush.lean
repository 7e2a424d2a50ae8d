/- Rows and numbers appended to slices of the call's own: the joints of the walks. No program in sight. -/
import Derived.Test.YtpkdgemnddcefaaLawKit
set_option linter.unusedVariables false
set_option linter.unusedSimpArgs false
namespace Go.Proofs.Ytpkdgemnddcefaa
open Go.RowKit

/-- a new row, made by a callee, is appended -/
theorem OwnR.pushNew {T1 T2 : TypeId} {wi wc w4 : World} {B Bc j c1 c4 m cc : Nat} {a1 a4 ac : Option Addr} {ys : List (List Int)} {xs : List Int} {A : Nat → Option Addr} {C : Nat → Nat} {o : Obj}
    (h : OwnR T1 T2 wi B a1 j c1 ys A C) (hB : B ≤ wi.heap.size) (hb : Below wi.heap.size wi wc) (ho : OwnI T2 wc Bc ac m cc xs) (hBc : wi.heap.size ≤ Bc)
    (r4 : w4.ownsRow B T1 1 (.slice a4 (j + 1) c4) (j + 1) (rowVals ys A C j ++ [.slice ac m cc])) (q4 : a4 = a1 ∨ ∃ p, a4 = some p ∧ (wc.alloc o).heap.size ≤ p.block)
    (g4 : Chg (fun k => ∃ p, a1 = some p ∧ p.block = k) (wc.alloc o) w4) :
    OwnR T1 T2 w4 B a4 (j + 1) c4 (ys ++ [xs]) (upd A j ac) (upd C j cc) ∧ Below B wi w4 := by
  obtain rfl := ho.len
  have hsz := hb.size
  have h1 : OwnR T1 T2 (wc.alloc o) B a1 j c1 ys A C := (h.keep hb (Nat.le_refl _)).keep ((Below.refl wc.heap.size wc).alloc (Nat.le_refl _) o) (Nat.le_refl _)
  have ho1 : OwnI T2 (wc.alloc o) Bc ac xs.length cc xs := ho.alloc o
  have hap : ∀ (b : Option Addr), (∀ p, b = some p → p.block < wi.heap.size) → Apart b ac := fun b hb' p q hp hq e => by
    have h3 := hb' p hp
    have h4 := (ho.block q hq).1
    omega
  refine ⟨h1.pushed (ho1.mono (by omega)) (fun i hi => hap _ (fun p hp => ((h.row i hi).block p hp).2)) (hap _ (fun p hp => (ownsRow_block h.own p hp).2)) r4 q4 g4, ?_⟩
  have hbel : Below B wi (wc.alloc o) := (hb.mono hB).alloc (by omega) o
  exact hbel.trans (g4.below (by simp; omega) (fun k hk hx => by obtain ⟨x, hx, e⟩ := hx; have := (ownsRow_block h.own x hx).1; omega))
theorem OwnR.pushNew2 {T1 T2 : TypeId} {wi wc w4 : World} {B Bc j c1 c4 m cc : Nat} {a1 a4 ac : Option Addr} {ys : List (List Int)} {xs : List Int} {A : Nat → Option Addr} {C : Nat → Nat}
    (h : OwnR T1 T2 wi B a1 j c1 ys A C) (hB : B ≤ wi.heap.size) (hb : Below wi.heap.size wi wc) (ho : OwnI T2 wc Bc ac m cc xs) (hBc : wi.heap.size ≤ Bc)
    (r4 : w4.ownsRow B T1 1 (.slice a4 (j + 1) c4) (j + 1) (rowVals ys A C j ++ [.slice ac m cc])) (q4 : a4 = a1 ∨ ∃ p, a4 = some p ∧ wc.heap.size ≤ p.block)
    (g4 : Chg (fun k => ∃ p, a1 = some p ∧ p.block = k) wc w4) :
    OwnR T1 T2 w4 B a4 (j + 1) c4 (ys ++ [xs]) (upd A j ac) (upd C j cc) ∧ Below B wi w4 := by
  obtain rfl := ho.len
  have hsz := hb.size
  have h1 : OwnR T1 T2 wc B a1 j c1 ys A C := h.keep hb (Nat.le_refl _)
  have hap : ∀ (b : Option Addr), (∀ p, b = some p → p.block < wi.heap.size) → Apart b ac := fun b hb' p q hp hq e => by
    have h3 := hb' p hp
    have h4 := (ho.block q hq).1
    omega
  refine ⟨h1.pushed (ho.mono (by omega)) (fun i hi => hap _ (fun p hp => ((h.row i hi).block p hp).2)) (hap _ (fun p hp => (ownsRow_block h.own p hp).2)) r4 q4 g4, ?_⟩
  exact (hb.mono hB).trans (g4.below (by omega) (fun k hk hx => by obtain ⟨x, hx, e⟩ := hx; have := (ownsRow_block h.own x hx).1; omega))
/-- numbers appended to a slice of the call's own -/
theorem app_own {T : TypeId} {wi W w' : World} {B n c m c' : Nat} {a a' : Option Addr} {xs ys : List Int} (h : OwnI T W B a n c xs) (hb : Below B wi W) (hB : B ≤ W.heap.size)
    (r : w'.ownsRow B T 1 (.slice a' (n + m) c') (n + m) (xs.map (Value.int .i64) ++ ys.map (Value.int .i64))) (g : Chg (fun k => ∃ p, a = some p ∧ p.block = k) W w') :
    OwnI T w' B a' (n + m) c' (xs ++ ys) ∧ Below B wi w' := by
  refine ⟨by unfold OwnI; rw [List.map_append]; exact r, hb.trans (g.below hB (fun k hk hx => by obtain ⟨x, hx, e⟩ := hx; have := (h.block x hx).1; omega))⟩
/-- an empty slice literal -/
theorem OwnI.empty (w : World) (T : TypeId) : OwnI T (w.alloc (.cells #[] T)) w.heap.size (some ⟨w.heap.size, 0, Option.none⟩) 0 0 [] := World.ownsRow_made w #[] 0 (Nat.le_refl _) (Nat.zero_le _) (by simp)
theorem OwnR.empty (w : World) (T1 T2 : TypeId) (A : Nat → Option Addr) (C : Nat → Nat) : OwnR T1 T2 (w.alloc (.cells #[] T1)) w.heap.size (some ⟨w.heap.size, 0, Option.none⟩) 0 0 [] A C :=
  ⟨rfl, World.ownsRow_made w #[] 0 (Nat.le_refl _) (Nat.zero_le _) (by simp), fun i h => absurd h (by omega), fun i j h => absurd h (by omega), fun i h => absurd h (by omega)⟩
theorem OwnR.setLow {T1 T2 : TypeId} {w : World} {B : Nat} {a : Option Addr} {n cap : Nat} {xss : List (List Int)} {A : Nat → Option Addr} {C : Nat → Nat} (h : OwnR T1 T2 w B a n cap xss A C) (p : Addr) (hp : p.block < B) (v : Value) : OwnR T1 T2 (w.setCell p v) B a n cap xss A C :=
  h.same (fun q hq => Below.heap_setCell _ _ _ _ (by have := (ownsRow_block h.own q hq).1; omega)) (fun i hi q hq => Below.heap_setCell _ _ _ _ (by have := ((h.row i hi).block q hq).1; omega))
/-- wpList_push, the new block's number as it is spelled -/
theorem wpList_pushB {P : Program} {w : World} {ops : Array Oper} {rest : List Oper} {o : Oper} {a : Act} {Q : Exit → Act → World → Prop} (hgd : o.guard = none) (s x : Operand) (t : TypeId)
    (ho : o.op = .call { callee := .builtin .append, args := #[s, x], argTypes := #[t, t] })
    (B : Nat) (e : TypeId) (z : Value) (bytes : Nat) (ht : P.underlying t = some (.slice e)) (hinfo : (P.info? e).map (fun i => (i.zero, i.size, i.bytes)) = some (some z, 1, bytes))
    (hz1 : z.cells.size = 1) (hby : bytes ≤ 24) (u : Value) (hu : u.oneCell' = true)
    (ad : Option Addr) (n cap b : Nat) (xs : List Value) (hs : a.eval s = .slice ad n cap) (hx : a.eval x = .slice (some ⟨b, 0, none⟩) 1 1) (hb : b = w.heap.size)
    (hown : w.ownsRow B e 1 (.slice ad n cap) n xs) (hn : n ≤ 100000000000) (hB : B ≤ w.heap.size)
    (h : ∀ ad' cap' w', w'.ownsRow B e 1 (.slice ad' (n + 1) cap') (n + 1) (xs ++ [u]) → (ad' = ad ∨ ∃ p, ad' = some p ∧ w.heap.size ≤ p.block) → Chg (fun k => ∃ p, ad = some p ∧ p.block = k) w w' → wpList P ops Q rest (a.put o.dst (.slice ad' (n + 1) cap')) w') :
    wpList P ops Q (o :: rest) a (w.alloc (.cells #[u] e)) := by
  subst hb
  exact wpList_push hgd s x t ho B e z bytes ht hinfo hz1 hby u hu ad n cap xs hs hx hown hn hB h
end Go.Proofs.Ytpkdgemnddcefaa
