/- The library's slices.Grow from nil, slices.Concat and slices.Clone at []int64. -/
import Derived.Test.YtfinngmohhnnoaaDoorTab
import Derived.Test.YtfinngmohhnnoaaDoorApp
import Derived.Lib.AppendZeros
import Derived.Lib.SliceRun
set_option linter.unusedVariables false
set_option linter.unusedSimpArgs false
namespace Go.Proofs.YtfinngmohhnnoaaDoor
open Go.RowKit

/-- all numbers of the first rows, one behind the other -/
def flat (xss : List (List Int)) : Nat → List Int
  | 0 => []
  | k + 1 => flat xss k ++ rw_ xss k
theorem flat_len (xss : List (List Int)) : ∀ k, (flat xss k).length = offs xss k
  | 0 => rfl
  | k + 1 => by simp only [flat, offs, List.length_append, flat_len xss k]
theorem RdI.take {w : World} {a : Option Addr} {xs : List Int} (h : RdI w a xs) (k : Nat) (hk : k ≤ xs.length) : RdI w a (xs.take k) := fun h0 => by
  have hl : (xs.take k).length = k := by simp; omega
  obtain ⟨b, o, ha, hc⟩ := h (by omega)
  refine ⟨b, o, ha, fun i hi => ?_⟩
  rw [hc i (by omega)]
  simp [el, List.getElem?_take, show i < k by omega]
theorem RdI.drop {w : World} {b o : Nat} {xs : List Int} (h : RdI w (some ⟨b, o, none⟩) xs) (k : Nat) : RdI w (some ⟨b, o + k, none⟩) (xs.drop k) := fun h0 => by
  have hl : (xs.drop k).length = xs.length - k := by simp
  obtain ⟨b', o', ha, hc⟩ := h (by omega)
  injection ha with e
  injection e with e1 e2
  subst e1; subst e2
  refine ⟨b, o + k, rfl, fun i hi => ?_⟩
  rw [Nat.add_assoc, hc (k + i) (by omega)]
  simp [el]
theorem RdR.pair {w : World} {a1 a2 : Option Addr} {n1 c1 n2 c2 : Nat} {xs ys : List Int} (T : TypeId) (h1 : RdI w a1 xs) (h2 : RdI w a2 ys) (l1 : xs.length = n1) (l2 : ys.length = n2) (k1 : n1 ≤ c1) (k2 : n2 ≤ c2) :
    RdR (w.alloc (.cells #[.slice a1 n1 c1, .slice a2 n2 c2] T)) (some ⟨w.heap.size, 0, none⟩) [xs, ys] := fun _ => by
  subst l1; subst l2
  refine ⟨w.heap.size, 0, rfl, fun i hi => ?_⟩
  match i, hi with
  | 0, _ => exact ⟨a1, c1, by simp [rw_], h1.alloc _, k1⟩
  | 1, _ => exact ⟨a2, c2, by simp [rw_], h2.alloc _, k2⟩

theorem wpList_appZ {P : Program} {w : World} {ops : Array Oper} {rest : List Oper} {o : Oper} {a : Act} {Q : Exit → Act → World → Prop} (hgd : o.guard = none) (s x : Operand) (t tn : TypeId)
    (ho : o.op = .call { callee := .builtin .append, args := #[s, x], argTypes := #[t, tn] }) (n : Nat) (v : Value) (W : World) (hs : a.eval s = .slice none 0 0) (hx : a.eval x = .int .i64 n)
    (hr : ∀ ty, (Builtin.append_ #[t, tn] ty #[.slice none 0 0, .int .i64 n]).run P w = .ok v W) (h : wpList P ops Q rest (a.put o.dst v) W) :
    wpList P ops Q (o :: rest) a w := by
  refine wpList_plain hgd fun K hK => ?_
  have hr := hr o.type
  unfold Oper.wp execOp
  simp only [ho, resolve, invoke, builtin, Sem.run_bind, Sem.run_pure, Result.andThen_ok, List.map_toArray, List.map_cons, List.map_nil, hs, hx, hr]
  exact hK _ _ h


end Go.Proofs.YtfinngmohhnnoaaDoor
