/- The library's slices.Grow from nil, slices.Concat and slices.Clone at []int64. -/
import Derived.Test.YtpkdgemnddcefaaTab
import Derived.Test.YtpkdgemnddcefaaApp
import Derived.Lib.AppendZeros
import Derived.Lib.SliceRun
set_option linter.unusedVariables false
set_option linter.unusedSimpArgs false
namespace Go.Proofs.Ytpkdgemnddcefaa
open Go.RowKit

/-- all numbers of the first rows, one behind the other -/
def flat (xss : List (List Int)) : Nat → List Int
  | 0 => []
  | k + 1 => flat xss k ++ rw_ xss k
theorem flat_len (xss : List (List Int)) : ∀ k, (flat xss k).length = offs xss k
  | 0 => rfl
  | k + 1 => by simp only [flat, offs, List.length_append, flat_len xss k]
theorem RdI.take {w : World} {a : Option Addr} {xs : List Int} (h : RdI w a xs) (k : Nat) (hk : k ≤ xs.length) : RdI w a (xs.take k) := fun h0 => by
  have hl : (xs.take k).length = k := by simp; omega
  obtain ⟨b, o, ha, hc⟩ := h (by omega)
  refine ⟨b, o, ha, fun i hi => ?_⟩
  rw [hc i (by omega)]
  simp [el, List.getElem?_take, show i < k by omega]
theorem RdI.drop {w : World} {b o : Nat} {xs : List Int} (h : RdI w (some ⟨b, o, none⟩) xs) (k : Nat) : RdI w (some ⟨b, o + k, none⟩) (xs.drop k) := fun h0 => by
  have hl : (xs.drop k).length = xs.length - k := by simp
  obtain ⟨b', o', ha, hc⟩ := h (by omega)
  injection ha with e
  injection e with e1 e2
  subst e1; subst e2
  refine ⟨b, o + k, rfl, fun i hi => ?_⟩
  rw [Nat.add_assoc, hc (k + i) (by omega)]
  simp [el]
theorem RdR.pair {w : World} {a1 a2 : Option Addr} {n1 c1 n2 c2 : Nat} {xs ys : List Int} (T : TypeId) (h1 : RdI w a1 xs) (h2 : RdI w a2 ys) (l1 : xs.length = n1) (l2 : ys.length = n2) (k1 : n1 ≤ c1) (k2 : n2 ≤ c2) :
    RdR (w.alloc (.cells #[.slice a1 n1 c1, .slice a2 n2 c2] T)) (some ⟨w.heap.size, 0, none⟩) [xs, ys] := fun _ => by
  subst l1; subst l2
  refine ⟨w.heap.size, 0, rfl, fun i hi => ?_⟩
  match i, hi with
  | 0, _ => exact ⟨a1, c1, by simp [rw_], h1.alloc _, k1⟩
  | 1, _ => exact ⟨a2, c2, by simp [rw_], h2.alloc _, k2⟩

theorem wpList_appZ {P : Program} {w : World} {ops : Array Oper} {rest : List Oper} {o : Oper} {a : Act} {Q : Exit → Act → World → Prop} (hgd : o.guard = none) (s x : Operand) (t tn : TypeId)
    (ho : o.op = .call { callee := .builtin .append, args := #[s, x], argTypes := #[t, tn] }) (n : Nat) (v : Value) (W : World) (hs : a.eval s = .slice none 0 0) (hx : a.eval x = .int .i64 n)
    (hr : ∀ ty, (Builtin.append_ #[t, tn] ty #[.slice none 0 0, .int .i64 n]).run P w = .ok v W) (h : wpList P ops Q rest (a.put o.dst v) W) :
    wpList P ops Q (o :: rest) a w := by
  refine wpList_plain hgd fun K hK => ?_
  have hr := hr o.type
  unfold Oper.wp execOp
  simp only [ho, resolve, invoke, builtin, Sem.run_bind, Sem.run_pure, Result.andThen_ok, List.map_toArray, List.map_cons, List.map_nil, hs, hx, hr]
  exact hK _ _ h
set_option maxHeartbeats 1000000 in
theorem grow_nil (n : Nat) (w : World) (hn : n ≤ 1000000000) :
    Calls Try.prog 100 #[.slice none 0 0, .int .i64 n] w fun e w' => ∃ a c, e = .returned (.slice a 0 c) ∧ OwnI 2 w' w.heap.size a 0 c [] ∧ Below w.heap.size w w' := by
  by_cases h0 : n = 0
  · subst h0
    go_enter Try.func100, Try.ntmps100
    go_wp2
    go_ret
    exact ⟨none, 0, rfl, OwnI.none, Below.refl _ _⟩
  · obtain ⟨i0, hi, hz0, hz1, hz2⟩ := info_parts Try.info2
    have hr := fun ty => Lib.run_append_nil_zeros (P := Try.prog) w 52 3 ty 2 i0 (.int .i64 0) .i64 .i64 Try.underlying52 Try.underlying3 hi hz0 n (by omega) (by omega) (by omega) (by rw [hz2]; omega)
    have hg := grownCap_ge w n 0 2
    have hG := grownCap_le_maxLen w n 0 2 (by unfold maxLen; omega)
    unfold maxLen at hG
    generalize grownCap w n 0 2 = G at hr hg hG
    have hn0 : 0 < n := by omega
    have hO : Hid (OwnI 2 (w.drew.alloc (.cells (Builtin.zeroCells (Value.int .i64 0).cells n ++ Builtin.zeroCells (Value.int .i64 0).cells (G - n)) 2)) w.heap.size (some ⟨w.heap.size, 0, none⟩) 0 G []) := Lib.hid (World.ownsRow_made w.drew _ G (Nat.le_refl _) hG (by simp [Builtin.zeroCells, show (Value.int .i64 0).cells.size = 1 from rfl]; omega))
    have HR := Lib.hid hr
    clear hi hz0 hz1 hz2 h0 hr
    go_enter Try.func100, Try.ntmps100
    go_wp2_with (at_builtin; refine wpList_appZ rfl (.tmp 20) (.tmp 21) 52 3 rfl n _ _ rfl rfl HR.out ?_)
    go_ret
    exact ⟨_, _, rfl, hO.out, ((Below.refl _ _).drew).alloc (Nat.le_refl _) _⟩

set_option maxHeartbeats 1000000 in
theorem concat_any (a : Option Addr) (n c : Nat) (xss : List (List Int)) (w : World) (ha : RdR w a xss) (hl : xss.length = n) (hn : n ≤ 1048576) (hx : offs xss n ≤ 1048576) :
    Calls Try.prog 77 #[.slice a n c] w fun e w' => ∃ a' c', e = .returned (.slice a' (offs xss n) c') ∧ OwnI 2 w' w.heap.size a' (offs xss n) c' (flat xss n) ∧ Below w.heap.size w w' := by
  have HA := Lib.hid ha
  have HL := Lib.hid hl
  clear ha hl
  go_enter Try.func77, Try.ntmps77
  go_wp2
  go_loop [11, 3] (fun i s => ∃ k : Nat, k ≤ n ∧ i = .int .i64 k ∧ s = .int .i64 (offs xss k)) (fun i _ => n - (intOf i).toNat)
  case atStart => exact ⟨0, Nat.zero_le _, rfl, rfl⟩
  case round =>
    obtain ⟨k, hk, rfl, rfl⟩ := hrel
    by_cases hlt : k < n
    · obtain ⟨b, o, rfl, hc⟩ := HA.out (by rw [HL.out]; omega)
      obtain ⟨ai, ci, d, r, _⟩ := hc k (by rw [HL.out]; exact hlt)
      have hof : offs xss k + (rw_ xss k).length ≤ offs xss n := offs_mono xss (show k + 1 ≤ n by omega)
      clear hc r
      go_wp2
      go_round
      case rel => exact ⟨k + 1, by omega, by go_num, by simp [offs]⟩
      case measure => simp [intOf]; omega
    · obtain rfl : k = n := by omega
      go_wp2_with fail
      refine (grow_nil _ _ (by omega)).mono ?_
      rintro e w1 ⟨a1, c1, rfl, ho, hb⟩
      have H0 : Hid (OwnI 2 w1 w.heap.size a1 (offs xss 0) c1 (flat xss 0) ∧ Below w.heap.size w w1) := Lib.hid ⟨ho, hb⟩
      clear ho hb
      go_wp2_with fail
      go_loopw [27, 6] (fun i v wr => ∃ (j : Nat) (a2 : Option Addr) (c2 : Nat), j ≤ k ∧ i = .int .i64 j ∧ v = .slice a2 (offs xss j) c2 ∧ Hid (OwnI 2 wr w.heap.size a2 (offs xss j) c2 (flat xss j) ∧ Below w.heap.size w wr)) (fun i _ _ => k - (intOf i).toNat)
      case atStart => exact ⟨0, a1, c1, Nat.zero_le _, rfl, rfl, H0⟩
      case round =>
        obtain ⟨j, a2, c2, hj, rfl, rfl, HJ⟩ := hrel
        clear H0
        by_cases hjt : j < k
        · obtain ⟨b, o, rfl, hc⟩ := (HA.out.keep HJ.out.2 (Nat.le_refl _)) (by rw [HL.out]; omega)
          obtain ⟨ai, ci, d, r, _⟩ := hc j (by rw [HL.out]; exact hjt)
          have hof : offs xss j + (rw_ xss j).length ≤ offs xss k := offs_mono xss (show j + 1 ≤ k by omega)
          have R := Lib.hid r
          have hsz := HJ.out.2.size
          clear hc r
          go_wp2_with (at_builtin; refine wpList_appS rfl (.tmp 31) (.tmp 32) 52 rfl w.heap.size 2 (.int .i64 0) 8 Try.underlying52 Try.info2 rfl (by decide) _ _ _ _ rfl _ _ _ rfl (by exact HJ.out.1) ((rw_ xss j).map (Value.int .i64)) (by simp) (by exact R.out.vals) (map_one _) (by omega) hsz ?_; rintro a4 c4 w4 r4 q4 g4; have R4 := Lib.hid r4; have G4 := Lib.hid g4; clear r4 q4 g4)
          have HN : Hid (OwnI 2 w4 w.heap.size a4 (offs xss (j + 1)) c4 (flat xss (j + 1)) ∧ Below w.heap.size w w4) := Lib.hid ⟨OwnI.app R4.out, HJ.out.2.trans (G4.out.below hsz (fun m hm hx => by obtain ⟨x, hx, e⟩ := hx; have := (HJ.out.1.block x hx).1; omega))⟩
          go_roundw
          case rel => exact ⟨j + 1, a4, c4, by omega, by go_num, rfl, HN⟩
          case measure => simp [intOf]; omega
        · obtain rfl : j = k := by omega
          go_wp2
          go_ret
          exact ⟨a2, c2, rfl, HJ.out⟩

theorem concat_pair (a : Option Addr) (c : Nat) (xs ys : List Int) (m : Nat) (w : World) (ha : RdR w a [xs, ys]) (hm : xs.length + ys.length = m) (hx : m ≤ 1048576) :
    Calls Try.prog 77 #[.slice a 2 c] w fun e w' => ∃ a' c', e = .returned (.slice a' m c') ∧ OwnI 2 w' w.heap.size a' m c' (xs ++ ys) ∧ Below w.heap.size w w' := by
  have e1 : offs [xs, ys] 2 = m := by simp [offs, rw_]; omega
  have e2 : flat [xs, ys] 2 = xs ++ ys := by simp [flat, rw_]
  have := concat_any a 2 c [xs, ys] w ha rfl (by omega) (by omega)
  rwa [e1, e2] at this
set_option maxHeartbeats 1000000 in
theorem clone_any (a : Option Addr) (n c : Nat) (xs : List Int) (w : World) (ha : RdI w a xs) (hl : xs.length = n) (hn : n ≤ 1048576) :
    Calls Try.prog 89 #[.slice a n c] w fun e w' => ∃ a' c', e = .returned (.slice a' n c') ∧ OwnI 2 w' w.heap.size a' n c' xs ∧ Below w.heap.size w w' := by
  have HA := Lib.hid ha
  have HL := Lib.hid hl
  clear ha hl
  by_cases h0 : n = 0
  · subst h0
    obtain rfl : xs = [] := List.eq_nil_of_length_eq_zero HL.out
    cases a with
    | none =>
      have q22 : ∀ (w : World) (a : Option Addr) (n c n' c' : Nat), (binOp .eql 52 (.slice a n c) (.slice none n' c')).run Try.prog w = .ok (.bool a.isNone) w := fun w a n c n' c' => Lib.run_eql_slice_nil w _ _ a n c n' c' Try.underlying52
      go_enter Try.func89, Try.ntmps89
      go_wp2
      go_ret
      exact ⟨none, 0, rfl, OwnI.none, Below.refl _ _⟩
    | some p =>
      have hO : Hid ((w.alloc (.cells #[] 2)).ownsRow w.heap.size 2 1 (.slice (some ⟨w.heap.size, 0, none⟩) 0 0) 0 []) := Lib.hid (World.ownsRow_made w #[] 0 (Nat.le_refl _) (Nat.zero_le _) (by simp))
      have q22 : ∀ (w : World) (a : Option Addr) (n c n' c' : Nat), (binOp .eql 52 (.slice a n c) (.slice none n' c')).run Try.prog w = .ok (.bool a.isNone) w := fun w a n c n' c' => Lib.run_eql_slice_nil w _ _ a n c n' c' Try.underlying52
      go_enter Try.func89, Try.ntmps89
      go_wp2_with (at_builtin; refine wpList_appS rfl (.tmp 5) (.tmp 6) 52 rfl w.heap.size 2 (.int .i64 0) 8 Try.underlying52 Try.info2 rfl (by decide) _ _ _ _ rfl _ _ _ rfl (by exact hO.out) [] rfl (by intro h; simp at h) (by simp) (by omega) (by simp) ?_; rintro a4 c4 w4 r4 q4 g4; have R4 := Lib.hid r4; have G4 := Lib.hid g4; clear r4 q4 g4)
      go_ret
      exact ⟨a4, c4, rfl, R4.out, ((Below.refl _ _).alloc (Nat.le_refl _) _).trans (G4.out.below (by simp) (fun m hm hx => by obtain ⟨x, hx, e⟩ := hx; injection hx with hx; subst hx; simp at e; omega))⟩
  · obtain ⟨b, o, rfl, hc⟩ := HA.out (by rw [HL.out]; omega)
    have hO : Hid ((w.alloc (.cells #[] 2)).ownsRow w.heap.size 2 1 (.slice (some ⟨w.heap.size, 0, none⟩) 0 0) 0 []) := Lib.hid (World.ownsRow_made w #[] 0 (Nat.le_refl _) (Nat.zero_le _) (by simp))
    clear hc
    have q22 : ∀ (w : World) (a : Option Addr) (n c n' c' : Nat), (binOp .eql 52 (.slice a n c) (.slice none n' c')).run Try.prog w = .ok (.bool a.isNone) w := fun w a n c n' c' => Lib.run_eql_slice_nil w _ _ a n c n' c' Try.underlying52
    go_enter Try.func89, Try.ntmps89
    go_wp2_with (at_builtin; refine wpList_appS rfl (.tmp 5) (.tmp 6) 52 rfl w.heap.size 2 (.int .i64 0) 8 Try.underlying52 Try.info2 rfl (by decide) _ _ _ _ rfl _ _ _ rfl (by exact hO.out) (xs.map (Value.int .i64)) (by rw [List.length_map]; exact HL.out) (by exact (HA.out.alloc _).vals) (map_one _) (by omega) (by simp) ?_; rintro a4 c4 w4 r4 q4 g4; have R4 := Lib.hid r4; have G4 := Lib.hid g4; clear r4 q4 g4)
    go_ret
    exact ⟨a4, c4, by simp, by have := R4.out; simpa [OwnI] using this, ((Below.refl _ _).alloc (Nat.le_refl _) _).trans (G4.out.below (by simp) (fun m hm hx => by obtain ⟨x, hx, e⟩ := hx; injection hx with hx; subst hx; simp at e; omega))⟩
end Go.Proofs.Ytpkdgemnddcefaa
