/- The library's functions that ReadAbelian calls, as this proof meets them. -/
import Derived.Test.YtfinngmohhnnoaaDoorRdP
import Derived.Test.YtfinngmohhnnoaaDoorShelfP
import Derived.Lib.Hide
set_option linter.unusedVariables false
set_option linter.unusedSimpArgs false
namespace Go.Proofs.YtfinngmohhnnoaaDoor
open Go.RowKit
/-- a word holds what the library's contracts ask of the world -/
structure LibW (w : World) : Prop where
  pow : Pow w
  mx : ∃ m, w.cell? ⟨3, 0, none⟩ = some (.int .i64 m)
  syn : ∃ tp p, w.var? Tryd.prog "strconv.ErrSyntax" = some #[.iface tp p]
  rng : ∃ tp p, w.var? Tryd.prog "strconv.ErrRange" = some #[.iface tp p]
theorem LibW.keep {w w' : World} (h : LibW w) (hb : Below w.heap.size w w') : LibW w' := by
  obtain ⟨h1, ⟨m, h2⟩, ⟨t1, p1, h3⟩, ⟨t2, p2, h4⟩⟩ := h
  exact ⟨h1.keep hb (Nat.le_refl _), ⟨m, cell_below h2 hb⟩, ⟨t1, p1, Joins.var_stays (g := 0) (by kernel_rfl) h3 hb (Nat.le_refl _)⟩, ⟨t2, p2, Joins.var_stays (g := 1) (by kernel_rfl) h4 hb (Nat.le_refl _)⟩⟩
theorem bs_toList (l : List UInt8) : (bs l).data.toList = l := rfl
theorem bs_of (s : ByteArray) : bs s.data.toList = s := by cases s; rfl
theorem cut_any (s : List UInt8) (w : World) : Calls Tryd.prog 23 #[.string (bs s), .string ⟨#[67]⟩] w fun e w' => e = .returned (.tuple #[.string (bs (Lib.trimPrefix s [67])), .bool (Lib.hasPrefix s [67])]) ∧ w' = w :=
  Any.strings_CutPrefix cutP (bs s) ⟨#[67]⟩ w
theorem split_any (s : List UInt8) (hs : s.length ≤ 1048576) (w : World) (h : LibW w) :
    Calls Tryd.prog 22 #[.string (bs s), .string ⟨#[32, 120, 32]⟩] w fun e w' => e = .returned (.slice (some ⟨w.heap.size, 0, none⟩) (Lib.split s sepX).length (Lib.split s sepX).length) ∧ w' = w.alloc (.cells ((Lib.split s sepX).map fun l => Value.string (bs l)).toArray 9) := by
  obtain ⟨m, hm⟩ := h.mx
  have h1 : 1 ≤ (⟨#[32, 120, 32]⟩ : ByteArray).size := by decide
  have hc := Any.strings_Split { splitS with } splitS.i9 (bs s) ⟨#[32, 120, 32]⟩ m w (by rw [bs_size]; omega) hm h1
  have e1 : (Lib.splitB ⟨#[32, 120, 32]⟩ 0 (Lib.countB (bs s) ⟨#[32, 120, 32]⟩) (bs s)).map (·.data.toList) = Lib.split s sepX := Lib.splitB_data _ _ _ _
  have e2 : (Lib.splitB ⟨#[32, 120, 32]⟩ 0 (Lib.countB (bs s) ⟨#[32, 120, 32]⟩) (bs s)).length = Lib.countB (bs s) ⟨#[32, 120, 32]⟩ + 1 := Lib.splitB_all _ h1 0 _ _ rfl
  rw [← e2] at hc
  rw [← e1, List.length_map, List.map_map]
  have e3 : ((fun l => Value.string (bs l)) ∘ fun (x : ByteArray) => x.data.toList) = Value.string := by
    funext x
    show Value.string (bs x.data.toList) = _
    rw [bs_of]
  rw [e3]
  exact hc
theorem bytesW_below (w : World) (T : TypeId) (s : ByteArray) : Below w.heap.size w (Lib.bytesWorld w T s) := Joins.below_bytesWorld _ w T s (Nat.le_refl _)
theorem parse_any (d : List UInt8) (hd : d.length ≤ 1048576) (w : World) (h : LibW w) :
    Calls Tryd.prog 24 #[.string (bs d), .int .i64 10, .int .i64 64] w fun e w' => ∃ v err, e = .returned (.tuple #[.int .i64 v, err]) ∧ Below w.heap.size w w' ∧
      ((∃ u, Lib.parseIntB 64 d = .ok u ∧ v = u ∧ err = .nilIface) ∨ ((∀ u, Lib.parseIntB 64 d ≠ .ok u) ∧ ∃ t p, err = .iface t p)) := by
  by_cases h1 : ∃ u, Lib.parseIntB 64 d = .ok u
  · obtain ⟨u, hp⟩ := h1
    refine (Any.strconv_ParseInt_10_at64_ok parseI (bs d) (by rw [bs_size]; omega) u (by rw [bs_toList]; exact hp) w).mono ?_
    rintro e w' ⟨rfl, hw⟩
    refine ⟨u, _, rfl, ?_, .inl ⟨u, hp, rfl, rfl⟩⟩
    rcases hw with rfl | ⟨t, rfl⟩
    · exact Below.refl _ _
    · exact bytesW_below w _ t
  by_cases h2 : Lib.parseIntB 64 d = .range
  · obtain ⟨tp, p, hv⟩ := h.rng
    refine (Any.strconv_ParseInt_10_at64_range_var parseI (bs d) (by rw [bs_size]; omega) (by rw [bs_toList]; exact h2) tp p w hv).mono ?_
    rintro e w' ⟨N, rfl, _, _, hb⟩
    exact ⟨_, _, rfl, hb, .inr ⟨fun u e => h1 ⟨u, e⟩, _, _, rfl⟩⟩
  · obtain ⟨tp, p, hv⟩ := h.syn
    refine (Any.strconv_ParseInt_10_at64_syntax_var parseI (bs d) (by rw [bs_size]; omega) (by
      rw [bs_toList]
      cases hq : Lib.parseIntB 64 d with
      | ok u => exact absurd ⟨u, hq⟩ h1
      | range => exact absurd hq h2
      | _ => rfl) tp p w hv).mono ?_
    rintro e w' ⟨N, rfl, _, _, hb⟩
    exact ⟨_, _, rfl, hb, .inr ⟨fun u e => h1 ⟨u, e⟩, _, _, rfl⟩⟩
end Go.Proofs.YtfinngmohhnnoaaDoor
