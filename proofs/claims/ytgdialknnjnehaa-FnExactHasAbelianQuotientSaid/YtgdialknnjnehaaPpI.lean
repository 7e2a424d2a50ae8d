/- The program's primary parts. -/
import Derived.Test.YtgdialknnjnehaaPpP
import Derived.Test.YtgdialknnjnehaaSortRow
import Derived.Test.YtgdialknnjnehaaShelfS
set_option linter.unusedVariables false
set_option linter.unusedSimpArgs false
namespace Go.Proofs.Ytgdialknnjnehaa
open Go.RowKit Go.Sort Go.Shelf

abbrev NumP := {x : Int // 2 ≤ x ∧ x ≤ 1000000}
instance : Inhabited NumP := ⟨⟨2, by omega, by omega⟩⟩
def encP (x : NumP) : Value := .int .i64 x.1
def cmpN (x y : NumP) : Int := ordP x.1 y.1
theorem ltN (x y : NumP) : ltOf cmpN x y = !leP y.1 x.1 := by
  unfold ltOf cmpN
  rw [Bool.eq_iff_iff, decide_eq_true_eq, ordP_lt, Bool.not_eq_true', Bool.not_eq_true]
theorem swoN_irrefl (x : NumP) : ltOf cmpN x x = false := by rw [ltN]; have := leP_tot x.1 x.1; simp at this; simp [this]
theorem swoN_trans (x y z : NumP) (h1 : ltOf cmpN x y = true) (h2 : ltOf cmpN y z = true) : ltOf cmpN x z = true := by
  rw [ltN] at *
  simp only [Bool.not_eq_true', Bool.not_eq_eq_eq_not, Bool.not_true] at *
  rw [← Bool.not_eq_true] at *
  intro h
  have := leP_tot y.1 x.1
  rw [Bool.or_eq_true] at this
  rcases this with h3 | h3
  · exact h1 h3
  · exact h2 (leP_trans _ _ _ h h3)
theorem swoN_ntrans (x y z : NumP) (h1 : ltOf cmpN x y = false) (h2 : ltOf cmpN y z = false) : ltOf cmpN x z = false := by
  rw [ltN] at *
  simp only [Bool.not_eq_false'] at *
  exact leP_trans _ _ _ h2 h1
theorem swoN : SWO (ltOf cmpN) := ⟨swoN_irrefl, swoN_trans, swoN_ntrans⟩
theorem cmpLaysN (blk off size : Nat) (w : World) : CmpLays1 Try.prog 75 #[] encP cmpN blk off size w :=
  fun m os dk hs x y => cmpP_any x.1 y.1 _ x.2.1 x.2.2 y.2.1 y.2.2
def rowP : (xs : List Int) → (∀ x ∈ xs, 2 ≤ x ∧ x ≤ 1000000) → List NumP
  | [], _ => []
  | x :: xs, h => ⟨x, h x (by simp)⟩ :: rowP xs (fun y hy => h y (by simp [hy]))
theorem rowP_val : ∀ (xs : List Int) (h : ∀ x ∈ xs, 2 ≤ x ∧ x ≤ 1000000), (rowP xs h).map Subtype.val = xs
  | [], _ => rfl
  | x :: xs, h => by simp [rowP, rowP_val xs]
theorem enc_val (L : List NumP) : L.map encP = (L.map Subtype.val).map (Value.int .i64) := by rw [List.map_map]; rfl
/-- the library's sort under the program's order -/
theorem sortFuncP_any (B g n cap : Nat) (xs : List Int) (w : World) (ho : OwnI 2 w B (some ⟨g, 0, none⟩) n cap xs) (hn : n ≤ 1000000) (hx : ∀ x ∈ xs, 2 ≤ x ∧ x ≤ 1000000) :
    Calls Try.prog 74 #[.slice (some ⟨g, 0, none⟩) n cap, .func (.func 75) #[] #[]] w fun e w' => e = .returned (.tuple #[]) ∧ OwnI 2 w' B (some ⟨g, 0, none⟩) n cap (sortP xs) ∧ Chg (fun k => k = g) w w' := by
  have hl := ho.len
  have hr : (rowP xs hx).length = n := by rw [← hl, ← congrArg List.length (rowP_val xs hx), List.length_map]
  have hd : (rowP xs hx).toArray.size = n := by simpa using hr
  have hH : Holds encP w g 0 (rowP xs hx).toArray := row_holds encP ho _ (by rw [enc_val, rowP_val])
  have hcon := Any.slices_SortFunc_total Ytgdialknnjnehaa.sortI encP (fun _ => rfl) cmpN swoN 75 #[] g 0 cap (rowP xs hx).toArray w (enters_of Try.func75 (by kernel_rfl) rfl) (cmpLaysN _ _ _ _) hH (ho.block _ rfl).2 (by omega) (fun x y h1 h2 => by
    rw [ltN] at h1 h2
    simp only [Bool.not_eq_false'] at h1 h2
    exact Subtype.ext (leP_anti h2 h1))
  rw [hd] at hcon
  refine hcon.mono ?_
  rintro e w' ⟨rfl, m, os, rfl⟩
  refine ⟨rfl, ?_, sortWorld_chg _ _ _ _ _ _ _⟩
  have hperm := List.mergeSort_perm (rowP xs hx) (fun x y => !(ltOf cmpN) y x)
  refine row_sorted encP ho _ _ _ ?_ ?_
  · simpa using hperm.length_eq.trans hr
  · rw [enc_val]
    congr 1
    refine sortP_eq ?_ ?_
    · have := hperm.map Subtype.val
      rwa [rowP_val] at this
    · have hp := List.pairwise_mergeSort (le := fun x y => !(ltOf cmpN) y x) (fun a b c h1 h2 => by
        simp only [ltN, Bool.not_not] at *
        exact leP_trans _ _ _ h1 h2) (fun a b => by
        simp only [ltN, Bool.not_not]
        exact leP_tot _ _) (rowP xs hx)
      refine List.Pairwise.map _ (fun a b h => ?_) hp
      simpa only [ltN, Bool.not_not] using h
theorem sortFuncP_none (p : Option Addr) (cap : Nat) (w : World) :
    Calls Try.prog 74 #[.slice p 0 cap, .func (.func 75) #[] #[]] w fun e w' => e = .returned (.tuple #[]) ∧ w' = w :=
  AnyF.slices_SortFunc_none { Ytgdialknnjnehaa.sortI with } p cap _ w
end Go.Proofs.Ytgdialknnjnehaa
