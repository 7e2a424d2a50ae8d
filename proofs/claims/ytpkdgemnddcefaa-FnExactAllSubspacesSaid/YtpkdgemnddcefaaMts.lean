/- Slices of matrices: read, owned, appended to. No program in sight. -/
import Derived.Test.YtpkdgemnddcefaaAppK
import Derived.Test.YtpkdgemnddcefaaOwnR
import Derived.Test.YtpkdgemnddcefaaRowW
import Derived.Test.YtpkdgemnddcefaaBox
import Derived.Test.YtpkdgemnddcefaaHeld
import Derived.Test.YtpkdgemnddcefaaAsP
import Derived.Deep.RegionHeld3
set_option linter.unusedVariables false
set_option linter.unusedSimpArgs false
namespace Go.Proofs.Ytpkdgemnddcefaa
open Go.RowKit
/-- the i-th matrix -/
def mx_ (L : List (List (List Int))) (i : Nat) : List (List Int) := L[i]?.getD []
theorem mx_app_lt {L : List (List (List Int))} {m : List (List Int)} {i : Nat} (h : i < L.length) : mx_ (L ++ [m]) i = mx_ L i := by simp [mx_, List.getElem?_append, h]
theorem mx_app_eq {L : List (List (List Int))} {m : List (List Int)} : mx_ (L ++ [m]) L.length = m := by simp [mx_]
theorem mx_get {L : List (List (List Int))} {i : Nat} (h : i < L.length) : L[i]? = some (mx_ L i) := by simp [mx_, h]
theorem mx_mem {L : List (List (List Int))} {i : Nat} (h : i < L.length) : mx_ L i ∈ L := by
  have : mx_ L i = L[i] := by simp [mx_, h]
  rw [this]; exact List.getElem_mem h
theorem mts_ext {L L' : List (List (List Int))} (h : L.length = L'.length) (h2 : ∀ i, i < L.length → mx_ L i = mx_ L' i) : L = L' := by
  refine List.ext_getElem? fun i => ?_
  by_cases hi : i < L.length
  · rw [mx_get hi, mx_get (by omega), h2 i hi]
  · rw [List.getElem?_eq_none (by omega), List.getElem?_eq_none (by omega)]
def mtVals (P Q : Nat → Int) (L : List (List (List Int))) (A : Nat → Option Addr) (C : Nat → Nat) : Nat → List Value
  | 0 => []
  | n + 1 => mtVals P Q L A C n ++ [.int .i64 (P n), .int .i64 (Q n), .slice (A n) (mx_ L n).length (C n)]
section
variable {P Q P' Q' : Nat → Int} {L L' : List (List (List Int))} {A A' : Nat → Option Addr} {C C' : Nat → Nat}
theorem mtVals_len : ∀ n, (mtVals P Q L A C n).length = n * 3
  | 0 => rfl
  | n + 1 => by rw [mtVals, List.length_append, mtVals_len n]; simp; omega
theorem mtVals_at {i t : Nat} (ht : t < 3) : ∀ {n}, i < n → (mtVals P Q L A C n)[i * 3 + t]? = [(.int .i64 (P i) : Value), .int .i64 (Q i), .slice (A i) (mx_ L i).length (C i)][t]?
  | n + 1, h => by
    rw [mtVals]
    by_cases he : i = n
    · subst he; rw [List.getElem?_append_right (by rw [mtVals_len]; omega), mtVals_len, show i * 3 + t - i * 3 = t by omega]
    · rw [List.getElem?_append_left (by rw [mtVals_len]; omega)]; exact mtVals_at ht (by omega)
theorem mtVals_0 {i n : Nat} (h : i < n) : (mtVals P Q L A C n)[i * 3]? = some (.int .i64 (P i)) := mtVals_at (t := 0) (by omega) h
theorem mtVals_1 {i n : Nat} (h : i < n) : (mtVals P Q L A C n)[i * 3 + 1]? = some (.int .i64 (Q i)) := mtVals_at (t := 1) (by omega) h
theorem mtVals_2 {i n : Nat} (h : i < n) : (mtVals P Q L A C n)[i * 3 + 2]? = some (.slice (A i) (mx_ L i).length (C i)) := mtVals_at (t := 2) (by omega) h
theorem mtVals_congr : ∀ {n}, (∀ i, i < n → P i = P' i ∧ Q i = Q' i ∧ mx_ L i = mx_ L' i ∧ A i = A' i ∧ C i = C' i) → mtVals P Q L A C n = mtVals P' Q' L' A' C' n
  | 0, _ => rfl
  | n + 1, h => by
    rw [mtVals, mtVals, mtVals_congr (n := n) (fun i hi => h i (by omega))]
    obtain ⟨h1, h2, h3, h4, h5⟩ := h n (by omega)
    rw [h1, h2, h3, h4, h5]
end
theorem OwnR.addr {T1 T2 : TypeId} {w : World} {B n cap : Nat} {a : Option Addr} {xss : List (List Int)} {A : Nat → Option Addr} {C : Nat → Nat} (h : OwnR T1 T2 w B a n cap xss A C) (h0 : 0 < n) : ∃ g, a = some ⟨g, 0, Option.none⟩ ∧ (∀ i, i < n → w.cell? ⟨g, i, Option.none⟩ = some (.slice (A i) (rw_ xss i).length (C i))) ∧ (∀ i, w.frozen? ⟨g, i, Option.none⟩ = false) ∧ B ≤ g ∧ g < w.heap.size := by
  rcases ownsRow_cases h.own with ⟨_, h1, _⟩ | ⟨g, cur, h1, h2, h3, _⟩
  · omega
  · obtain ⟨g', ha, hc⟩ := ownsRow_cell h.own h0
    rw [h1] at ha; injection ha with e; injection e with e1; subst e1
    exact ⟨g, h1, fun i hi => by rw [hc i hi, rowVals_get hi], fun i => wr_frozen h3, h2, (Array.getElem?_eq_some_iff.1 h3).1⟩
/-- read: primes, columns and rows -/
def RdM (w : World) (a : Option Addr) (n : Nat) (P Q : Nat → Int) (L : List (List (List Int))) : Prop :=
  0 < n → ∃ b o, a = some ⟨b, o, none⟩ ∧ ∀ i, i < n → ∃ ai ci, w.cell? ⟨b, o + i * 3, none⟩ = some (.int .i64 (P i)) ∧ w.cell? ⟨b, o + i * 3 + 1, none⟩ = some (.int .i64 (Q i)) ∧ w.cell? ⟨b, o + i * 3 + 2, none⟩ = some (.slice ai (mx_ L i).length ci) ∧ RdR w ai (mx_ L i) ∧ (mx_ L i).length ≤ ci
/-- matrices of the call's own: the i-th lies in the blocks from lo i to hi i -/
structure OwnM (T0 T1 T2 : TypeId) (w : World) (B : Nat) (a : Option Addr) (n cap : Nat) (P Q : Nat → Int) (L : List (List (List Int))) (A : Nat → Option Addr) (C : Nat → Nat) (AA : Nat → Nat → Option Addr) (CC : Nat → Nat → Nat) (lo hi : Nat → Nat) : Prop where
  len : L.length = n
  own : w.ownsRow B T0 3 (.slice a n cap) n (mtVals P Q L A C n)
  row : ∀ i, i < n → OwnR T1 T2 w (lo i) (A i) (mx_ L i).length (C i) (mx_ L i) (AA i) (CC i)
  hiA : ∀ i, i < n → ∀ p, A i = some p → p.block < hi i
  hiR : ∀ i, i < n → ∀ j, j < (mx_ L i).length → ∀ p, AA i j = some p → p.block < hi i
  bl : ∀ i, i < n → B ≤ lo i ∧ hi i ≤ w.heap.size
  dis : ∀ i j, i < n → j < n → i ≠ j → hi i ≤ lo j ∨ hi j ≤ lo i
  out : ∀ p, a = some p → ∀ i, i < n → p.block < lo i ∨ hi i ≤ p.block
section
variable {T0 T1 T2 : TypeId} {w w' : World} {B : Nat} {a : Option Addr} {n cap : Nat} {P Q : Nat → Int} {L : List (List (List Int))} {A : Nat → Option Addr} {C : Nat → Nat} {AA : Nat → Nat → Option Addr} {CC : Nat → Nat → Nat} {lo hi : Nat → Nat}
theorem ownsK_cases {T : TypeId} {K : Nat} {xs : List Value} (hK : 0 < K) (h : w.ownsRow B T K (.slice a n cap) n xs) : (a = Option.none ∧ n = 0 ∧ cap = 0 ∧ xs = []) ∨
    ∃ g cur, a = some ⟨g, 0, Option.none⟩ ∧ B ≤ g ∧ w.heap[g]? = some (.cells cur T (0, 0)) ∧ n ≤ cap ∧ cap ≤ maxLen ∧ cur.size = cap * K ∧ cur.toList.take (n * K) = xs := by
  obtain ⟨h1, h2⟩ := h
  rcases h2 with ⟨h2, h3⟩ | ⟨g, cap', cur, hv, hg, hh, h3, h4, h5, h6⟩
  · injection h2 with e1 e2 e3
    subst e1; subst e2; subst e3
    exact .inl ⟨rfl, rfl, rfl, List.eq_nil_of_length_eq_zero (by simpa using h1)⟩
  · injection hv with e1 e2 e3
    subst e1; subst e3
    exact .inr ⟨g, cur, rfl, hg, hh, h3, h4, h5, h6⟩
theorem ownsK_block {T : TypeId} {K : Nat} {xs : List Value} (hK : 0 < K) (h : w.ownsRow B T K (.slice a n cap) n xs) : ∀ p, a = some p → B ≤ p.block ∧ p.block < w.heap.size := by
  intro p hp
  rcases ownsK_cases hK h with ⟨ha, _⟩ | ⟨g, cur, ha, hg, hh, _⟩
  · rw [ha] at hp; cases hp
  · rw [ha] at hp; injection hp with e; subst e
    exact ⟨hg, (Array.getElem?_eq_some_iff.1 hh).1⟩
theorem ownsK_same {T : TypeId} {K : Nat} {xs : List Value} (h : w.ownsRow B T K (.slice a n cap) n xs) (hs : ∀ p, a = some p → w'.heap[p.block]? = w.heap[p.block]?) : w'.ownsRow B T K (.slice a n cap) n xs := by
  refine ⟨h.1, ?_⟩
  rcases h.2 with h2 | ⟨g, cap', cur, hv, hg, hh, rest⟩
  · exact .inl h2
  · refine .inr ⟨g, cap', cur, hv, hg, ?_, rest⟩
    injection hv with e1 e2 e3
    rw [hs _ e1]; exact hh
theorem ownsK_mono {T : TypeId} {K B' : Nat} {v : Value} {xs : List Value} (h : w.ownsRow B T K v n xs) (hB : B' ≤ B) : w.ownsRow B' T K v n xs := by
  refine ⟨h.1, ?_⟩
  rcases h.2 with h2 | ⟨g, cap', cur, hv, hg, rest⟩
  · exact .inl h2
  · exact .inr ⟨g, cap', cur, hv, Nat.le_trans hB hg, rest⟩
theorem ownsK_cell {T : TypeId} {K : Nat} {xs : List Value} (hK : 0 < K) (h : w.ownsRow B T K (.slice a n cap) n xs) (h0 : 0 < n) : ∃ g, a = some ⟨g, 0, Option.none⟩ ∧ ∀ i, i < n * K → w.cell? ⟨g, i, Option.none⟩ = xs[i]? := by
  rcases ownsK_cases hK h with ⟨_, hn, _⟩ | ⟨g, cur, ha, hg, hh, h1, h2, h3, h4⟩
  · omega
  · refine ⟨g, ha, fun i hi => ?_⟩
    rw [wr_cell hh, ← h4, List.getElem?_take, if_pos hi]
    simp
theorem OwnM.capl (h : OwnM T0 T1 T2 w B a n cap P Q L A C AA CC lo hi) : n ≤ cap := by
  rcases ownsK_cases (by omega) h.own with ⟨_, h1, h2, _⟩ | ⟨g, cur, _, _, _, h1, _⟩ <;> omega
theorem OwnM.rd (h : OwnM T0 T1 T2 w B a n cap P Q L A C AA CC lo hi) : RdM w a n P Q L := fun h0 => by
  obtain ⟨g, ha, hc⟩ := ownsK_cell (by omega) h.own h0
  refine ⟨g, 0, ha, fun i hi => ⟨A i, C i, ?_, ?_, ?_, (h.row i hi).rd, (h.row i hi).capl⟩⟩
  · rw [Nat.zero_add, hc _ (by omega), mtVals_0 hi]
  · rw [Nat.zero_add, hc _ (by omega), mtVals_1 hi]
  · rw [Nat.zero_add, hc _ (by omega), mtVals_2 hi]
theorem OwnM.none (P Q : Nat → Int) (A : Nat → Option Addr) (C : Nat → Nat) (AA : Nat → Nat → Option Addr) (CC : Nat → Nat → Nat) (lo hi : Nat → Nat) : OwnM T0 T1 T2 w B Option.none 0 0 P Q [] A C AA CC lo hi :=
  ⟨rfl, World.ownsRow_nil w B T0 3, fun i h => absurd h (by omega), fun i h => absurd h (by omega), fun i h => absurd h (by omega), fun i h => absurd h (by omega), fun i j h => absurd h (by omega), fun p _ i h => absurd h (by omega)⟩
theorem OwnM.same (h : OwnM T0 T1 T2 w B a n cap P Q L A C AA CC lo hi) (hz : w.heap.size ≤ w'.heap.size) (hs : ∀ p, a = some p → w'.heap[p.block]? = w.heap[p.block]?) (hr : ∀ i, i < n → ∀ k, lo i ≤ k → k < hi i → w'.heap[k]? = w.heap[k]?) : OwnM T0 T1 T2 w' B a n cap P Q L A C AA CC lo hi :=
  ⟨h.len, ownsK_same h.own hs, fun i hi' => (h.row i hi').same (fun p hp => hr i hi' _ (ownsRow_block (h.row i hi').own p hp).1 (h.hiA i hi' p hp)) (fun j hj p hp => hr i hi' _ (((h.row i hi').row j hj).block p hp).1 (h.hiR i hi' j hj p hp)), h.hiA, h.hiR, fun i hi' => ⟨(h.bl i hi').1, Nat.le_trans (h.bl i hi').2 hz⟩, h.dis, h.out⟩
theorem OwnM.keep {B1 : Nat} (h : OwnM T0 T1 T2 w B a n cap P Q L A C AA CC lo hi) (hb : Below B1 w w') (hB : w.heap.size ≤ B1) : OwnM T0 T1 T2 w' B a n cap P Q L A C AA CC lo hi :=
  h.same hb.size (fun p hp => hb.block _ (Nat.lt_of_lt_of_le (ownsK_block (by omega) h.own p hp).2 hB)) (fun i hi' k h1 h2 => hb.block _ (by have := (h.bl i hi').2; omega))
theorem OwnM.mono {B' : Nat} (h : OwnM T0 T1 T2 w B a n cap P Q L A C AA CC lo hi) (hB : B' ≤ B) : OwnM T0 T1 T2 w B' a n cap P Q L A C AA CC lo hi :=
  ⟨h.len, ownsK_mono h.own hB, h.row, h.hiA, h.hiR, fun i hi' => ⟨Nat.le_trans hB (h.bl i hi').1, (h.bl i hi').2⟩, h.dis, h.out⟩
theorem RdM.keep {B1 : Nat} (h : RdM w a n P Q L) (hb : Below B1 w w') (hB : w.heap.size ≤ B1) : RdM w' a n P Q L := fun h0 => by
  obtain ⟨b, o, ha, hc⟩ := h h0
  refine ⟨b, o, ha, fun i hi => ?_⟩
  obtain ⟨ai, ci, c1, c2, c3, c4, c5⟩ := hc i hi
  have e : w'.heap[b]? = w.heap[b]? := hb.block _ (Nat.lt_of_lt_of_le (block_lt (p := ⟨b, o + i * 3, none⟩) c1) hB)
  exact ⟨ai, ci, (World.cell?_of_block (w := w) (a := ⟨b, o + i * 3, none⟩) e).trans c1, (World.cell?_of_block (w := w) (a := ⟨b, o + i * 3 + 1, none⟩) e).trans c2, (World.cell?_of_block (w := w) (a := ⟨b, o + i * 3 + 2, none⟩) e).trans c3, c4.keep hb hB, c5⟩
theorem RdM.at_ (h : RdM w a n P Q L) {i : Nat} (hi : i < n) : ∃ b o ai ci, a = some ⟨b, o, Option.none⟩ ∧ w.cell? ⟨b, o + i * 3, Option.none⟩ = some (.int .i64 (P i)) ∧ w.cell? ⟨b, o + i * 3 + 1, Option.none⟩ = some (.int .i64 (Q i)) ∧ w.cell? ⟨b, o + i * 3 + 2, Option.none⟩ = some (.slice ai (mx_ L i).length ci) ∧ RdR w ai (mx_ L i) ∧ (mx_ L i).length ≤ ci := by
  obtain ⟨b, o, ha, hc⟩ := h (by omega)
  obtain ⟨ai, ci, c⟩ := hc i hi
  exact ⟨b, o, ai, ci, ha, c⟩
end
/-- one more matrix: its memory was made since wi -/
theorem OwnM.push {T0 T1 T2 : TypeId} {wi wc w4 : World} {B j c1 c4 m cc : Nat} {a1 a4 ac : Option Addr} {P Q : Nat → Int} {L : List (List (List Int))} {X : List (List Int)} {A : Nat → Option Addr} {C : Nat → Nat} {AA : Nat → Nat → Option Addr} {CC : Nat → Nat → Nat} {lo hi : Nat → Nat} {p q : Int} {AX : Nat → Option Addr} {CX : Nat → Nat}
    (h : OwnM T0 T1 T2 wi B a1 j c1 P Q L A C AA CC lo hi) (hB : B ≤ wi.heap.size) (hb : Below wi.heap.size wi wc) (ho : OwnR T1 T2 wc wi.heap.size ac m cc X AX CX)
    (r4 : w4.ownsRow B T0 3 (.slice a4 (j + 1) c4) (j + 1) (mtVals P Q L A C j ++ [.int .i64 p, .int .i64 q, .slice ac m cc])) (q4 : a4 = a1 ∨ a4 = some ⟨wc.heap.size, 0, Option.none⟩)
    (g4 : Chg (fun k => ∃ p, a1 = some p ∧ p.block = k) wc w4) :
    OwnM T0 T1 T2 w4 B a4 (j + 1) c4 (upd P j p) (upd Q j q) (L ++ [X]) (upd A j ac) (upd C j cc) (upd AA j AX) (upd CC j CX) (upd lo j wi.heap.size) (upd hi j wc.heap.size) ∧ Below B wi w4 := by
  obtain rfl := ho.len
  have hsz := hb.size
  have hlen := h.len
  have e0 : mx_ (L ++ [X]) j = X := by rw [← hlen]; exact mx_app_eq
  have el' : ∀ i, i < j → mx_ (L ++ [X]) i = mx_ L i := fun i hi => mx_app_lt (by omega)
  have ha1 : ∀ p, a1 = some p → p.block < wi.heap.size := fun p hp => (ownsK_block (by omega) h.own p hp).2
  have hk : ∀ i, i < j → ∀ k, lo i ≤ k → k < hi i → w4.heap[k]? = wi.heap[k]? := fun i hi' k h1 h2 => by
    have hb2 := (h.bl i hi').2
    rw [g4.block k (by omega) (fun hx => by obtain ⟨x, hx, e⟩ := hx; have := h.out x hx i hi'; omega)]
    exact hb.block k (by omega)
  have hrow : OwnR T1 T2 w4 wi.heap.size ac X.length cc X AX CX := ho.kept g4 (fun p hp hx => by obtain ⟨x, hx, e⟩ := hx; have := ha1 x hx; have := (ownsRow_block ho.own p hp).1; omega) (fun i hi' p hp hx => by obtain ⟨x, hx, e⟩ := hx; have := ha1 x hx; have := ((ho.row i hi').block p hp).1; omega)
  have u1 : ∀ {α : Type} (f : Nat → α) (x : α) (i : Nat), i < j → upd f j x i = f i := fun f x i hi' => upd_lt hi'
  refine ⟨⟨by simp [hlen], ?_, fun i hi' => ?_, fun i hi' p hp => ?_, fun i hi' t ht p hp => ?_, fun i hi' => ?_, fun i k hi' hk' hne => ?_, fun p hp i hi' => ?_⟩, (hb.mono hB).trans (g4.below (by omega) (fun k hk hx => by obtain ⟨x, hx, e⟩ := hx; have := (ownsK_block (by omega) h.own x hx).1; omega))⟩
  · have e : mtVals (upd P j p) (upd Q j q) (L ++ [X]) (upd A j ac) (upd C j cc) (j + 1) = mtVals P Q L A C j ++ [.int .i64 p, .int .i64 q, .slice ac X.length cc] := by
      rw [mtVals, mtVals_congr (P' := P) (Q' := Q) (L' := L) (A' := A) (C' := C) (fun i hi' => ⟨u1 _ _ i hi', u1 _ _ i hi', el' i hi', u1 _ _ i hi', u1 _ _ i hi'⟩), e0, upd_eq, upd_eq, upd_eq, upd_eq]
    rw [e]; exact r4
  · by_cases he : i = j
    · subst he; rw [e0, upd_eq, upd_eq, upd_eq, upd_eq, upd_eq]; exact hrow
    · have hi2 : i < j := by omega
      rw [el' i hi2, u1 _ _ i hi2, u1 _ _ i hi2, u1 _ _ i hi2, u1 _ _ i hi2, u1 _ _ i hi2]
      exact (h.row i hi2).same (fun p hp => hk i hi2 _ (ownsRow_block (h.row i hi2).own p hp).1 (h.hiA i hi2 p hp)) (fun t ht p hp => hk i hi2 _ (((h.row i hi2).row t ht).block p hp).1 (h.hiR i hi2 t ht p hp))
  · by_cases he : i = j
    · subst he; rw [upd_eq] at hp ⊢; exact (ownsRow_block ho.own p hp).2
    · rw [u1 _ _ i (by omega)] at hp ⊢; exact h.hiA i (by omega) p hp
  · by_cases he : i = j
    · subst he; rw [upd_eq] at hp ⊢; rw [e0] at ht; exact ((ho.row t ht).block p hp).2
    · rw [u1 _ _ i (by omega)] at hp ⊢; rw [el' i (by omega)] at ht; exact h.hiR i (by omega) t ht p hp
  · have := g4.size
    by_cases he : i = j
    · subst he; rw [upd_eq, upd_eq]; omega
    · rw [u1 _ _ i (by omega), u1 _ _ i (by omega)]; have := h.bl i (by omega); omega
  · by_cases h1 : i = j
    · subst h1
      rw [upd_eq, upd_eq, u1 _ _ k (by omega), u1 _ _ k (by omega)]
      have := (h.bl k (by omega)).2; omega
    · by_cases h2 : k = j
      · subst h2
        rw [upd_eq, upd_eq, u1 _ _ i (by omega), u1 _ _ i (by omega)]
        have := (h.bl i (by omega)).2; omega
      · rw [u1 _ _ i (by omega), u1 _ _ i (by omega), u1 _ _ k (by omega), u1 _ _ k (by omega)]; exact h.dis i k (by omega) (by omega) hne
  · by_cases he : i = j
    · subst he
      rw [upd_eq, upd_eq]
      rcases q4 with q4 | q4
      · rw [q4] at hp; have := ha1 p hp; omega
      · rw [q4] at hp; injection hp with hp; subst hp; exact .inr (Nat.le_refl _)
    · rw [u1 _ _ i (by omega), u1 _ _ i (by omega)]
      rcases q4 with q4 | q4
      · rw [q4] at hp; exact h.out p hp i (by omega)
      · rw [q4] at hp; injection hp with hp; subst hp
        have := (h.bl i (by omega)).2
        exact .inr (by show hi i ≤ wc.heap.size; omega)
/-- an outer slice of the call's own whose matrices are read where they stood in an elder world -/
structure VwM (T0 : TypeId) (wb w : World) (a : Option Addr) (n cap : Nat) (P Q : Nat → Int) (L : List (List (List Int))) (A : Nat → Option Addr) (C : Nat → Nat) : Prop where
  len : L.length = n
  own : w.ownsRow wb.heap.size T0 3 (.slice a n cap) n (mtVals P Q L A C n)
  row : ∀ i, i < n → RdR wb (A i) (mx_ L i) ∧ (mx_ L i).length ≤ C i
  below : Below wb.heap.size wb w
section
variable {T0 : TypeId} {wb w w' : World} {a a4 ac : Option Addr} {n cap c4 cc m : Nat} {P Q : Nat → Int} {L : List (List (List Int))} {X : List (List Int)} {A : Nat → Option Addr} {C : Nat → Nat} {p q : Int}
theorem VwM.rd (h : VwM T0 wb w a n cap P Q L A C) : RdM w a n P Q L := fun h0 => by
  obtain ⟨g, ha, hc⟩ := ownsK_cell (by omega) h.own h0
  refine ⟨g, 0, ha, fun i hi => ⟨A i, C i, ?_, ?_, ?_, (h.row i hi).1.keep h.below (Nat.le_refl _), (h.row i hi).2⟩⟩
  · rw [Nat.zero_add, hc _ (by omega), mtVals_0 hi]
  · rw [Nat.zero_add, hc _ (by omega), mtVals_1 hi]
  · rw [Nat.zero_add, hc _ (by omega), mtVals_2 hi]
theorem VwM.empty (w : World) (P Q : Nat → Int) (A : Nat → Option Addr) (C : Nat → Nat) : VwM T0 w (w.alloc (.cells #[] T0)) (some ⟨w.heap.size, 0, Option.none⟩) 0 0 P Q [] A C :=
  ⟨rfl, World.ownsRow_made w #[] 0 (Nat.le_refl _) (Nat.zero_le _) (by simp), fun i h => absurd h (by omega), (Below.refl _ _).alloc (Nat.le_refl _) _⟩
/-- .. after more memory was made -/
theorem VwM.keep {B1 : Nat} (h : VwM T0 wb w a n cap P Q L A C) (hb : Below B1 w w') (hB : w.heap.size ≤ B1) : VwM T0 wb w' a n cap P Q L A C :=
  ⟨h.len, ownsK_same h.own (fun p hp => hb.block _ (Nat.lt_of_lt_of_le (ownsK_block (by omega) h.own p hp).2 hB)), h.row, h.below.trans (hb.mono (Nat.le_trans h.below.size hB))⟩
theorem VwM.push (h : VwM T0 wb w a n cap P Q L A C) (hr : RdR wb ac X) (hm : X.length = m) (hc : m ≤ cc) (r4 : w'.ownsRow wb.heap.size T0 3 (.slice a4 (n + 1) c4) (n + 1) (mtVals P Q L A C n ++ [.int .i64 p, .int .i64 q, .slice ac m cc]))
    (g4 : Chg (fun k => ∃ p, a = some p ∧ p.block = k) w w') : VwM T0 wb w' a4 (n + 1) c4 (upd P n p) (upd Q n q) (L ++ [X]) (upd A n ac) (upd C n cc) := by
  subst hm
  have hlen := h.len
  have e0 : mx_ (L ++ [X]) n = X := by rw [← hlen]; exact mx_app_eq
  have el' : ∀ i, i < n → mx_ (L ++ [X]) i = mx_ L i := fun i hi => mx_app_lt (by omega)
  have u1 : ∀ {α : Type} (f : Nat → α) (x : α) (i : Nat), i < n → upd f n x i = f i := fun f x i hi' => upd_lt hi'
  refine ⟨by simp [hlen], ?_, fun i hi => ?_, h.below.trans (g4.below h.below.size fun k hk hx => by obtain ⟨x, hx, e⟩ := hx; have := (ownsK_block (by omega) h.own x hx).1; omega)⟩
  · rw [mtVals, mtVals_congr (P' := P) (Q' := Q) (L' := L) (A' := A) (C' := C) (fun i hi' => ⟨u1 _ _ i hi', u1 _ _ i hi', el' i hi', u1 _ _ i hi', u1 _ _ i hi'⟩), e0, upd_eq, upd_eq, upd_eq, upd_eq]
    exact r4
  · by_cases he : i = n
    · subst he; rw [e0, upd_eq, upd_eq]; exact ⟨hr, hc⟩
    · rw [el' i (by omega), u1 _ _ i (by omega), u1 _ _ i (by omega)]; exact h.row i (by omega)
end
/-- constant primes and columns -/
theorem mtVals_const {p q : Int} {P Q : Nat → Int} {L : List (List (List Int))} {A : Nat → Option Addr} {C : Nat → Nat} {n : Nat} (h : ∀ i, i < n → P i = p ∧ Q i = q) : mtVals P Q L A C n = mtVals (fun _ => p) (fun _ => q) L A C n :=
  mtVals_congr fun i hi => ⟨(h i hi).1, (h i hi).2, rfl, rfl, rfl⟩
theorem upd_const {p : Int} {n i : Nat} : upd (fun _ => p) n p i = p := by unfold upd; split <;> rfl
theorem VwM.const {T0 : TypeId} {wb w : World} {a : Option Addr} {n cap k : Nat} {p q : Int} {L : List (List (List Int))} {A : Nat → Option Addr} {C : Nat → Nat} (h : VwM T0 wb w a n cap (upd (fun _ => p) k p) (upd (fun _ => q) k q) L A C) : VwM T0 wb w a n cap (fun _ => p) (fun _ => q) L A C :=
  ⟨h.len, by have := h.own; rwa [mtVals_const (fun i _ => ⟨upd_const, upd_const⟩)] at this, h.row, h.below⟩
theorem OwnM.const {T0 T1 T2 : TypeId} {w : World} {B : Nat} {a : Option Addr} {n cap k : Nat} {p q : Int} {L : List (List (List Int))} {A : Nat → Option Addr} {C : Nat → Nat} {AA : Nat → Nat → Option Addr} {CC : Nat → Nat → Nat} {lo hi : Nat → Nat} (h : OwnM T0 T1 T2 w B a n cap (upd (fun _ => p) k p) (upd (fun _ => q) k q) L A C AA CC lo hi) : OwnM T0 T1 T2 w B a n cap (fun _ => p) (fun _ => q) L A C AA CC lo hi :=
  ⟨h.len, by have := h.own; rwa [mtVals_const (fun i _ => ⟨upd_const, upd_const⟩)] at this, h.row, h.hiA, h.hiR, h.bl, h.dis, h.out⟩
end Go.Proofs.Ytpkdgemnddcefaa
