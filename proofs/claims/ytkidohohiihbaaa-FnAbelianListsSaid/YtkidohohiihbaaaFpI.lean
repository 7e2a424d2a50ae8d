/- The program's product of cyclic groups of prime power orders. -/
import Derived.Test.YtkidohohiihbaaaFpM
import Derived.Test.YtkidohohiihbaaaFpP
import Derived.Test.YtkidohohiihbaaaFpR
import Derived.Test.YtkidohohiihbaaaAbMade
import Derived.Test.YtkidohohiihbaaaBox
import Derived.Test.YtkidohohiihbaaaFac
import Derived.Deep.RegionLaw
import Derived.BigQuiet
set_option linter.unusedVariables false
set_option linter.unusedSimpArgs false
namespace Go.Proofs.Ytkidohohiihbaaa
open Go.RowKit Go.Maps

/-- the group with these primary parts -/
def fpV (qs : List Int) (r : Int) : List Int × Int × Int := if okB qs = true ∧ isAb (facG qs) r = true then (facG qs, r, 0) else ([], 0, 3)
def res_fp (qs : List Int) (r : Int) (R : List Int) (K d : Int) : Prop := (R, K, d) = fpV qs r
theorem fp_ok {qs : List Int} {r : Int} (h1 : okB qs = true) (h2 : isAb (facG qs) r = true) : res_fp qs r (facG qs) r 0 := by
  unfold res_fp fpV; rw [if_pos ⟨h1, h2⟩]
theorem fp_bad {qs : List Int} {r : Int} (h1 : okB qs = false) : res_fp qs r [] 0 3 := by
  unfold res_fp fpV; rw [if_neg (fun h => by rw [h1] at h; cases h.1)]
theorem fp_ab {qs : List Int} {r : Int} (h1 : isAb (facG qs) r = false) : res_fp qs r [] 0 3 := by
  unfold res_fp fpV; rw [if_neg (fun h => by rw [h1] at h; cases h.2)]
theorem facG_len (qs : List Int) : (facG qs).length = nmax (prs qs) qs := by unfold facG facD; rw [List.length_reverse, tab_len]
section
variable {w w' : World} {base : Nat} {gs : Int → List Int} {hd : Int → Nat × Nat × Nat} {D : DataW Unit}
theorem MG.like (h : MG w base gs hd D) (e : w'.heap = w.heap) : MG w' base gs hd D :=
  ⟨h.isMap, h.no, h.yes, fun p hp => (h.row p hp).same (fun q hq => by rw [e]), h.apart⟩
theorem MG.alloc (h : MG w base gs hd D) (o : Obj) : MG (w.alloc o) base gs hd D := h.keep ((Below.refl _ _).alloc (Nat.le_refl _) _)
theorem ownsMap_same {B n : Nat} (h : w.ownsMap Try.prog 2 codeS B n D) (e : w'.heap[B]? = w.heap[B]?) : w'.ownsMap Try.prog 2 codeS B n D := by
  obtain ⟨es, clock, h1, h2⟩ := h
  exact ⟨es, clock, e.trans h1, h2⟩
theorem ownsMap_like {B n : Nat} (h : w.ownsMap Try.prog 2 codeS B n D) (e : w'.heap = w.heap) : w'.ownsMap Try.prog 2 codeS B n D := ownsMap_same h (by rw [e])
end
theorem ranges_same {w w' : World} {B r n cnt : Nat} {D : DataW Unit} {left : Lit → Bool} (h : w.ranges Try.prog 2 codeS B r n D left cnt) (e1 : w'.heap[B]? = w.heap[B]?) (e2 : w'.heap[r]? = w.heap[r]?) : w'.ranges Try.prog 2 codeS B r n D left cnt := by
  obtain ⟨es, clock, since, seen, c0, hb, F, hs, hD, hr, rest⟩ := h
  exact ⟨es, clock, since, seen, c0, e1.trans hb, F, hs, hD, e2.trans hr, rest⟩
/-- what holds in the first loop -/
def G1 (w wr : World) (qs : List Int) (k : Nat) (hd : Int → Nat × Nat × Nat) (D : DataW Unit) : Prop :=
  MG wr (w.heap.size + 2) (grp (qs.take k)) hd D ∧ wr.ownsMap Try.prog 2 codeS (w.heap.size + 1) k D ∧ Below w.heap.size w wr ∧ w.heap.size + 2 ≤ wr.heap.size ∧ BX 37 wr w.heap.size #[.slice none 0 0, .int .i64 0]
theorem grp_step {qs : List Int} {k : Nat} (h : k < qs.length) : (fun r => if r = lpf (el qs k) then grp (qs.take k) (lpf (el qs k)) ++ [el qs k] else grp (qs.take k) r) = grp (qs.take (k + 1)) := by
  funext r
  rw [take_el h, grp_snoc]
/-- behind the append and the store -/
theorem G1.step {w wr w4 w5 W : World} {qs : List Int} {k g l c : Nat} {hd : Int → Nat × Nat × Nat} {D : DataW Unit} {ag : Option Addr} (h : G1 w wr qs k hd D) (hk : k < qs.length) (hp : isPP (el qs k)) (hp64 : -9223372036854775808 ≤ lpf (el qs k) ∧ lpf (el qs k) ≤ 9223372036854775807)
    (hag : ∀ q, ag = some q → grp (qs.take k) (lpf (el qs k)) ≠ [] ∧ q = ⟨(hd (lpf (el qs k))).1, 0, none⟩)
    (hW : Below wr.heap.size wr W) (hWs : wr.heap.size ≤ W.heap.size) (r4 : w4.ownsRow (w.heap.size + 2) 2 1 (.slice (some ⟨g, 0, none⟩) (l + 1) c) (l + 1) ((grp (qs.take k) (lpf (el qs k))).map (Value.int .i64) ++ [.int .i64 (el qs k)]))
    (q4 : (some ⟨g, 0, none⟩ : Option Addr) = ag ∨ ∃ p, (some ⟨g, 0, none⟩ : Option Addr) = some p ∧ W.heap.size ≤ p.block) (g4 : Chg (fun j => ∃ p, ag = some p ∧ p.block = j) W w4)
    (ho : w5.ownsMap Try.prog 2 codeS (w.heap.size + 1) (k + 1) (D.put (.int .i64 (lpf (el qs k))) (hdD (g, l + 1, c)))) (hg : w4.grownBy w5 (some (w.heap.size + 1))) :
    G1 w w5 qs (k + 1) (fun r => if r = lpf (el qs k) then (g, l + 1, c) else hd r) (D.put (.int .i64 (lpf (el qs k))) (hdD (g, l + 1, c))) := by
  obtain ⟨h1, h2, h3, h4, h5⟩ := h
  have hcW : Chg (fun j => grp (qs.take k) (lpf (el qs k)) ≠ [] ∧ j = (hd (lpf (el qs k))).1) wr w4 := by
    refine Chg.trans (Chg.ofBelow hW (fun j a b => by omega)) (g4.mono (fun j hj hx => ?_))
    obtain ⟨p, hp1, hp2⟩ := hx
    obtain ⟨e1, e2⟩ := hag p hp1
    exact ⟨e1, by rw [← hp2, e2]⟩
  have hm4 := h1.put (x := el qs k) hp64 (OwnI.pushed r4) hcW (by
    rcases q4 with q4 | ⟨p, q4, hp2⟩
    · left
      obtain ⟨e1, e2⟩ := hag _ q4.symm
      exact ⟨e1, congrArg Addr.block e2⟩
    · right
      injection q4 with e; subst e
      have : W.heap.size ≤ g := hp2
      omega)
  rw [grp_step hk] at hm4
  have hc5 := grown_chg hg
  have hblk : ∀ p, grp (qs.take k) p ≠ [] → w.heap.size + 2 ≤ (hd p).1 := fun p hp => (h1.blk hp).1
  refine ⟨hm4.kept hc5 (fun p hpp e => ?_), ho, ?_, ?_, ?_⟩
  · have := (hm4.blk hpp).1
    have e' : (if p = lpf (el qs k) then (g, l + 1, c) else hd p).1 = w.heap.size + 1 := e
    omega
  · refine (h3.trans (hcW.below (by omega) (fun j hj hx => by have := hblk _ hx.1; omega))).trans (hc5.below ?_ (fun j hj e => by omega))
    have := hcW.size; omega
  · have := hcW.size; have := hc5.size; omega
  · refine (h5.chg hcW (fun hx => by have := hblk _ hx.1; omega)).chg hc5 (by omega)
/-- what holds in the second loop: left says whose turn is still to come, dn is done -/
structure G2 (w w0 : World) (qs : List Int) (hd : Int → Nat × Nat × Nat) (D : DataW Unit) (n : Nat) (wr : World) (left : Lit → Bool) (cnt : Nat) (dn : List Int) (b : Option Addr) (m d : Nat) : Prop where
  rg : wr.ranges Try.prog 2 codeS (w.heap.size + 1) w0.heap.size n D left cnt
  lf : ∀ p, -9223372036854775808 ≤ p ∧ p ≤ 9223372036854775807 → left (.int .i64 p) = true → grp qs p ≠ []
  row : ∀ p, -9223372036854775808 ≤ p ∧ p ≤ 9223372036854775807 → left (.int .i64 p) = true → OwnI 2 wr (w.heap.size + 2) (some ⟨(hd p).1, 0, none⟩) (hd p).2.1 (hd p).2.2 (grp qs p)
  nd : dn.Nodup
  dn_ : ∀ p, -9223372036854775808 ≤ p ∧ p ≤ 9223372036854775807 → (p ∈ dn ↔ grp qs p ≠ [] ∧ left (.int .i64 p) = false)
  dI : ∀ p ∈ dn, grp qs p ≠ []
  own : OwnI 2 wr (w0.heap.size + 1) b m d (tab (nmax dn qs) (fcol dn qs))
  bd : ∀ i, fcol dn qs i ≤ 1000000
  bel : Below w.heap.size w wr
  bx : BX 37 wr w.heap.size #[.slice none 0 0, .int .i64 0]
  sz : w0.heap.size + 1 ≤ wr.heap.size
theorem primes_bd {x : Int} (h1 : 2 ≤ x) (h2 : x ≤ 1000000) : 2 ≤ lpf x ∧ lpf x ≤ 1000000 := by
  have hp := primes_pos h1 h2
  obtain ⟨s1, s2⟩ := facL_spec (show 1 ≤ x by omega) h2
  have hl : 0 < (facL x).length := by rw [primes_eq, List.length_map] at hp; exact hp
  have e1 : lpf x = ((facL x)[0]).1 := by unfold lpf; rw [primes_eq]; simp [el, hl]
  have hm := List.getElem_mem hl
  obtain ⟨⟨u1, u2, u3⟩, u4⟩ := ent_isPP (show 1 ≤ x by omega) h2 hm
  obtain ⟨t1, t2, t3⟩ := s2.ent _ hm
  rw [e1]
  refine ⟨t2.1, ?_⟩
  obtain ⟨k, hk⟩ : ∃ k, ((facL x)[0]).2.toNat = k + 1 := ⟨((facL x)[0]).2.toNat - 1, by omega⟩
  rw [hk, Int.pow_succ] at u2
  have h6 := pow_pos' (show 1 ≤ ((facL x)[0]).1 by have := t2.1; omega) k
  have := Int.mul_le_mul_of_nonneg_right h6 (show 0 ≤ ((facL x)[0]).1 by have := t2.1; omega)
  omega
set_option maxRecDepth 20000 in
set_option maxHeartbeats 4000000 in
theorem fromPrimary_any (a : Option Addr) (n c : Nat) (qs : List Int) (r : Int) (w : World) (ha : RdI w a qs) (hl : qs.length = n) (hn : n ≤ 100000) (hx : ∀ x ∈ qs, isPP x) (hr0 : 0 ≤ r) (hr1 : r ≤ 1000) :
    Calls Try.prog 142 #[.slice a n c, .int .i64 r] w fun e w' => ∃ (R : List Int) (K d : Int) (a' : Option Addr) (c' : Nat), e = .returned (.tuple #[.agg #[.slice a' R.length c', .int .i64 K], .int .i64 d]) ∧ res_fp qs r R K d ∧ OwnI 2 w' w.heap.size a' R.length c' R ∧ Below w.heap.size w w' := by
  have HA := Lib.hid ha
  have HL := Lib.hid hl
  have HX := Lib.hid hx
  clear ha hl hx
  have hmm := @run_makeMap Try.prog
  go_enter Try.func142, Try.ntmps142
  go_wp2_with fail
  go_loopw [19] (fun i wr => ∃ (k : Nat), i = .int .i64 k ∧ k ≤ n ∧ Hid (∃ hd D, G1 w wr qs k hd D)) (fun i _ => n - (intOf i).toNat)
  case atStart =>
    refine ⟨0, rfl, Nat.zero_le _, Lib.hid ⟨fun _ => (0, 0, 0), .map [], ?_⟩⟩
    have hm := World.ownsMap_made (H := Unit) (w.alloc (.cells #[.slice none 0 0, .int .i64 0] 37)) Try.prog 2 codeS
    refine ⟨MG.start _ _, by simpa using hm, ((Below.refl _ _).alloc (Nat.le_refl _) _).alloc (by simp) _, by simp, (BX.new _ _ _).alloc _⟩
  case round =>
    obtain ⟨k, rfl, hk, HR⟩ := hrel
    by_cases hkn : k < n
    · have k1 : (k : Int) < n := by omega
      have k2 : decide ((k : Int) < n) = true := decide_eq_true k1
      have k3 : decide (k < n) = true := decide_eq_true hkn
      obtain ⟨hd, D, HG0⟩ := HR.out
      have HG := Lib.hid HG0
      clear HG0 HR
      obtain ⟨b0, o0, rfl, hc0⟩ := HA.out.keep HG.out.2.2.1 (Nat.le_refl _) (by rw [HL.out]; omega)
      have cx := hc0 k (by rw [HL.out]; exact hkn)
      have HPk := Lib.hid (HX.out (el qs k) (el_mem (by rw [HL.out]; exact hkn)))
      have hx2 : 2 ≤ el qs k ∧ el qs k ≤ 1000000 := ⟨HPk.out.1, HPk.out.2.1⟩
      clear hc0
      obtain ⟨x, hxe⟩ : ∃ x, x = el qs k := ⟨_, rfl⟩
      have HXE := Lib.hid hxe
      rw [← hxe] at cx hx2
      clear hxe
      obtain ⟨wo, rfl⟩ : ∃ x, x = wr := ⟨wr, rfl⟩
      go_wp2_with fail
      refine (factors_any x wo (by omega) hx2.2).mono ?_
      rintro e w2 ⟨a1, n1, c1, a2, n2, c2, rfl, ho1, ho2, _, hb⟩
      have px := primes_pos hx2.1 hx2.2
      have hn1 := ho1.len
      have hn0 : 0 < n1 := by omega
      obtain ⟨g1, o1, rfl, q1⟩ := ho1.rd px
      have HG1 : Hid (wo.heap.size ≤ g1) := Lib.hid (ho1.block _ rfl).1
      have y1 : w2.cell? ⟨g1, o1, none⟩ = some (.int .i64 (lpf x)) := q1 0 px
      have lg1 : g1 < w2.heap.size := by simpa using block_lt y1
      have HG2 : Hid (G1 w w2 qs k hd D) := Lib.hid (by
        obtain ⟨h1, h2, h3, h4, h5⟩ := HG.out
        exact ⟨h1.keep hb, ownsMap_same h2 (hb.block _ (by omega)), h3.trans (hb.mono h3.size), Nat.le_trans h4 hb.size, h5.keep hb⟩)
      clear ho1 ho2 hb q1 px hn1
      have HP64 : Hid (-9223372036854775808 ≤ lpf x ∧ lpf x ≤ 9223372036854775807) := Lib.hid (by
        have h9 := primes_bd hx2.1 hx2.2
        omega)
      obtain ⟨ag, ng, cg, hat, hown, hloc⟩ := HG2.out.1.at (lpf x)
      have HAT := Lib.hid hat
      have HOG := Lib.hid hown
      have HLOC := Lib.hid hloc
      have HGB : Hid (∀ q, ag = some q → q.block ≠ g1) := Lib.hid (fun q hq => by
        obtain ⟨e1, e2⟩ := hloc q hq
        have h1 := (HG.out.1.blk e1).2
        have h2 := HG1.out
        rw [e2]
        show (hd (lpf x)).1 ≠ g1
        omega)
      have HN9 : Hid (ng ≤ 100000) := Lib.hid (by
        have h1 := hown.len
        have h2 := List.length_filter_le (fun q => lpf q == lpf x) (qs.take k)
        unfold grp at h1
        rw [List.length_take] at h2
        have := HL.out
        omega)
      have HS2 : Hid (w.heap.size + 2 ≤ w2.heap.size) := Lib.hid HG2.out.2.2.2.1
      clear hat hown hloc
      obtain ⟨p, hpe⟩ : ∃ p, p = lpf x := ⟨_, rfl⟩
      have HPE := Lib.hid hpe
      rw [← hpe] at y1 HP64 HAT HOG HLOC
      clear hpe
      go_wp2_with fail
      have look0 : ∀ W : World, W.heap = w2.heap ∨ W.heap = (w2.alloc (.cells #[.int .i64 x] 2)).heap → (Instr.lookup 157 (.map (some (w.heap.size + 1))) (.int .i64 p) false).run Try.prog W = .ok (.slice ag ng cg) W := fun W hW => by
        rw [← HAT.out]
        rcases hW with hW | hW
        · exact lookupS (HG2.out.1.like hW) (ownsMap_like HG2.out.2.1 hW) HP64.out
        · exact lookupS ((HG2.out.1.alloc _).like hW) (ownsMap_like (HG2.out.2.1.alloc _) hW) HP64.out
      have look1 := look0 w2.drew (.inl rfl)
      have look2 := look0 (w2.drew.alloc (.cells #[.int .i64 x] 2)) (.inr rfl)
      have look3 := look0 (w2.alloc (.cells #[.int .i64 x] 2)).drew (.inr rfl)
      clear look0
      go_region_law (first
        | (refine step_pushW rfl (.tmp 36) (.tmp 38) 25 rfl (w.heap.size + 2) 2 (.int .i64 0) 8 Try.underlying25 Try.info2f rfl (by decide) (.int .i64 x) rfl ag ng cg ((grp (qs.take k) p).map (Value.int .i64)) w2.heap.size rfl rfl ?_ ?_ ?_ ?_ ?_; (simp); (exact (HOG.out.alloc _)); (exact Nat.le_trans HN9.out (by omega)); (exact Nat.le_trans HS2.out (by simp)); rintro a4 c4 w4 r4 q4 g4; obtain ⟨ga, hga⟩ := (OwnI.pushed r4).addr (by omega); subst hga; have hB9 : w.heap.size + 1 < w2.heap.size := (by have := HS2.out; omega); have ho4 : w4.ownsMap Try.prog 2 codeS (w.heap.size + 1) k D := ownsMap_same HG2.out.2.1 ((g4.block (w.heap.size + 1) (by simp; omega) (fun hx => by obtain ⟨q, hq, e⟩ := hx; have h9 := (HOG.out.block q hq).1; omega)).trans (Below.heap_alloc w2 _ _ hB9)); obtain ⟨w5, hrun5, hm5, hg5⟩ := ho4.update (val := .slice (some ⟨ga, 0, none⟩) (ng + 1) c4) (d := hdD (ga, ng + 1, c4)) (ps := []) keyLaw Try.underlying157 (by unfold maxLen; omega) (keyOfP HP64.out) rfl; have y4 : w4.cell? ⟨g1, o1, none⟩ = some (.int .i64 p) := (World.cell?_of_block (w := w2) (a := ⟨g1, o1, none⟩) ((g4.block g1 (by simp; omega) (fun hx => by obtain ⟨q, hq, e⟩ := hx; exact HGB.out q hq e)).trans (Below.heap_alloc w2 _ _ lg1))).trans y1; have HN : Hid (∃ hd D, G1 w w5 qs (k + 1) hd D) := Lib.hid (by have h1 := HXE.out; have h2 := HPE.out; subst h2; subst h1; exact ⟨_, _, G1.step (W := w2.alloc (.cells #[.int .i64 (el qs k)] 2)) HG2.out (by rw [HL.out]; exact hkn) HPk.out HP64.out HLOC.out ((Below.refl _ _).alloc (Nat.le_refl _) _) (by simp) r4 q4 ⟨g4.os, g4.tape, g4.output, g4.size, g4.block⟩ hm5 hg5⟩); clear r4 q4 g4 ho4 hm5 hg5 hB9)
        | fail)
      all_goals
        go_wp2_with fail
        go_roundw
        case rel => exact ⟨k + 1, by go_num, by omega, HN⟩
        case measure => simp [intOf]; omega
    · have hkn' : k = n := by omega
      obtain ⟨hd, D, HG0⟩ := HR.out
      have HG : Hid (MG wr (w.heap.size + 2) (grp qs) hd D ∧ wr.ownsMap Try.prog 2 codeS (w.heap.size + 1) n D ∧ Below w.heap.size w wr ∧ w.heap.size + 2 ≤ wr.heap.size ∧ BX 37 wr w.heap.size #[.slice none 0 0, .int .i64 0]) := Lib.hid (by
        unfold G1 at HG0
        rw [hkn'] at HG0
        rwa [List.take_of_length_le (by rw [HL.out]; omega)] at HG0)
      have k1 : ¬ (k : Int) < n := by omega
      have k2 : decide ((k : Int) < n) = false := decide_eq_false k1
      have k3 : decide (k < n) = false := decide_eq_false hkn
      have HQ1 : Hid (∀ q ∈ qs, 1 ≤ q) := Lib.hid (fun q hq => by have := (HX.out q hq).1; omega)
      have HPR : Hid (∀ p, grp qs p ≠ [] → -9223372036854775808 ≤ p ∧ p ≤ 9223372036854775807 ∧ p ∈ prs qs) := Lib.hid (fun p hp => by
        obtain ⟨q, h1, h2⟩ := grp_ne.1 hp
        have h3 := primes_bd (HX.out q h1).1 (HX.out q h1).2.1
        rw [h2] at h3
        exact ⟨by omega, by omega, prs_mem.2 ⟨q, h1, h2⟩⟩)
      clear HG0 HR hkn'
      obtain ⟨wo, rfl⟩ : ∃ x, x = wr := ⟨wr, rfl⟩
      go_wp2_with (at_range; refine wpList_range_own _ rfl _ 157 rfl 2 25 keyLaw Try.underlying157 codeS (w.heap.size + 1) n D rfl HG.out.2.1 ?_; intro w0 hrg0 hg0 hs0)
      (try go_frame)
      have hb0 : Below wo.heap.size wo w0 := ⟨hg0.os, hg0.tape, hg0.output, hg0.size, fun k hk => hg0.block k hk (by simp)⟩
      have HST : Hid (G2 w wo qs hd D n w0 (Maps.has D) (Maps.size D) [] none 0 0) := Lib.hid
        ⟨hrg0, fun p hp hl hg => (by rw [(HG.out.1.no p hp hg).1] at hl; cases hl),
          fun p hp hl => (HG.out.1.row p (fun hg => (by rw [(HG.out.1.no p hp hg).1] at hl; cases hl))).keep hb0 (Nat.le_refl _), List.nodup_nil,
          fun p hp => ⟨fun h => (by cases h), fun ⟨h1, h2⟩ => (by rw [(HG.out.1.yes p hp h1).1] at h2; cases h2)⟩, fun p h => (by cases h), (by simpa [nmax, tab] using OwnI.none), fun i => (by show (1 : Int) ≤ 1000000; omega),
          HG.out.2.2.1.trans (hb0.mono HG.out.2.2.1.size), HG.out.2.2.2.2.keep hb0, by omega⟩
      clear hrg0 hg0 hs0 hb0
      go_loopw [11] (fun u wr => ∃ (b : Option Addr) (m d : Nat), u = .slice b m d ∧ Hid (∃ left cnt dn, G2 w wo qs hd D n wr left cnt dn b m d)) (fun _ wr => wr.rangeLeft (w.heap.size + 1) wo.heap.size)
      case atStart => exact ⟨none, 0, 0, rfl, Lib.hid ⟨_, _, _, HST.out⟩⟩
      case round =>
        obtain ⟨b, m, d, rfl, HE⟩ := hrel
        obtain ⟨left, cnt, dn, HS0⟩ := HE.out
        have HS := Lib.hid HS0
        clear HS0 HE HST
        obtain ⟨wi, rfl⟩ : ∃ x, x = wr := ⟨wr, rfl⟩
        go_wp2_with (at_next; refine wpList_next_ranges _ rfl _ rfl 2 keyLaw codeS (Value.int .i64) (fun c : Option Addr × Nat × Nat => Value.slice c.1 c.2.1 c.2.2) (fun key kl hk => by obtain ⟨x, h1, _⟩ := Maps.keyOf_int_inv Try.underlying2 hk; exact ⟨x, h1⟩) (fun v y h => codeS_slice h) (w.heap.size + 1) wo.heap.size n D left cnt rfl HS.out.rg ?_ ?_)
        · intro hc0 hl0
          have HALL : Hid (∀ p, p ∈ prs qs → p ∈ dn) := Lib.hid (fun p hp => by
            obtain ⟨q, h1, h2⟩ := prs_mem.1 hp
            have h3 : grp qs p ≠ [] := grp_ne.2 ⟨q, h1, h2⟩
            have h4 := HPR.out p h3
            exact (HS.out.dn_ p ⟨h4.1, h4.2.1⟩).2 ⟨h3, hl0 _⟩)
          have HFD : Hid (tab (nmax dn qs) (fcol dn qs) = facD qs) := Lib.hid (facD_of HS.out.nd HALL.out)
          have HOK : Hid (okB qs = true) := Lib.hid (by unfold okB; rw [good_fcol HS.out.nd HALL.out HS.out.bd]; rfl)
          have HO : Hid (OwnI 2 wi (wo.heap.size + 1) b m d (facD qs)) := Lib.hid (by rw [← HFD.out]; exact HS.out.own)
          have HXX := Lib.hid HS.out.bx
          have HBB := Lib.hid HS.out.bel
          have hm9 : m ≤ 100000 := by
            have h1 := HO.out.len
            have h2 := nmax_le (prs qs) qs
            have h3 := HL.out
            unfold facD at h1
            rw [tab_len] at h1
            omega
          clear hc0 hl0
          by_cases hm0 : m = 0
          · subst hm0
            have HOG9 : Hid (OwnI 2 wi (wo.heap.size + 1) b 0 d (facG qs)) := Lib.hid (by
              have h1 := List.eq_nil_of_length_eq_zero HO.out.len
              have h2 := HO.out
              rw [h1] at h2
              unfold facG
              rw [h1]
              exact h2)
            go_wp2_with fail
            refine (rev_none b d wi).mono ?_
            rintro e w3 ⟨rfl, rfl⟩
            by_cases hr10 : 10 < r
            · have r1 : decide (10 < r) = true := decide_eq_true hr10
              have HR0 : Hid (res_fp qs r [] 0 3) := Lib.hid (fp_ab (by
                cases h : isAb (facG qs) r
                · rfl
                · exfalso; have := (isAb_ok h).2.1; omega))
              have X := (HXX.out.set 0 (.slice none 0 0)).set 1 (.int .i64 0)
              have y0 := X.cell 0
              have y1 := X.cell 1
              simp at y0 y1
              have l5 := HXX.out.lt
              have f0 := HXX.out.frz 0
              have f1 := HXX.out.frz 1
              have z0 := HXX.out.cell 0
              have z1 := HXX.out.cell 1
              simp at z0 z1
              clear X
              go_wp2_with fail
              refine bodyPost_ret (v := .tuple #[.agg #[.slice none 0 0, .int .i64 0], .int .i64 3]) (by simp [results, Try.results142, go_sem, y0, y1]) rfl ⟨[], 0, 3, none, 0, rfl, HR0.out, OwnI.none, ?_⟩
              exact (HBB.out.setCell (p := ⟨w.heap.size, 0, none⟩) (Nat.le_refl _) _).setCell (p := ⟨w.heap.size, 1, none⟩) (Nat.le_refl _) _
            · have r1 : decide (10 < r) = false := decide_eq_false hr10
              cases hab : isAb (facG qs) r
              · have HAB := Lib.hid hab
                have HR0 : Hid (res_fp qs r [] 0 3) := Lib.hid (fp_ab hab)
                clear hab
                go_wp2_with fail
                refine (abelianResult_f _ _ _ (facG qs) _ _ (by exact HOG9.out.rd) HOG9.out.len (by omega) HAB.out).mono ?_
                rintro e w5 ⟨rfl, hb⟩
                have HXY := HXX
                have HBC := HBB
                clear HXX HBB
                have HXX := Lib.hid (HXY.out.keep hb)
                have HBB : Hid (Below w.heap.size w w5) := Lib.hid (HBC.out.trans (hb.mono HBC.out.size))
                clear hb HXY HBC
                have X := (HXX.out.set 0 (.slice none 0 0)).set 1 (.int .i64 0)
                have y0 := X.cell 0
                have y1 := X.cell 1
                simp at y0 y1
                have l5 := HXX.out.lt
                have f0 := HXX.out.frz 0
                have f1 := HXX.out.frz 1
                have z0 := HXX.out.cell 0
                have z1 := HXX.out.cell 1
                simp at z0 z1
                clear X
                go_wp2_with fail
                refine bodyPost_ret (v := .tuple #[.agg #[.slice none 0 0, .int .i64 0], .int .i64 3]) (by simp [results, Try.results142, go_sem, y0, y1]) rfl ⟨[], 0, 3, none, 0, rfl, HR0.out, OwnI.none, ?_⟩
                exact (HBB.out.setCell (p := ⟨w.heap.size, 0, none⟩) (Nat.le_refl _) _).setCell (p := ⟨w.heap.size, 1, none⟩) (Nat.le_refl _) _
              · have HAB := Lib.hid hab
                have HR0 : Hid (res_fp qs r (facG qs) r 0) := Lib.hid (fp_ok HOK.out hab)
                clear hab
                go_wp2_with fail
                refine (abelianResult_t _ _ _ (facG qs) _ _ (by exact HOG9.out.rd) HOG9.out.len (by omega) HAB.out).mono ?_
                rintro e w5 ⟨rfl, hb⟩
                have HXY := HXX
                have HBC := HBB
                clear HXX HBB
                have HXX := Lib.hid (HXY.out.keep hb)
                have HBB : Hid (Below w.heap.size w w5) := Lib.hid (HBC.out.trans (hb.mono HBC.out.size))
                have HOGa := Lib.hid (HOG9.out.keep hb (Nat.le_refl _))
                have HLN := Lib.hid HOG9.out.len
                have HBO : Hid (w.heap.size < wo.heap.size + 1) := Lib.hid (by have := HG.out.2.2.2.1; omega)
                clear hb HXY HBC
                have X := (HXX.out.set 0 (.slice b 0 d)).set 1 (.int .i64 r)
                have y0 := X.cell 0
                have y1 := X.cell 1
                simp at y0 y1
                have l5 := HXX.out.lt
                have f0 := HXX.out.frz 0
                have f1 := HXX.out.frz 1
                have z0 := HXX.out.cell 0
                have z1 := HXX.out.cell 1
                simp at z0 z1
                clear X
                go_wp2_with fail
                refine bodyPost_ret (v := .tuple #[.agg #[.slice b 0 d, .int .i64 r], .int .i64 0]) (by simp [results, Try.results142, go_sem, y0, y1]) rfl ⟨facG qs, r, 0, b, d, by rw [HLN.out], HR0.out, ?_, ?_⟩
                · rw [HLN.out]
                  exact ((HOGa.out.setCell (p := ⟨w.heap.size, 0, none⟩) (by exact HBO.out) _).setCell (p := ⟨w.heap.size, 1, none⟩) (by exact HBO.out) _).mono (Nat.le_of_lt HBO.out)
                · exact (HBB.out.setCell (p := ⟨w.heap.size, 0, none⟩) (Nat.le_refl _) _).setCell (p := ⟨w.heap.size, 1, none⟩) (Nat.le_refl _) _
          · obtain ⟨g, rfl⟩ := HO.out.addr (by omega)
            go_wp2_with fail
            refine (rev_any (wo.heap.size + 1) g m d (facD qs) wi HO.out (by omega)).mono ?_
            rintro e w3 ⟨rfl, ho, hc⟩
            have HOG9 : Hid (OwnI 2 w3 (wo.heap.size + 1) (some ⟨g, 0, none⟩) m d (facG qs)) := Lib.hid ho
            have hgb : wo.heap.size + 1 ≤ g := (HO.out.block ⟨g, 0, none⟩ rfl).1
            have hwz := HG.out.2.2.2.1
            have HXY := HXX
            have HBC := HBB
            clear HXX HBB
            have HXX := Lib.hid (HXY.out.chg hc (by omega))
            have HBB : Hid (Below w.heap.size w w3) := Lib.hid (HBC.out.trans (hc.below HBC.out.size (fun t ht e => by omega)))
            clear ho hc HXY HBC hgb hwz
            by_cases hr10 : 10 < r
            · have r1 : decide (10 < r) = true := decide_eq_true hr10
              have HR0 : Hid (res_fp qs r [] 0 3) := Lib.hid (fp_ab (by
                cases h : isAb (facG qs) r
                · rfl
                · exfalso; have := (isAb_ok h).2.1; omega))
              have X := (HXX.out.set 0 (.slice none 0 0)).set 1 (.int .i64 0)
              have y0 := X.cell 0
              have y1 := X.cell 1
              simp at y0 y1
              have l5 := HXX.out.lt
              have f0 := HXX.out.frz 0
              have f1 := HXX.out.frz 1
              have z0 := HXX.out.cell 0
              have z1 := HXX.out.cell 1
              simp at z0 z1
              clear X
              go_wp2_with fail
              refine bodyPost_ret (v := .tuple #[.agg #[.slice none 0 0, .int .i64 0], .int .i64 3]) (by simp [results, Try.results142, go_sem, y0, y1]) rfl ⟨[], 0, 3, none, 0, rfl, HR0.out, OwnI.none, ?_⟩
              exact (HBB.out.setCell (p := ⟨w.heap.size, 0, none⟩) (Nat.le_refl _) _).setCell (p := ⟨w.heap.size, 1, none⟩) (Nat.le_refl _) _
            · have r1 : decide (10 < r) = false := decide_eq_false hr10
              cases hab : isAb (facG qs) r
              · have HAB := Lib.hid hab
                have HR0 : Hid (res_fp qs r [] 0 3) := Lib.hid (fp_ab hab)
                clear hab
                go_wp2_with fail
                refine (abelianResult_f _ _ _ (facG qs) _ _ (by exact HOG9.out.rd) HOG9.out.len (by omega) HAB.out).mono ?_
                rintro e w5 ⟨rfl, hb⟩
                have HXY := HXX
                have HBC := HBB
                clear HXX HBB
                have HXX := Lib.hid (HXY.out.keep hb)
                have HBB : Hid (Below w.heap.size w w5) := Lib.hid (HBC.out.trans (hb.mono HBC.out.size))
                clear hb HXY HBC
                have X := (HXX.out.set 0 (.slice none 0 0)).set 1 (.int .i64 0)
                have y0 := X.cell 0
                have y1 := X.cell 1
                simp at y0 y1
                have l5 := HXX.out.lt
                have f0 := HXX.out.frz 0
                have f1 := HXX.out.frz 1
                have z0 := HXX.out.cell 0
                have z1 := HXX.out.cell 1
                simp at z0 z1
                clear X
                go_wp2_with fail
                refine bodyPost_ret (v := .tuple #[.agg #[.slice none 0 0, .int .i64 0], .int .i64 3]) (by simp [results, Try.results142, go_sem, y0, y1]) rfl ⟨[], 0, 3, none, 0, rfl, HR0.out, OwnI.none, ?_⟩
                exact (HBB.out.setCell (p := ⟨w.heap.size, 0, none⟩) (Nat.le_refl _) _).setCell (p := ⟨w.heap.size, 1, none⟩) (Nat.le_refl _) _
              · have HAB := Lib.hid hab
                have HR0 : Hid (res_fp qs r (facG qs) r 0) := Lib.hid (fp_ok HOK.out hab)
                clear hab
                go_wp2_with fail
                refine (abelianResult_t _ _ _ (facG qs) _ _ (by exact HOG9.out.rd) HOG9.out.len (by omega) HAB.out).mono ?_
                rintro e w5 ⟨rfl, hb⟩
                have HXY := HXX
                have HBC := HBB
                clear HXX HBB
                have HXX := Lib.hid (HXY.out.keep hb)
                have HBB : Hid (Below w.heap.size w w5) := Lib.hid (HBC.out.trans (hb.mono HBC.out.size))
                have HOGa := Lib.hid (HOG9.out.keep hb (Nat.le_refl _))
                have HLN := Lib.hid HOG9.out.len
                have HBO : Hid (w.heap.size < wo.heap.size + 1) := Lib.hid (by have := HG.out.2.2.2.1; omega)
                clear hb HXY HBC
                have X := (HXX.out.set 0 (.slice (some ⟨g, 0, none⟩) m d)).set 1 (.int .i64 r)
                have y0 := X.cell 0
                have y1 := X.cell 1
                simp at y0 y1
                have l5 := HXX.out.lt
                have f0 := HXX.out.frz 0
                have f1 := HXX.out.frz 1
                have z0 := HXX.out.cell 0
                have z1 := HXX.out.cell 1
                simp at z0 z1
                clear X
                go_wp2_with fail
                refine bodyPost_ret (v := .tuple #[.agg #[.slice (some ⟨g, 0, none⟩) m d, .int .i64 r], .int .i64 0]) (by simp [results, Try.results142, go_sem, y0, y1]) rfl ⟨facG qs, r, 0, (some ⟨g, 0, none⟩), d, by rw [HLN.out], HR0.out, ?_, ?_⟩
                · rw [HLN.out]
                  exact ((HOGa.out.setCell (p := ⟨w.heap.size, 0, none⟩) (by exact HBO.out) _).setCell (p := ⟨w.heap.size, 1, none⟩) (by exact HBO.out) _).mono (Nat.le_of_lt HBO.out)
                · exact (HBB.out.setCell (p := ⟨w.heap.size, 0, none⟩) (Nat.le_refl _) _).setCell (p := ⟨w.heap.size, 1, none⟩) (Nat.le_refl _) _
        · intro x ac nc cc kl yd yp w1 cnt1 hkey hlk hv hat hrg1 hlt hg1 hs1 hen
          obtain ⟨x', hx1, hx2, hx3⟩ := Maps.keyOf_int_inv Try.underlying2 hkey
          injection hx1 with _ hx1
          subst hx1
          subst hx2
          have hx64 : -9223372036854775808 ≤ x ∧ x ≤ 9223372036854775807 := by
            simp [Lit.wf, IntKind.min, IntKind.max, IntKind.signed, IntKind.bits] at hx3
            omega
          have hgx := HS.out.lf x hx64 hlk
          have hyd : yd = hdD (hd x) := by
            have h1 := hat noD
            rw [(HG.out.1.yes x hx64 hgx).2] at h1
            exact h1.symm
          have hval := codeS_hd (v := .slice ac nc cc) (h := hd x) (ps := yp) (by rw [← hyd]; exact hv)
          have hrow := HS.out.row x hx64 hlk
          have hblk := HG.out.1.blk hgx
          obtain ⟨t, htt⟩ : ∃ t, t = hd x := ⟨_, rfl⟩
          have HT := Lib.hid htt
          rw [← htt] at hval hrow hblk
          clear htt hyd hat hv hx3 hkey
          obtain ⟨G, N, C⟩ := t
          simp only at hval hrow hblk
          injection hval with e1 e2 e3
          have e1' := e1.symm
          clear e1
          have e2' := e2.symm
          clear e2
          have e3' := e3.symm
          clear e3
          first | subst e1' | subst e1'.symm
          subst e2'
          subst e3'
          have hc1 := grown_chg hg1
          have HGL : Hid (G < wo.heap.size) := Lib.hid hblk.2
          have HGW : Hid (w.heap.size + 2 ≤ G) := Lib.hid hblk.1
          have HNL : Hid ((grp qs x).length = N) := Lib.hid hrow.len
          have hN : N ≤ 100000 := by
            have h1 := List.length_filter_le (fun q => lpf q == x) qs
            have h2 := HNL.out
            have h3 := HL.out
            unfold grp at h2
            omega
          have HDL : Hid ((dsc qs x).length = N) := Lib.hid (by rw [dsc_len]; exact HNL.out)
          have HRW1 : Hid (OwnI 2 w1 (w.heap.size + 2) (some ⟨G, 0, none⟩) N C (grp qs x)) := Lib.hid (hrow.kept hc1 (fun p hp e => by injection hp with hp; subst hp; have := hblk.2; simp at e; omega))
          have HK : Hid (∀ p, -9223372036854775808 ≤ p ∧ p ≤ 9223372036854775807 → (left (.int .i64 p) && !(Lit.int .i64 p).sameKey (.int .i64 x)) = if p = x then false else left (.int .i64 p)) := Lib.hid (fun p hp => by
            by_cases e : p = x
            · rw [if_pos e, e, WideAt.sameKey_self (isKeyP hx64)]; simp
            · rw [if_neg e, Maps.sameKey_ne (fun e1 => e (by injection e1))]; simp)
          have HND : Hid ((dn ++ [x]).Nodup) := Lib.hid (List.nodup_append.2 ⟨HS.out.nd, by simp, fun a ha b hb e => by
            simp at hb
            rw [hb] at e
            rw [e] at ha
            have := ((HS.out.dn_ x hx64).1 ha).2
            rw [hlk] at this
            cases this⟩)
          have HPRS : Hid (∀ p ∈ dn ++ [x], p ∈ prs qs) := Lib.hid (fun p hp => by
            rcases List.mem_append.1 hp with h | h
            · exact (HPR.out p (HS.out.dI p h)).2.2
            · simp at h; rw [h]; exact (HPR.out x hgx).2.2)
          have HX64 := Lib.hid hx64
          have HGX := Lib.hid hgx
          have HLK := Lib.hid hlk
          have HC1 := Lib.hid hc1
          have HRG1 := Lib.hid hrg1
          have HLT := Lib.hid hlt
          clear hrow hblk hx64 hgx hlk hc1 hrg1 hg1 hlt
          go_wp2_with fail
          refine (sortO_any (w.heap.size + 2) G N C (grp qs x) w1 HRW1.out (by omega)).mono ?_
          rintro e w2 ⟨rfl, ho, hc2⟩
          have HRW2 := Lib.hid ho
          have HC2 := Lib.hid hc2
          clear ho hc2
          go_wp2_with fail
          refine (rev_any (w.heap.size + 2) G N C (sortA (grp qs x)) w2 HRW2.out (by omega)).mono ?_
          rintro e w3 ⟨rfl, ho, hc3⟩
          have HROW : Hid (OwnI 2 w3 (w.heap.size + 2) (some ⟨G, 0, none⟩) N C (dsc qs x)) := Lib.hid ho
          have HCC : Hid (Chg (fun j => j = G) w1 w3) := Lib.hid (HC2.out.trans hc3)
          clear ho hc3 HC2 HRW1 HRW2
          have HBL3 : Hid (Below w.heap.size w w3) := Lib.hid (by
            have h1 := HG.out.2.2.2.1
            have h2 := HGW.out
            have h3 := HS.out.bel
            have h4 := h3.size
            have h5 := HC1.out.size
            exact (h3.trans (HC1.out.below (by omega) (fun j hj e => by omega))).trans (HCC.out.below (by omega) (fun j hj e => by omega)))
          have HBX3 : Hid (BX 37 w3 w.heap.size #[.slice none 0 0, .int .i64 0]) := Lib.hid (by
            have h1 := HG.out.2.2.2.1
            have h2 := HGW.out
            exact (HS.out.bx.chg HC1.out (by omega)).chg HCC.out (by omega))
          have HRG3 : Hid (w3.ranges Try.prog 2 codeS (w.heap.size + 1) wo.heap.size n D (fun z => left z && !z.sameKey (.int .i64 x)) cnt1) := Lib.hid (by
            have h1 := HGL.out
            have h2 := HGW.out
            exact HRG1.out.kept (chg_grown HCC.out) (fun e => by injection e with e; omega) (fun e => by injection e with e; omega))
          have HRO3 : Hid (∀ p, -9223372036854775808 ≤ p ∧ p ≤ 9223372036854775807 → p ≠ x → left (.int .i64 p) = true → OwnI 2 w3 (w.heap.size + 2) (some ⟨(hd p).1, 0, none⟩) (hd p).2.1 (hd p).2.2 (grp qs p)) := Lib.hid (fun p hp hpx hl => by
            have hgp := HS.out.lf p hp hl
            have hlt := (HG.out.1.blk hgp).2
            have hap := HG.out.1.apart p x hpx hgp HGX.out
            rw [← HT.out] at hap
            refine ((HS.out.row p hp hl).kept HC1.out (fun q hq e => ?_)).kept HCC.out (fun q hq e => ?_)
            · injection hq with hq; subst hq; simp at e; omega
            · injection hq with hq; subst hq; exact hap e)
          have HOW3 : Hid (OwnI 2 w3 (wo.heap.size + 1) b m d (lstP dn qs x 0)) := Lib.hid (by
            rw [lstP_start]
            have hgl := HGL.out
            refine (HS.out.own.kept HC1.out (fun q hq e => ?_)).kept HCC.out (fun q hq e => ?_)
            · have := (HS.out.own.block q hq).1; omega
            · have := (HS.out.own.block q hq).1; omega)
          have HSZ3 : Hid (wo.heap.size + 1 ≤ w3.heap.size) := Lib.hid (by have := HS.out.sz; have := HC1.out.size; have := HCC.out.size; omega)
          clear HC1 HCC HRG1
          have hN0 : (0 : Int) ≤ N := by omega
          go_wp2_with fail
          go_loopw [11, 53] (fun u i wr => ∃ (i' : Nat) (b : Option Addr) (m d : Nat), u = .slice b m d ∧ i = .int .i64 i' ∧ i' ≤ N ∧ Hid (OwnI 2 wr (wo.heap.size + 1) b m d (lstP dn qs x i') ∧ (∀ j, j < i' → fcol dn qs j * gd (dsc qs x) j ≤ 1000000) ∧ Below (wo.heap.size + 1) w3 wr)) (fun _ i _ => N - (intOf i).toNat)
          case atStart => exact ⟨0, b, m, d, rfl, rfl, Nat.zero_le _, Lib.hid ⟨HOW3.out, fun j hj => absurd hj (Nat.not_lt_zero _), Below.refl _ _⟩⟩
          case round =>
            obtain ⟨i, bl, ml, dl, rfl, rfl, hi, HI⟩ := hrel
            obtain ⟨wj, rfl⟩ : ∃ x, x = wr := ⟨wr, rfl⟩
            by_cases hiN : i < N
            · have i1 : (i : Int) < N := by omega
              have i2 : decide ((i : Int) < N) = true := decide_eq_true i1
              have i3 : decide (i < N) = true := decide_eq_true hiN
              have HRWj : Hid (OwnI 2 wj (w.heap.size + 2) (some ⟨G, 0, none⟩) N C (dsc qs x)) := Lib.hid (HROW.out.same (fun p hp => HI.out.2.2.block _ (by injection hp with hp; subst hp; exact Nat.lt_succ_of_lt HGL.out)))
              have cq := HRWj.out.cellAt (i := i) hiN
              obtain ⟨Q, hQ⟩ : ∃ Q, Q = el (dsc qs x) i := ⟨_, rfl⟩
              have HQe := Lib.hid hQ
              rw [← hQ] at cq
              clear hQ
              have hQb : 2 ≤ Q ∧ Q ≤ 1000000 := by
                have h1 := dsc_mem.1 (el_mem (xs := dsc qs x) (i := i) (by rw [HDL.out]; exact hiN))
                rw [← HQe.out] at h1
                exact ⟨(HX.out Q h1.1).1, (HX.out Q h1.1).2.1⟩
              obtain ⟨hQ1, hQ2⟩ := hQb
              have hlj := HI.out.1.len
              have hml9 : ml ≤ 1000000 := by
                rw [lstP_len] at hlj
                have h2 := nmax_le dn qs
                have h3 := HL.out
                omega
              by_cases him : i = ml
              · have e1 : ((i : Int) == (ml : Int)) = true := by simp [him]
                have e2 : (i == ml) = true := by simp [him]
                have HIM := Lib.hid him
                have HGR : Hid (lstP dn qs x i ++ [1] = lstQ dn qs x i) := Lib.hid (lstQ_grow (by rw [hlj]; exact him.symm))
                clear him hlj
                have hsz9 : wo.heap.size + 1 ≤ wj.heap.size := by have := HSZ3.out; have := HI.out.2.2.size; omega
                go_wp2_with (at_builtin; refine wpList_push rfl (.tmp 62) (.tmp 63) 25 rfl (wo.heap.size + 1) 2 (.int .i64 0) 8 Try.underlying25 Try.info2f rfl (by decide) (.int .i64 1) rfl _ _ _ _ rfl rfl (by exact HI.out.1) (by omega) (by exact hsz9) ?_; rintro a4 d4 w4 r4 q4 g4; have HLP : Hid (OwnI 2 w4 (wo.heap.size + 1) a4 (ml + 1) d4 (lstQ dn qs x i)) := Lib.hid (by rw [← HGR.out]; exact OwnI.pushed r4); have HB4 : Hid (Below (wo.heap.size + 1) w3 w4) := Lib.hid (HI.out.2.2.trans (g4.below hsz9 (fun t ht hx => by obtain ⟨p, hp, e⟩ := hx; have := (HI.out.1.block p hp).1; omega))); obtain ⟨m4, hm4⟩ : ∃ m4, m4 = ml + 1 := ⟨_, rfl⟩; have HM4 := Lib.hid hm4; clear hm4 r4 q4 g4)
                have HL4 : Hid (OwnI 2 w4 (wo.heap.size + 1) a4 m4 d4 (lstQ dn qs x i)) := Lib.hid (by rw [HM4.out]; exact HLP.out)
                clear HLP
                try rw [← HM4.out]
                have HRW4 : Hid (OwnI 2 w4 (w.heap.size + 2) (some ⟨G, 0, none⟩) N C (dsc qs x)) := Lib.hid (HROW.out.same (fun p hp => HB4.out.block _ (by injection hp with hp; subst hp; exact Nat.lt_succ_of_lt HGL.out)))
                have hlen4 := HL4.out.len
                rw [lstQ_len] at hlen4
                have him4 : i < m4 := by omega
                have him4' : (i : Int) < m4 := by omega
                obtain ⟨gl, hgl⟩ := HL4.out.addr (by omega)
                subst hgl
                have HLX : Hid (OwnI 2 w4 (wo.heap.size + 1) (some ⟨gl, 0, none⟩) m4 d4 (lstQ dn qs x i)) := HL4
                have cl := HLX.out.cellAt (i := i) him4
                rw [lstQ_el] at cl
                have fl := HLX.out.frozen i
                obtain ⟨P, hP⟩ : ∃ P, P = fcol dn qs i := ⟨_, rfl⟩
                have HPe := Lib.hid hP
                rw [← hP] at cl
                clear hP hlen4
                have hP1 : 1 ≤ P := by rw [HPe.out]; exact fcol_pos HQ1.out i
                have hP2 : P ≤ 1000000 := by rw [HPe.out]; exact HS.out.bd i
                have eq1 : (1000000 : Int).tdiv Q = 1000000 / Q := Int.tdiv_eq_ediv_of_nonneg (by omega)
                have HBAD : Hid (1000000 / Q < P → okB qs = false) := Lib.hid (fun hz => by
                  unfold okB
                  rw [bad_fcol (D := dn ++ [x]) (i := i) HND.out HPRS.out HQ1.out ?_]
                  · rfl
                  · rw [fcol_snoc, ← HPe.out, gd_lt (by rw [HDL.out]; exact hiN), ← HQe.out]
                    rcases Int.lt_or_le 1000000 (P * Q) with h | h
                    · exact h
                    · exfalso
                      have := Int.le_ediv_of_mul_le (a := P) (b := 1000000) (c := Q) (by omega) h
                      omega)
                have HLE : Hid (¬ 1000000 / Q < P → 1 ≤ P * Q ∧ P * Q ≤ 1000000) := Lib.hid (fun hz => by
                  have h2 := Int.mul_le_mul_of_nonneg_right (show P ≤ 1000000 / Q by omega) (show 0 ≤ Q by omega)
                  have h3 := Int.ediv_mul_le 1000000 (show Q ≠ 0 by omega)
                  have h4 := Int.mul_le_mul hP1 (show 1 ≤ Q by omega) (by omega) (by omega)
                  omega)
                have hQ0 : ¬ Q = 0 := by omega
                obtain ⟨Z, hZ⟩ : ∃ Z, Z = 1000000 / Q := ⟨_, rfl⟩
                have hZ0 : 0 ≤ Z := by rw [hZ]; exact Int.ediv_nonneg (by omega) (by omega)
                have hZ1 : Z ≤ 1000000 := by rw [hZ]; exact Int.ediv_le_self _ (by omega)
                rw [← hZ] at eq1 HBAD HLE
                clear hZ
                have HXX : Hid (BX 37 w4 w.heap.size #[.slice none 0 0, .int .i64 0]) := Lib.hid ((HB4.out.block _ (by have := HG.out.2.2.2.1; omega)).trans HBX3.out)
                have HBB : Hid (Below w.heap.size w w4) := Lib.hid (HBL3.out.trans (HB4.out.mono (by have := HG.out.2.2.2.1; omega)))
                go_quiet (fail)
                by_cases hz : Z < P
                · have hzd : decide (Z < P) = true := decide_eq_true hz
                  have HR0 : Hid (res_fp qs r [] 0 3) := Lib.hid (fp_bad (HBAD.out hz))
                  have X : ∀ q, BX 37 (((w4.drewN q).setCell ⟨w.heap.size, 0, none⟩ (.slice none 0 0)).setCell ⟨w.heap.size, 1, none⟩ (.int .i64 0)) w.heap.size #[.slice none 0 0, .int .i64 0] := fun q => BX.set (BX.set (show BX 37 (w4.drewN q) w.heap.size #[.slice none 0 0, .int .i64 0] from HXX.out) 0 (.slice none 0 0)) 1 (.int .i64 0)
                  have y0 : ∀ q, _ := fun q => (X q).cell 0
                  have y1 : ∀ q, _ := fun q => (X q).cell 1
                  simp at y0 y1
                  have l5 := HXX.out.lt
                  have f0 := HXX.out.frz 0
                  have f1 := HXX.out.frz 1
                  have z0 := HXX.out.cell 0
                  have z1 := HXX.out.cell 1
                  simp at z0 z1
                  clear X
                  go_wp2_with fail
                  refine bodyPost_ret (v := .tuple #[.agg #[.slice none 0 0, .int .i64 0], .int .i64 3]) (by simp [results, Try.results142, go_sem, y0, y1]) rfl ⟨[], 0, 3, none, 0, rfl, HR0.out, OwnI.none, ?_⟩
                  exact ((below_drewN' HBB.out _).setCell (p := ⟨w.heap.size, 0, none⟩) (Nat.le_refl _) _).setCell (p := ⟨w.heap.size, 1, none⟩) (Nat.le_refl _) _
                · have hzd : decide (Z < P) = false := decide_eq_false hz
                  obtain ⟨pa1, pa2⟩ := HLE.out hz
                  have HSE : Hid (∀ q, OwnI 2 ((w4.drewN q).setCell ⟨gl, i, none⟩ (.int .i64 (P * Q))) (wo.heap.size + 1) (some ⟨gl, 0, none⟩) m4 d4 (lstP dn qs x (i + 1)) ∧ Below (wo.heap.size + 1) w3 ((w4.drewN q).setCell ⟨gl, i, none⟩ (.int .i64 (P * Q)))) := Lib.hid (fun q => by
                    have h1 : OwnI 2 (w4.drewN q) (wo.heap.size + 1) (some ⟨gl, 0, none⟩) m4 d4 (lstQ dn qs x i) := HLX.out.drewN q
                    have h2 := h1.set (k := i) him4 (P * Q)
                    have hgl2 := (HLX.out.block ⟨gl, 0, none⟩ rfl).1
                    refine ⟨?_, (below_drewN' HB4.out q).setCell (p := ⟨gl, i, none⟩) hgl2 _⟩
                    rw [← lstQ_set, gd_lt (by rw [HDL.out]; exact hiN), ← HQe.out, ← HPe.out]
                    exact h2)
                  have HFB : Hid (∀ j, j < i + 1 → fcol dn qs j * gd (dsc qs x) j ≤ 1000000) := Lib.hid (fun j hj => by
                    rcases Nat.lt_or_ge j i with h | h
                    · exact HI.out.2.1 j h
                    · have : j = i := by omega
                      subst this
                      rw [gd_lt (by rw [HDL.out]; exact hiN), ← HQe.out, ← HPe.out]
                      exact pa2)
                  go_wp2_with fail
                  go_roundw
                  case rel => exact ⟨i + 1, (some ⟨gl, 0, none⟩), m4, d4, rfl, by go_num, by omega, Lib.hid ⟨(HSE.out _).1, HFB.out, (HSE.out _).2⟩⟩
                  case measure => simp [intOf]; omega
              · have e1 : ((i : Int) == (ml : Int)) = false := by simp; omega
                have e2 : (i == ml) = false := by simp [him]
                have HL4 : Hid (OwnI 2 wj (wo.heap.size + 1) bl ml dl (lstQ dn qs x i)) := Lib.hid (by rw [← lstQ_same (by rw [hlj]; exact fun e => him e.symm)]; exact HI.out.1)
                have HB4 : Hid (Below (wo.heap.size + 1) w3 wj) := Lib.hid HI.out.2.2
                clear him hlj
                go_wp2_with fail
                obtain ⟨m4, rfl⟩ : ∃ m4, m4 = ml := ⟨_, rfl⟩
                obtain ⟨d4, rfl⟩ : ∃ d4, d4 = dl := ⟨_, rfl⟩
                have HRW4 : Hid (OwnI 2 wj (w.heap.size + 2) (some ⟨G, 0, none⟩) N C (dsc qs x)) := Lib.hid (HROW.out.same (fun p hp => HB4.out.block _ (by injection hp with hp; subst hp; exact Nat.lt_succ_of_lt HGL.out)))
                have hlen4 := HL4.out.len
                rw [lstQ_len] at hlen4
                have him4 : i < m4 := by omega
                have him4' : (i : Int) < m4 := by omega
                obtain ⟨gl, hgl⟩ := HL4.out.addr (by omega)
                subst hgl
                have HLX : Hid (OwnI 2 wj (wo.heap.size + 1) (some ⟨gl, 0, none⟩) m4 d4 (lstQ dn qs x i)) := HL4
                have cl := HLX.out.cellAt (i := i) him4
                rw [lstQ_el] at cl
                have fl := HLX.out.frozen i
                obtain ⟨P, hP⟩ : ∃ P, P = fcol dn qs i := ⟨_, rfl⟩
                have HPe := Lib.hid hP
                rw [← hP] at cl
                clear hP hlen4
                have hP1 : 1 ≤ P := by rw [HPe.out]; exact fcol_pos HQ1.out i
                have hP2 : P ≤ 1000000 := by rw [HPe.out]; exact HS.out.bd i
                have eq1 : (1000000 : Int).tdiv Q = 1000000 / Q := Int.tdiv_eq_ediv_of_nonneg (by omega)
                have HBAD : Hid (1000000 / Q < P → okB qs = false) := Lib.hid (fun hz => by
                  unfold okB
                  rw [bad_fcol (D := dn ++ [x]) (i := i) HND.out HPRS.out HQ1.out ?_]
                  · rfl
                  · rw [fcol_snoc, ← HPe.out, gd_lt (by rw [HDL.out]; exact hiN), ← HQe.out]
                    rcases Int.lt_or_le 1000000 (P * Q) with h | h
                    · exact h
                    · exfalso
                      have := Int.le_ediv_of_mul_le (a := P) (b := 1000000) (c := Q) (by omega) h
                      omega)
                have HLE : Hid (¬ 1000000 / Q < P → 1 ≤ P * Q ∧ P * Q ≤ 1000000) := Lib.hid (fun hz => by
                  have h2 := Int.mul_le_mul_of_nonneg_right (show P ≤ 1000000 / Q by omega) (show 0 ≤ Q by omega)
                  have h3 := Int.ediv_mul_le 1000000 (show Q ≠ 0 by omega)
                  have h4 := Int.mul_le_mul hP1 (show 1 ≤ Q by omega) (by omega) (by omega)
                  omega)
                have hQ0 : ¬ Q = 0 := by omega
                obtain ⟨Z, hZ⟩ : ∃ Z, Z = 1000000 / Q := ⟨_, rfl⟩
                have hZ0 : 0 ≤ Z := by rw [hZ]; exact Int.ediv_nonneg (by omega) (by omega)
                have hZ1 : Z ≤ 1000000 := by rw [hZ]; exact Int.ediv_le_self _ (by omega)
                rw [← hZ] at eq1 HBAD HLE
                clear hZ
                have HXX : Hid (BX 37 wj w.heap.size #[.slice none 0 0, .int .i64 0]) := Lib.hid ((HB4.out.block _ (by have := HG.out.2.2.2.1; omega)).trans HBX3.out)
                have HBB : Hid (Below w.heap.size w wj) := Lib.hid (HBL3.out.trans (HB4.out.mono (by have := HG.out.2.2.2.1; omega)))
                go_quiet (fail)
                by_cases hz : Z < P
                · have hzd : decide (Z < P) = true := decide_eq_true hz
                  have HR0 : Hid (res_fp qs r [] 0 3) := Lib.hid (fp_bad (HBAD.out hz))
                  have X : ∀ q, BX 37 (((wj.drewN q).setCell ⟨w.heap.size, 0, none⟩ (.slice none 0 0)).setCell ⟨w.heap.size, 1, none⟩ (.int .i64 0)) w.heap.size #[.slice none 0 0, .int .i64 0] := fun q => BX.set (BX.set (show BX 37 (wj.drewN q) w.heap.size #[.slice none 0 0, .int .i64 0] from HXX.out) 0 (.slice none 0 0)) 1 (.int .i64 0)
                  have y0 : ∀ q, _ := fun q => (X q).cell 0
                  have y1 : ∀ q, _ := fun q => (X q).cell 1
                  simp at y0 y1
                  have l5 := HXX.out.lt
                  have f0 := HXX.out.frz 0
                  have f1 := HXX.out.frz 1
                  have z0 := HXX.out.cell 0
                  have z1 := HXX.out.cell 1
                  simp at z0 z1
                  clear X
                  go_wp2_with fail
                  refine bodyPost_ret (v := .tuple #[.agg #[.slice none 0 0, .int .i64 0], .int .i64 3]) (by simp [results, Try.results142, go_sem, y0, y1]) rfl ⟨[], 0, 3, none, 0, rfl, HR0.out, OwnI.none, ?_⟩
                  exact ((below_drewN' HBB.out _).setCell (p := ⟨w.heap.size, 0, none⟩) (Nat.le_refl _) _).setCell (p := ⟨w.heap.size, 1, none⟩) (Nat.le_refl _) _
                · have hzd : decide (Z < P) = false := decide_eq_false hz
                  obtain ⟨pa1, pa2⟩ := HLE.out hz
                  have HSE : Hid (∀ q, OwnI 2 ((wj.drewN q).setCell ⟨gl, i, none⟩ (.int .i64 (P * Q))) (wo.heap.size + 1) (some ⟨gl, 0, none⟩) m4 d4 (lstP dn qs x (i + 1)) ∧ Below (wo.heap.size + 1) w3 ((wj.drewN q).setCell ⟨gl, i, none⟩ (.int .i64 (P * Q)))) := Lib.hid (fun q => by
                    have h1 : OwnI 2 (wj.drewN q) (wo.heap.size + 1) (some ⟨gl, 0, none⟩) m4 d4 (lstQ dn qs x i) := HLX.out.drewN q
                    have h2 := h1.set (k := i) him4 (P * Q)
                    have hgl2 := (HLX.out.block ⟨gl, 0, none⟩ rfl).1
                    refine ⟨?_, (below_drewN' HB4.out q).setCell (p := ⟨gl, i, none⟩) hgl2 _⟩
                    rw [← lstQ_set, gd_lt (by rw [HDL.out]; exact hiN), ← HQe.out, ← HPe.out]
                    exact h2)
                  have HFB : Hid (∀ j, j < i + 1 → fcol dn qs j * gd (dsc qs x) j ≤ 1000000) := Lib.hid (fun j hj => by
                    rcases Nat.lt_or_ge j i with h | h
                    · exact HI.out.2.1 j h
                    · have : j = i := by omega
                      subst this
                      rw [gd_lt (by rw [HDL.out]; exact hiN), ← HQe.out, ← HPe.out]
                      exact pa2)
                  go_wp2_with fail
                  go_roundw
                  case rel => exact ⟨i + 1, (some ⟨gl, 0, none⟩), m4, d4, rfl, by go_num, by omega, Lib.hid ⟨(HSE.out _).1, HFB.out, (HSE.out _).2⟩⟩
                  case measure => simp [intOf]; omega
            · have hiN' : i = N := by omega
              have HFIN : Hid (∃ left cnt dn', G2 w wo qs hd D n wj left cnt dn' bl ml dl ∧ cnt = cnt1) := Lib.hid (by
                have h1 := HGL.out
                have h2 := HG.out.2.2.2.1
                refine ⟨_, _, dn ++ [x], ⟨ranges_same HRG3.out (HI.out.2.2.block _ (by omega)) (HI.out.2.2.block _ (by omega)), fun p hp hl => ?_, fun p hp hl => ?_, HND.out, fun p hp => ?_, fun p hp => ?_, ?_, fun j => ?_, HBL3.out.trans (HI.out.2.2.mono (by omega)), (HI.out.2.2.block _ (by omega)).trans HBX3.out, ?_⟩, rfl⟩
                · rw [HK.out p hp] at hl
                  split at hl
                  · cases hl
                  · exact HS.out.lf p hp hl
                · rw [HK.out p hp] at hl
                  split at hl
                  · cases hl
                  · rename_i hpx
                    refine (HRO3.out p hp hpx hl).same (fun q hq => HI.out.2.2.block _ ?_)
                    injection hq with hq; subst hq
                    have := (HG.out.1.blk (HS.out.lf p hp hl)).2
                    simp; omega
                · rw [HK.out p hp, List.mem_append]
                  by_cases e : p = x
                  · rw [if_pos e, e]
                    simp [HGX.out]
                  · rw [if_neg e, ← HS.out.dn_ p hp]
                    simp [e]
                · rcases List.mem_append.1 hp with h | h
                  · exact HS.out.dI p h
                  · simp at h; rw [h]; exact HGX.out
                · have := HI.out.1
                  rwa [hiN', ← HDL.out, lstP_end] at this
                · rw [fcol_snoc]
                  by_cases hj : j < i
                  · exact HI.out.2.1 j hj
                  · rw [gd_ge (by rw [HDL.out]; omega), Int.mul_one]; exact HS.out.bd j
                · have := HSZ3.out; have := HI.out.2.2.size; omega)
              have i1 : ¬ (i : Int) < N := by omega
              have i2 : decide ((i : Int) < N) = false := decide_eq_false i1
              have i3 : decide (i < N) = false := decide_eq_false hiN
              clear hiN'
              go_wp2_with fail
              go_roundw
              case rel =>
                obtain ⟨l', c', dn', h1, h2⟩ := HFIN.out
                exact ⟨bl, ml, dl, rfl, Lib.hid ⟨l', c', dn', h1⟩⟩
              case measure =>
                obtain ⟨l', c', dn', h1, h2⟩ := HFIN.out
                rw [h1.rg.left_eq, HS.out.rg.left_eq]
                have := HLT.out
                omega
end Go.Proofs.Ytkidohohiihbaaa
