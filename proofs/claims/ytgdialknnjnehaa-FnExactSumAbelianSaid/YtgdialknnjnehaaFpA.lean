/- SumAbelian: the program's and the reference's. -/
import Derived.Test.YtgdialknnjnehaaFpF
import Derived.Test.YtgdialknnjnehaaPpE
import Derived.Test.YtgdialknnjnehaaApp
import Derived.Deep.RegionHeld3
set_option linter.unusedVariables false
set_option linter.unusedSimpArgs false
namespace Go.Proofs.Ytgdialknnjnehaa
open Go.RowKit

theorem step_appSL {P : Program} {W : World} {ops : Array Oper} {o : Oper} {a : Act} {K : Act → World → Prop} {Q : Exit → Act → World → Prop} {E : Prop} (hgd : o.guard = none) (s x : Operand) (t : TypeId)
    (ho : o.op = .call { callee := .builtin .append, args := #[s, x], argTypes := #[t, t] })
    (B : Nat) (e : TypeId) (z : Value) (bytes : Nat) (ht : P.underlying t = some (.slice e)) (hinfo : (P.info? e).map (fun i => (i.zero, i.size, i.bytes)) = some (some z, 1, bytes))
    (hz1 : z.cells.size = 1) (hby : bytes ≤ 24) (ad : Option Addr) (n cap : Nat) (xs : List Value) (hs : a.eval s = .slice ad n cap)
    (ao : Option Addr) (m c : Nat) (hx : a.eval x = .slice ao m c) (hown : W.ownsRow B e 1 (.slice ad n cap) n xs)
    (news : List Value) (hl : news.length = m) (hnews : RdV W ao news) (h1 : ∀ u ∈ news, u.oneCell' = true)
    (hn : n + m ≤ 1000000000000) (hB : B ≤ W.heap.size)
    (h : ∀ ad' cap' w', w'.ownsRow B e 1 (.slice ad' (n + m) cap') (n + m) (xs ++ news) → (ad' = ad ∨ ad' = some ⟨W.heap.size, 0, none⟩) → Chg (fun k => ∃ p, ad = some p ∧ p.block = k) W w' → K (a.put o.dst (.slice ad' (n + m) cap')) w') :
    if Region.wanted o (yielded ops a.tmps) = true then Oper.wp P o a W K Q else E := by
  have hw : Region.wanted o (yielded ops a.tmps) = true := by simp [Region.wanted, hgd]
  rw [if_pos hw]
  obtain ⟨ad', cap', w', hr, h2, h3, h4⟩ := run_appS (P := P) W B t o.type e z bytes ht hinfo hz1 hby ad n cap xs hown ao m c news hl hnews h1 hn hB
  unfold Oper.wp execOp
  simp only [ho, resolve, invoke, builtin, Sem.run_bind, Sem.run_pure, Result.andThen_ok, List.map_toArray, List.map_cons, List.map_nil, hs, hx, hr]
  exact h ad' cap' w' h2 h3 h4
theorem cell_nS {w : World} {p q : Addr} {v : Value} (h : q.block ≠ p.block) : (w.setCell p v).cell? q = w.cell? q := World.cell?_of_block (Below.heap_setCell _ _ _ _ h)
theorem BX.newAtS {T : TypeId} {w : World} {b : Nat} {vs : Array Value} (h : b = w.heap.size) : BX T (w.alloc (.cells vs T)) b vs := by subst h; exact BX.new w T vs
def sumQ (xs ys : List Int) : List Int := sortP (partsL xs) ++ sortP (partsL ys)
def sumV (xs : List Int) (r : Int) (ys : List Int) (s : Int) : List Int × Int × Int := if isAb xs r = true ∧ isAb ys s = true then fpV (sumQ xs ys) (r + s) else ([], 0, 1)
def res_SumAbelian (xs : List Int) (r : Int) (ys : List Int) (s : Int) (R : List Int) (K d : Int) : Prop := (R, K, d) = sumV xs r ys s
theorem res_SumAbelian_uniq {xs ys : List Int} {r s K1 K2 d1 d2 : Int} {R1 R2 : List Int} (h : res_SumAbelian xs r ys s R1 K1 d1) (k : res_SumAbelian xs r ys s R2 K2 d2) : R1 = R2 ∧ K1 = K2 ∧ d1 = d2 := by
  have := h.trans k.symm
  simp at this
  exact ⟨this.1, this.2.1, this.2.2⟩
theorem res_SumAbelian_small {xs ys : List Int} {r s K d : Int} {R : List Int} (h : res_SumAbelian xs r ys s R K d) : R.length ≤ 1048576 := by
  have e : R = (sumV xs r ys s).1 := congrArg Prod.fst h
  rw [e]
  unfold sumV
  split
  · exact fpV_small
  · simp
theorem sum_no1 {xs ys : List Int} {r s : Int} (h : isAb xs r = false) : res_SumAbelian xs r ys s [] 0 1 := by
  unfold res_SumAbelian sumV; rw [if_neg (fun k => by rw [h] at k; cases k.1)]
theorem sum_no2 {xs ys : List Int} {r s : Int} (h : isAb ys s = false) : res_SumAbelian xs r ys s [] 0 1 := by
  unfold res_SumAbelian sumV; rw [if_neg (fun k => by rw [h] at k; cases k.2)]
theorem sum_ok {xs ys R : List Int} {r s K d : Int} (h1 : isAb xs r = true) (h2 : isAb ys s = true) (h : res_fp (sumQ xs ys) (r + s) R K d) : res_SumAbelian xs r ys s R K d := by
  unfold res_SumAbelian sumV; rw [if_pos ⟨h1, h2⟩]; exact h
theorem sumQ_PP {xs ys : List Int} {r s : Int} (h1 : isAb xs r = true) (h2 : isAb ys s = true) : ∀ q ∈ sumQ xs ys, isPP q := fun q hq => by
  rcases List.mem_append.1 hq with h | h
  · exact partsL_PP (isAb_rng1 h1) q (sortP_mem.1 h)
  · exact partsL_PP (isAb_rng1 h2) q (sortP_mem.1 h)
theorem isAb_10 {xs : List Int} {r : Int} (h : isAb xs r = true) : xs.length ≤ 10 ∧ 0 ≤ r ∧ r ≤ 10 := by
  have := isAb_ok h
  have h1 := this.1
  have h2 := this.2.2.1
  exact ⟨by omega, by omega, by omega⟩
theorem parts_10 {xs : List Int} {r : Int} (h : isAb xs r = true) : (sortP (partsL xs)).length ≤ 10020 := by
  rw [sortP_len]
  have := partsL_len xs
  have := isAb_10 h
  omega
set_option maxRecDepth 20000 in
set_option maxHeartbeats 4000000 in
theorem impl_SumAbelian_any (a : Option Addr) (n c : Nat) (xs : List Int) (r : Int) (b : Option Addr) (m d : Nat) (ys : List Int) (s : Int) (w : World) (ha : RdI w a xs) (hl : xs.length = n) (hn : n ≤ 1048576) (hr : I64 r) (hb : RdI w b ys) (hl2 : ys.length = m) (hm : m ≤ 1048576) (hs : I64 s) :
    Calls Try.prog 40 #[.agg #[.slice a n c, .int .i64 r], .agg #[.slice b m d, .int .i64 s]] w fun e w' => ∃ (R : List Int) (K d : Int) (a' : Option Addr) (c' : Nat), e = .returned (.tuple #[.agg #[.slice a' R.length c', .int .i64 K], .int .i64 d]) ∧ res_SumAbelian xs r ys s R K d ∧ OwnI 2 w' w.heap.size a' R.length c' R ∧ Below w.heap.size w w' := by
  have HA := Lib.hid ha
  have HL := Lib.hid hl
  have HA2 := Lib.hid hb
  have HL2 := Lib.hid hl2
  clear ha hl hb hl2 hr hs
  cases hv : isAb xs r
  · have HR0 : Hid (res_SumAbelian xs r ys s [] 0 1) := Lib.hid (sum_no1 hv)
    go_enter Try.func40, Try.ntmps40
    go_wp2_with fail
    refine (impl_IsAbelian_any _ _ _ xs _ _ (by exact ((HA.out.alloc _).alloc _).alloc _) HL.out (by omega)).mono ?_
    rw [hv]
    rintro e w1 ⟨rfl, hb⟩
    have HB : Hid (Below w.heap.size w w1) := Lib.hid (((((Below.refl _ _).alloc (Nat.le_refl _) _).alloc (by simp) _).alloc (by simp; omega) _).trans (hb.mono (by simp; omega)))
    have XA := (((BX.new w 27 #[.slice a n c, .int .i64 r]).alloc (.cells #[.slice b m d, .int .i64 s] 27)).alloc (.cells #[.slice none 0 0, .int .i64 0] 27)).keep hb
    have XB := ((BX.newAtS (T := 27) (w := w.alloc (.cells #[.slice a n c, .int .i64 r] 27)) (b := w.heap.size + 1) (vs := #[.slice b m d, .int .i64 s]) (by simp)).alloc (.cells #[.slice none 0 0, .int .i64 0] 27)).keep hb
    have p0 : w1.cell? ⟨w.heap.size, 0, none⟩ = some (.slice a n c) := XA.cell 0
    have p1 : w1.cell? ⟨w.heap.size, 1, none⟩ = some (.int .i64 r) := XA.cell 1
    have p2 : w1.cell? ⟨w.heap.size + 1, 0, none⟩ = some (.slice b m d) := XB.cell 0
    have p3 : w1.cell? ⟨w.heap.size + 1, 1, none⟩ = some (.int .i64 s) := XB.cell 1
    have HX1 : Hid (BX 27 w1 (w.heap.size + 1 + 1) #[.slice none 0 0, .int .i64 0]) := Lib.hid (BX.keep (BX.newAtS (w := (w.alloc (.cells #[.slice a n c, .int .i64 r] 27)).alloc (.cells #[.slice b m d, .int .i64 s] 27)) (by simp)) hb)
    clear XA XB
    clear hb
    have X := (HX1.out.set 0 (.slice none 0 0)).set 1 (.int .i64 0)
    have y0 := X.cell 0
    have y1 := X.cell 1
    simp at y0 y1
    have l5 := HX1.out.lt
    have f0 := HX1.out.frz 0
    have f1 := HX1.out.frz 1
    have z0 := HX1.out.cell 0
    have z1 := HX1.out.cell 1
    simp at z0 z1
    clear X
    go_wp2_with fail
    refine bodyPost_ret (v := .tuple #[.agg #[.slice none 0 0, .int .i64 0], .int .i64 1]) (by simp [results, Try.results40, go_sem, y0, y1]) rfl ⟨[], 0, 1, none, 0, rfl, HR0.out, OwnI.none, ?_⟩
    exact (HB.out.setCell (p := ⟨w.heap.size + 1 + 1, 0, none⟩) (by simp; omega) _).setCell (p := ⟨w.heap.size + 1 + 1, 1, none⟩) (by simp; omega) _
  cases hu : isAb ys s
  · have HR0 : Hid (res_SumAbelian xs r ys s [] 0 1) := Lib.hid (sum_no2 hu)
    go_enter Try.func40, Try.ntmps40
    go_wp2_with fail
    refine (impl_IsAbelian_any _ _ _ xs _ _ (by exact ((HA.out.alloc _).alloc _).alloc _) HL.out (by omega)).mono ?_
    rw [hv]
    rintro e w1 ⟨rfl, hb⟩
    have HB : Hid (Below w.heap.size w w1) := Lib.hid (((((Below.refl _ _).alloc (Nat.le_refl _) _).alloc (by simp) _).alloc (by simp; omega) _).trans (hb.mono (by simp; omega)))
    have XA := (((BX.new w 27 #[.slice a n c, .int .i64 r]).alloc (.cells #[.slice b m d, .int .i64 s] 27)).alloc (.cells #[.slice none 0 0, .int .i64 0] 27)).keep hb
    have XB := ((BX.newAtS (T := 27) (w := w.alloc (.cells #[.slice a n c, .int .i64 r] 27)) (b := w.heap.size + 1) (vs := #[.slice b m d, .int .i64 s]) (by simp)).alloc (.cells #[.slice none 0 0, .int .i64 0] 27)).keep hb
    have p0 : w1.cell? ⟨w.heap.size, 0, none⟩ = some (.slice a n c) := XA.cell 0
    have p1 : w1.cell? ⟨w.heap.size, 1, none⟩ = some (.int .i64 r) := XA.cell 1
    have p2 : w1.cell? ⟨w.heap.size + 1, 0, none⟩ = some (.slice b m d) := XB.cell 0
    have p3 : w1.cell? ⟨w.heap.size + 1, 1, none⟩ = some (.int .i64 s) := XB.cell 1
    have HX1 : Hid (BX 27 w1 (w.heap.size + 1 + 1) #[.slice none 0 0, .int .i64 0]) := Lib.hid (BX.keep (BX.newAtS (w := (w.alloc (.cells #[.slice a n c, .int .i64 r] 27)).alloc (.cells #[.slice b m d, .int .i64 s] 27)) (by simp)) hb)
    clear XA XB
    clear hb
    go_wp2_with fail
    refine (impl_IsAbelian_any _ _ _ ys _ _ (by exact HA2.out.keep HB.out (Nat.le_refl _)) HL2.out (by omega)).mono ?_
    rw [hu]
    rintro e w2 ⟨rfl, hb⟩
    replace HB : Hid (Below w.heap.size w w2) := Lib.hid (HB.out.trans (hb.mono HB.out.size))
    replace p0 := cell_keep p0 hb
    replace p1 := cell_keep p1 hb
    replace p2 := cell_keep p2 hb
    replace p3 := cell_keep p3 hb
    have HX2 : Hid (BX 27 w2 (w.heap.size + 1 + 1) #[.slice none 0 0, .int .i64 0]) := Lib.hid (HX1.out.keep hb)
    clear hb HX1
    have X := (HX2.out.set 0 (.slice none 0 0)).set 1 (.int .i64 0)
    have y0 := X.cell 0
    have y1 := X.cell 1
    simp at y0 y1
    have l5 := HX2.out.lt
    have f0 := HX2.out.frz 0
    have f1 := HX2.out.frz 1
    have z0 := HX2.out.cell 0
    have z1 := HX2.out.cell 1
    simp at z0 z1
    clear X
    go_wp2_with fail
    refine bodyPost_ret (v := .tuple #[.agg #[.slice none 0 0, .int .i64 0], .int .i64 1]) (by simp [results, Try.results40, go_sem, y0, y1]) rfl ⟨[], 0, 1, none, 0, rfl, HR0.out, OwnI.none, ?_⟩
    exact (HB.out.setCell (p := ⟨w.heap.size + 1 + 1, 0, none⟩) (by simp; omega) _).setCell (p := ⟨w.heap.size + 1 + 1, 1, none⟩) (by simp; omega) _
  have HA1 := Lib.hid hv
  have HA3 := Lib.hid hu
  have l1 := parts_10 hv
  have l2 := parts_10 hu
  obtain ⟨n10, r0, r10⟩ := isAb_10 hv
  obtain ⟨m10, s0, s10⟩ := isAb_10 hu
  rw [HL.out] at n10
  rw [HL2.out] at m10
  have HX := Lib.hid (isAb_rng1 hv)
  have HY := Lib.hid (isAb_rng1 hu)
  go_enter Try.func40, Try.ntmps40
  go_wp2_with fail
  refine (impl_IsAbelian_any _ _ _ xs _ _ (by exact ((HA.out.alloc _).alloc _).alloc _) HL.out (by omega)).mono ?_
  rw [hv]
  rintro e w1 ⟨rfl, hb⟩
  have HB : Hid (Below w.heap.size w w1) := Lib.hid (((((Below.refl _ _).alloc (Nat.le_refl _) _).alloc (by simp) _).alloc (by simp; omega) _).trans (hb.mono (by simp; omega)))
  have XA := (((BX.new w 27 #[.slice a n c, .int .i64 r]).alloc (.cells #[.slice b m d, .int .i64 s] 27)).alloc (.cells #[.slice none 0 0, .int .i64 0] 27)).keep hb
  have XB := ((BX.newAtS (T := 27) (w := w.alloc (.cells #[.slice a n c, .int .i64 r] 27)) (b := w.heap.size + 1) (vs := #[.slice b m d, .int .i64 s]) (by simp)).alloc (.cells #[.slice none 0 0, .int .i64 0] 27)).keep hb
  have p0 : w1.cell? ⟨w.heap.size, 0, none⟩ = some (.slice a n c) := XA.cell 0
  have p1 : w1.cell? ⟨w.heap.size, 1, none⟩ = some (.int .i64 r) := XA.cell 1
  have p2 : w1.cell? ⟨w.heap.size + 1, 0, none⟩ = some (.slice b m d) := XB.cell 0
  have p3 : w1.cell? ⟨w.heap.size + 1, 1, none⟩ = some (.int .i64 s) := XB.cell 1
  have HX1 : Hid (BX 27 w1 (w.heap.size + 1 + 1) #[.slice none 0 0, .int .i64 0]) := Lib.hid (BX.keep (BX.newAtS (w := (w.alloc (.cells #[.slice a n c, .int .i64 r] 27)).alloc (.cells #[.slice b m d, .int .i64 s] 27)) (by simp)) hb)
  clear XA XB
  clear hb
  go_wp2_with fail
  refine (impl_IsAbelian_any _ _ _ ys _ _ (by exact HA2.out.keep HB.out (Nat.le_refl _)) HL2.out (by omega)).mono ?_
  rw [hu]
  rintro e w2 ⟨rfl, hb⟩
  replace HB : Hid (Below w.heap.size w w2) := Lib.hid (HB.out.trans (hb.mono HB.out.size))
  replace p0 := cell_keep p0 hb
  replace p1 := cell_keep p1 hb
  replace p2 := cell_keep p2 hb
  replace p3 := cell_keep p3 hb
  have HX2 : Hid (BX 27 w2 (w.heap.size + 1 + 1) #[.slice none 0 0, .int .i64 0]) := Lib.hid (HX1.out.keep hb)
  clear hb HX1
  have HR1 : Hid (RdI w2 a xs) := Lib.hid (HA.out.keep HB.out (Nat.le_refl _))
  have HR2 : Hid (RdI w2 b ys) := Lib.hid (HA2.out.keep HB.out (Nat.le_refl _))
  have szw : w.heap.size + 1 + 1 < w2.heap.size := HX2.out.lt
  clear hv hu
  have hwr : IntKind.i64.wrap (r + s) = r + s := IntWalk.i64_in _ (by omega)
  go_wp2_with fail
  go_region_held3 (fun w' => w'.cell? ⟨w.heap.size, 0, none⟩ = some (.slice a n c) ∧ w'.cell? ⟨w.heap.size, 1, none⟩ = some (.int .i64 r) ∧ w'.cell? ⟨w.heap.size + 1, 0, none⟩ = some (.slice b m d) ∧ w'.cell? ⟨w.heap.size + 1, 1, none⟩ = some (.int .i64 s)) (first | ((try dsimp only); (refine ⟨?_, ?_, ?_, ?_⟩) <;> first | with_reducible assumption | (rw [cell_nS (by first | (simp; done) | (simp; omega)), cell_nS (by first | (simp; done) | (simp; omega))]; with_reducible assumption)) | go_keep)
    (first
      | (go_at_call 58; (with_reducible refine (primaryParts_any a n c xs _ _ ?_ HL.out n10 HX.out).mono ?_); exact (show RdI w2 a xs from HR1.out); rintro e w3 ⟨a1, m1, c1, rfl, ho, hb0⟩; have hb : Below w2.heap.size w2 w3 := ⟨hb0.os, hb0.tape, hb0.output, hb0.size, hb0.block⟩; have p0' := cell_below (p := ⟨w.heap.size, 0, none⟩) p0 hb; have p1' := cell_below (p := ⟨w.heap.size, 1, none⟩) p1 hb; have p2' := cell_below (p := ⟨w.heap.size + 1, 0, none⟩) p2 hb; have p3' := cell_below (p := ⟨w.heap.size + 1, 1, none⟩) p3 hb; have HO1 : Hid (OwnI 2 w3 w2.heap.size a1 m1 c1 (sortP (partsL xs))) := Lib.hid ho; have HB3 := Lib.hid hb; have HR3 : Hid (RdI w3 b ys) := Lib.hid (HR2.out.keep hb (Nat.le_refl _)); have e1 := ho.len; have s3 := hb.size; clear ho hb hb0)
      | (go_at_call 58; (with_reducible refine (primaryParts_any b m d ys _ _ ?_ HL2.out m10 HY.out).mono ?_); exact (show RdI w3 b ys from HR3.out); rintro e w4 ⟨a2, m2, c2, rfl, ho, hb0⟩; have hb : Below w3.heap.size w3 w4 := ⟨hb0.os, hb0.tape, hb0.output, hb0.size, hb0.block⟩; have p0'' := cell_below (p := ⟨w.heap.size, 0, none⟩) p0' hb; have p1'' := cell_below (p := ⟨w.heap.size, 1, none⟩) p1' hb; have p2'' := cell_below (p := ⟨w.heap.size + 1, 0, none⟩) p2' hb; have p3'' := cell_below (p := ⟨w.heap.size + 1, 1, none⟩) p3' hb; have HO1' : Hid (OwnI 2 w4 w2.heap.size a1 m1 c1 (sortP (partsL xs))) := Lib.hid (HO1.out.keep hb (Nat.le_refl _)); have HRY : Hid (RdI w4 a2 (sortP (partsL ys))) := Lib.hid ho.rd; have HB4 : Hid (Below w2.heap.size w2 w4) := Lib.hid (HB3.out.trans (hb.mono s3)); have e2 := ho.len; have s4 := HB4.out.size; clear ho hb hb0)
      | (refine step_appSL rfl (.tmp 16) (.tmp 18) 22 rfl w2.heap.size 2 (.int .i64 0) 8 Try.underlying22 Try.info2 rfl (by decide) _ _ _ _ rfl _ _ _ rfl (by exact HO1'.out) ((sortP (partsL ys)).map (Value.int .i64)) (by rw [List.length_map]; exact e2) (by exact (HRY.out.same (fun _ _ => rfl)).vals) (map_one _) (by omega) (by exact s4) ?_; rintro a5 c5 w5 r5 q5 g5; have HO5 := Lib.hid (app_own HO1'.out HB4.out s4 r5 ⟨g5.os, g5.tape, g5.output, g5.size, g5.block⟩); have p0''' := cell_below (p := ⟨w.heap.size, 0, none⟩) p0 HO5.out.2; have p1''' := cell_below (p := ⟨w.heap.size, 1, none⟩) p1 HO5.out.2; have p2''' := cell_below (p := ⟨w.heap.size + 1, 0, none⟩) p2 HO5.out.2; have p3''' := cell_below (p := ⟨w.heap.size + 1, 1, none⟩) p3 HO5.out.2; have s5 := HO5.out.2.size; have HQ5 : Hid (RdI w5 a5 (sumQ xs ys)) := Lib.hid HO5.out.1.rd; clear r5 q5 g5)
      | (go_at_call 62; (with_reducible refine (fromPrimary_any _ _ _ (sumQ xs ys) _ _ ?_ (by simp only [sumQ, List.length_append]; omega) (by omega) (sumQ_PP HA1.out HA3.out) (by omega) (by omega)).mono ?_); exact (show RdI w5 a5 (sumQ xs ys) from HQ5.out); rintro e w6 ⟨R, K, d6, a6, c6, rfl, hres, ho, hb0⟩; have hb : Below w5.heap.size w5 w6 := ⟨hb0.os, hb0.tape, hb0.output, hb0.size, hb0.block⟩; have p0_6 := cell_below (p := ⟨w.heap.size, 0, none⟩) p0''' hb; have p1_6 := cell_below (p := ⟨w.heap.size, 1, none⟩) p1''' hb; have p2_6 := cell_below (p := ⟨w.heap.size + 1, 0, none⟩) p2''' hb; have p3_6 := cell_below (p := ⟨w.heap.size + 1, 1, none⟩) p3''' hb; have HB6 : Hid (Below w2.heap.size w2 w6) := Lib.hid (HO5.out.2.trans (hb.mono s5)); have HO6 : Hid (OwnI 2 w6 w5.heap.size a6 R.length c6 R) := Lib.hid ho; have HRS : Hid (res_SumAbelian xs r ys s R K d6) := Lib.hid (sum_ok HA1.out HA3.out hres); have HX6 : Hid (BX 27 w6 (w.heap.size + 1 + 1) #[.slice none 0 0, .int .i64 0]) := Lib.hid (HX2.out.keep HB6.out); clear ho hb hb0 hres; have X := (HX6.out.set 0 (.slice a6 R.length c6)).set 1 (.int .i64 K); have y0 := X.cell 0; have y1 := X.cell 1; simp at y0 y1; have l5 := HX6.out.lt; have f0 := HX6.out.frz 0; have f1 := HX6.out.frz 1; have z0 := HX6.out.cell 0; have z1 := HX6.out.cell 1; simp at z0 z1; clear X))
  have HBF : Hid (Below w.heap.size w w6) := Lib.hid (HB.out.trans (HB6.out.mono HB.out.size))
  go_wp2_with fail
  refine bodyPost_ret (v := .tuple #[.agg #[.slice a6 R.length c6, .int .i64 K], .int .i64 d6]) (by simp [results, Try.results40, go_sem, y0, y1]) rfl ⟨R, K, d6, a6, c6, rfl, HRS.out, ?_, ?_⟩
  · exact ((HO6.out.setCell (by simp; omega) _).setCell (by simp; omega) _).mono (by omega)
  · exact (HBF.out.setCell (p := ⟨w.heap.size + 1 + 1, 0, none⟩) (by simp; omega) _).setCell (p := ⟨w.heap.size + 1 + 1, 1, none⟩) (by simp; omega) _
set_option maxRecDepth 20000 in
set_option maxHeartbeats 4000000 in
theorem spec_SumAbelian_any (a : Option Addr) (n c : Nat) (xs : List Int) (r : Int) (b : Option Addr) (m d : Nat) (ys : List Int) (s : Int) (w : World) (ha : RdI w a xs) (hl : xs.length = n) (hn : n ≤ 1048576) (hr : I64 r) (hb : RdI w b ys) (hl2 : ys.length = m) (hm : m ≤ 1048576) (hs : I64 s) :
    Calls Try.prog 39 #[.agg #[.slice a n c, .int .i64 r], .agg #[.slice b m d, .int .i64 s]] w fun e w' => ∃ (R : List Int) (K d : Int) (a' : Option Addr) (c' : Nat), e = .returned (.tuple #[.agg #[.slice a' R.length c', .int .i64 K], .int .i64 d]) ∧ res_SumAbelian xs r ys s R K d ∧ OwnI 2 w' w.heap.size a' R.length c' R ∧ Below w.heap.size w w' := by
  have HA := Lib.hid ha
  have HL := Lib.hid hl
  have HA2 := Lib.hid hb
  have HL2 := Lib.hid hl2
  clear ha hl hb hl2 hr hs
  cases hv : isAb xs r
  · have HR0 : Hid (res_SumAbelian xs r ys s [] 0 1) := Lib.hid (sum_no1 hv)
    go_enter Try.func39, Try.ntmps39
    go_wp2_with fail
    refine (spec_IsAbelian_any _ _ _ xs _ _ (by exact ((HA.out.alloc _).alloc _).alloc _) HL.out (by omega)).mono ?_
    rw [hv]
    rintro e w1 ⟨rfl, hb⟩
    have HB : Hid (Below w.heap.size w w1) := Lib.hid (((((Below.refl _ _).alloc (Nat.le_refl _) _).alloc (by simp) _).alloc (by simp; omega) _).trans (hb.mono (by simp; omega)))
    have XA := (((BX.new w 27 #[.slice a n c, .int .i64 r]).alloc (.cells #[.slice b m d, .int .i64 s] 27)).alloc (.cells #[.slice none 0 0, .int .i64 0] 27)).keep hb
    have XB := ((BX.newAtS (T := 27) (w := w.alloc (.cells #[.slice a n c, .int .i64 r] 27)) (b := w.heap.size + 1) (vs := #[.slice b m d, .int .i64 s]) (by simp)).alloc (.cells #[.slice none 0 0, .int .i64 0] 27)).keep hb
    have p0 : w1.cell? ⟨w.heap.size, 0, none⟩ = some (.slice a n c) := XA.cell 0
    have p1 : w1.cell? ⟨w.heap.size, 1, none⟩ = some (.int .i64 r) := XA.cell 1
    have p2 : w1.cell? ⟨w.heap.size + 1, 0, none⟩ = some (.slice b m d) := XB.cell 0
    have p3 : w1.cell? ⟨w.heap.size + 1, 1, none⟩ = some (.int .i64 s) := XB.cell 1
    have HX1 : Hid (BX 27 w1 (w.heap.size + 1 + 1) #[.slice none 0 0, .int .i64 0]) := Lib.hid (BX.keep (BX.newAtS (w := (w.alloc (.cells #[.slice a n c, .int .i64 r] 27)).alloc (.cells #[.slice b m d, .int .i64 s] 27)) (by simp)) hb)
    clear XA XB
    clear hb
    have X := (HX1.out.set 0 (.slice none 0 0)).set 1 (.int .i64 0)
    have y0 := X.cell 0
    have y1 := X.cell 1
    simp at y0 y1
    have l5 := HX1.out.lt
    have f0 := HX1.out.frz 0
    have f1 := HX1.out.frz 1
    have z0 := HX1.out.cell 0
    have z1 := HX1.out.cell 1
    simp at z0 z1
    clear X
    go_wp2_with fail
    refine bodyPost_ret (v := .tuple #[.agg #[.slice none 0 0, .int .i64 0], .int .i64 1]) (by simp [results, Try.results39, go_sem, y0, y1]) rfl ⟨[], 0, 1, none, 0, rfl, HR0.out, OwnI.none, ?_⟩
    exact (HB.out.setCell (p := ⟨w.heap.size + 1 + 1, 0, none⟩) (by simp; omega) _).setCell (p := ⟨w.heap.size + 1 + 1, 1, none⟩) (by simp; omega) _
  cases hu : isAb ys s
  · have HR0 : Hid (res_SumAbelian xs r ys s [] 0 1) := Lib.hid (sum_no2 hu)
    go_enter Try.func39, Try.ntmps39
    go_wp2_with fail
    refine (spec_IsAbelian_any _ _ _ xs _ _ (by exact ((HA.out.alloc _).alloc _).alloc _) HL.out (by omega)).mono ?_
    rw [hv]
    rintro e w1 ⟨rfl, hb⟩
    have HB : Hid (Below w.heap.size w w1) := Lib.hid (((((Below.refl _ _).alloc (Nat.le_refl _) _).alloc (by simp) _).alloc (by simp; omega) _).trans (hb.mono (by simp; omega)))
    have XA := (((BX.new w 27 #[.slice a n c, .int .i64 r]).alloc (.cells #[.slice b m d, .int .i64 s] 27)).alloc (.cells #[.slice none 0 0, .int .i64 0] 27)).keep hb
    have XB := ((BX.newAtS (T := 27) (w := w.alloc (.cells #[.slice a n c, .int .i64 r] 27)) (b := w.heap.size + 1) (vs := #[.slice b m d, .int .i64 s]) (by simp)).alloc (.cells #[.slice none 0 0, .int .i64 0] 27)).keep hb
    have p0 : w1.cell? ⟨w.heap.size, 0, none⟩ = some (.slice a n c) := XA.cell 0
    have p1 : w1.cell? ⟨w.heap.size, 1, none⟩ = some (.int .i64 r) := XA.cell 1
    have p2 : w1.cell? ⟨w.heap.size + 1, 0, none⟩ = some (.slice b m d) := XB.cell 0
    have p3 : w1.cell? ⟨w.heap.size + 1, 1, none⟩ = some (.int .i64 s) := XB.cell 1
    have HX1 : Hid (BX 27 w1 (w.heap.size + 1 + 1) #[.slice none 0 0, .int .i64 0]) := Lib.hid (BX.keep (BX.newAtS (w := (w.alloc (.cells #[.slice a n c, .int .i64 r] 27)).alloc (.cells #[.slice b m d, .int .i64 s] 27)) (by simp)) hb)
    clear XA XB
    clear hb
    go_wp2_with fail
    refine (spec_IsAbelian_any _ _ _ ys _ _ (by exact HA2.out.keep HB.out (Nat.le_refl _)) HL2.out (by omega)).mono ?_
    rw [hu]
    rintro e w2 ⟨rfl, hb⟩
    replace HB : Hid (Below w.heap.size w w2) := Lib.hid (HB.out.trans (hb.mono HB.out.size))
    replace p0 := cell_keep p0 hb
    replace p1 := cell_keep p1 hb
    replace p2 := cell_keep p2 hb
    replace p3 := cell_keep p3 hb
    have HX2 : Hid (BX 27 w2 (w.heap.size + 1 + 1) #[.slice none 0 0, .int .i64 0]) := Lib.hid (HX1.out.keep hb)
    clear hb HX1
    have X := (HX2.out.set 0 (.slice none 0 0)).set 1 (.int .i64 0)
    have y0 := X.cell 0
    have y1 := X.cell 1
    simp at y0 y1
    have l5 := HX2.out.lt
    have f0 := HX2.out.frz 0
    have f1 := HX2.out.frz 1
    have z0 := HX2.out.cell 0
    have z1 := HX2.out.cell 1
    simp at z0 z1
    clear X
    go_wp2_with fail
    refine bodyPost_ret (v := .tuple #[.agg #[.slice none 0 0, .int .i64 0], .int .i64 1]) (by simp [results, Try.results39, go_sem, y0, y1]) rfl ⟨[], 0, 1, none, 0, rfl, HR0.out, OwnI.none, ?_⟩
    exact (HB.out.setCell (p := ⟨w.heap.size + 1 + 1, 0, none⟩) (by simp; omega) _).setCell (p := ⟨w.heap.size + 1 + 1, 1, none⟩) (by simp; omega) _
  have HA1 := Lib.hid hv
  have HA3 := Lib.hid hu
  have l1 := parts_10 hv
  have l2 := parts_10 hu
  obtain ⟨n10, r0, r10⟩ := isAb_10 hv
  obtain ⟨m10, s0, s10⟩ := isAb_10 hu
  rw [HL.out] at n10
  rw [HL2.out] at m10
  have HX := Lib.hid (isAb_rng1 hv)
  have HY := Lib.hid (isAb_rng1 hu)
  go_enter Try.func39, Try.ntmps39
  go_wp2_with fail
  refine (spec_IsAbelian_any _ _ _ xs _ _ (by exact ((HA.out.alloc _).alloc _).alloc _) HL.out (by omega)).mono ?_
  rw [hv]
  rintro e w1 ⟨rfl, hb⟩
  have HB : Hid (Below w.heap.size w w1) := Lib.hid (((((Below.refl _ _).alloc (Nat.le_refl _) _).alloc (by simp) _).alloc (by simp; omega) _).trans (hb.mono (by simp; omega)))
  have XA := (((BX.new w 27 #[.slice a n c, .int .i64 r]).alloc (.cells #[.slice b m d, .int .i64 s] 27)).alloc (.cells #[.slice none 0 0, .int .i64 0] 27)).keep hb
  have XB := ((BX.newAtS (T := 27) (w := w.alloc (.cells #[.slice a n c, .int .i64 r] 27)) (b := w.heap.size + 1) (vs := #[.slice b m d, .int .i64 s]) (by simp)).alloc (.cells #[.slice none 0 0, .int .i64 0] 27)).keep hb
  have p0 : w1.cell? ⟨w.heap.size, 0, none⟩ = some (.slice a n c) := XA.cell 0
  have p1 : w1.cell? ⟨w.heap.size, 1, none⟩ = some (.int .i64 r) := XA.cell 1
  have p2 : w1.cell? ⟨w.heap.size + 1, 0, none⟩ = some (.slice b m d) := XB.cell 0
  have p3 : w1.cell? ⟨w.heap.size + 1, 1, none⟩ = some (.int .i64 s) := XB.cell 1
  have HX1 : Hid (BX 27 w1 (w.heap.size + 1 + 1) #[.slice none 0 0, .int .i64 0]) := Lib.hid (BX.keep (BX.newAtS (w := (w.alloc (.cells #[.slice a n c, .int .i64 r] 27)).alloc (.cells #[.slice b m d, .int .i64 s] 27)) (by simp)) hb)
  clear XA XB
  clear hb
  go_wp2_with fail
  refine (spec_IsAbelian_any _ _ _ ys _ _ (by exact HA2.out.keep HB.out (Nat.le_refl _)) HL2.out (by omega)).mono ?_
  rw [hu]
  rintro e w2 ⟨rfl, hb⟩
  replace HB : Hid (Below w.heap.size w w2) := Lib.hid (HB.out.trans (hb.mono HB.out.size))
  replace p0 := cell_keep p0 hb
  replace p1 := cell_keep p1 hb
  replace p2 := cell_keep p2 hb
  replace p3 := cell_keep p3 hb
  have HX2 : Hid (BX 27 w2 (w.heap.size + 1 + 1) #[.slice none 0 0, .int .i64 0]) := Lib.hid (HX1.out.keep hb)
  clear hb HX1
  have HR1 : Hid (RdI w2 a xs) := Lib.hid (HA.out.keep HB.out (Nat.le_refl _))
  have HR2 : Hid (RdI w2 b ys) := Lib.hid (HA2.out.keep HB.out (Nat.le_refl _))
  have szw : w.heap.size + 1 + 1 < w2.heap.size := HX2.out.lt
  clear hv hu
  go_wp2_with fail
  go_region_held3 (fun w' => w'.cell? ⟨w.heap.size, 0, none⟩ = some (.slice a n c) ∧ w'.cell? ⟨w.heap.size, 1, none⟩ = some (.int .i64 r) ∧ w'.cell? ⟨w.heap.size + 1, 0, none⟩ = some (.slice b m d) ∧ w'.cell? ⟨w.heap.size + 1, 1, none⟩ = some (.int .i64 s)) (first | ((try dsimp only); (refine ⟨?_, ?_, ?_, ?_⟩) <;> first | with_reducible assumption | (rw [cell_nS (by first | (simp; done) | (simp; omega)), cell_nS (by first | (simp; done) | (simp; omega))]; with_reducible assumption)) | go_keep)
    (first
      | (go_at_call 57; (with_reducible refine (l05Parts_any a n c xs _ ?_ HL.out n10 HX.out).mono ?_); exact (show RdI w2 a xs from HR1.out); rintro e w3 ⟨a1, m1, c1, rfl, ho, hb0⟩; have hb : Below w2.heap.size w2 w3 := ⟨hb0.os, hb0.tape, hb0.output, hb0.size, hb0.block⟩; have p0' := cell_below (p := ⟨w.heap.size, 0, none⟩) p0 hb; have p1' := cell_below (p := ⟨w.heap.size, 1, none⟩) p1 hb; have p2' := cell_below (p := ⟨w.heap.size + 1, 0, none⟩) p2 hb; have p3' := cell_below (p := ⟨w.heap.size + 1, 1, none⟩) p3 hb; have HO1 : Hid (OwnI 2 w3 w2.heap.size a1 m1 c1 (sortP (partsL xs))) := Lib.hid ho; have HB3 := Lib.hid hb; have HR3 : Hid (RdI w3 b ys) := Lib.hid (HR2.out.keep hb (Nat.le_refl _)); have e1 := ho.len; have s3 := hb.size; clear ho hb hb0)
      | (go_at_call 57; (with_reducible refine (l05Parts_any b m d ys _ ?_ HL2.out m10 HY.out).mono ?_); exact (show RdI w3 b ys from HR3.out); rintro e w4 ⟨a2, m2, c2, rfl, ho, hb0⟩; have hb : Below w3.heap.size w3 w4 := ⟨hb0.os, hb0.tape, hb0.output, hb0.size, hb0.block⟩; have p0'' := cell_below (p := ⟨w.heap.size, 0, none⟩) p0' hb; have p1'' := cell_below (p := ⟨w.heap.size, 1, none⟩) p1' hb; have p2'' := cell_below (p := ⟨w.heap.size + 1, 0, none⟩) p2' hb; have p3'' := cell_below (p := ⟨w.heap.size + 1, 1, none⟩) p3' hb; have HO1' : Hid (OwnI 2 w4 w2.heap.size a1 m1 c1 (sortP (partsL xs))) := Lib.hid (HO1.out.keep hb (Nat.le_refl _)); have HRY : Hid (RdI w4 a2 (sortP (partsL ys))) := Lib.hid ho.rd; have HB4 : Hid (Below w2.heap.size w2 w4) := Lib.hid (HB3.out.trans (hb.mono s3)); have e2 := ho.len; have s4 := HB4.out.size; clear ho hb hb0)
      | (refine step_appSL rfl (.tmp 20) (.tmp 23) 22 rfl w2.heap.size 2 (.int .i64 0) 8 Try.underlying22 Try.info2 rfl (by decide) _ _ _ _ rfl _ _ _ rfl (by exact HO1'.out) ((sortP (partsL ys)).map (Value.int .i64)) (by rw [List.length_map]; exact e2) (by exact (HRY.out.same (fun _ _ => rfl)).vals) (map_one _) (by omega) (by exact s4) ?_; rintro a5 c5 w5 r5 q5 g5; have HO5 := Lib.hid (app_own HO1'.out HB4.out s4 r5 ⟨g5.os, g5.tape, g5.output, g5.size, g5.block⟩); have p0''' := cell_below (p := ⟨w.heap.size, 0, none⟩) p0 HO5.out.2; have p1''' := cell_below (p := ⟨w.heap.size, 1, none⟩) p1 HO5.out.2; have p2''' := cell_below (p := ⟨w.heap.size + 1, 0, none⟩) p2 HO5.out.2; have p3''' := cell_below (p := ⟨w.heap.size + 1, 1, none⟩) p3 HO5.out.2; have s5 := HO5.out.2.size; have HQ5 : Hid (RdI w5 a5 (sumQ xs ys)) := Lib.hid HO5.out.1.rd; clear r5 q5 g5)
      | (go_at_call 59; (with_reducible refine (l05From_any _ _ _ (sumQ xs ys) _ ?_ (by simp only [sumQ, List.length_append]; omega) (by omega) (sumQ_PP HA1.out HA3.out)).mono ?_); exact (show RdI w5 a5 (sumQ xs ys) from HQ5.out); rintro e w6 ⟨R, a6, m6, c6, rfl, hres, ho, hb0⟩; have hb : Below w5.heap.size w5 w6 := ⟨hb0.os, hb0.tape, hb0.output, hb0.size, hb0.block⟩; have p0_6 := cell_below (p := ⟨w.heap.size, 0, none⟩) p0''' hb; have p1_6 := cell_below (p := ⟨w.heap.size, 1, none⟩) p1''' hb; have p2_6 := cell_below (p := ⟨w.heap.size + 1, 0, none⟩) p2''' hb; have p3_6 := cell_below (p := ⟨w.heap.size + 1, 1, none⟩) p3''' hb; have HB6 : Hid (Below w2.heap.size w2 w6) := Lib.hid (HO5.out.2.trans (hb.mono s5)); have HO6 : Hid (OwnI 2 w6 w5.heap.size a6 m6 c6 R) := Lib.hid ho; have HRR := Lib.hid hres; have HX6 : Hid (BX 27 w6 (w.heap.size + 1 + 1) #[.slice none 0 0, .int .i64 0]) := Lib.hid (HX2.out.keep HB6.out); clear ho hb hb0 hres))
  have HBF : Hid (Below w.heap.size w w6) := Lib.hid (HB.out.trans (HB6.out.mono HB.out.size))
  have HSQ : Hid ((sumQ xs ys).length ≤ 20040) := Lib.hid (by simp only [sumQ, List.length_append]; omega)
  cases hok : okB (sumQ xs ys)
  · have HRS : Hid (res_SumAbelian xs r ys s [] 0 3) := Lib.hid (sum_ok HA1.out HA3.out (fp_bad hok))
    clear hok
    have X := (HX6.out.set 0 (.slice none 0 0)).set 1 (.int .i64 0)
    have y0 := X.cell 0
    have y1 := X.cell 1
    simp at y0 y1
    have l5 := HX6.out.lt
    have f0 := HX6.out.frz 0
    have f1 := HX6.out.frz 1
    have z0 := HX6.out.cell 0
    have z1 := HX6.out.cell 1
    simp at z0 z1
    clear X
    go_wp2_with fail
    refine bodyPost_ret (v := .tuple #[.agg #[.slice none 0 0, .int .i64 0], .int .i64 3]) (by simp [results, Try.results39, go_sem, y0, y1]) rfl ⟨[], 0, 3, none, 0, rfl, HRS.out, OwnI.none, ?_⟩
    exact (HBF.out.setCell (p := ⟨w.heap.size + 1 + 1, 0, none⟩) (by simp; omega) _).setCell (p := ⟨w.heap.size + 1 + 1, 1, none⟩) (by simp; omega) _
  · have HFG := Lib.hid (HRR.out hok)
    have HO7 : Hid (OwnI 2 w6 w5.heap.size a6 m6 c6 (facG (sumQ xs ys))) := Lib.hid (by rw [← HFG.out]; exact HO6.out)
    have HM : Hid ((facG (sumQ xs ys)).length = m6) := Lib.hid HO7.out.len
    have hm9 : m6 ≤ 1048576 := by
      have h1 := facG_len (sumQ xs ys)
      have h2 := nmax_le (prs (sumQ xs ys)) (sumQ xs ys)
      have h3 := HM.out
      have h4 := HSQ.out
      omega
    have HOK := Lib.hid hok
    clear hok HFG
    cases hab : isAb (facG (sumQ xs ys)) (r + s)
    · have HRS : Hid (res_SumAbelian xs r ys s [] 0 3) := Lib.hid (sum_ok HA1.out HA3.out (fp_ab hab))
      have HAB := Lib.hid hab
      clear hab
      go_wp2_with fail
      refine (l05Made_f _ _ _ (facG (sumQ xs ys)) _ _ (by exact HO7.out.rd) HM.out (by omega) HAB.out).mono ?_
      rintro e w7 ⟨rfl, hb⟩
      have HBD : Hid (Below w.heap.size w w7) := Lib.hid (HBF.out.trans (hb.mono HBF.out.size))
      have HXD : Hid (BX 27 w7 (w.heap.size + 1 + 1) #[.slice none 0 0, .int .i64 0]) := Lib.hid (HX6.out.keep hb)
      clear hb
      have X := (HXD.out.set 0 (.slice none 0 0)).set 1 (.int .i64 0)
      have y0 := X.cell 0
      have y1 := X.cell 1
      simp at y0 y1
      have l5 := HXD.out.lt
      have f0 := HXD.out.frz 0
      have f1 := HXD.out.frz 1
      have z0 := HXD.out.cell 0
      have z1 := HXD.out.cell 1
      simp at z0 z1
      clear X
      go_wp2_with fail
      refine bodyPost_ret (v := .tuple #[.agg #[.slice none 0 0, .int .i64 0], .int .i64 3]) (by simp [results, Try.results39, go_sem, y0, y1]) rfl ⟨[], 0, 3, none, 0, rfl, HRS.out, OwnI.none, ?_⟩
      exact (HBD.out.setCell (p := ⟨w.heap.size + 1 + 1, 0, none⟩) (by simp; omega) _).setCell (p := ⟨w.heap.size + 1 + 1, 1, none⟩) (by simp; omega) _
    · have HRS : Hid (res_SumAbelian xs r ys s (facG (sumQ xs ys)) (r + s) 0) := Lib.hid (sum_ok HA1.out HA3.out (fp_ok HOK.out hab))
      have HAB := Lib.hid hab
      clear hab
      go_wp2_with fail
      refine (l05Made_t _ _ _ (facG (sumQ xs ys)) _ _ (by exact HO7.out.rd) HM.out (by omega) HAB.out).mono ?_
      rintro e w7 ⟨rfl, hb⟩
      have HBD : Hid (Below w.heap.size w w7) := Lib.hid (HBF.out.trans (hb.mono HBF.out.size))
      have HXD : Hid (BX 27 w7 (w.heap.size + 1 + 1) #[.slice none 0 0, .int .i64 0]) := Lib.hid (HX6.out.keep hb)
      have HOD : Hid (OwnI 2 w7 w5.heap.size a6 m6 c6 (facG (sumQ xs ys))) := Lib.hid (HO7.out.keep hb (Nat.le_refl _))
      clear hb
      have X := (HXD.out.set 0 (.slice a6 m6 c6)).set 1 (.int .i64 (r + s))
      have y0 := X.cell 0
      have y1 := X.cell 1
      simp at y0 y1
      have l5 := HXD.out.lt
      have f0 := HXD.out.frz 0
      have f1 := HXD.out.frz 1
      have z0 := HXD.out.cell 0
      have z1 := HXD.out.cell 1
      simp at z0 z1
      clear X
      go_wp2_with fail
      refine bodyPost_ret (v := .tuple #[.agg #[.slice a6 m6 c6, .int .i64 (r + s)], .int .i64 0]) (by simp [results, Try.results39, go_sem, y0, y1]) rfl ⟨facG (sumQ xs ys), r + s, 0, a6, c6, by rw [HM.out], HRS.out, by rw [HM.out]; exact ((HOD.out.setCell (by simp; omega) _).setCell (by simp; omega) _).mono (by omega), ?_⟩
      exact (HBD.out.setCell (p := ⟨w.heap.size + 1 + 1, 0, none⟩) (by simp; omega) _).setCell (p := ⟨w.heap.size + 1 + 1, 1, none⟩) (by simp; omega) _
end Go.Proofs.Ytgdialknnjnehaa
