/- The law on proofs of Smith forms, from a code: what the checker accepts are the invariant factors, and its two factors are unimodular. -/
import Derived.Test.YtcnphhcdjhmmkaaLikeW
import Derived.Test.YtcnphhcdjhmmkaaDrP
import Derived.Test.YtcnphhcdjhmmkaaSmp
import Derived.Test.YtcnphhcdjhmmkaaSmpS
import Derived.Test.YtcnphhcdjhmmkaaSmfD
import Derived.Test.YtcnphhcdjhmmkaaCau2
import Derived.Test.YtcnphhcdjhmmkaaOpenB
set_option linter.unusedVariables false
set_option linter.unusedSimpArgs false
namespace Go.Proofs.Ytcnphhcdjhmmkaa
open Go.RowKit
theorem SmT.al {w : World} {q : Int} {a : Option Addr} {n c : Nat} {xs : List (List Int)} (h : SmT w q a n c xs) (ob : Obj) : SmT (w.alloc ob) q a n c xs := h.keep ((Below.refl w.heap.size w).alloc (Nat.le_refl _) ob) (Nat.le_refl _)
theorem SmT.xm {w : World} {q : Int} {a : Option Addr} {n c : Nat} {xs : List (List Int)} (h : SmT w q a n c xs) : ∀ i, i < n → (rw_ xs i).length ≤ 1048576 := fun i hi => Nat.le_trans (h.xl i hi) (by omega)
theorem SmT.nm {w : World} {q : Int} {a : Option Addr} {n c : Nat} {xs : List (List Int)} (h : SmT w q a n c xs) : n ≤ 1048576 := Nat.le_trans h.nl (by omega)
theorem smith_res {xs us vs : List (List Int)} {q q1 q2 : Int} {ds : List Int} (h : SpOk xs q us q1 vs q2 ds) {R : List Int} {d : Int} (hr : res_SmithFactors xs q R d) : R = ds ∧ d = 0 := by
  unfold res_SmithFactors sfV at hr
  rw [if_pos h.tb, smith_ok h] at hr
  exact ⟨congrArg Prod.fst hr, congrArg Prod.snd hr⟩
/-- three boxes of tables and the list -/
structure SX (T : TypeId) (w wr : World) (b1 b2 b3 : Nat) (q : Int) (a : Option Addr) (n c : Nat) (xs : List (List Int)) (q1 : Int) (a1 : Option Addr) (n1 c1 : Nat) (us : List (List Int)) (q2 : Int) (a2 : Option Addr) (n2 c2 : Nat) (vs : List (List Int)) (a3 : Option Addr) (ds : List Int) : Prop where
  bx : BX T wr b1 #[.int .i64 q, .slice a n c]
  bu : BX T wr b2 #[.int .i64 q1, .slice a1 n1 c1]
  bv : BX T wr b3 #[.int .i64 q2, .slice a2 n2 c2]
  tx : SmT wr q a n c xs
  tu : SmT wr q1 a1 n1 c1 us
  tv : SmT wr q2 a2 n2 c2 vs
  rd : RdI wr a3 ds
  low : Below w.heap.size w wr
theorem SX.keep {T : TypeId} {w wr w2 : World} {b1 b2 b3 : Nat} {q : Int} {a : Option Addr} {n c : Nat} {xs : List (List Int)} {q1 : Int} {a1 : Option Addr} {n1 c1 : Nat} {us : List (List Int)} {q2 : Int} {a2 : Option Addr} {n2 c2 : Nat} {vs : List (List Int)} {a3 : Option Addr} {ds : List Int} (h : SX T w wr b1 b2 b3 q a n c xs q1 a1 n1 c1 us q2 a2 n2 c2 vs a3 ds) (hb : Below wr.heap.size wr w2) : SX T w w2 b1 b2 b3 q a n c xs q1 a1 n1 c1 us q2 a2 n2 c2 vs a3 ds :=
  ⟨h.bx.keep hb, h.bu.keep hb, h.bv.keep hb, h.tx.keep hb (Nat.le_refl _), h.tu.keep hb (Nat.le_refl _), h.tv.keep hb (Nat.le_refl _), h.rd.keep hb (Nat.le_refl _), h.low.trans (hb.mono h.low.size)⟩
theorem SX.first {T : TypeId} {w w1 : World} {q : Int} {a : Option Addr} {n c : Nat} {xs : List (List Int)} {q1 : Int} {a1 : Option Addr} {n1 c1 : Nat} {us : List (List Int)} {q2 : Int} {a2 : Option Addr} {n2 c2 : Nat} {vs : List (List Int)} {a3 : Option Addr} {ds : List Int} (hT : SmT w1 q a n c xs) (hU : SmT w1 q1 a1 n1 c1 us) (hV : SmT w1 q2 a2 n2 c2 vs) (hd : RdI w1 a3 ds) (hb : Below w.heap.size w w1) :
    SX T w (((w1.alloc (.cells #[.int .i64 q, .slice a n c] T)).alloc (.cells #[.int .i64 q1, .slice a1 n1 c1] T)).alloc (.cells #[.int .i64 q2, .slice a2 n2 c2] T)) w1.heap.size (w1.heap.size + 1) (w1.heap.size + 1 + 1) q a n c xs q1 a1 n1 c1 us q2 a2 n2 c2 vs a3 ds := by
  have e1 : (w1.alloc (.cells #[.int .i64 q, .slice a n c] T)).heap.size = w1.heap.size + 1 := by simp
  have e2 : ((w1.alloc (.cells #[.int .i64 q, .slice a n c] T)).alloc (.cells #[.int .i64 q1, .slice a1 n1 c1] T)).heap.size = w1.heap.size + 1 + 1 := by simp
  refine ⟨((BX.new _ _ _).alloc _).alloc _, ?_, ?_, ((hT.al _).al _).al _, ((hU.al _).al _).al _, ((hV.al _).al _).al _, ?_, ?_⟩
  · rw [← e1]; exact (BX.new _ _ _).alloc _
  · rw [← e2]; exact BX.new _ _ _
  · exact hd.keep ((((Below.refl w1.heap.size w1).alloc (Nat.le_refl _) _).alloc (by simp) _).alloc (by simp; omega) _) (Nat.le_refl _)
  · exact ((hb.alloc hb.size _).alloc (Nat.le_trans hb.size (by simp)) _).alloc (Nat.le_trans hb.size (by simp; omega)) _
set_option maxRecDepth 20000 in
set_option maxHeartbeats 8000000 in
theorem law_SmithProof (a0 : Option Addr) (n0 c0 : Nat) (bs : List Int) (w : World) (hl : bs.length = n0) (hx : RdB w a0 bs) (hw : ∀ x ∈ bs, 0 ≤ x ∧ x ≤ 255) (hc : n0 ≤ c0) (hm : n0 ≤ maxLen) :
    Calls Try.prog 4 #[.slice a0 n0 c0] w fun e w' => e = .returned (.bool true) ∧ Below w.heap.size w w' := by
  by_cases hbig : 4096 < n0
  · clear hx hw
    go_enter Try.func4, Try.ntmps4
    go_wp2_with (go_at_call 5; refine (big_t _ _ _ _ hbig hm).mono ?_; rintro e w' ⟨rfl, rfl⟩)
    go_ret
    exact ⟨rfl, Below.refl _ _⟩
  have hs : n0 ≤ 4096 := by omega
  have HS := Lib.hid (Code0.of hl hx hw hs)
  clear hl hx hw hm hbig
  go_enter Try.func4, Try.ntmps4
  go_wp2_with (go_at_call 5; refine (big_f _ _ _ _ hs).mono ?_; rintro e w' ⟨rfl, rfl⟩)
  refine (DrawIsSmithProof_any a0 n0 c0 bs w HS.out hc).mono ?_
  rintro e w1 hpost
  unfold DrawnSmith at hpost
  obtain ⟨q, au, nu, cu, xs, q1, a1, n1, c1, us, q2, a2, n2, c2, vs, a3, n3, c3, ds, rfl, hT, hU, hV, hd, hdl, hdn, hdi, hb⟩ := hpost
  have HX := Lib.hid (SX.first (T := 26) hT hU hV hd hb)
  have HDI := Lib.hid hdi
  have hnn : n3 ≤ 1048576 := by omega
  clear hT hU hV hd hb HS hdi
  go_wp2_with fail
  obtain ⟨w2, hw2⟩ : ∃ x, x = (((w1.alloc (.cells #[.int .i64 q, .slice au nu cu] 26)).alloc (.cells #[.int .i64 q1, .slice a1 n1 c1] 26)).alloc (.cells #[.int .i64 q2, .slice a2 n2 c2] 26)) := ⟨_, rfl⟩
  rw [← hw2] at HX ⊢
  obtain ⟨b1, hb1⟩ : ∃ x, x = w1.heap.size := ⟨_, rfl⟩
  rw [← hb1] at HX ⊢
  clear hw2 hb1
  have HX2 := HX
  clear HX
  by_cases hp : SpOk xs q us q1 vs q2 ds
  · have E1 := spB_t hp
    refine (impl_IsSmithProof_any q au nu cu xs q1 a1 n1 c1 us q2 a2 n2 c2 vs a3 n3 c3 ds _ HX2.out.tx.iq (by exact HX2.out.tx.rd) HX2.out.tx.len HX2.out.tx.xm HX2.out.tx.nm HX2.out.tx.cap HX2.out.tu.iq (by exact HX2.out.tu.rd) HX2.out.tu.len HX2.out.tu.xm HX2.out.tu.nm HX2.out.tu.cap HX2.out.tv.iq (by exact HX2.out.tv.rd) HX2.out.tv.len HX2.out.tv.xm HX2.out.tv.nm HX2.out.tv.cap (by exact HX2.out.rd) hdl hnn HDI.out).mono ?_
    rw [E1]
    rintro e w3 ⟨rfl, hb⟩
    have HX3 := Lib.hid (HX2.out.keep hb)
    clear HX2 hb
    have yx0 := HX3.out.bx.cell 0
    have yx1 := HX3.out.bx.cell 1
    have lx := HX3.out.bx.lt
    have yu0 := HX3.out.bu.cell 0
    have yu1 := HX3.out.bu.cell 1
    have lu := HX3.out.bu.lt
    have yv0 := HX3.out.bv.cell 0
    have yv1 := HX3.out.bv.cell 1
    have lv := HX3.out.bv.lt
    simp at yx0 yx1 yu0 yu1 yv0 yv1
    go_wp2_with fail
    refine (spec_IsSmithProof_any q au nu cu xs q1 a1 n1 c1 us q2 a2 n2 c2 vs a3 n3 c3 ds _ HX3.out.tx.iq (by exact HX3.out.tx.rd) HX3.out.tx.len HX3.out.tx.xm HX3.out.tx.nm HX3.out.tx.cap HX3.out.tu.iq (by exact HX3.out.tu.rd) HX3.out.tu.len HX3.out.tu.xm HX3.out.tu.nm HX3.out.tu.cap HX3.out.tv.iq (by exact HX3.out.tv.rd) HX3.out.tv.len HX3.out.tv.xm HX3.out.tv.nm HX3.out.tv.cap (by exact HX3.out.rd) hdl hnn HDI.out).mono ?_
    rw [E1]
    rintro e w4 ⟨rfl, hb⟩
    clear yx0 yx1 lx yu0 yu1 lu yv0 yv1 lv
    have HX4 := Lib.hid (HX3.out.keep hb)
    clear HX3 hb
    have yx0 := HX4.out.bx.cell 0
    have yx1 := HX4.out.bx.cell 1
    have lx := HX4.out.bx.lt
    have yu0 := HX4.out.bu.cell 0
    have yu1 := HX4.out.bu.cell 1
    have lu := HX4.out.bu.lt
    have yv0 := HX4.out.bv.cell 0
    have yv1 := HX4.out.bv.cell 1
    have lv := HX4.out.bv.lt
    simp at yx0 yx1 yu0 yu1 yv0 yv1
    go_wp2_with fail
    refine (impl_SmithFactors_any q au nu cu xs _ HX4.out.tx.iq (by exact HX4.out.tx.rd) HX4.out.tx.len HX4.out.tx.xm HX4.out.tx.nm HX4.out.tx.cap).mono ?_
    rintro e w5 ⟨R, d, ar, cr, rfl, hR, ho, hb⟩
    obtain ⟨rfl, rfl⟩ := smith_res hp hR
    have HX5 := Lib.hid (HX4.out.keep hb)
    clear yx0 yx1 lx yu0 yu1 lu yv0 yv1 lv
    have HO5 := Lib.hid ho.rd
    clear HX4 hb hR ho
    have yx0 := HX5.out.bx.cell 0
    have yx1 := HX5.out.bx.cell 1
    have lx := HX5.out.bx.lt
    have yu0 := HX5.out.bu.cell 0
    have yu1 := HX5.out.bu.cell 1
    have lu := HX5.out.bu.lt
    have yv0 := HX5.out.bv.cell 0
    have yv1 := HX5.out.bv.cell 1
    have lv := HX5.out.bv.lt
    simp at yx0 yx1 yu0 yu1 yv0 yv1
    have e0 : ((0 : Int) == 0) = true := by rfl
    go_wp2_with fail
    refine (likeInts_t ar a3 n3 n3 cr c3 R _ (by exact HO5.out) (by exact HX5.out.rd) hdl hdl (by omega)).mono ?_
    rintro e w6 ⟨rfl, hb⟩
    clear yx0 yx1 lx yu0 yu1 lu yv0 yv1 lv
    have HX6 := Lib.hid (HX5.out.keep hb)
    clear HX5 HO5 hb
    have EU := hp.uu
    have EV := hp.uv
    have yx0 := HX6.out.bx.cell 0
    have yx1 := HX6.out.bx.cell 1
    have lx := HX6.out.bx.lt
    have yu0 := HX6.out.bu.cell 0
    have yu1 := HX6.out.bu.cell 1
    have lu := HX6.out.bu.lt
    have yv0 := HX6.out.bv.cell 0
    have yv1 := HX6.out.bv.cell 1
    have lv := HX6.out.bv.lt
    simp at yx0 yx1 yu0 yu1 yv0 yv1
    go_wp2_with fail
    refine (impl_IsUnimodular_any q1 a1 n1 c1 us _ HX6.out.tu.iq (by exact HX6.out.tu.rd) HX6.out.tu.len HX6.out.tu.xm HX6.out.tu.nm HX6.out.tu.cap).mono ?_
    rw [EU]
    rintro e w7 ⟨rfl, hb⟩
    clear yx0 yx1 lx yu0 yu1 lu yv0 yv1 lv
    have HX7 := Lib.hid (HX6.out.keep hb)
    clear HX6 hb
    have yx0 := HX7.out.bx.cell 0
    have yx1 := HX7.out.bx.cell 1
    have lx := HX7.out.bx.lt
    have yu0 := HX7.out.bu.cell 0
    have yu1 := HX7.out.bu.cell 1
    have lu := HX7.out.bu.lt
    have yv0 := HX7.out.bv.cell 0
    have yv1 := HX7.out.bv.cell 1
    have lv := HX7.out.bv.lt
    simp at yx0 yx1 yu0 yu1 yv0 yv1
    go_wp2_with fail
    refine (impl_IsUnimodular_any q2 a2 n2 c2 vs _ HX7.out.tv.iq (by exact HX7.out.tv.rd) HX7.out.tv.len HX7.out.tv.xm HX7.out.tv.nm HX7.out.tv.cap).mono ?_
    rw [EV]
    rintro e w8 ⟨rfl, hb⟩
    have HX8 := Lib.hid (HX7.out.keep hb)
    clear HX7 hb
    go_wp2_with fail
    go_ret
    exact ⟨rfl, HX8.out.low⟩
  · have E1 := spB_f hp
    refine (impl_IsSmithProof_any q au nu cu xs q1 a1 n1 c1 us q2 a2 n2 c2 vs a3 n3 c3 ds _ HX2.out.tx.iq (by exact HX2.out.tx.rd) HX2.out.tx.len HX2.out.tx.xm HX2.out.tx.nm HX2.out.tx.cap HX2.out.tu.iq (by exact HX2.out.tu.rd) HX2.out.tu.len HX2.out.tu.xm HX2.out.tu.nm HX2.out.tu.cap HX2.out.tv.iq (by exact HX2.out.tv.rd) HX2.out.tv.len HX2.out.tv.xm HX2.out.tv.nm HX2.out.tv.cap (by exact HX2.out.rd) hdl hnn HDI.out).mono ?_
    rw [E1]
    rintro e w3 ⟨rfl, hb⟩
    have HX3 := Lib.hid (HX2.out.keep hb)
    clear HX2 hb
    have yx0 := HX3.out.bx.cell 0
    have yx1 := HX3.out.bx.cell 1
    have lx := HX3.out.bx.lt
    have yu0 := HX3.out.bu.cell 0
    have yu1 := HX3.out.bu.cell 1
    have lu := HX3.out.bu.lt
    have yv0 := HX3.out.bv.cell 0
    have yv1 := HX3.out.bv.cell 1
    have lv := HX3.out.bv.lt
    simp at yx0 yx1 yu0 yu1 yv0 yv1
    go_wp2_with fail
    refine (spec_IsSmithProof_any q au nu cu xs q1 a1 n1 c1 us q2 a2 n2 c2 vs a3 n3 c3 ds _ HX3.out.tx.iq (by exact HX3.out.tx.rd) HX3.out.tx.len HX3.out.tx.xm HX3.out.tx.nm HX3.out.tx.cap HX3.out.tu.iq (by exact HX3.out.tu.rd) HX3.out.tu.len HX3.out.tu.xm HX3.out.tu.nm HX3.out.tu.cap HX3.out.tv.iq (by exact HX3.out.tv.rd) HX3.out.tv.len HX3.out.tv.xm HX3.out.tv.nm HX3.out.tv.cap (by exact HX3.out.rd) hdl hnn HDI.out).mono ?_
    rw [E1]
    rintro e w4 ⟨rfl, hb⟩
    clear yx0 yx1 lx yu0 yu1 lu yv0 yv1 lv
    have HX4 := Lib.hid (HX3.out.keep hb)
    clear HX3 hb
    have yx0 := HX4.out.bx.cell 0
    have yx1 := HX4.out.bx.cell 1
    have lx := HX4.out.bx.lt
    have yu0 := HX4.out.bu.cell 0
    have yu1 := HX4.out.bu.cell 1
    have lu := HX4.out.bu.lt
    have yv0 := HX4.out.bv.cell 0
    have yv1 := HX4.out.bv.cell 1
    have lv := HX4.out.bv.lt
    simp at yx0 yx1 yu0 yu1 yv0 yv1
    go_wp2_with fail
    go_ret
    exact ⟨rfl, HX4.out.low⟩
end Go.Proofs.Ytcnphhcdjhmmkaa
