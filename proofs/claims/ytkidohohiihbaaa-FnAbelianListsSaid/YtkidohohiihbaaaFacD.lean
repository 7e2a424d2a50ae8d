/- The program's factors once more: it draws only forwards. -/
import Derived.Test.YtkidohohiihbaaaFac
import Derived.Test.YtkidohohiihbaaaPushD
set_option linter.unusedVariables false
set_option linter.unusedSimpArgs false
namespace Go.Proofs.Ytkidohohiihbaaa
open Go.RowKit

set_option maxHeartbeats 1000000 in
theorem factors_anyD (n0 : Int) (w : World) (h1 : 1 ≤ n0) (h2 : n0 ≤ 1000000) :
    Calls Try.prog 80 #[.int .i64 n0] w fun e w' => ∃ a1 n1 c1 a2 n2 c2, e = .returned (.tuple #[.slice a1 n1 c1, .slice a2 n2 c2]) ∧
      OwnI 2 w' w.heap.size a1 n1 c1 (primesOf n0) ∧ OwnI 2 w' w.heap.size a2 n2 c2 (expsOf n0) ∧ Apart a1 a2 ∧ Below w.heap.size w w' ∧ w.drawn ≤ w'.drawn := by
  have H0 := Lib.hid (And.intro (FR.start w n0 h1 h2) (Nat.le_refl w.drawn))
  go_enter Try.func80, Try.ntmps80
  go_wp2
  go_loopw [0, 4, 5, 6] (fun u v1 v2 v3 wr => ∃ (n p : Int) (f : Nat) (ps es : List Int) (a1 : Option Addr) (n1 c1 : Nat) (a2 : Option Addr) (n2 c2 : Nat), u = .int .i64 n ∧ v1 = .slice a1 n1 c1 ∧ v2 = .slice a2 n2 c2 ∧ v3 = .int .i64 p ∧ Hid (FR w wr n0 n p f ps es a1 n1 c1 a2 n2 c2 ∧ w.drawn ≤ wr.drawn))
    (fun u v1 v2 v3 _ => (intOf u - 1).toNat * 10000000 + (2000000 - intOf v3).toNat)
  case atStart => exact ⟨n0, 2, 1001, [], [], none, 0, 0, none, 0, 0, rfl, rfl, rfl, rfl, H0⟩
  case round =>
    obtain ⟨n, p, f, ps, es, a1, n1, c1, a2, n2, c2, rfl, rfl, rfl, rfl, HF⟩ := hrel
    clear H0
    obtain ⟨b1, b2⟩ := HF.out.1.nn
    have b3 := HF.out.1.p2
    have b4 := HF.out.1.pe
    by_cases hn : 1 < n
    · obtain ⟨m1, m2⟩ := mul_bd (x := p) (y := p) (by omega) b4 (by omega) b4
      have hsz : w.heap.size ≤ wr.heap.size := HF.out.1.bel.size
      have l1 := HF.out.1.l1
      have l2 := HF.out.1.l2
      by_cases hpp : p * p ≤ n
      · go_wp2
        go_loop [0, 7] (fun u v => ∃ (m k : Int) (g : Nat), u = .int .i64 m ∧ v = .int .i64 k ∧ Hid (Strip p n m k g)) (fun u _ => (intOf u).toNat)
        case atStart => exact ⟨n, 0, 20, rfl, rfl, Lib.hid (Strip.start (by omega) b2)⟩
        case round =>
          obtain ⟨m, k, g, rfl, rfl, HS⟩ := hrel
          have s1 := HS.out.n1
          have s2 := HS.out.e0
          have s3 := HS.out.ef
          have sl := HS.out.le
          by_cases hd : m % p = 0
          · obtain ⟨q1, q2, q3, q4⟩ := div_facts s1 (show 2 ≤ p by omega) hd
            obtain ⟨g', hg⟩ := HS.out.step (show 2 ≤ p by omega) hd
            have HG := Lib.hid hg
            have hd' : (m % p == 0) = true := beq_iff_eq.2 hd
            clear hd hg q4
            go_wp2
            go_round
            case rel => exact ⟨m / p, k + 1, g', rfl, rfl, HG⟩
            case measure => simp [intOf]; omega
          · obtain ⟨f1, f2⟩ := HS.out.fin hd
            have hd' : (m % p == 0) = false := beq_eq_false_iff_ne.2 hd
            have F1 := Lib.hid f1
            have F2 := Lib.hid f2
            clear hd f1 f2
            by_cases hk : 0 < k
            · have hk' : decide (0 < k) = true := by simpa using hk
              go_wp2_with (first
                | (at_builtin; refine wpList_pushD rfl (.tmp 29) (.tmp 31) 25 rfl w.heap.size 2 (.int .i64 0) 8 Try.underlying25 Try.info2f rfl (by decide) _ rfl _ _ _ _ rfl rfl HF.out.1.o1 (by omega) hsz ?_; rintro a1' c1' w1 r1 q1 g1 d1; have hsz1 := Nat.le_trans hsz g1.size; have o2' : OwnI 2 w1 w.heap.size a2 n2 c2 es := HF.out.1.o2.kept g1 (fun p hp hx => by obtain ⟨q, hq, e⟩ := hx; exact HF.out.1.ap q p hq hp e); have R1 := Lib.hid r1; have Q1 := Lib.hid q1; have G1 := Lib.hid g1; have O2 := Lib.hid o2'; have D1 := Lib.hid d1; clear r1 q1 g1 d1 o2')
                | (at_builtin; refine wpList_pushD rfl (.tmp 33) (.tmp 35) 25 rfl w.heap.size 2 (.int .i64 0) 8 Try.underlying25 Try.info2f rfl (by decide) _ rfl _ _ _ _ rfl rfl O2.out (by omega) hsz1 ?_; rintro a2' c2' w2 r2 q2 g2 d2; have R2 := Lib.hid r2; have Q2 := Lib.hid q2; have G2 := Lib.hid g2; have D2 := Lib.hid d2; clear r2 q2 g2 d2))
              obtain ⟨t1, t2, t3, t4⟩ := two_pushes HF.out.1.o1 HF.out.1.o2 HF.out.1.ap HF.out.1.bel hsz R1.out Q1.out G1.out R2.out Q2.out G2.out
              obtain ⟨g2, HR⟩ := HF.out.1.hit hn hpp (by rw [← F2.out]; exact hk) t1 (by rw [← F2.out]; exact t2) t3 t4
              rw [← F1.out, ← F2.out] at HR
              have HR' := Lib.hid (And.intro HR (Nat.le_trans HF.out.2 (Nat.le_trans D1.out D2.out)))
              clear HR t1 t2 t3 t4
              go_roundw
              case rel => exact ⟨m, p + 1, g2, ps ++ [p], es ++ [k], a1', n1 + 1, c1', a2', n2 + 1, c2', rfl, rfl, rfl, rfl, HR'⟩
              case measure => simp [intOf]; omega
            · obtain ⟨g2, HR⟩ := HF.out.1.skip hn hpp (by rw [← F2.out]; exact hk)
              rw [← F1.out] at HR
              have HR' := Lib.hid (And.intro HR HF.out.2)
              clear HR
              go_wp2
              go_roundw
              case rel => exact ⟨m, p + 1, g2, ps, es, a1, n1, c1, a2, n2, c2, rfl, rfl, rfl, rfl, HR'⟩
              case measure => simp [intOf]; omega
      · go_wp2
        go_loop [0, 7] (fun u v => ∃ (m k : Int) (g : Nat), u = .int .i64 m ∧ v = .int .i64 k ∧ Hid (Strip n n m k g)) (fun u _ => (intOf u).toNat)
        case atStart => exact ⟨n, 0, 20, rfl, rfl, Lib.hid (Strip.start (by omega) b2)⟩
        case round =>
          obtain ⟨m, k, g, rfl, rfl, HS⟩ := hrel
          have s1 := HS.out.n1
          have s2 := HS.out.e0
          have s3 := HS.out.ef
          have sl := HS.out.le
          by_cases hd : m % n = 0
          · obtain ⟨q1, q2, q3, q4⟩ := div_facts s1 (show 2 ≤ n by omega) hd
            obtain ⟨g', hg⟩ := HS.out.step (show 2 ≤ n by omega) hd
            have HG := Lib.hid hg
            have hd' : (m % n == 0) = true := beq_iff_eq.2 hd
            clear hd hg q4
            go_wp2
            go_round
            case rel => exact ⟨m / n, k + 1, g', rfl, rfl, HG⟩
            case measure => simp [intOf]; omega
          · obtain ⟨f1, f2⟩ := HS.out.fin hd
            have hd' : (m % n == 0) = false := beq_eq_false_iff_ne.2 hd
            have F1 := Lib.hid f1
            have F2 := Lib.hid f2
            clear hd f1 f2
            have hSS := strip_self hn
            rw [hSS] at F1 F2
            obtain rfl : m = 1 := F1.out
            obtain rfl : k = 1 := F2.out
            go_wp2_with (first
              | (at_builtin; refine wpList_pushD rfl (.tmp 29) (.tmp 31) 25 rfl w.heap.size 2 (.int .i64 0) 8 Try.underlying25 Try.info2f rfl (by decide) _ rfl _ _ _ _ rfl rfl HF.out.1.o1 (by omega) hsz ?_; rintro a1' c1' w1 r1 q1 g1 d1; have hsz1 := Nat.le_trans hsz g1.size; have o2' : OwnI 2 w1 w.heap.size a2 n2 c2 es := HF.out.1.o2.kept g1 (fun p hp hx => by obtain ⟨q, hq, e⟩ := hx; exact HF.out.1.ap q p hq hp e); have R1 := Lib.hid r1; have Q1 := Lib.hid q1; have G1 := Lib.hid g1; have O2 := Lib.hid o2'; have D1 := Lib.hid d1; clear r1 q1 g1 d1 o2')
              | (at_builtin; refine wpList_pushD rfl (.tmp 33) (.tmp 35) 25 rfl w.heap.size 2 (.int .i64 0) 8 Try.underlying25 Try.info2f rfl (by decide) _ rfl _ _ _ _ rfl rfl O2.out (by omega) hsz1 ?_; rintro a2' c2' w2 r2 q2 g2 d2; have R2 := Lib.hid r2; have Q2 := Lib.hid q2; have G2 := Lib.hid g2; have D2 := Lib.hid d2; clear r2 q2 g2 d2))
            obtain ⟨t1, t2, t3, t4⟩ := two_pushes HF.out.1.o1 HF.out.1.o2 HF.out.1.ap HF.out.1.bel hsz R1.out Q1.out G1.out R2.out Q2.out G2.out
            obtain ⟨g2, HR⟩ := HF.out.1.last hn (by omega) t1 t2 t3 t4
            have HR' := Lib.hid (And.intro HR (Nat.le_trans HF.out.2 (Nat.le_trans D1.out D2.out)))
            clear HR t1 t2 t3 t4
            go_roundw
            case rel => exact ⟨1, n + 1, g2, ps ++ [n], es ++ [1], a1', n1 + 1, c1', a2', n2 + 1, c2', rfl, rfl, rfl, rfl, HR'⟩
            case measure => simp [intOf]; omega
    · have HD := Lib.hid (HF.out.1.done hn)
      go_wp2
      go_ret2
      exact ⟨a1, n1, c1, a2, n2, c2, rfl, HD.out.1, HD.out.2.1, HD.out.2.2.1, HD.out.2.2.2, HF.out.2⟩
end Go.Proofs.Ytkidohohiihbaaa
