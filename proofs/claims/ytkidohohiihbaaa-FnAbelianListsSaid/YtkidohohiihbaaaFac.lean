/- The primes that divide a number, and their exponents, as the program and the reference reckon them. -/
import Derived.Test.YtkidohohiihbaaaNumB
import Derived.Test.YtkidohohiihbaaaList
set_option linter.unusedVariables false
set_option linter.unusedSimpArgs false
namespace Go.Proofs.Ytkidohohiihbaaa
open Go.RowKit

/-- what is left of n when p is taken out, and how often it was taken -/
def strip (p : Int) : Nat → Int → Int × Int
  | 0, n => (n, 0)
  | f + 1, n => if n % p = 0 then ((strip p f (n / p)).1, (strip p f (n / p)).2 + 1) else (n, 0)
theorem strip_no {p n : Int} (h : n % p ≠ 0) : ∀ f, strip p f n = (n, 0)
  | 0 => rfl
  | f + 1 => by simp [strip, h]
theorem strip_yes {p n : Int} (h : n % p = 0) (f : Nat) : strip p (f + 1) n = ((strip p f (n / p)).1, (strip p f (n / p)).2 + 1) := by simp [strip, h]
theorem div_facts {p n : Int} (h1 : 1 ≤ n) (hp : 2 ≤ p) (hd : n % p = 0) : p ≤ n ∧ 1 ≤ n / p ∧ n / p < n ∧ p * (n / p) = n := by
  have h6 : p ≤ n := Int.le_of_dvd (by omega) (Int.dvd_of_emod_eq_zero hd)
  refine ⟨h6, Int.le_ediv_of_mul_le (by omega) (by omega), Int.ediv_lt_of_lt_mul (by omega) ?_, Int.mul_ediv_cancel' (Int.dvd_of_emod_eq_zero hd)⟩
  have := Int.mul_lt_mul_of_pos_left (show 1 < p by omega) (show 0 < n by omega)
  omega
structure Strip (p n0 n e : Int) (f : Nat) : Prop where
  n1 : 1 ≤ n
  e0 : 0 ≤ e
  ef : e + f = 20
  nf : n < 2 ^ f
  le : n ≤ n0
  eq1 : (strip p f n).1 = (strip p 20 n0).1
  eq2 : (strip p f n).2 + e = (strip p 20 n0).2
theorem Strip.start {p n : Int} (h1 : 1 ≤ n) (h2 : n ≤ 1000000) : Strip p n n 0 20 :=
  ⟨h1, by omega, by omega, by have : (2:Int) ^ 20 = 1048576 := by decide
                              omega, by omega, rfl, by omega⟩
theorem Strip.step {p n0 n e : Int} {f : Nat} (h : Strip p n0 n e f) (hp : 2 ≤ p) (hd : n % p = 0) : ∃ g, Strip p n0 (n / p) (e + 1) g := by
  have h1 := h.n1
  obtain ⟨q1, q2, q3, q4⟩ := div_facts h1 hp hd
  cases f with
  | zero => have := h.nf; simp at this; omega
  | succ f =>
    refine ⟨f, q2, by have := h.e0; omega, by have := h.ef; omega, ?_, by have := h.le; omega, ?_, ?_⟩
    · have h5 := h.nf
      rw [Int.pow_succ] at h5
      refine Int.ediv_lt_of_lt_mul (by omega) ?_
      have := Int.mul_le_mul_of_nonneg_left hp (Int.le_of_lt (Int.pow_pos (show (0:Int) < 2 by omega) : (0:Int) < 2 ^ f))
      omega
    · rw [← h.eq1, strip_yes hd]
    · rw [← h.eq2, strip_yes hd]; simp only; omega
theorem Strip.fin {p n0 n e : Int} {f : Nat} (h : Strip p n0 n e f) (hd : n % p ≠ 0) : n = (strip p 20 n0).1 ∧ e = (strip p 20 n0).2 := by
  have h1 := h.eq1
  have h2 := h.eq2
  rw [strip_no hd] at h1 h2
  simp only at h1 h2
  omega
theorem strip_bd {p : Int} (hp : 2 ≤ p) : ∀ (f : Nat) (n : Int), 1 ≤ n → 1 ≤ (strip p f n).1 ∧ (strip p f n).1 ≤ n ∧ 0 ≤ (strip p f n).2 ∧ (strip p f n).2 ≤ f
  | 0, n, h => by simp [strip]; omega
  | f + 1, n, h => by
    by_cases hd : n % p = 0
    · obtain ⟨q1, q2, q3, q4⟩ := div_facts h hp hd
      have := strip_bd hp f (n / p) q2
      rw [strip_yes hd]
      simp only
      omega
    · rw [strip_no hd]; simp only; omega
theorem strip_zero {p n : Int} {f : Nat} : (strip p (f + 1) n).2 = 0 ∨ n % p = 0 := by
  by_cases h : n % p = 0
  · exact .inr h
  · left; rw [strip_no h]

/-- the primes with their exponents, from the candidate p on; f is how many candidates may still come -/
def facs : Nat → Int → Int → List (Int × Int)
  | 0, n, _ => if 1 < n then [(n, 1)] else []
  | f + 1, n, p => if p * p ≤ n then
      (if 0 < (strip p 20 n).2 then [(p, (strip p 20 n).2)] else []) ++ facs f (strip p 20 n).1 (p + 1)
    else if 1 < n then [(n, 1)] else []
theorem facs_end {n p : Int} (h : n < p * p) : ∀ f, facs f n p = if 1 < n then [(n, 1)] else []
  | 0 => rfl
  | f + 1 => by simp only [facs]; rw [if_neg (by omega)]
theorem facs_go {n p : Int} (h : p * p ≤ n) (f : Nat) : facs (f + 1) n p = (if 0 < (strip p 20 n).2 then [(p, (strip p 20 n).2)] else []) ++ facs f (strip p 20 n).1 (p + 1) := by
  simp only [facs]; rw [if_pos h]
theorem strip_self {n : Int} (h : 1 < n) : strip n 20 n = (1, 1) := by
  have h1 : n % n = 0 := Int.emod_self
  have h2 : n / n = 1 := Int.ediv_self (by omega)
  have h3 : (1 : Int) % n ≠ 0 := by rw [Int.emod_eq_of_lt (by omega) (by omega)]; omega
  rw [strip_yes h1, h2, strip_no h3]
  rfl
def primesOf (n : Int) : List Int := (facs 1001 n 2).map Prod.fst
def expsOf (n : Int) : List Int := (facs 1001 n 2).map Prod.snd
theorem facs_len : ∀ (f : Nat) (n p : Int), (facs f n p).length ≤ f + 1
  | 0, n, p => by unfold facs; split <;> simp
  | f + 1, n, p => by
    unfold facs
    split
    · have := facs_len f (strip p 20 n).1 (p + 1)
      rw [List.length_append]
      split <;> simp <;> omega
    · split <;> simp

theorem Try.info2f : (Try.prog.info? 2).map (fun i => (i.zero, i.size, i.bytes)) = some (some (.int .i64 0), 1, 8) := by kernel_rfl
/-- what holds at the head of each round of the program's factors -/
structure FR (w wr : World) (n0 n p : Int) (f : Nat) (ps es : List Int) (a1 : Option Addr) (n1 c1 : Nat) (a2 : Option Addr) (n2 c2 : Nat) : Prop where
  o1 : OwnI 2 wr w.heap.size a1 n1 c1 ps
  o2 : OwnI 2 wr w.heap.size a2 n2 c2 es
  ap : Apart a1 a2
  bel : Below w.heap.size w wr
  nn : 1 ≤ n ∧ n ≤ 1000000
  p2 : 2 ≤ p
  fp : n = 1 ∨ (f : Int) + p = 1003
  pe : p ≤ 1000001
  l1 : n1 ≤ 1003
  l2 : n2 ≤ 1003
  e1 : ps ++ (facs f n p).map Prod.fst = primesOf n0
  e2 : es ++ (facs f n p).map Prod.snd = expsOf n0

theorem FR.start (w : World) (n : Int) (h1 : 1 ≤ n) (h2 : n ≤ 1000000) : FR w w n n 2 1001 [] [] none 0 0 none 0 0 :=
  ⟨OwnI.none, OwnI.none, Apart.none _, Below.refl _ _, ⟨h1, h2⟩, by omega, .inr (by omega), by omega, by omega, by omega, rfl, rfl⟩
theorem FR.done {w wr : World} {n0 n p : Int} {f : Nat} {ps es : List Int} {a1 : Option Addr} {n1 c1 : Nat} {a2 : Option Addr} {n2 c2 : Nat} (h : FR w wr n0 n p f ps es a1 n1 c1 a2 n2 c2) (hn : ¬ 1 < n) :
    OwnI 2 wr w.heap.size a1 n1 c1 (primesOf n0) ∧ OwnI 2 wr w.heap.size a2 n2 c2 (expsOf n0) ∧ Apart a1 a2 ∧ Below w.heap.size w wr := by
  have hn1 : n = 1 := by have := h.nn; omega
  have hp := h.p2
  have hf : facs f n p = [] := by
    have : n < p * p := by have := (mul_bd (x := 2) (y := 2) (A := p) (B := p) (by omega) hp (by omega) hp).2; omega
    rw [facs_end this, if_neg hn]
  have e1 := h.e1
  have e2 := h.e2
  rw [hf] at e1 e2
  simp at e1 e2
  rw [← e1, ← e2]
  exact ⟨h.o1, h.o2, h.ap, h.bel⟩
/-- a candidate that does not divide -/
theorem FR.skip {w wr : World} {n0 n p : Int} {f : Nat} {ps es : List Int} {a1 : Option Addr} {n1 c1 : Nat} {a2 : Option Addr} {n2 c2 : Nat} (h : FR w wr n0 n p f ps es a1 n1 c1 a2 n2 c2) (hn : 1 < n) (hpp : p * p ≤ n)
    (he : ¬ 0 < (strip p 20 n).2) : ∃ g, FR w wr n0 (strip p 20 n).1 (p + 1) g ps es a1 n1 c1 a2 n2 c2 := by
  have hp := h.p2
  have hp1 : p ≤ 1000 := by
    refine Int.le_of_not_gt fun hh => ?_
    have := (mul_bd (x := 1001) (y := 1001) (A := p) (B := p) (by omega) (by omega) (by omega) (by omega)).2
    have := h.nn
    omega
  have hb := strip_bd hp 20 n (by omega)
  cases f with
  | zero => have := h.fp; omega
  | succ f =>
    have e1 := h.e1
    have e2 := h.e2
    rw [facs_go hpp, if_neg he] at e1 e2
    exact ⟨f, h.o1, h.o2, h.ap, h.bel, by have := h.nn; omega, by omega, by have := h.fp; omega, by omega, h.l1, h.l2, e1, e2⟩
/-- a candidate that divides: both lists are longer by one -/
theorem FR.hit {w wr wr' : World} {n0 n p : Int} {f : Nat} {ps es : List Int} {a1 a1' : Option Addr} {n1 c1 c1' : Nat} {a2 a2' : Option Addr} {n2 c2 c2' : Nat} (h : FR w wr n0 n p f ps es a1 n1 c1 a2 n2 c2) (hn : 1 < n) (hpp : p * p ≤ n)
    (he : 0 < (strip p 20 n).2) (o1 : OwnI 2 wr' w.heap.size a1' (n1 + 1) c1' (ps ++ [p])) (o2 : OwnI 2 wr' w.heap.size a2' (n2 + 1) c2' (es ++ [(strip p 20 n).2])) (ap : Apart a1' a2') (hb' : Below w.heap.size w wr') :
    ∃ g, FR w wr' n0 (strip p 20 n).1 (p + 1) g (ps ++ [p]) (es ++ [(strip p 20 n).2]) a1' (n1 + 1) c1' a2' (n2 + 1) c2' := by
  have hp := h.p2
  have hp1 : p ≤ 1000 := by
    refine Int.le_of_not_gt fun hh => ?_
    have := (mul_bd (x := 1001) (y := 1001) (A := p) (B := p) (by omega) (by omega) (by omega) (by omega)).2
    have := h.nn
    omega
  have hb := strip_bd hp 20 n (by omega)
  cases f with
  | zero => have := h.fp; omega
  | succ f =>
    have e1 := h.e1
    have e2 := h.e2
    rw [facs_go hpp, if_pos he] at e1 e2
    have t1 := congrArg List.length e1
    have t2 := congrArg List.length e2
    have q : (facs 1001 n0 2).length ≤ 1002 := facs_len _ _ _
    have l1 := h.o1.len
    have l2 := h.o2.len
    simp [primesOf] at t1
    simp [expsOf] at t2
    exact ⟨f, o1, o2, ap, hb', by have := h.nn; omega, by omega, by have := h.fp; omega, by omega, by omega, by omega, by simpa using e1, by simpa using e2⟩
/-- the last prime -/
theorem FR.last {w wr wr' : World} {n0 n p : Int} {f : Nat} {ps es : List Int} {a1 a1' : Option Addr} {n1 c1 c1' : Nat} {a2 a2' : Option Addr} {n2 c2 c2' : Nat} (h : FR w wr n0 n p f ps es a1 n1 c1 a2 n2 c2) (hn : 1 < n) (hpp : n < p * p)
    (o1 : OwnI 2 wr' w.heap.size a1' (n1 + 1) c1' (ps ++ [n])) (o2 : OwnI 2 wr' w.heap.size a2' (n2 + 1) c2' (es ++ [1])) (ap : Apart a1' a2') (hb' : Below w.heap.size w wr') :
    ∃ g, FR w wr' n0 1 (n + 1) g (ps ++ [n]) (es ++ [1]) a1' (n1 + 1) c1' a2' (n2 + 1) c2' := by
  have e1 := h.e1
  have e2 := h.e2
  rw [facs_end hpp, if_pos hn] at e1 e2
  have t1 := congrArg List.length e1
  have t2 := congrArg List.length e2
  have q : (facs 1001 n0 2).length ≤ 1002 := facs_len _ _ _
  have l1 := h.o1.len
  have l2 := h.o2.len
  simp [primesOf] at t1
  simp [expsOf] at t2
  refine ⟨0, o1, o2, ap, hb', by omega, by omega, .inl rfl, by have := h.nn; omega, by omega, by omega, ?_, ?_⟩
  · simpa [facs] using e1
  · simpa [facs] using e2
/-- what two appends make of two slices that lie apart -/
theorem two_pushes {T : TypeId} {w0 wr w1 w2 : World} {B : Nat} {a1 a1' a2 a2' : Option Addr} {n1 c1 c1' n2 c2 c2' : Nat} {ps es : List Int} {x y : Int} (o1 : OwnI T wr B a1 n1 c1 ps) (o2 : OwnI T wr B a2 n2 c2 es) (ap : Apart a1 a2) (bel : Below B w0 wr) (hB : B ≤ wr.heap.size)
    (r1 : w1.ownsRow B T 1 (.slice a1' (n1 + 1) c1') (n1 + 1) (ps.map (Value.int .i64) ++ [.int .i64 x])) (q1 : a1' = a1 ∨ ∃ p, a1' = some p ∧ wr.heap.size ≤ p.block) (g1 : Chg (fun k => ∃ p, a1 = some p ∧ p.block = k) wr w1)
    (r2 : w2.ownsRow B T 1 (.slice a2' (n2 + 1) c2') (n2 + 1) (es.map (Value.int .i64) ++ [.int .i64 y])) (q2 : a2' = a2 ∨ ∃ p, a2' = some p ∧ w1.heap.size ≤ p.block) (g2 : Chg (fun k => ∃ p, a2 = some p ∧ p.block = k) w1 w2) :
    OwnI T w2 B a1' (n1 + 1) c1' (ps ++ [x]) ∧ OwnI T w2 B a2' (n2 + 1) c2' (es ++ [y]) ∧ Apart a1' a2' ∧ Below B w0 w2 := by
  have h1 := OwnI.pushed r1
  have h2 := OwnI.pushed r2
  have hs1 := g1.size
  have ap1 : Apart a1' a2 := by
    intro p q hp hq
    rcases q1 with q1 | ⟨p', q1, q1'⟩
    · subst q1; exact ap p q hp hq
    · rw [q1] at hp; injection hp with e; subst e
      have := (o2.block q hq).2
      omega
  have ap2 : Apart a1' a2' := by
    intro p q hp hq
    rcases q2 with q2 | ⟨p', q2, q2'⟩
    · subst q2; exact ap1 p q hp hq
    · rw [q2] at hq; injection hq with e; subst e
      have := (h1.block p hp).2
      omega
  refine ⟨h1.kept g2 (fun p hp ⟨q, hq, e⟩ => ap1 p q hp hq e.symm), h2, ap2, ?_⟩
  have b1 : Below B wr w1 := g1.below hB (fun k hk ⟨p, hp, e⟩ => by have := (o1.block p hp).1; omega)
  have o2' : OwnI T w1 B a2 n2 c2 es := o2.kept g1 (fun p hp ⟨q, hq, e⟩ => ap q p hq hp e)
  have b2 : Below B w1 w2 := g2.below (by omega) (fun k hk ⟨p, hp, e⟩ => by have := (o2'.block p hp).1; omega)
  exact (bel.trans b1).trans b2

set_option maxHeartbeats 1000000 in
theorem factors_any (n0 : Int) (w : World) (h1 : 1 ≤ n0) (h2 : n0 ≤ 1000000) :
    Calls Try.prog 80 #[.int .i64 n0] w fun e w' => ∃ a1 n1 c1 a2 n2 c2, e = .returned (.tuple #[.slice a1 n1 c1, .slice a2 n2 c2]) ∧
      OwnI 2 w' w.heap.size a1 n1 c1 (primesOf n0) ∧ OwnI 2 w' w.heap.size a2 n2 c2 (expsOf n0) ∧ Apart a1 a2 ∧ Below w.heap.size w w' := by
  have H0 := Lib.hid (FR.start w n0 h1 h2)
  go_enter Try.func80, Try.ntmps80
  go_wp2
  go_loopw [0, 4, 5, 6] (fun u v1 v2 v3 wr => ∃ (n p : Int) (f : Nat) (ps es : List Int) (a1 : Option Addr) (n1 c1 : Nat) (a2 : Option Addr) (n2 c2 : Nat), u = .int .i64 n ∧ v1 = .slice a1 n1 c1 ∧ v2 = .slice a2 n2 c2 ∧ v3 = .int .i64 p ∧ Hid (FR w wr n0 n p f ps es a1 n1 c1 a2 n2 c2))
    (fun u v1 v2 v3 _ => (intOf u - 1).toNat * 10000000 + (2000000 - intOf v3).toNat)
  case atStart => exact ⟨n0, 2, 1001, [], [], none, 0, 0, none, 0, 0, rfl, rfl, rfl, rfl, H0⟩
  case round =>
    obtain ⟨n, p, f, ps, es, a1, n1, c1, a2, n2, c2, rfl, rfl, rfl, rfl, HF⟩ := hrel
    clear H0
    obtain ⟨b1, b2⟩ := HF.out.nn
    have b3 := HF.out.p2
    have b4 := HF.out.pe
    by_cases hn : 1 < n
    · obtain ⟨m1, m2⟩ := mul_bd (x := p) (y := p) (by omega) b4 (by omega) b4
      have hsz : w.heap.size ≤ wr.heap.size := HF.out.bel.size
      have l1 := HF.out.l1
      have l2 := HF.out.l2
      by_cases hpp : p * p ≤ n
      · go_wp2
        go_loop [0, 7] (fun u v => ∃ (m k : Int) (g : Nat), u = .int .i64 m ∧ v = .int .i64 k ∧ Hid (Strip p n m k g)) (fun u _ => (intOf u).toNat)
        case atStart => exact ⟨n, 0, 20, rfl, rfl, Lib.hid (Strip.start (by omega) b2)⟩
        case round =>
          obtain ⟨m, k, g, rfl, rfl, HS⟩ := hrel
          have s1 := HS.out.n1
          have s2 := HS.out.e0
          have s3 := HS.out.ef
          have sl := HS.out.le
          by_cases hd : m % p = 0
          · obtain ⟨q1, q2, q3, q4⟩ := div_facts s1 (show 2 ≤ p by omega) hd
            obtain ⟨g', hg⟩ := HS.out.step (show 2 ≤ p by omega) hd
            have HG := Lib.hid hg
            have hd' : (m % p == 0) = true := beq_iff_eq.2 hd
            clear hd hg q4
            go_wp2
            go_round
            case rel => exact ⟨m / p, k + 1, g', rfl, rfl, HG⟩
            case measure => simp [intOf]; omega
          · obtain ⟨f1, f2⟩ := HS.out.fin hd
            have hd' : (m % p == 0) = false := beq_eq_false_iff_ne.2 hd
            have F1 := Lib.hid f1
            have F2 := Lib.hid f2
            clear hd f1 f2
            by_cases hk : 0 < k
            · have hk' : decide (0 < k) = true := by simpa using hk
              go_wp2_with (first
                | (at_builtin; refine wpList_push rfl (.tmp 29) (.tmp 31) 25 rfl w.heap.size 2 (.int .i64 0) 8 Try.underlying25 Try.info2f rfl (by decide) _ rfl _ _ _ _ rfl rfl HF.out.o1 (by omega) hsz ?_; rintro a1' c1' w1 r1 q1 g1; have hsz1 := Nat.le_trans hsz g1.size; have o2' : OwnI 2 w1 w.heap.size a2 n2 c2 es := HF.out.o2.kept g1 (fun p hp hx => by obtain ⟨q, hq, e⟩ := hx; exact HF.out.ap q p hq hp e); have R1 := Lib.hid r1; have Q1 := Lib.hid q1; have G1 := Lib.hid g1; have O2 := Lib.hid o2'; clear r1 q1 g1 o2')
                | (at_builtin; refine wpList_push rfl (.tmp 33) (.tmp 35) 25 rfl w.heap.size 2 (.int .i64 0) 8 Try.underlying25 Try.info2f rfl (by decide) _ rfl _ _ _ _ rfl rfl O2.out (by omega) hsz1 ?_; rintro a2' c2' w2 r2 q2 g2; have R2 := Lib.hid r2; have Q2 := Lib.hid q2; have G2 := Lib.hid g2; clear r2 q2 g2))
              obtain ⟨t1, t2, t3, t4⟩ := two_pushes HF.out.o1 HF.out.o2 HF.out.ap HF.out.bel hsz R1.out Q1.out G1.out R2.out Q2.out G2.out
              obtain ⟨g2, HR⟩ := HF.out.hit hn hpp (by rw [← F2.out]; exact hk) t1 (by rw [← F2.out]; exact t2) t3 t4
              rw [← F1.out, ← F2.out] at HR
              have HR' := Lib.hid HR
              clear HR t1 t2 t3 t4
              go_roundw
              case rel => exact ⟨m, p + 1, g2, ps ++ [p], es ++ [k], a1', n1 + 1, c1', a2', n2 + 1, c2', rfl, rfl, rfl, rfl, HR'⟩
              case measure => simp [intOf]; omega
            · obtain ⟨g2, HR⟩ := HF.out.skip hn hpp (by rw [← F2.out]; exact hk)
              rw [← F1.out] at HR
              have HR' := Lib.hid HR
              clear HR
              go_wp2
              go_roundw
              case rel => exact ⟨m, p + 1, g2, ps, es, a1, n1, c1, a2, n2, c2, rfl, rfl, rfl, rfl, HR'⟩
              case measure => simp [intOf]; omega
      · go_wp2
        go_loop [0, 7] (fun u v => ∃ (m k : Int) (g : Nat), u = .int .i64 m ∧ v = .int .i64 k ∧ Hid (Strip n n m k g)) (fun u _ => (intOf u).toNat)
        case atStart => exact ⟨n, 0, 20, rfl, rfl, Lib.hid (Strip.start (by omega) b2)⟩
        case round =>
          obtain ⟨m, k, g, rfl, rfl, HS⟩ := hrel
          have s1 := HS.out.n1
          have s2 := HS.out.e0
          have s3 := HS.out.ef
          have sl := HS.out.le
          by_cases hd : m % n = 0
          · obtain ⟨q1, q2, q3, q4⟩ := div_facts s1 (show 2 ≤ n by omega) hd
            obtain ⟨g', hg⟩ := HS.out.step (show 2 ≤ n by omega) hd
            have HG := Lib.hid hg
            have hd' : (m % n == 0) = true := beq_iff_eq.2 hd
            clear hd hg q4
            go_wp2
            go_round
            case rel => exact ⟨m / n, k + 1, g', rfl, rfl, HG⟩
            case measure => simp [intOf]; omega
          · obtain ⟨f1, f2⟩ := HS.out.fin hd
            have hd' : (m % n == 0) = false := beq_eq_false_iff_ne.2 hd
            have F1 := Lib.hid f1
            have F2 := Lib.hid f2
            clear hd f1 f2
            have hSS := strip_self hn
            rw [hSS] at F1 F2
            obtain rfl : m = 1 := F1.out
            obtain rfl : k = 1 := F2.out
            go_wp2_with (first
              | (at_builtin; refine wpList_push rfl (.tmp 29) (.tmp 31) 25 rfl w.heap.size 2 (.int .i64 0) 8 Try.underlying25 Try.info2f rfl (by decide) _ rfl _ _ _ _ rfl rfl HF.out.o1 (by omega) hsz ?_; rintro a1' c1' w1 r1 q1 g1; have hsz1 := Nat.le_trans hsz g1.size; have o2' : OwnI 2 w1 w.heap.size a2 n2 c2 es := HF.out.o2.kept g1 (fun p hp hx => by obtain ⟨q, hq, e⟩ := hx; exact HF.out.ap q p hq hp e); have R1 := Lib.hid r1; have Q1 := Lib.hid q1; have G1 := Lib.hid g1; have O2 := Lib.hid o2'; clear r1 q1 g1 o2')
              | (at_builtin; refine wpList_push rfl (.tmp 33) (.tmp 35) 25 rfl w.heap.size 2 (.int .i64 0) 8 Try.underlying25 Try.info2f rfl (by decide) _ rfl _ _ _ _ rfl rfl O2.out (by omega) hsz1 ?_; rintro a2' c2' w2 r2 q2 g2; have R2 := Lib.hid r2; have Q2 := Lib.hid q2; have G2 := Lib.hid g2; clear r2 q2 g2))
            obtain ⟨t1, t2, t3, t4⟩ := two_pushes HF.out.o1 HF.out.o2 HF.out.ap HF.out.bel hsz R1.out Q1.out G1.out R2.out Q2.out G2.out
            obtain ⟨g2, HR⟩ := HF.out.last hn (by omega) t1 t2 t3 t4
            have HR' := Lib.hid HR
            clear HR t1 t2 t3 t4
            go_roundw
            case rel => exact ⟨1, n + 1, g2, ps ++ [n], es ++ [1], a1', n1 + 1, c1', a2', n2 + 1, c2', rfl, rfl, rfl, rfl, HR'⟩
            case measure => simp [intOf]; omega
    · have HD := Lib.hid (HF.out.done hn)
      go_wp2
      go_ret2
      exact ⟨a1, n1, c1, a2, n2, c2, rfl, HD.out⟩

def facOk (n : Int) : Prop := 1 ≤ n ∧ n ≤ 1000000
instance (n : Int) : Decidable (facOk n) := by unfold facOk; exact inferInstance
def facP (n : Int) : List Int := if facOk n then primesOf n else []
def facE (n : Int) : List Int := if facOk n then expsOf n else []
def facC (n : Int) : Int := if facOk n then 0 else 2
theorem primesOf_len (n : Int) : (primesOf n).length ≤ 1002 := by unfold primesOf; rw [List.length_map]; exact facs_len _ _ _
theorem expsOf_len (n : Int) : (expsOf n).length ≤ 1002 := by unfold expsOf; rw [List.length_map]; exact facs_len _ _ _
theorem facP_len (n : Int) : (facP n).length ≤ 1002 := by unfold facP; split; exact primesOf_len n; simp
theorem facE_len (n : Int) : (facE n).length ≤ 1002 := by unfold facE; split; exact expsOf_len n; simp
set_option maxHeartbeats 400000 in
theorem impl_Factorize_any (n : Int) (w : World) :
    Calls Try.prog 16 #[.int .i64 n] w fun e w' => ∃ a1 n1 c1 a2 n2 c2, e = .returned (.tuple #[.slice a1 n1 c1, .slice a2 n2 c2, .int .i64 (facC n)]) ∧
      OwnI 2 w' w.heap.size a1 n1 c1 (facP n) ∧ OwnI 2 w' w.heap.size a2 n2 c2 (facE n) ∧ Apart a1 a2 ∧ Below w.heap.size w w' := by
  by_cases hv : facOk n
  · have e1 : facP n = primesOf n := if_pos hv
    have e2 : facE n = expsOf n := if_pos hv
    have e3 : facC n = 0 := if_pos hv
    rw [e1, e2, e3]
    obtain ⟨h1, h2⟩ := hv
    have h3 : decide (1000000 < n) = false := by simp; omega
    clear e1 e2 e3
    go_enter Try.func16, Try.ntmps16
    go_wp2_with (go_at_call 80; refine (factors_any _ _ h1 h2).mono ?_; rintro e w' ⟨a1, n1, c1, a2, n2, c2, rfl, hh⟩; have HH := Lib.hid hh; clear hh)
    go_ret3
    exact ⟨a1, n1, c1, a2, n2, c2, rfl, HH.out⟩
  · have e1 : facP n = [] := if_neg hv
    have e2 : facE n = [] := if_neg hv
    have e3 : facC n = 2 := if_neg hv
    rw [e1, e2, e3]
    unfold facOk at hv
    clear e1 e2 e3
    by_cases h1 : n < 1
    · go_enter Try.func16, Try.ntmps16
      go_wp2
      go_ret3
      exact ⟨none, 0, 0, none, 0, 0, rfl, OwnI.none, OwnI.none, Apart.none _, Below.refl _ _⟩
    · have h3 : decide (1000000 < n) = true := by simp; omega
      go_enter Try.func16, Try.ntmps16
      go_wp2
      go_ret3
      exact ⟨none, 0, 0, none, 0, 0, rfl, OwnI.none, OwnI.none, Apart.none _, Below.refl _ _⟩
theorem OwnI.emptyF (T : TypeId) (w : World) : OwnI T (w.alloc (.cells #[] T)) w.heap.size (some ⟨w.heap.size, 0, Option.none⟩) 0 0 [] := OwnI.lit w T [] #[] rfl (by simp)
theorem FR.start2 (w : World) (n : Int) (h1 : 1 ≤ n) (h2 : n ≤ 1000000) :
    FR w ((w.alloc (.cells #[] 2)).alloc (.cells #[] 2)) n n 2 1001 [] [] (some ⟨w.heap.size, 0, none⟩) 0 0 (some ⟨w.heap.size + 1, 0, none⟩) 0 0 := by
  have o1 := OwnI.emptyF 2 w
  have b2 : Below (w.alloc (.cells #[] 2)).heap.size (w.alloc (.cells #[] 2)) ((w.alloc (.cells #[] 2)).alloc (.cells #[] 2)) := (Below.refl _ _).alloc (Nat.le_refl _) _
  have o2 := OwnI.emptyF 2 (w.alloc (.cells #[] 2))
  have hs : (w.alloc (.cells #[] 2)).heap.size = w.heap.size + 1 := by simp
  rw [hs] at o2
  refine ⟨o1.keep b2 (Nat.le_refl _), o2.mono (Nat.le_succ _), ?_, ((Below.refl _ _).alloc (Nat.le_refl _) _).alloc (by simp) _, ⟨h1, h2⟩, by omega, .inr (by omega), by omega, by omega, by omega, rfl, rfl⟩
  intro p q hp hq
  injection hp with e1
  injection hq with e2
  subst e1; subst e2
  simp
set_option maxHeartbeats 1000000 in
theorem spec_Factorize_ok (n0 : Int) (w : World) (h1 : 1 ≤ n0) (h2 : n0 ≤ 1000000) :
    Calls Try.prog 17 #[.int .i64 n0] w fun e w' => ∃ a1 n1 c1 a2 n2 c2, e = .returned (.tuple #[.slice a1 n1 c1, .slice a2 n2 c2, .int .i64 0]) ∧
      OwnI 2 w' w.heap.size a1 n1 c1 (primesOf n0) ∧ OwnI 2 w' w.heap.size a2 n2 c2 (expsOf n0) ∧ Apart a1 a2 ∧ Below w.heap.size w w' := by
  have H0 := Lib.hid (FR.start2 w n0 h1 h2)
  go_enter Try.func17, Try.ntmps17
  go_wp2_with (go_at_call 81; refine (l01In_t _ _ _ _ (by omega) (by omega)).mono ?_; rintro e w' ⟨rfl, rfl⟩)
  go_loopw [0, 5, 6, 7] (fun u v1 v2 v3 wr => ∃ (n p : Int) (f : Nat) (ps es : List Int) (a1 : Option Addr) (n1 c1 : Nat) (a2 : Option Addr) (n2 c2 : Nat), u = .int .i64 n ∧ v1 = .slice a1 n1 c1 ∧ v2 = .slice a2 n2 c2 ∧ v3 = .int .i64 p ∧ Hid (FR w wr n0 n p f ps es a1 n1 c1 a2 n2 c2))
    (fun u v1 v2 v3 _ => (intOf u - 1).toNat * 10000000 + (2000000 - intOf v3).toNat)
  case atStart => exact ⟨n0, 2, 1001, [], [], _, 0, 0, _, 0, 0, rfl, rfl, rfl, rfl, H0⟩
  case round =>
    obtain ⟨n, p, f, ps, es, a1, n1, c1, a2, n2, c2, rfl, rfl, rfl, rfl, HF⟩ := hrel
    clear H0
    obtain ⟨b1, b2⟩ := HF.out.nn
    have b3 := HF.out.p2
    have b4 := HF.out.pe
    obtain ⟨m1, m2⟩ := mul_bd (x := p) (y := p) (by omega) b4 (by omega) b4
    have m3 := (mul_bd (x := 2) (y := 2) (A := p) (B := p) (by omega) b3 (by omega) b3).2
    have hsz : w.heap.size ≤ wr.heap.size := HF.out.bel.size
    have l1 := HF.out.l1
    have l2 := HF.out.l2
    by_cases hpp : p * p ≤ n
    · have hp1 : p ≤ 1000 := by
        refine Int.le_of_not_gt fun hh => ?_
        have := (mul_bd (x := 1001) (y := 1001) (A := p) (B := p) (by omega) (by omega) (by omega) (by omega)).2
        omega
      go_wp2
      go_loop [0, 8] (fun u v => ∃ (m k : Int) (g : Nat), u = .int .i64 m ∧ v = .int .i64 k ∧ Hid (Strip p n m k g)) (fun u _ => (intOf u).toNat)
      case atStart => exact ⟨n, 0, 20, rfl, rfl, Lib.hid (Strip.start (by omega) b2)⟩
      case round =>
        obtain ⟨m, k, g, rfl, rfl, HS⟩ := hrel
        have s1 := HS.out.n1
        have s2 := HS.out.e0
        have s3 := HS.out.ef
        have sl := HS.out.le
        by_cases hd : m % p = 0
        · obtain ⟨q1, q2, q3, q4⟩ := div_facts s1 b3 hd
          obtain ⟨g', hg⟩ := HS.out.step b3 hd
          have HG := Lib.hid hg
          have hd' : (m % p == 0) = true := beq_iff_eq.2 hd
          clear hd hg q4
          go_wp2
          go_round
          case rel => exact ⟨m / p, k + 1, g', rfl, rfl, HG⟩
          case measure => simp [intOf]; omega
        · obtain ⟨f1, f2⟩ := HS.out.fin hd
          have hd' : (m % p == 0) = false := beq_eq_false_iff_ne.2 hd
          have F1 := Lib.hid f1
          have F2 := Lib.hid f2
          clear hd f1 f2
          by_cases hk : 0 < k
          · have hk' : decide (0 < k) = true := by simpa using hk
            go_wp2_with (first
              | (at_builtin; refine wpList_push rfl (.tmp 32) (.tmp 34) 25 rfl w.heap.size 2 (.int .i64 0) 8 Try.underlying25 Try.info2f rfl (by decide) _ rfl _ _ _ _ rfl rfl HF.out.o1 (by omega) hsz ?_; rintro a1' c1' w1 r1 q1 g1; have hsz1 := Nat.le_trans hsz g1.size; have o2' : OwnI 2 w1 w.heap.size a2 n2 c2 es := HF.out.o2.kept g1 (fun p hp hx => by obtain ⟨q, hq, e⟩ := hx; exact HF.out.ap q p hq hp e); have R1 := Lib.hid r1; have Q1 := Lib.hid q1; have G1 := Lib.hid g1; have O2 := Lib.hid o2'; clear r1 q1 g1 o2')
              | (at_builtin; refine wpList_push rfl (.tmp 36) (.tmp 38) 25 rfl w.heap.size 2 (.int .i64 0) 8 Try.underlying25 Try.info2f rfl (by decide) _ rfl _ _ _ _ rfl rfl O2.out (by omega) hsz1 ?_; rintro a2' c2' w2 r2 q2 g2; have R2 := Lib.hid r2; have Q2 := Lib.hid q2; have G2 := Lib.hid g2; clear r2 q2 g2))
            obtain ⟨t1, t2, t3, t4⟩ := two_pushes HF.out.o1 HF.out.o2 HF.out.ap HF.out.bel hsz R1.out Q1.out G1.out R2.out Q2.out G2.out
            obtain ⟨g2, HR⟩ := HF.out.hit (by omega) hpp (by rw [← F2.out]; exact hk) t1 (by rw [← F2.out]; exact t2) t3 t4
            rw [← F1.out, ← F2.out] at HR
            have HR' := Lib.hid HR
            clear HR t1 t2 t3 t4
            go_roundw
            case rel => exact ⟨m, p + 1, g2, ps ++ [p], es ++ [k], a1', n1 + 1, c1', a2', n2 + 1, c2', rfl, rfl, rfl, rfl, HR'⟩
            case measure => simp [intOf]; omega
          · obtain ⟨g2, HR⟩ := HF.out.skip (by omega) hpp (by rw [← F2.out]; exact hk)
            rw [← F1.out] at HR
            have HR' := Lib.hid HR
            clear HR
            go_wp2
            go_roundw
            case rel => exact ⟨m, p + 1, g2, ps, es, a1, n1, c1, a2, n2, c2, rfl, rfl, rfl, rfl, HR'⟩
            case measure => simp [intOf]; omega
    · by_cases hn : 1 < n
      · have hn' : decide (1 < n) = true := by simpa using hn
        go_wp2_with (first
          | (at_builtin; refine wpList_push rfl (.tmp 42) (.tmp 44) 25 rfl w.heap.size 2 (.int .i64 0) 8 Try.underlying25 Try.info2f rfl (by decide) _ rfl _ _ _ _ rfl rfl HF.out.o1 (by omega) hsz ?_; rintro a1' c1' w1 r1 q1 g1; have hsz1 := Nat.le_trans hsz g1.size; have o2' : OwnI 2 w1 w.heap.size a2 n2 c2 es := HF.out.o2.kept g1 (fun p hp hx => by obtain ⟨q, hq, e⟩ := hx; exact HF.out.ap q p hq hp e); have R1 := Lib.hid r1; have Q1 := Lib.hid q1; have G1 := Lib.hid g1; have O2 := Lib.hid o2'; clear r1 q1 g1 o2')
          | (at_builtin; refine wpList_push rfl (.tmp 46) (.tmp 47) 25 rfl w.heap.size 2 (.int .i64 0) 8 Try.underlying25 Try.info2f rfl (by decide) _ rfl _ _ _ _ rfl rfl O2.out (by omega) hsz1 ?_; rintro a2' c2' w2 r2 q2 g2; have R2 := Lib.hid r2; have Q2 := Lib.hid q2; have G2 := Lib.hid g2; clear r2 q2 g2))
        obtain ⟨t1, t2, t3, t4⟩ := two_pushes HF.out.o1 HF.out.o2 HF.out.ap HF.out.bel hsz R1.out Q1.out G1.out R2.out Q2.out G2.out
        obtain ⟨g2, HR⟩ := HF.out.last hn (by omega) t1 t2 t3 t4
        have HD := Lib.hid (HR.done (by omega))
        clear HR t1 t2 t3 t4
        go_ret3
        exact ⟨a1', n1 + 1, c1', a2', n2 + 1, c2', rfl, HD.out⟩
      · have HD := Lib.hid (HF.out.done hn)
        go_wp2
        go_ret3
        exact ⟨a1, n1, c1, a2, n2, c2, rfl, HD.out⟩
theorem spec_Factorize_any (n : Int) (w : World) :
    Calls Try.prog 17 #[.int .i64 n] w fun e w' => ∃ a1 n1 c1 a2 n2 c2, e = .returned (.tuple #[.slice a1 n1 c1, .slice a2 n2 c2, .int .i64 (facC n)]) ∧
      OwnI 2 w' w.heap.size a1 n1 c1 (facP n) ∧ OwnI 2 w' w.heap.size a2 n2 c2 (facE n) ∧ Apart a1 a2 ∧ Below w.heap.size w w' := by
  by_cases hv : facOk n
  · have e1 : facP n = primesOf n := if_pos hv
    have e2 : facE n = expsOf n := if_pos hv
    have e3 : facC n = 0 := if_pos hv
    rw [e1, e2, e3]
    exact spec_Factorize_ok n w hv.1 hv.2
  · have e1 : facP n = [] := if_neg hv
    have e2 : facE n = [] := if_neg hv
    have e3 : facC n = 2 := if_neg hv
    rw [e1, e2, e3]
    unfold facOk at hv
    clear e1 e2 e3
    go_enter Try.func17, Try.ntmps17
    go_wp2_with (go_at_call 81; refine (l01In_f _ _ _ _ (by omega)).mono ?_; rintro e w' ⟨rfl, rfl⟩)
    go_ret3
    exact ⟨none, 0, 0, none, 0, 0, rfl, OwnI.none, OwnI.none, Apart.none _, Below.refl _ _⟩
end Go.Proofs.Ytkidohohiihbaaa
