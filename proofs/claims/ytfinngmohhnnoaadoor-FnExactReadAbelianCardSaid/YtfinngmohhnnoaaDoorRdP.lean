/- Reading the text of an abelian group: the plain law. No program in sight but for the text. -/
import Derived.Test.YtfinngmohhnnoaaDoorTxt
import Derived.Lib.Split
import Derived.Lib.ParseIntB
set_option linter.unusedVariables false
set_option linter.unusedSimpArgs false
namespace Go.Proofs.YtfinngmohhnnoaaDoor
open Go.RowKit
def NoSp (w : List UInt8) : Prop := ∀ b ∈ w, b ≠ 32
theorem index_nosp : ∀ {w : List UInt8}, NoSp w → Lib.index w sepX = -1
  | [], _ => by simp [Lib.index, sepX]
  | b :: l, h => by
    have h1 : b ≠ 32 := h b (by simp)
    have h2 := index_nosp (w := l) (fun c hc => h c (by simp [hc]))
    have h3 : sepX.isPrefixOf (b :: l) = false := by simp [sepX, List.isPrefixOf, h1.symm]
    unfold Lib.index
    rw [h3, h2]
    rfl
theorem index_sep : ∀ {w : List UInt8} (t : List UInt8), NoSp w → Lib.index (w ++ (sepX ++ t)) sepX = w.length
  | [], t, _ => by
    have h3 : sepX.isPrefixOf (32 :: 120 :: 32 :: t) = true := by simp [sepX, List.isPrefixOf]
    show Lib.index (32 :: 120 :: 32 :: t) sepX = 0
    unfold Lib.index
    rw [h3]
    rfl
  | b :: l, t, h => by
    have h1 : b ≠ 32 := h b (by simp)
    have h2 := index_sep (w := l) t (fun c hc => h c (by simp [hc]))
    have h3 : sepX.isPrefixOf (b :: (l ++ (sepX ++ t))) = false := by simp [sepX, List.isPrefixOf, h1.symm]
    show Lib.index (b :: (l ++ (sepX ++ t))) sepX = _
    unfold Lib.index
    rw [h3, h2]
    have h4 : ((l.length : Int) == -1) = false := beq_eq_false_iff_ne.2 (by omega)
    rw [h4]
    simp
theorem join_two (w y : List UInt8) (r : List (List UInt8)) : Lib.join (w :: y :: r) sepX = w ++ (sepX ++ Lib.join (y :: r) sepX) := by
  rw [Lib.join_cons, Lib.join_cons]
  simp [Lib.joinTail, List.append_assoc]
theorem split_join : ∀ (w : List UInt8) (r : List (List UInt8)), (∀ x ∈ w :: r, NoSp x) → Lib.split (Lib.join (w :: r) sepX) sepX = w :: r
  | w, [], h => by
    have hi := index_nosp (h w (by simp))
    unfold Lib.split
    rw [Lib.join_one, Lib.count_miss hi]
    rfl
  | w, y :: r, h => by
    have ih := split_join y r (fun x hx => h x (List.mem_cons_of_mem _ hx))
    have hi := index_sep (Lib.join (y :: r) sepX) (h w (by simp))
    have hd : (w ++ (sepX ++ Lib.join (y :: r) sepX)).drop (w.length + sepX.length) = Lib.join (y :: r) sepX := by
      rw [← List.append_assoc, List.drop_append_of_le_length (by simp)]
      rw [List.drop_of_length_le (by simp)]
      rfl
    unfold Lib.split at ih ⊢
    rw [join_two, Lib.count_hit (by simp [sepX]) hi, hd, Nat.add_comm]
    have hm : (Lib.index (w ++ (sepX ++ Lib.join (y :: r) sepX)) sepX == -1) = false := by rw [hi]; exact beq_eq_false_iff_ne.2 (by omega)
    rw [Lib.splitK, hm, hi]
    simp only [Bool.false_eq_true, if_false]
    rw [show ((w.length : Int)).toNat = w.length by omega, Nat.add_zero, hd, ih]
    rw [List.take_left]
/-! ### digits -/
theorem dig_nat {d : Nat} (h : d < 10) : (UInt8.ofNat (48 + d)).toNat = 48 + d := by simp; omega
theorem decDigits_dig : ∀ n : Nat, ∀ b ∈ Lib.decDigits n, 48 ≤ b.toNat ∧ b.toNat ≤ 57 := by
  intro n
  induction n using Nat.strongRecOn with
  | _ n ih =>
    intro b hb
    by_cases h : n < 10
    · rw [decDigits_lt h] at hb
      simp only [List.mem_singleton] at hb
      rw [hb, dig_nat h]; omega
    · rw [decDigits_ge h] at hb
      rcases List.mem_append.1 hb with hb | hb
      · exact ih _ (by omega) b hb
      · simp only [List.mem_singleton] at hb
        rw [hb, dig_nat (by omega)]; omega
theorem decDigits_ne (n : Nat) : Lib.decDigits n ≠ [] := by
  by_cases h : n < 10
  · rw [decDigits_lt h]; simp
  · rw [decDigits_ge h]; simp
theorem parseUintM_app (M : Nat) : ∀ (l m : List UInt8) (acc : Nat) (u : Nat), Lib.parseUintM M acc l = .ok u → Lib.parseUintM M acc (l ++ m) = Lib.parseUintM M u m
  | [], m, acc, u, h => by
    rw [Lib.parseUintM] at h
    injection h with h
    subst h
    rfl
  | c :: l, m, acc, u, h => by
    rw [Lib.parseUintM] at h
    show Lib.parseUintM M acc (c :: (l ++ m)) = _
    rw [Lib.parseUintM]
    split at h
    · rename_i h1
      rw [if_pos h1]
      split at h
      · cases h
      · rename_i h2
        rw [if_neg h2]
        split at h
        · cases h
        · rename_i h3
          rw [if_neg h3]
          exact parseUintM_app M l m _ u h
    · cases h
theorem parseUintM_one {M u d : Nat} (hd : d < 10) (hu : u ≤ 1000000) (hM : 100000000 ≤ M) : Lib.parseUintM M u [UInt8.ofNat (48 + d)] = .ok (u * 10 + d) := by
  rw [Lib.parseUintM, dig_nat hd, if_pos (by omega), if_neg (by omega), if_neg (by omega), Lib.parseUintM]
  congr 1
  omega
theorem parseUintM_dec {M : Nat} (hM : 100000000 ≤ M) : ∀ n : Nat, n ≤ 1000000 → Lib.parseUintM M 0 (Lib.decDigits n) = .ok n := by
  intro n
  induction n using Nat.strongRecOn with
  | _ n ih =>
    intro hn
    by_cases h : n < 10
    · rw [decDigits_lt h, parseUintM_one h (by omega) hM]
      congr 1
      omega
    · rw [decDigits_ge h, parseUintM_app M _ _ _ _ (ih (n / 10) (by omega) (by omega)), parseUintM_one (by omega) (by omega) hM]
      congr 1
      omega
theorem parseIntB_dec (n : Nat) (hn : n ≤ 1000000) : Lib.parseIntB 64 (Lib.decDigits n) = .ok (n : Int) := by
  obtain ⟨c, l, hl⟩ : ∃ c l, Lib.decDigits n = c :: l := by
    cases h : Lib.decDigits n with
    | nil => exact absurd h (decDigits_ne n)
    | cons c l => exact ⟨c, l, rfl⟩
  have hc := decDigits_dig n c (by rw [hl]; simp)
  have hp := parseUintM_dec (M := 2 ^ 64 - 1) (by decide) n hn
  have hu : Lib.parseUintB 64 (c :: l) = .ok n := by unfold Lib.parseUintB; rw [if_neg (by simp), ← hl]; exact hp
  rw [hl, Lib.parseIntB]
  simp only [if_neg (show ¬ (c.toNat = 43 ∨ c.toNat = 45) by omega), hu]
  have h1 : ¬ (c.toNat = 45) := by omega
  simp only [h1, not_false_eq_true, true_and, false_and, if_false]
  rw [if_neg (by have : (2:Nat) ^ (64 - 1) = 9223372036854775808 := by decide
                 omega)]
/-! ### the two readings -/
/-- the program's: the words one by one -/
def parI : List (List UInt8) → List Int → Nat → Option (List Int × Nat)
  | [], xs, r => some (xs, r)
  | w :: ws, xs, r =>
    if w = [90] then parI ws xs (r + 1)
    else if Lib.hasPrefix w [67] then
      match Lib.parseIntB 64 (Lib.trimPrefix w [67]) with
      | .ok v => parI ws (xs ++ [v]) r
      | _ => none
    else none
/-- the reference's digits -/
def digF : List UInt8 → Nat → Option Nat
  | [], n => some n
  | c :: l, n => if 48 ≤ c.toNat ∧ c.toNat ≤ 57 then digF l (10 * n + (c.toNat - 48)) else none
def digS (l : List UInt8) : Int := if 7 < l.length then -1 else match digF l 0 with
  | some n => n
  | none => -1
/-- where the first space stands -/
def scanE (l : List UInt8) : Nat := (l.takeWhile (· != 32)).length
def wordS (w : List UInt8) (xs : List Int) (r : Nat) : Option (List Int × Nat) :=
  if w = [90] then some (xs, r + 1) else if 1 < w.length ∧ w[0]? = some 67 then some (xs ++ [digS (w.drop 1)], r) else none
def parS : Nat → List UInt8 → List Int → Nat → Option (List Int × Nat)
  | 0, rest, xs, r => some (xs, r)
  | f + 1, rest, xs, r => if rest = [] then some (xs, r) else
    match wordS (rest.take (scanE rest)) xs r with
    | none => none
    | some (xs', r') =>
      if 3 < (rest.drop (scanE rest)).length ∧ (rest.drop (scanE rest)).take 3 = sepX then parS f ((rest.drop (scanE rest)).drop 3) xs' r'
      else if 0 < (rest.drop (scanE rest)).length then none
      else parS f (rest.drop (scanE rest)) xs' r'
/-- a word of a text, and what it says -/
inductive Good : List UInt8 → List Int → Nat → List Int → Nat → Prop
  | z (xs : List Int) (r : Nat) : Good [90] xs r xs (r + 1)
  | c (xs : List Int) (r : Nat) (x : Nat) (hx : x ≤ 1000000) : Good (67 :: Lib.decDigits x) xs r (xs ++ [(x : Int)]) r
theorem Good.nosp {w : List UInt8} {xs ys : List Int} {r s : Nat} (h : Good w xs r ys s) : NoSp w ∧ w ≠ [] := by
  cases h with
  | z => exact ⟨fun b hb => by simp at hb; subst hb; decide, by simp⟩
  | c _ _ x hx =>
    refine ⟨fun b hb => ?_, by simp⟩
    rcases List.mem_cons.1 hb with rfl | hb
    · decide
    · have := decDigits_dig x b hb
      intro e
      subst e
      simp at this
/-- words that say something together -/
inductive Goods : List (List UInt8) → List Int → Nat → List Int → Nat → Prop
  | nil (xs : List Int) (r : Nat) : Goods [] xs r xs r
  | cons {w : List UInt8} {ws : List (List UInt8)} {xs ys zs : List Int} {r s t : Nat} (h1 : Good w xs r ys s) (h2 : Goods ws ys s zs t) : Goods (w :: ws) xs r zs t
theorem Goods.reps : ∀ (k : Nat) (xs : List Int) (r : Nat), Goods (List.replicate k [90]) xs r xs (r + k)
  | 0, xs, r => .nil xs r
  | k + 1, xs, r => by
    rw [List.replicate_succ]
    have h := Goods.reps k xs (r + 1)
    rw [show r + 1 + k = r + (k + 1) by omega] at h
    exact .cons (.z xs r) h
theorem Goods.words : ∀ (ys xs : List Int) (k : Nat), (∀ y ∈ ys, 0 ≤ y ∧ y ≤ 1000000) → Goods (wordsL ys k) xs 0 (xs ++ ys) k
  | [], xs, k, _ => by
    have h := Goods.reps k xs 0
    rw [Nat.zero_add] at h
    rw [List.append_nil]
    exact h
  | y :: ys, xs, k, h => by
    have hy := h y (by simp)
    have ih := Goods.words ys (xs ++ [y]) k (fun z hz => h z (List.mem_cons_of_mem _ hz))
    rw [List.append_assoc] at ih
    have hg := Good.c xs 0 y.toNat (by omega)
    rw [show ((y.toNat : Nat) : Int) = y by omega] at hg
    exact .cons hg ih
theorem Goods.nosp {ws : List (List UInt8)} {xs ys : List Int} {r s : Nat} (h : Goods ws xs r ys s) : ∀ w ∈ ws, NoSp w ∧ w ≠ [] := by
  induction h with
  | nil => intro w hw; cases hw
  | cons h1 h2 ih =>
    intro w hw
    rcases List.mem_cons.1 hw with rfl | hw
    · exact h1.nosp
    · exact ih w hw
theorem trim_c (l : List UInt8) : Lib.hasPrefix (67 :: l) [67] = true ∧ Lib.trimPrefix (67 :: l) [67] = l := by
  have h : Lib.hasPrefix (67 :: l) [67] = true := by simp [Lib.hasPrefix, List.isPrefixOf]
  exact ⟨h, by unfold Lib.trimPrefix; rw [h]; rfl⟩
theorem parI_goods {ws : List (List UInt8)} {xs ys : List Int} {r s : Nat} (h : Goods ws xs r ys s) : parI ws xs r = some (ys, s) := by
  induction h with
  | nil => rfl
  | cons h1 h2 ih =>
    cases h1 with
    | z => rw [parI, if_pos rfl]; exact ih
    | c _ _ x hx =>
      rw [parI, if_neg (fun e => by injection e with e1 e2; revert e1; decide), (trim_c _).1, (trim_c _).2, parseIntB_dec x hx]
      simp only [if_true]
      exact ih
theorem digF_app : ∀ (l m : List UInt8) (n u : Nat), digF l n = some u → digF (l ++ m) n = digF m u
  | [], m, n, u, h => by simp only [digF, Option.some.injEq] at h; subst h; rfl
  | c :: l, m, n, u, h => by
    rw [digF] at h
    show digF (c :: (l ++ m)) n = _
    rw [digF]
    split at h
    · rename_i h1
      rw [if_pos h1]
      exact digF_app l m _ u h
    · cases h
theorem digF_dec : ∀ n : Nat, digF (Lib.decDigits n) 0 = some n := by
  intro n
  induction n using Nat.strongRecOn with
  | _ n ih =>
    by_cases h : n < 10
    · rw [decDigits_lt h, digF, dig_nat h, if_pos (by omega), digF]
      congr 1
      omega
    · rw [decDigits_ge h, digF_app _ _ _ _ (ih (n / 10) (by omega)), digF, dig_nat (by omega), if_pos (by omega), digF]
      congr 1
      omega
theorem decDigits_short : ∀ (k n : Nat), 1 ≤ k → n < 10 ^ k → (Lib.decDigits n).length ≤ k
  | 0, n, h, _ => by omega
  | k + 1, n, _, hn => by
    by_cases h : n < 10
    · rw [decDigits_lt h]; simp
    · have hk : 1 ≤ k := by
        rcases Nat.eq_zero_or_pos k with rfl | hk
        · simp at hn; omega
        · exact hk
      have ih := decDigits_short k (n / 10) hk (by rw [Nat.pow_succ] at hn; omega)
      rw [decDigits_ge h, List.length_append]
      simp only [List.length_cons, List.length_nil]
      omega
theorem digS_dec (n : Nat) (hn : n ≤ 1000000) : digS (Lib.decDigits n) = n := by
  have h := decDigits_short 7 n (by omega) (by omega)
  unfold digS
  rw [if_neg (by omega), digF_dec]
theorem wordS_good {w : List UInt8} {xs ys : List Int} {r s : Nat} (h : Good w xs r ys s) : wordS w xs r = some (ys, s) := by
  cases h with
  | z => rw [wordS, if_pos rfl]
  | c _ _ x hx =>
    have h1 : 1 ≤ (Lib.decDigits x).length := by
      cases h : Lib.decDigits x with
      | nil => exact absurd h (decDigits_ne x)
      | cons _ _ => simp
    rw [wordS, if_neg (fun e => by injection e with e1 e2; revert e1; decide), if_pos ⟨by simp only [List.length_cons]; omega, rfl⟩]
    rw [List.drop_one, List.tail_cons, digS_dec x hx]
theorem scan_nosp {w : List UInt8} (h : NoSp w) : scanE w = w.length := by
  unfold scanE
  have e : ∀ l : List UInt8, NoSp l → l.takeWhile (· != 32) = l := fun l => by
    induction l with
    | nil => intro _; rfl
    | cons b l ih =>
      intro hl
      rw [List.takeWhile_cons_of_pos (by simpa using hl b (by simp)), ih (fun c hc => hl c (List.mem_cons_of_mem _ hc))]
  rw [e w h]
theorem scan_sep {w : List UInt8} (t : List UInt8) (h : NoSp w) : scanE (w ++ (sepX ++ t)) = w.length := by
  unfold scanE
  rw [List.takeWhile_append_of_pos (fun b hb => by simpa using h b hb)]
  simp [sepX]
theorem parS_goods {ws : List (List UInt8)} {xs ys : List Int} {r s : Nat} (h : Goods ws xs r ys s) : ∀ f, ws.length ≤ f → parS f (Lib.join ws sepX) xs r = some (ys, s) := by
  induction h with
  | nil => intro f _; cases f <;> rfl
  | @cons w ws xs ys zs r s t h1 h2 ih =>
    intro f hf
    obtain ⟨g, rfl⟩ : ∃ g, f = g + 1 := ⟨f - 1, by simp only [List.length_cons] at hf; omega⟩
    simp only [List.length_cons] at hf
    obtain ⟨hn, hne⟩ := h1.nosp
    cases ws with
    | nil =>
      cases h2
      rw [Lib.join_one, parS, if_neg hne, scan_nosp hn, List.take_length, wordS_good h1]
      simp only [List.drop_length, List.length_nil]
      rw [if_neg (by omega), if_neg (by omega)]
      cases g <;> rfl
    | cons y ws =>
      obtain ⟨yn, yne⟩ := h2.nosp y (by simp)
      have hj : Lib.join (y :: ws) sepX ≠ [] := by rw [Lib.join_cons]; intro e; exact yne (List.append_eq_nil_iff.1 e).1
      rw [join_two, parS, if_neg (fun e => hne (List.append_eq_nil_iff.1 e).1), scan_sep _ hn, List.take_left, wordS_good h1]
      simp only [List.drop_left]
      rw [if_pos ⟨by
        have : Lib.join (y :: ws) sepX ≠ [] := hj
        cases hq : Lib.join (y :: ws) sepX with
        | nil => exact absurd hq hj
        | cons _ _ => simp [sepX], by simp [sepX]⟩]
      rw [show (sepX ++ Lib.join (y :: ws) sepX).drop 3 = Lib.join (y :: ws) sepX by simp [sepX]]
      exact ih g (by omega)
/-! ### what ReadAbelian returns -/
def fin (o : Option (List Int × Nat)) (s : List UInt8) : (List Int × Nat) × Int := match o with
  | some (xs, r) => if isAb xs r = true ∧ txt xs r = s then ((xs, r), 0) else (([], 0), 6)
  | none => (([], 0), 6)
def readI (s : List UInt8) : Option (List Int × Nat) := if s = [49] then some ([], 0) else parI (Lib.split s sepX) [] 0
def readS (s : List UInt8) : Option (List Int × Nat) := if s = [49] then some ([], 0) else parS 10 s [] 0
theorem read_txt {xs : List Int} {r : Nat} (h : isAb xs r = true) : readI (txt xs r) = some (xs, r) ∧ readS (txt xs r) = some (xs, r) := by
  obtain ⟨k, hk, ht⟩ := Txt.of (isAb_ok h)
  obtain rfl : k = r := by omega
  by_cases h0 : xs.length + k = 0
  · obtain rfl : xs = [] := List.length_eq_zero_iff.1 (by omega)
    obtain rfl : k = 0 := by simpa using h0
    exact ⟨rfl, rfl⟩
  · have hg := Goods.words xs [] k (fun y hy => by
      obtain ⟨i, hi, rfl⟩ := List.getElem_of_mem hy
      have := ht.pos i hi
      rwa [el_of hi] at this)
    rw [List.nil_append] at hg
    have e : txt xs k = Lib.join (wordsL xs k) sepX := by unfold txt; rw [if_neg h0]
    obtain ⟨w, ws, hw⟩ : ∃ w ws, wordsL xs k = w :: ws := by
      cases hc : wordsL xs k with
      | nil => have := wordsL_len xs k; rw [hc] at this; simp at this; omega
      | cons w ws => exact ⟨w, ws, rfl⟩
    have hne : txt xs k ≠ [49] := by
      rw [e]
      rw [hw] at hg ⊢
      intro e2
      cases hg with
      | cons h1 h2 =>
        rw [Lib.join_cons] at e2
        cases h1 with
        | z => simp at e2
        | c _ _ x hx => simp at e2
    unfold readI readS
    rw [if_neg hne, if_neg hne, e]
    refine ⟨?_, parS_goods hg 10 (by rw [wordsL_len]; exact ht.len)⟩
    rw [hw] at hg ⊢
    rw [split_join w ws (fun x hx => (hg.nosp x hx).1)]
    exact parI_goods hg
theorem fin_eq (s : List UInt8) : fin (readI s) s = fin (readS s) s := by
  by_cases h : ∃ (xs : List Int) (r : Nat), isAb xs r = true ∧ txt xs r = s
  · obtain ⟨xs, r, h1, rfl⟩ := h
    rw [(read_txt h1).1, (read_txt h1).2]
  · have hz : ∀ o, fin o s = (([], 0), 6) := fun o => by
      unfold fin
      cases o with
      | none => rfl
      | some p => exact if_neg (fun e => h ⟨p.1, p.2, e.1, e.2⟩)
    rw [hz, hz]
end Go.Proofs.YtfinngmohhnnoaaDoor
