/- Plain laws of texts: pieces between separators, decimal numerals. Conditions: none. -/
import Derived.Lib.AtoiAll
import Derived.Lib.ItoaNum
import Derived.Lib.SlTrimSet
import Derived.Lib.Split
import Derived.Lib.Join
import Derived.Lib.Strings
namespace Go.Txt
open Go

abbrev Bs := List UInt8

/-! Pieces. -/
theorem index_hit (c : UInt8) : ∀ (l r : Bs), c ∉ l → Lib.index (l ++ c :: r) [c] = l.length
  | [], r, _ => by simp [Lib.index, List.isPrefixOf]
  | b :: l, r, h => by
    have hb : ¬ c = b := fun e => h (by simp [e])
    have ih := index_hit c l r (fun e => h (List.mem_cons_of_mem _ e))
    have hn : ¬ ((l.length : Int) = -1) := by omega
    simp [Lib.index, List.isPrefixOf, hb, ih, hn]
theorem index_miss (c : UInt8) : ∀ (l : Bs), c ∉ l → Lib.index l [c] = -1
  | [], _ => by simp [Lib.index]
  | b :: l, h => by
    have hb : ¬ c = b := fun e => h (by simp [e])
    have ih := index_miss c l (fun e => h (List.mem_cons_of_mem _ e))
    simp [Lib.index, List.isPrefixOf, hb, ih]
theorem split_at (c : UInt8) : ∀ s : Bs, c ∉ s ∨ ∃ l r, s = l ++ c :: r ∧ c ∉ l
  | [] => .inl (by simp)
  | b :: s => by
    by_cases hb : b = c
    · exact .inr ⟨[], s, by simp [hb], by simp⟩
    · rcases split_at c s with h | ⟨l, r, rfl, h⟩
      · exact .inl (by simp [h]; exact fun e => hb e.symm)
      · exact .inr ⟨b :: l, r, rfl, by simp [h]; exact fun e => hb e.symm⟩
theorem cut_hit {c : UInt8} {l r : Bs} (h : c ∉ l) : Lib.cut (l ++ c :: r) [c] = (l, r, true) := by
  have hi := index_hit c l r h
  have h1 : (0 : Int) ≤ (l.length : Int) := by omega
  simp only [Lib.cut, hi, if_pos h1, Int.toNat_natCast, List.length_singleton]
  simp
theorem cut_miss {c : UInt8} {s : Bs} (h : c ∉ s) : Lib.cut s [c] = (s, [], false) := by
  simp only [Lib.cut, index_miss c s h]
  rfl

def pieces (c : UInt8) : Bs → List Bs
  | [] => [[]]
  | x :: s => if x = c then [] :: pieces c s else match pieces c s with
    | [] => [[x]]
    | w :: ws => (x :: w) :: ws
theorem pieces_ne (c : UInt8) : ∀ s, pieces c s ≠ []
  | [] => by simp [pieces]
  | x :: s => by
    unfold pieces
    split
    · simp
    · split <;> simp
theorem pieces_miss {c : UInt8} : ∀ {l : Bs}, c ∉ l → pieces c l = [l]
  | [], _ => rfl
  | b :: l, h => by
    have hb : ¬ b = c := fun e => h (by simp [e])
    rw [pieces, if_neg hb, pieces_miss (fun e => h (List.mem_cons_of_mem _ e))]
theorem pieces_hit {c : UInt8} : ∀ {l : Bs} (r : Bs), c ∉ l → pieces c (l ++ c :: r) = l :: pieces c r
  | [], r, _ => by simp [pieces]
  | b :: l, r, h => by
    have hb : ¬ b = c := fun e => h (by simp [e])
    rw [List.cons_append, pieces, if_neg hb, pieces_hit r (fun e => h (List.mem_cons_of_mem _ e))]
theorem pieces_sep {c : UInt8} : ∀ {s : Bs} {w : Bs}, w ∈ pieces c s → c ∉ w
  | [], w, h => by simp [pieces] at h; subst h; simp
  | x :: s, w, h => by
    unfold pieces at h
    split at h
    · rcases List.mem_cons.1 h with rfl | h
      · simp
      · exact pieces_sep h
    · rename_i hx
      have hne := pieces_ne c s
      cases hp : pieces c s with
      | nil => exact absurd hp hne
      | cons v vs =>
        rw [hp] at h
        simp only at h
        rcases List.mem_cons.1 h with rfl | h
        · have := pieces_sep (s := s) (w := v) (by rw [hp]; simp)
          simp [this]; exact fun e => hx e.symm
        · exact pieces_sep (s := s) (by rw [hp]; simp [h])

theorem split_pieces (c : UInt8) : ∀ (n : Nat) (s : Bs), s.length ≤ n → Lib.splitK [c] 0 (Lib.count s [c]) s = pieces c s
  | n, s, hn => by
    rcases split_at c s with h | ⟨l, r, rfl, h⟩
    · rw [pieces_miss h, Lib.count_miss (index_miss c s h)]; rfl
    · rw [pieces_hit r h, Lib.count_hit (by simp) (index_hit c l r h)]
      have e : (l ++ c :: r).drop (l.length + [c].length) = r := by simp
      rw [e]
      rw [Nat.add_comm 1, Lib.splitK, index_hit c l r h]
      have hn1 : ¬ ((l.length : Int) == -1) = true := by simp
      rw [if_neg hn1]
      have e2 : (l ++ c :: r).drop ((l.length : Int).toNat + [c].length) = r := by simp
      have e3 : (l ++ c :: r).take ((l.length : Int).toNat + 0) = l := by simp
      rw [e2, e3]
      congr 1
      match n, hn with
      | n + 1, hn => exact split_pieces c n r (by simp at hn; omega)
      | 0, hn => simp at hn

theorem count_len (c : UInt8) : ∀ (n : Nat) (s : Bs), s.length ≤ n → (pieces c s).length = Lib.count s [c] + 1
  | n, s, hn => by
    rcases split_at c s with h | ⟨l, r, rfl, h⟩
    · rw [pieces_miss h, Lib.count_miss (index_miss c s h)]; rfl
    · rw [pieces_hit r h, Lib.count_hit (by simp) (index_hit c l r h)]
      have e : (l ++ c :: r).drop (l.length + [c].length) = r := by simp
      rw [e, List.length_cons]
      match n, hn with
      | n + 1, hn => rw [count_len c n r (by simp at hn; omega)]; omega
      | 0, hn => simp at hn

def joinC (c : UInt8) : List Bs → Bs
  | [] => []
  | [w] => w
  | w :: v :: ws => w ++ c :: joinC c (v :: ws)
theorem join_eq (c : UInt8) : ∀ ws : List Bs, Lib.join ws [c] = joinC c ws
  | [] => rfl
  | [w] => by simp [Lib.join, joinC, List.intercalate]
  | w :: v :: ws => by
    rw [joinC, ← join_eq c (v :: ws)]
    simp [Lib.join, List.intercalate, List.intersperse]
theorem pieces_join {c : UInt8} : ∀ {ws : List Bs}, ws ≠ [] → (∀ w ∈ ws, c ∉ w) → pieces c (joinC c ws) = ws
  | [], h, _ => absurd rfl h
  | [w], _, h => by rw [joinC, pieces_miss (h w (by simp))]
  | w :: v :: ws, _, h => by rw [joinC, pieces_hit _ (h w (by simp)), pieces_join (by simp) (fun u hu => h u (List.mem_cons_of_mem _ hu))]
theorem join_pieces (c : UInt8) : ∀ s : Bs, joinC c (pieces c s) = s
  | [] => rfl
  | x :: s => by
    have ih := join_pieces c s
    have hne := pieces_ne c s
    unfold pieces
    split
    · rename_i hx
      cases hp : pieces c s with
      | nil => exact absurd hp hne
      | cons v vs => rw [joinC, ← hp, ih, hx]; rfl
    · cases hp : pieces c s with
      | nil => exact absurd hp hne
      | cons v vs =>
        rw [hp] at ih
        simp only
        cases vs with
        | nil => rw [joinC] at ih ⊢; rw [ih]
        | cons u us => rw [joinC] at ih ⊢; rw [List.cons_append, ih]
theorem joinC_len (c : UInt8) : ∀ ws : List Bs, (joinC c ws).length + 1 ≤ (ws.map fun w => w.length + 1).sum + 1
  | [] => by simp [joinC]
  | [w] => by simp [joinC]
  | w :: v :: ws => by
    have := joinC_len c (v :: ws)
    simp only [joinC, List.length_append, List.length_cons, List.map_cons, List.sum_cons] at this ⊢
    omega
theorem pieces_len {c : UInt8} {s w : Bs} (h : w ∈ pieces c s) : w.length ≤ s.length := by
  induction s generalizing w with
  | nil => simp [pieces] at h; subst h; simp
  | cons x s ih =>
    unfold pieces at h
    split at h
    · rcases List.mem_cons.1 h with rfl | h
      · simp
      · have := ih h; simp; omega
    · have hne := pieces_ne c s
      cases hp : pieces c s with
      | nil => exact absurd hp hne
      | cons v vs =>
        rw [hp] at h
        simp only at h
        rcases List.mem_cons.1 h with rfl | h
        · have := ih (w := v) (by rw [hp]; simp); simp; omega
        · have := ih (w := w) (by rw [hp]; simp [h]); simp; omega

theorem pieces_last (c : UInt8) (s : Bs) : ∃ A z, pieces c s = A ++ [z] := by
  rcases List.eq_nil_or_concat (pieces c s) with h | ⟨A, z, h⟩
  · exact absurd h (pieces_ne c s)
  · exact ⟨A, z, by rw [h, List.concat_eq_append]⟩
theorem snoc_inj {α : Type} {A B : List α} {x y : α} (h : A ++ [x] = B ++ [y]) : A = B ∧ x = y := by
  have := List.append_inj' h rfl
  exact ⟨this.1, by simpa using this.2⟩
theorem pieces_snoc (c x : UInt8) : ∀ (s : Bs) (A : List Bs) (z : Bs), pieces c s = A ++ [z] → pieces c (s ++ [x]) = if x = c then A ++ [z, []] else A ++ [z ++ [x]]
  | [], A, z, h => by
    have h : [[]] = A ++ [z] := h
    cases A with
    | nil =>
      simp only [List.nil_append, List.cons.injEq, and_true] at h
      subst h
      by_cases hx : x = c
      · simp [pieces, hx]
      · simp [pieces, hx]
    | cons a A => simp at h
  | y :: s, A, z, h => by
    obtain ⟨B, u, hB⟩ := pieces_last c s
    have ih := pieces_snoc c x s B u hB
    by_cases hy : y = c
    · rw [pieces, if_pos hy, hB] at h
      have h : ([] :: B) ++ [u] = A ++ [z] := h
      obtain ⟨rfl, rfl⟩ := snoc_inj h
      rw [List.cons_append, pieces, if_pos hy, ih]
      by_cases hx : x = c
      · rw [if_pos hx, if_pos hx]; rfl
      · rw [if_neg hx, if_neg hx]; rfl
    · rw [pieces, if_neg hy, hB] at h
      rw [List.cons_append, pieces, if_neg hy, ih]
      cases B with
      | nil =>
        have h : [] ++ [y :: u] = A ++ [z] := h
        obtain ⟨rfl, rfl⟩ := snoc_inj h
        by_cases hx : x = c
        · rw [if_pos hx, if_pos hx]; rfl
        · rw [if_neg hx, if_neg hx]; rfl
      | cons b B =>
        have h : ((y :: b) :: B) ++ [u] = A ++ [z] := h
        obtain ⟨rfl, rfl⟩ := snoc_inj h
        by_cases hx : x = c
        · rw [if_pos hx, if_pos hx]; rfl
        · rw [if_neg hx, if_neg hx]; rfl
theorem pieces_count (c : UInt8) : ∀ s : Bs, (pieces c s).length ≤ s.length + 1
  | [] => by simp [pieces]
  | x :: s => by
    have ih := pieces_count c s
    unfold pieces
    split
    · simp; omega
    · split
      · simp
      · rename_i w ws hp
        rw [hp] at ih
        simp at ih ⊢; omega

/-! Numerals. -/
def isDig (b : UInt8) : Bool := decide (48 ≤ b.toNat) && decide (b.toNat ≤ 57)
def valFrom (a : Nat) : Bs → Nat
  | [] => a
  | b :: l => valFrom (a * 10 + (b.toNat - 48)) l
def magOf (w : Bs) : Bs := Lib.trimPrefix w [45]
/-- A decimal numeral as it is written: no sign but '-', no leading zero, no '-0'. -/
def canon (w : Bs) : Bool := !(magOf w).isEmpty && (magOf w).all isDig && (!((magOf w).headD 0 == 48) || w == [48])
def isNeg (w : Bs) : Bool := w.head? == some 45
def valOf (w : Bs) : Int := if isNeg w then -(valFrom 0 (magOf w) : Int) else (valFrom 0 (magOf w) : Int)

theorem magOf_neg {r : Bs} : magOf (45 :: r) = r := by simp [magOf, Lib.trimPrefix, Lib.hasPrefix]
theorem magOf_pos {w : Bs} (h : isNeg w = false) : magOf w = w := by
  cases w with
  | nil => rfl
  | cons c r =>
    simp only [isNeg, List.head?_cons, beq_eq_false_iff_ne, ne_eq, Option.some.injEq] at h
    simp [magOf, Lib.trimPrefix, Lib.hasPrefix]
    intro e; exact absurd e.symm h
theorem neg_cases (w : Bs) : (isNeg w = true ∧ ∃ r, w = 45 :: r) ∨ isNeg w = false := by
  cases w with
  | nil => exact .inr rfl
  | cons c r =>
    by_cases h : c = 45
    · subst h; exact .inl ⟨rfl, r, rfl⟩
    · exact .inr (by simp [isNeg, h])
theorem isDig_iff {b : UInt8} : isDig b = true ↔ 48 ≤ b.toNat ∧ b.toNat ≤ 57 := by simp [isDig]
theorem isDig_ne {b : UInt8} (h : isDig b = true) : b ≠ 45 ∧ b ≠ 43 ∧ b ≠ 32 ∧ b ≠ 10 := by
  rw [isDig_iff] at h
  refine ⟨?_, ?_, ?_, ?_⟩ <;> rintro rfl <;> exact absurd h (by decide)

theorem val_le : ∀ (l : Bs) (a : Nat), a ≤ valFrom a l
  | [], _ => Nat.le_refl _
  | b :: l, a => by
    have := val_le l (a * 10 + (b.toNat - 48))
    show a ≤ valFrom (a * 10 + (b.toNat - 48)) l
    omega
theorem val_append : ∀ (l m : Bs) (a : Nat), valFrom a (l ++ m) = valFrom (valFrom a l) m
  | [], _, _ => rfl
  | b :: l, m, a => val_append l m (a * 10 + (b.toNat - 48))
theorem parse_digits (l : Bs) : ∀ (a : Nat), a < 18446744073709551616 → l.all isDig = true → Lib.parseUint10 a l = if valFrom a l < 18446744073709551616 then .ok (valFrom a l) else .range := by
  induction l with
  | nil => intro a ha _; rw [show valFrom a [] = a from rfl, if_pos ha]; rfl
  | cons b l ih =>
    intro a ha h
    simp only [List.all_cons, Bool.and_eq_true] at h
    have hb := isDig_iff.1 h.1
    rw [show valFrom a (b :: l) = valFrom (a * 10 + (b.toNat - 48)) l from rfl, Lib.parseUint10, if_pos hb]
    have hle := val_le l (a * 10 + (b.toNat - 48))
    by_cases h1 : 1844674407370955162 ≤ a
    · rw [if_pos h1, if_neg (by omega)]
    · rw [if_neg h1]
      by_cases h2 : 18446744073709551616 ≤ a * 10 + (b.toNat - 48)
      · rw [if_pos h2, if_neg (by omega)]
      · rw [if_neg h2]
        exact ih _ (by omega) h.2
theorem canon_parts {w : Bs} (h : canon w = true) : magOf w ≠ [] ∧ (magOf w).all isDig = true ∧ ((magOf w).headD 0 ≠ 48 ∨ w = [48]) := by
  simp only [canon, Bool.and_eq_true, Bool.not_eq_true', List.isEmpty_eq_false_iff, Bool.or_eq_true, beq_eq_false_iff_ne, beq_iff_eq] at h
  exact ⟨h.1.1, h.1.2, h.2⟩
theorem atoi_canon {w : Bs} (h : canon w = true) : Lib.atoiAll w = if -9223372036854775808 ≤ valOf w ∧ valOf w ≤ 9223372036854775807 then .ok (valOf w) else .range := by
  obtain ⟨h1, h2, -⟩ := canon_parts h
  have hp : Lib.parseMag (magOf w) = if valFrom 0 (magOf w) < 18446744073709551616 then .ok (valFrom 0 (magOf w)) else .range := by
    rw [Lib.parseMag, if_neg h1]
    exact parse_digits _ 0 (by omega) h2
  rcases neg_cases w with ⟨hn, r, rfl⟩ | hn
  · rw [magOf_neg] at hp h1 h2
    simp only [Lib.atoiAll, show ((45 : UInt8).toNat = 45) from rfl, or_true, if_true, hp, valOf, hn, magOf_neg]
    by_cases hv : valFrom 0 r < 18446744073709551616
    · simp only [if_pos hv]
      by_cases h2 : 9223372036854775808 < valFrom 0 r
      · rw [if_neg (by simp), if_pos ⟨trivial, h2⟩, if_neg (by omega)]
      · rw [if_neg (by simp), if_neg (by simp; omega), if_pos (by omega)]
    · simp only [if_neg hv]
      rw [if_neg (by omega)]
  · have hm := magOf_pos hn
    rw [hm] at hp h1 h2
    cases w with
    | nil => exact absurd rfl h1
    | cons c r =>
      simp only [List.all_cons, Bool.and_eq_true] at h2
      have hc := isDig_iff.1 h2.1
      have hc1 : ¬ (c.toNat = 43 ∨ c.toNat = 45) := by omega
      have hc2 : ¬ c.toNat = 45 := by omega
      have hv : valOf (c :: r) = (valFrom 0 (c :: r) : Int) := by rw [valOf, hn, hm]; rfl
      rw [hv]
      unfold Lib.atoiAll
      simp only [if_neg hc1, hp]
      clear hv
      by_cases hv : valFrom 0 (c :: r) < 18446744073709551616
      · simp only [if_pos hv]
        by_cases h2 : 9223372036854775808 ≤ valFrom 0 (c :: r)
        · rw [if_pos ⟨hc2, h2⟩, if_neg (by omega)]
        · rw [if_neg (by omega), if_neg (by omega), if_neg hc2, if_pos (by omega)]
      · simp only [if_neg hv]
        rw [if_neg (by omega)]

theorem dec_val : ∀ u : Nat, valFrom 0 (Lib.decDigits u) = u := by
  intro u
  induction u using Nat.strongRecOn with
  | _ u ih =>
    have h48 : ∀ k, k < 10 → (UInt8.ofNat (48 + k)).toNat - 48 = k := by intro k hk; simp [UInt8.toNat_ofNat']; omega
    rw [Lib.decDigits]
    split
    · rename_i h
      have e : valFrom 0 [UInt8.ofNat (48 + u)] = 0 * 10 + ((UInt8.ofNat (48 + u)).toNat - 48) := rfl
      rw [e, h48 u h]; omega
    · have e : valFrom (u / 10) [UInt8.ofNat (48 + u % 10)] = u / 10 * 10 + ((UInt8.ofNat (48 + u % 10)).toNat - 48) := rfl
      rw [val_append, ih (u / 10) (by omega), e, h48 _ (by omega)]; omega
theorem dec_dig : ∀ u : Nat, (Lib.decDigits u).all isDig = true := by
  intro u
  induction u using Nat.strongRecOn with
  | _ u ih =>
    have h48 : ∀ k, k < 10 → isDig (UInt8.ofNat (48 + k)) = true := by intro k hk; rw [isDig_iff]; simp [UInt8.toNat_ofNat']; omega
    rw [Lib.decDigits]
    split
    · rename_i h; simp only [List.all_cons, List.all_nil, h48 u h, Bool.and_true]
    · rw [List.all_append, ih (u / 10) (by omega)]; simp only [List.all_cons, List.all_nil, h48 (u % 10) (by omega), Bool.and_true]
theorem dec_ne (u : Nat) : Lib.decDigits u ≠ [] := by
  rw [Lib.decDigits]; split <;> simp
theorem dec_head : ∀ u : Nat, 0 < u → (Lib.decDigits u).headD 0 ≠ 48 := by
  intro u
  induction u using Nat.strongRecOn with
  | _ u ih =>
    intro h0
    rw [Lib.decDigits]
    split
    · rename_i h
      simp only [List.headD_cons]
      intro e
      have := congrArg UInt8.toNat e
      simp [UInt8.toNat_ofNat'] at this
      omega
    · have := ih (u / 10) (by omega) (by omega)
      have hne := dec_ne (u / 10)
      cases hd : Lib.decDigits (u / 10) with
      | nil => exact absurd hd hne
      | cons c l => rw [hd] at this; simpa using this
theorem dec_zero : Lib.decDigits 0 = [48] := by rw [Lib.decDigits]; rfl

theorem itoa_neg {n : Int} (h : n < 0) : Lib.itoa n = 45 :: Lib.decDigits n.natAbs := by rw [Lib.itoa, if_pos h]
theorem itoa_pos {n : Int} (h : ¬ n < 0) : Lib.itoa n = Lib.decDigits n.toNat := by rw [Lib.itoa, if_neg h]
theorem dec_notNeg (u : Nat) : isNeg (Lib.decDigits u) = false := by
  have hne := dec_ne u
  have hd := dec_dig u
  cases h : Lib.decDigits u with
  | nil => exact absurd h hne
  | cons c l =>
    rw [h] at hd
    simp only [List.all_cons, Bool.and_eq_true] at hd
    simp [isNeg, (isDig_ne hd.1).1]
theorem canon_itoa (n : Int) : canon (Lib.itoa n) = true := by
  by_cases h : n < 0
  · rw [itoa_neg h, canon, magOf_neg, dec_dig]
    have := dec_head n.natAbs (by omega)
    have h2 : ((Lib.decDigits n.natAbs).headD 0 == 48) = false := beq_eq_false_iff_ne.2 this
    rw [h2]; simp [dec_ne]
  · rw [itoa_pos h, canon, magOf_pos (dec_notNeg _), dec_dig]
    by_cases h0 : n.toNat = 0
    · rw [h0, dec_zero]; rfl
    · have := dec_head n.toNat (by omega)
      have h2 : ((Lib.decDigits n.toNat).headD 0 == 48) = false := beq_eq_false_iff_ne.2 this
      rw [h2]; simp [dec_ne]
theorem val_itoa (n : Int) : valOf (Lib.itoa n) = n := by
  by_cases h : n < 0
  · rw [itoa_neg h, valOf, magOf_neg, dec_val, if_pos (by rfl)]; omega
  · rw [itoa_pos h, valOf, magOf_pos (dec_notNeg _), dec_val, if_neg (by simp [dec_notNeg])]; omega

/-- Digits without a leading zero are the numeral of their value. -/
theorem dec_of_val : ∀ (k : Nat) (l : Bs), l.length ≤ k → l ≠ [] → l.all isDig = true → (l.headD 0 ≠ 48 ∨ l = [48]) → Lib.decDigits (valFrom 0 l) = l
  | k, l, hk, hne, hd, hh => by
    rcases List.eq_nil_or_concat l with rfl | ⟨m, x, rfl⟩
    · exact absurd rfl hne
    rw [List.concat_eq_append] at *
    rw [List.all_append, Bool.and_eq_true] at hd
    have hx : isDig x = true := by simpa using hd.2
    have hx' := isDig_iff.1 hx
    have hxe : UInt8.ofNat (48 + (x.toNat - 48)) = x := by
      rw [show 48 + (x.toNat - 48) = x.toNat by omega]; exact UInt8.ofNat_toNat
    by_cases hm : m = []
    · subst hm
      have e : valFrom 0 [x] = 0 * 10 + (x.toNat - 48) := rfl
      rw [List.nil_append, e, Nat.zero_mul, Nat.zero_add, Lib.decDigits, dif_pos (by omega), hxe]
    · have hh' : m.headD 0 ≠ 48 := by
        rcases hh with hh | hh
        · cases m with
          | nil => exact absurd rfl hm
          | cons c m => simpa using hh
        · have := congrArg List.length hh
          simp at this
          exact absurd this hm
      have hpos : 0 < valFrom 0 m := by
        cases m with
        | nil => exact absurd rfl hm
        | cons c m =>
          simp only [List.all_cons, Bool.and_eq_true] at hd
          have hc := isDig_iff.1 hd.1.1
          have hc2 : c.toNat ≠ 48 := by
            intro e
            apply hh'
            simp only [List.headD_cons]
            exact UInt8.toNat_inj.1 e
          have := val_le m (0 * 10 + (c.toNat - 48))
          show 0 < valFrom (0 * 10 + (c.toNat - 48)) m
          omega
      rw [val_append]
      have e : valFrom (valFrom 0 m) [x] = valFrom 0 m * 10 + (x.toNat - 48) := rfl
      rw [e]
      rw [Lib.decDigits, dif_neg (by omega)]
      rw [show (valFrom 0 m * 10 + (x.toNat - 48)) / 10 = valFrom 0 m by omega, show (valFrom 0 m * 10 + (x.toNat - 48)) % 10 = x.toNat - 48 by omega, hxe]
      match k, hk with
      | 0, hk => simp at hk
      | k + 1, hk => rw [dec_of_val k m (by simp at hk; omega) hm hd.1 (.inl hh')]
theorem itoa_val {w : Bs} (h : canon w = true) : Lib.itoa (valOf w) = w := by
  obtain ⟨h1, h2, h3⟩ := canon_parts h
  rcases neg_cases w with ⟨hn, r, rfl⟩ | hn
  · rw [magOf_neg] at h1 h2 h3
    have h3' : r.headD 0 ≠ 48 := by
      rcases h3 with h3 | h3
      · exact h3
      · simp at h3
    have hpos : 0 < valFrom 0 r := by
      cases r with
      | nil => exact absurd rfl h1
      | cons c m =>
        simp only [List.all_cons, Bool.and_eq_true] at h2
        have hc := isDig_iff.1 h2.1
        have hc2 : c.toNat ≠ 48 := fun e => h3' (by simp only [List.headD_cons]; exact UInt8.toNat_inj.1 e)
        have := val_le m (0 * 10 + (c.toNat - 48))
        show 0 < valFrom (0 * 10 + (c.toNat - 48)) m
        omega
    rw [valOf, if_pos hn, magOf_neg, itoa_neg (by omega)]
    rw [show (-(valFrom 0 r : Int)).natAbs = valFrom 0 r by omega, dec_of_val r.length r (Nat.le_refl _) h1 h2 (.inl h3')]
  · have hm := magOf_pos hn
    rw [hm] at h1 h2 h3
    rw [valOf, if_neg (by simp [hn]), hm, itoa_pos (by omega), Int.toNat_natCast, dec_of_val w.length w (Nat.le_refl _) h1 h2 h3]

/-- Numbers with a bound, digit by digit. -/
def capFrom (B : Nat) : Nat → Bool → Bs → Nat × Bool
  | a, b, [] => (a, b)
  | a, b, c :: l => if a * 10 + (c.toNat - 48) > B then capFrom B B true l else capFrom B (a * 10 + (c.toNat - 48)) b l
theorem cap_full (B : Nat) (hB : 0 < B) : ∀ (l : Bs), capFrom B B true l = (B, true)
  | [] => rfl
  | c :: l => by
    rw [capFrom, if_pos (by omega)]
    exact cap_full B hB l
theorem cap_eq (B : Nat) (hB : 0 < B) : ∀ (l : Bs) (a : Nat), a ≤ B → capFrom B a false l = if valFrom a l ≤ B then (valFrom a l, false) else (B, true)
  | [], a, h => by rw [capFrom, show valFrom a [] = a from rfl, if_pos h]
  | c :: l, a, h => by
    rw [capFrom, show valFrom a (c :: l) = valFrom (a * 10 + (c.toNat - 48)) l from rfl]
    split
    · rename_i h1
      have := val_le l (a * 10 + (c.toNat - 48))
      rw [if_neg (by omega), cap_full B hB]
    · exact cap_eq B hB l _ (by omega)

theorem trim_empty {l cs : Bs} : Lib.trimS l cs = [] ↔ ∀ x ∈ l, cs.contains x = true := by
  have hdw : ∀ (m : Bs), m.dropWhile (cs.contains ·) = [] ↔ ∀ x ∈ m, cs.contains x = true := by
    intro m
    induction m with
    | nil => simp
    | cons a m ih =>
      by_cases h : cs.contains a = true
      · rw [List.dropWhile_cons_of_pos h, ih]; simp at h ⊢; simp [h]
      · rw [List.dropWhile_cons_of_neg h]; simp at h ⊢; exact fun e => absurd e h
  simp only [Lib.trimS, Lib.trimLeftS, Lib.trimRightS]
  rw [hdw]
  constructor
  · intro h
    by_cases hr : l.reverse.dropWhile (cs.contains ·) = []
    · intro x hx
      exact (hdw _).1 hr x (by simpa using hx)
    · exfalso
      cases hq : l.reverse.dropWhile (cs.contains ·) with
      | nil => exact hr hq
      | cons a q =>
        have h1 : ¬ cs.contains a = true := by
          have := List.head?_dropWhile_not (fun x => cs.contains x) l.reverse
          rw [hq] at this
          simpa using this
        exact h1 (h a (by rw [hq]; simp))
  · intro h x hx
    exact h x (by
      have := List.mem_reverse.1 hx
      have := (List.dropWhile_sublist _).subset this
      simpa using this)
theorem nDig_le : ∀ (k u : Nat), u < 10 ^ (k + 1) → (Lib.decDigits u).length ≤ k + 1
  | 0, u, h => by rw [Lib.decDigits, dif_pos (by simpa using h)]; simp
  | k + 1, u, h => by
    rw [Lib.decDigits]
    split
    · simp
    · rw [List.length_append]
      have := nDig_le k (u / 10) (by rw [Nat.pow_succ] at h; omega)
      simp; omega
theorem itoa_len {n : Int} (h1 : -9223372036854775808 ≤ n) (h2 : n ≤ 9223372036854775807) : (Lib.itoa n).length ≤ 20 := by
  by_cases h : n < 0
  · rw [itoa_neg h]; have := nDig_le 18 n.natAbs (by omega); simp; omega
  · rw [itoa_pos h]; have := nDig_le 18 n.toNat (by omega); omega
theorem itoa_sep {n : Int} : (32 : UInt8) ∉ Lib.itoa n ∧ (10 : UInt8) ∉ Lib.itoa n := by
  have hd : ∀ u, ∀ x ∈ Lib.decDigits u, x ≠ 32 ∧ x ≠ 10 := fun u x hx => by
    have := List.all_eq_true.1 (dec_dig u) x hx
    exact ⟨(isDig_ne this).2.2.1, (isDig_ne this).2.2.2⟩
  by_cases h : n < 0
  · rw [itoa_neg h]
    exact ⟨fun e => by rcases List.mem_cons.1 e with e | e; cases e; exact (hd _ _ e).1 rfl, fun e => by rcases List.mem_cons.1 e with e | e; cases e; exact (hd _ _ e).2 rfl⟩
  · rw [itoa_pos h]
    exact ⟨fun e => (hd _ _ e).1 rfl, fun e => (hd _ _ e).2 rfl⟩
end Go.Txt
