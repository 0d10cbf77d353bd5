/- law07: plain laws of Print and Parse. -/
import Derived.Test.YtlecojgodkidkaaDoorFf
import Derived.Test.YtlecojgodkidkaaDoorFg
namespace Go.Proofs.YtlecojgodkidkaaDoor
open Go Go.Vc
set_option maxRecDepth 100000

def textOf (l : List Pk) : List UInt8 := l.flatMap lineR
def badOf : List Pk → Int
  | [] => 0
  | p :: l => if checkR p ≠ 0 then checkR p else badOf l
def printR (l : List Pk) : List UInt8 × Int :=
  if l.length > 4096 then ([], 15) else if badOf l ≠ 0 then ([], badOf l) else if (textOf l).length > 65536 then ([], 7) else (textOf l, 0)
theorem bad_all : ∀ {l : List Pk}, (∀ p ∈ l, checkR p = 0) → badOf l = 0
  | [], _ => rfl
  | p :: l, h => by rw [badOf, if_neg (by rw [h p (by simp)]; simp)]; exact bad_all fun q hq => h q (by simp [hq])
theorem all_bad : ∀ {l : List Pk}, badOf l = 0 → ∀ p ∈ l, checkR p = 0
  | [], _, p, hp => by cases hp
  | q :: l, h, p, hp => by
    rw [badOf] at h
    by_cases hq : checkR q = 0
    · rw [if_neg (by rw [hq]; simp)] at h
      rcases List.mem_cons.1 hp with rfl | hp
      · exact hq
      · exact all_bad h p hp
    · rw [if_pos hq] at h; exact absurd h hq
theorem bad_snoc : ∀ (l : List Pk) (x : Pk), badOf (l ++ [x]) = if badOf l ≠ 0 then badOf l else checkR x
  | [], x => by
    show (if checkR x ≠ 0 then checkR x else 0) = if (0 : Int) ≠ 0 then (0 : Int) else checkR x
    rw [if_neg (show ¬ (0 : Int) ≠ 0 by simp)]
    by_cases h : checkR x = 0
    · rw [h]; rfl
    · rw [if_pos h]
  | p :: l, x => by
    rw [List.cons_append, badOf, badOf, bad_snoc l x]
    by_cases hp : checkR p ≠ 0
    · rw [if_pos hp, if_pos hp, if_pos hp]
    · rw [if_neg hp, if_neg hp]
theorem text_snoc (l : List Pk) (x : Pk) : textOf (l ++ [x]) = textOf l ++ lineR x := by simp [textOf]
theorem valid_parts {p : Pk} (h : checkR p = 0) : (p.1 = 0 ∧ 1 ≤ p.2.1 ∧ p.2.1 ≤ 8 ∨ p.1 = 1 ∧ 1 ≤ p.2.1 ∧ p.2.1 ≤ 8 ∧ p.2.2 = 0 ∨ p.1 = 2 ∧ p.2.1 = 0) ∧ -2147483648 ≤ p.2.2 ∧ p.2.2 ≤ 2147483647 := by
  unfold checkR at h
  by_cases h1 : p.1 < 0 ∨ p.1 > 2
  · rw [if_pos h1] at h; cases h
  rw [if_neg h1] at h
  by_cases h2 : (p.1 = 2 ∧ p.2.1 ≠ 0) ∨ (p.1 ≠ 2 ∧ (p.2.1 < 1 ∨ p.2.1 > 8))
  · rw [if_pos h2] at h; cases h
  rw [if_neg h2] at h
  by_cases h3 : (p.1 = 1 ∧ p.2.2 ≠ 0) ∨ p.2.2 < -2147483648 ∨ p.2.2 > 2147483647
  · rw [if_pos h3] at h; cases h
  omega
theorem valid_64 {p : Pk} (h : checkR p = 0) : (inI64 p.2.1 ∧ p.2.1 ≠ -9223372036854775808) ∧ (inI64 p.2.2 ∧ p.2.2 ≠ -9223372036854775808) := by
  have := valid_parts h
  unfold inI64
  omega
theorem w32 : (32 : UInt8) ∉ wStep ∧ (32 : UInt8) ∉ wStop ∧ (32 : UInt8) ∉ wCrash := by decide
theorem w10 : (10 : UInt8) ∉ wStep ∧ (10 : UInt8) ∉ wStop ∧ (10 : UInt8) ∉ wCrash := by decide
theorem words_sep (p : Pk) : ∀ w ∈ wordsOf p, (32 : UInt8) ∉ w ∧ (10 : UInt8) ∉ w := by
  intro w hw
  unfold wordsOf at hw
  split at hw
  · simp only [List.mem_cons, List.not_mem_nil, or_false] at hw
    rcases hw with rfl | rfl | rfl
    · exact ⟨w32.1, w10.1⟩
    · exact Txt.itoa_sep
    · exact Txt.itoa_sep
  · split at hw <;> simp only [List.mem_cons, List.not_mem_nil, or_false] at hw <;> rcases hw with rfl | rfl
    · exact ⟨w32.2.1, w10.2.1⟩
    · exact Txt.itoa_sep
    · exact ⟨w32.2.2, w10.2.2⟩
    · exact Txt.itoa_sep
theorem words_ne (p : Pk) : wordsOf p ≠ [] := by
  unfold wordsOf; split
  · simp
  · split <;> simp
theorem join_sep {c : UInt8} (hc : c ≠ 32) : ∀ {ws : List (List UInt8)}, (∀ w ∈ ws, c ∉ w) → c ∉ Txt.joinC 32 ws
  | [], _ => by simp [Txt.joinC]
  | [w], h => by rw [Txt.joinC]; exact h w (by simp)
  | w :: v :: ws, h => by
    rw [Txt.joinC]
    intro hm
    rcases List.mem_append.1 hm with hm | hm
    · exact h w (by simp) hm
    · rcases List.mem_cons.1 hm with hm | hm
      · exact hc hm
      · exact join_sep hc (fun u hu => h u (by simp [hu])) hm
def bare (p : Pk) : List UInt8 := Txt.joinC 32 (wordsOf p)
theorem line_bare (p : Pk) : lineR p = bare p ++ [10] := rfl
theorem bare_10 (p : Pk) : (10 : UInt8) ∉ bare p := join_sep (by decide) fun w hw => (words_sep p w hw).2
/-- What is printed is read back. -/
theorem read_bare {p : Pk} (h : checkR p = 0) : readR (bare p) = (p, 0) := by
  have hp : Txt.pieces 32 (bare p) = wordsOf p := Txt.pieces_join (words_ne p) fun w hw => (words_sep p w hw).1
  have hv := valid_parts h
  obtain ⟨k, th, ch⟩ := p
  simp only at hv
  unfold readR
  rw [hp]
  have key : ∀ (w : List UInt8) (vs : List Int) (kk : Int), kk = 0 ∨ kk = 1 ∨ kk = 2 → kindOf w = kk → vs.length = cntOf kk → mkP kk vs = (k, th, ch) → readW w (vs.map Lib.itoa) = ((k, th, ch), 0) := by
    intro w vs kk hkk hkw hvl hmk
    have hcan : (vs.map Lib.itoa).all Txt.canon = true := by
      rw [List.all_map, List.all_eq_true]; exact fun n _ => Txt.canon_itoa n
    have hval : (vs.map Lib.itoa).map Txt.valOf = vs := by
      rw [List.map_map]
      have : (Txt.valOf ∘ Lib.itoa) = id := funext Txt.val_itoa
      rw [this, List.map_id]
    unfold readW
    rw [hkw, if_neg (by omega), if_neg (by rw [List.length_map, hvl]; simp), if_neg (by rw [hcan]; simp), hval, hmk, if_neg (by rw [h]; simp)]
  rcases hv.1 with ⟨rfl, _⟩ | ⟨rfl, _, _, rfl⟩ | ⟨rfl, rfl⟩
  · exact key wStep [th, ch] 0 (by simp) (by decide) rfl rfl
  · exact key wStop [th] 1 (by simp) (by decide) rfl rfl
  · exact key wCrash [ch] 2 (by simp) (by decide) rfl rfl
theorem pieces_text : ∀ l : List Pk, Txt.pieces 10 (textOf l) = l.map bare ++ [[]]
  | [] => rfl
  | p :: l => by
    have e : textOf (p :: l) = bare p ++ 10 :: textOf l := by simp [textOf, line_bare]
    rw [e, Txt.pieces_hit _ (bare_10 p), pieces_text l]; rfl
theorem parse_text : ∀ (l acc : List Pk), (∀ p ∈ l, checkR p = 0) → acc.length ≤ 4096 → parseP (acc.length + 1) acc (l.map bare ++ [[]]) = if acc.length + l.length ≤ 4096 then (acc ++ l, 0, 0) else ([], 4097, 15)
  | [], acc, _, ha => by
    rw [if_pos (by simpa using ha)]
    simp [parseP]
  | p :: l, acc, h, ha => by
    have hp := h p (by simp)
    have hr := read_bare hp
    obtain ⟨m, ls, hm⟩ : ∃ m ls, l.map bare ++ [[]] = m :: ls := by
      cases hq : l.map bare ++ [[]] with
      | nil => simp at hq
      | cons m ls => exact ⟨m, ls, rfl⟩
    rw [List.map_cons, List.cons_append, hm, parseP, hr, if_neg (by simp)]
    by_cases hf : acc.length = 4096
    · rw [if_pos hf, if_neg (by simp; omega), hf]; rfl
    · rw [if_neg hf, ← hm]
      have := parse_text l (acc ++ [p]) (fun q hq => h q (by simp [hq])) (by simp; omega)
      rw [List.length_append] at this
      simp only [List.length_cons, List.length_nil, Nat.zero_add] at this
      show parseP (acc.length + 1 + 1) (acc ++ [p]) (l.map bare ++ [[]]) = _
      rw [this]
      by_cases hle : acc.length + (l.length + 1) ≤ 4096
      · rw [if_pos (by omega), if_pos (by simpa using hle), List.append_assoc]; rfl
      · rw [if_neg (by omega), if_neg (by simpa using hle)]
/-- Parse of a printed text. -/
theorem parse_print {l : List Pk} (h : ∀ p ∈ l, checkR p = 0) (hs : (textOf l).length ≤ 65536) : parseR (textOf l) = if l.length ≤ 4096 then (l, 0, 0) else ([], 4097, 15) := by
  unfold parseR
  rw [if_neg (by omega), pieces_text]
  have := parse_text l [] h (Nat.zero_le _)
  simpa using this
/-- A line that is read is the line of its pick. -/
theorem read_line {w : List UInt8} {p : Pk} (h : readR w = (p, 0)) : bare p = w ∧ checkR p = 0 := by
  have hj := Txt.join_pieces 32 w
  unfold readR at h
  cases hp : Txt.pieces 32 w with
  | nil => exact absurd hp (Txt.pieces_ne 32 w)
  | cons w0 args =>
    rw [hp] at h hj
    simp only at h
    unfold readW at h
    by_cases h1 : kindOf w0 < 0
    · rw [if_pos h1] at h; simp at h
    rw [if_neg h1] at h
    by_cases h2 : args.length ≠ cntOf (kindOf w0)
    · rw [if_pos h2] at h; simp at h
    rw [if_neg h2] at h
    by_cases h3 : args.all Txt.canon = false
    · rw [if_pos h3] at h; simp at h
    rw [if_neg h3] at h
    by_cases h4 : checkR (mkP (kindOf w0) (args.map Txt.valOf)) ≠ 0
    · rw [if_pos h4] at h; simp at h
    rw [if_neg h4] at h
    obtain rfl : _ = p := congrArg Prod.fst h
    refine ⟨?_, by simpa using h4⟩
    rw [← hj, bare]
    congr 1
    have hcan := List.all_eq_true.1 (by simpa using h3 : args.all Txt.canon = true)
    have h2 : args.length = cntOf (kindOf w0) := by simpa using h2
    rcases kindOf_cases w0 with hk | hk | hk | hk
    · have hw : w0 = wStep := by
        unfold kindOf at hk
        split at hk
        · assumption
        · repeat (split at hk; cases hk)
          cases hk
      rw [hk] at h2 ⊢
      match args, h2 with
      | [x, y], _ =>
        show [wStep, Lib.itoa (Txt.valOf x), Lib.itoa (Txt.valOf y)] = _
        rw [Txt.itoa_val (hcan x (by simp)), Txt.itoa_val (hcan y (by simp)), hw]
      | [], hn => simp [cntOf] at hn
      | [_], hn => simp [cntOf] at hn
      | _ :: _ :: _ :: _, hn => simp [cntOf] at hn
    · have hw : w0 = wStop := by
        unfold kindOf at hk
        split at hk
        · cases hk
        · split at hk
          · assumption
          · split at hk <;> cases hk
      rw [hk] at h2 ⊢
      match args, h2 with
      | [x], _ =>
        show [wStop, Lib.itoa (Txt.valOf x)] = _
        rw [Txt.itoa_val (hcan x (by simp)), hw]
      | [], hn => simp [cntOf] at hn
      | _ :: _ :: _, hn => simp [cntOf] at hn
    · have hw : w0 = wCrash := by
        unfold kindOf at hk
        split at hk
        · cases hk
        · split at hk
          · cases hk
          · split at hk
            · assumption
            · cases hk
      rw [hk] at h2 ⊢
      match args, h2 with
      | [x], _ =>
        show [wCrash, Lib.itoa (Txt.valOf x)] = _
        rw [Txt.itoa_val (hcan x (by simp)), hw]
      | [], hn => simp [cntOf] at hn
      | _ :: _ :: _, hn => simp [cntOf] at hn
    · omega
theorem parse_ok : ∀ (ls : List (List UInt8)) (n : Nat) (acc : List Pk), ls ≠ [] → acc.length ≤ 4096 → (parseP n acc ls).2.2 = 0 →
    ∃ ps, (parseP n acc ls).1 = acc ++ ps ∧ Txt.joinC 10 ls = textOf ps ∧ (∀ p ∈ ps, checkR p = 0) ∧ (acc ++ ps).length ≤ 4096
  | [], _, _, h, _, _ => absurd rfl h
  | [t], n, acc, _, ha, h => by
    rw [parseP] at h ⊢
    by_cases ht : t = []
    · rw [if_pos ht]
      exact ⟨[], by simp, by rw [ht]; rfl, by simp, by simpa using ha⟩
    · rw [if_neg ht] at h; cases h
  | l :: m :: ls, n, acc, _, ha, h => by
    rw [parseP] at h ⊢
    by_cases he : (readR l).2 = 0
    · rw [if_neg (by rw [he]; simp)] at h ⊢
      by_cases hf : acc.length = 4096
      · rw [if_pos hf] at h; cases h
      · rw [if_neg hf] at h ⊢
        obtain ⟨ps, h1, h2, h3, h4⟩ := parse_ok (m :: ls) (n + 1) (acc ++ [(readR l).1]) (by simp) (by simp; omega) h
        obtain ⟨hb, hc⟩ := read_line (w := l) (p := (readR l).1) (Prod.ext rfl he)
        refine ⟨(readR l).1 :: ps, by rw [h1]; simp, ?_, ?_, by simpa using h4⟩
        · rw [Txt.joinC, h2]
          have : textOf ((readR l).1 :: ps) = bare (readR l).1 ++ 10 :: textOf ps := by simp [textOf, line_bare]
          rw [this, hb]
        · intro p hp
          rcases List.mem_cons.1 hp with rfl | hp
          · exact hc
          · exact h3 p hp
    · rw [if_pos he] at h; exact absurd h he
/-- A text that parses is printed again. -/
theorem print_parse {s : List UInt8} (hs : s.length ≤ 65536) (h : (parseR s).2.2 = 0) : printR (parseR s).1 = (s, 0) ∧ (parseR s).1.length ≤ 4096 := by
  have e : parseR s = parseP 1 [] (Txt.pieces 10 s) := by rw [parseR, if_neg (by omega)]
  rw [e] at h ⊢
  obtain ⟨ps, h1, h2, h3, h4⟩ := parse_ok (Txt.pieces 10 s) 1 [] (Txt.pieces_ne 10 s) (Nat.zero_le _) h
  rw [Txt.join_pieces] at h2
  rw [h1, List.nil_append]
  rw [List.nil_append] at h4
  refine ⟨?_, h4⟩
  rw [printR, if_neg (by omega), if_neg (by rw [bad_all h3]; simp), ← h2, if_neg (by omega)]
theorem line_len (p : Pk) (h1 : inI64 p.2.1) (h2 : inI64 p.2.2) : (lineR p).length ≤ 48 := by
  have l1 := Txt.itoa_len h1.1 h1.2
  have l2 := Txt.itoa_len h2.1 h2.2
  rw [line_bare, bare, wordsOf]
  split
  · simp [Txt.joinC, wStep]; omega
  · split <;> simp [Txt.joinC, wStop, wCrash] <;> omega
theorem text_len : ∀ (l : List Pk), (∀ p ∈ l, inI64 p.2.1 ∧ inI64 p.2.2) → (textOf l).length ≤ 48 * l.length
  | [], _ => by simp [textOf]
  | p :: l, h => by
    have h1 := line_len p (h p (by simp)).1 (h p (by simp)).2
    have h2 := text_len l fun q hq => h q (by simp [hq])
    have e : textOf (p :: l) = lineR p ++ textOf l := rfl
    rw [e, List.length_append, List.length_cons]; omega
end Go.Proofs.YtlecojgodkidkaaDoor
