/- law63: plain laws: texts and commands; lines that are woven in. Conditions: none. -/
import Derived.Test.YtikpdgjdeikinaaGreatDoorPb
namespace Go.Proofs.YtikpdgjdeikinaaGreatDoor.Sc
open Go Go.Txt
set_option maxRecDepth 100000

theorem join_no {c : UInt8} (hc : c ≠ 32) : ∀ {ws : List Bs}, (∀ w ∈ ws, c ∉ w) → c ∉ joinC 32 ws
  | [], _ => by simp [joinC]
  | [w], h => by rw [joinC]; exact h w (by simp)
  | w :: v :: ws, h => by
    rw [joinC]
    intro hm
    rcases List.mem_append.1 hm with hm | hm
    · exact h w (by simp) hm
    · rcases List.mem_cons.1 hm with hm | hm
      · exact hc hm
      · exact join_no hc (fun u hu => h u (by simp [hu])) hm
theorem bare_10 {c : Cmd} (h : checkR c = 0) : (10 : UInt8) ∉ bare c := by
  obtain ⟨h0, h15, -⟩ := check_ok h
  have hname : (10 : UInt8) ∉ nameOf c.2.1 := name_no h0 h15 (by decide)
  refine join_no (by decide) fun x hx => ?_
  rcases words_cases h with ⟨-, -, e⟩ | ⟨-, ho, -, w, -, hp, e⟩ | ⟨-, w, -, hp, e⟩
  · rw [e] at hx
    rcases List.mem_cons.1 hx with rfl | hx
    · exact hname
    · obtain ⟨n, -, rfl⟩ := List.mem_map.1 hx; exact itoa_sep.2
  · rw [e] at hx
    simp only [List.mem_cons, List.not_mem_nil, or_false] at hx
    rcases hx with rfl | rfl
    · rw [← ho]; exact hname
    · exact plain_no hp (by decide)
  · rw [e] at hx
    rcases List.mem_cons.1 hx with rfl | hx
    · exact hname
    · rcases List.mem_append.1 hx with hx | hx
      · obtain ⟨n, -, rfl⟩ := List.mem_map.1 hx; exact itoa_sep.2
      · rcases List.mem_cons.1 hx with rfl | hx
        · exact named_no hp (by decide)
        · obtain ⟨n, -, rfl⟩ := List.mem_map.1 hx; exact itoa_sep.2
theorem bare_name (c : Cmd) : ∃ r, bare c = nameOf c.2.1 ++ r := by
  unfold bare wordsOf
  cases (List.take (leastOf c.2.1) c.2.2.1).map Lib.itoa ++ c.2.2.2 ++ (List.drop (leastOf c.2.1) c.2.2.1).map Lib.itoa with
  | nil => exact ⟨[], by simp [joinC]⟩
  | cons v vs => exact ⟨32 :: joinC 32 (v :: vs), rfl⟩
theorem skip_bare {c : Cmd} (h : checkR c = 0) : skipR (bare c) = false := by
  obtain ⟨h0, h15, -⟩ := check_ok h
  obtain ⟨n1, n2⟩ := name_low h0 h15
  obtain ⟨r, hr⟩ := bare_name c
  rw [hr]
  cases hq : nameOf c.2.1 with
  | nil => exact absurd hq n1
  | cons b bs =>
    rw [hq] at n2
    have : lowB b = true := (List.all_eq_true.1 n2) b (by simp)
    exact beq_eq_false_iff_ne.2 (low_ne this (by decide))
theorem text_cons (c : Cmd) (l : List Cmd) : textOf (c :: l) = bare c ++ 10 :: textOf l := by simp [textOf, lineR]
theorem text_app (a b : List Cmd) : textOf (a ++ b) = textOf a ++ textOf b := by simp [textOf]
theorem text_snoc (l : List Cmd) (x : Cmd) : textOf (l ++ [x]) = textOf l ++ lineR x := by simp [textOf]
theorem pieces_text : ∀ l : List Cmd, (∀ c ∈ l, checkR c = 0) → pieces 10 (textOf l) = l.map bare ++ [[]]
  | [], _ => rfl
  | c :: l, h => by
    rw [text_cons, pieces_hit _ (bare_10 (h c (by simp))), pieces_text l fun d hd => h d (by simp [hd])]; rfl
def renum : Nat → List Cmd → List Cmd
  | _, [] => []
  | n, c :: l => ((n : Int), c.2) :: renum (n + 1) l
theorem renum_len : ∀ (l : List Cmd) (n : Nat), (renum n l).length = l.length
  | [], _ => rfl
  | _ :: l, n => by rw [renum, List.length_cons, List.length_cons, renum_len l]
theorem renum_get : ∀ (l : List Cmd) (n i : Nat) (c : Cmd), (renum n l)[i]? = some c → ∃ d, l[i]? = some d ∧ c = (((n + i : Nat) : Int), d.2)
  | [], n, i, c, h => by simp [renum] at h
  | d :: l, n, 0, c, h => by
    rw [renum] at h
    simp only [List.getElem?_cons_zero, Option.some.injEq] at h
    exact ⟨d, rfl, h.symm⟩
  | d :: l, n, i + 1, c, h => by
    rw [renum, List.getElem?_cons_succ] at h
    obtain ⟨e, he, hc⟩ := renum_get l (n + 1) i c h
    exact ⟨e, by simpa using he, by rw [hc]; congr 1; omega⟩
theorem renum_two : ∀ (l : List Cmd) (n : Nat), (renum n l).map (·.2) = l.map (·.2)
  | [], _ => rfl
  | c :: l, n => by rw [renum, List.map_cons, List.map_cons, renum_two l]
theorem check_two {c d : Cmd} (h : c.2 = d.2) : checkR c = checkR d := by
  obtain ⟨n, x⟩ := c; obtain ⟨m, y⟩ := d
  obtain rfl : x = y := h
  rfl
theorem bare_two {c d : Cmd} (h : c.2 = d.2) : bare c = bare d := by
  obtain ⟨n, x⟩ := c; obtain ⟨m, y⟩ := d
  obtain rfl : x = y := h
  rfl
/-- A printed text is parsed. -/
theorem parse_text : ∀ (l acc : List Cmd) (n : Nat), (∀ c ∈ l, checkR c = 0) → (∀ c ∈ l, ∀ k ∈ c.2.2.1, in64 k = true) → acc.length ≤ 1000 →
    parseP n acc (l.map bare ++ [[]]) = if acc.length + l.length ≤ 1000 then (acc ++ renum n l, 0, 0) else ([], ((n + (1000 - acc.length) : Nat) : Int), 15)
  | [], acc, n, _, _, ha => by
    rw [if_pos (by simpa using ha)]
    simp [parseP, skipR, renum]
  | c :: l, acc, n, h, hn, ha => by
    have hc := h c (by simp)
    have hr := read_bare hc (hn c (by simp))
    rw [List.map_cons, List.cons_append, parseP, if_neg (by rw [skip_bare hc]; simp), hr, if_neg (by simp)]
    by_cases hf : acc.length = 1000
    · rw [if_pos hf, if_neg (by rw [List.length_cons]; omega), hf]; rfl
    · rw [if_neg hf]
      have := parse_text l (acc ++ [((n : Int), c.2)]) (n + 1) (fun q hq => h q (by simp [hq])) (fun q hq => hn q (by simp [hq])) (by simp; omega)
      rw [List.length_append] at this
      simp only [List.length_cons, List.length_nil, Nat.zero_add] at this
      show parseP (n + 1) (acc ++ [((n : Int), c.2)]) (l.map bare ++ [[]]) = _
      rw [this]
      by_cases hle : acc.length + 1 + l.length ≤ 1000
      · rw [if_pos hle, if_pos (by rw [List.length_cons]; omega), List.append_assoc]; rfl
      · rw [if_neg hle, if_neg (by rw [List.length_cons]; omega)]
        congr 3
        omega
/-- Parse of a printed text. -/
theorem parse_print {l : List Cmd} (h : ∀ c ∈ l, checkR c = 0) (hn : ∀ c ∈ l, ∀ k ∈ c.2.2.1, in64 k = true) (hl : l.length ≤ 1000) (hs : (textOf l).length ≤ 65536) : parseR (textOf l) = (renum 1 l, 0, 0) := by
  unfold parseR
  rw [if_neg (by omega), pieces_text l h]
  have := parse_text l [] 1 h hn (Nat.zero_le _)
  rw [if_pos (by simpa using hl)] at this
  simpa using this
theorem bad_all : ∀ {l : List Cmd}, (∀ c ∈ l, checkR c = 0) → badOf l = 0
  | [], _ => rfl
  | c :: l, h => by rw [badOf, if_neg (by rw [h c (by simp)]; simp)]; exact bad_all fun q hq => h q (by simp [hq])
theorem all_bad : ∀ {l : List Cmd}, badOf l = 0 → ∀ c ∈ l, checkR c = 0
  | [], _, c, hc => by cases hc
  | d :: l, h, c, hc => by
    rw [badOf] at h
    by_cases hd : checkR d = 0
    · rw [if_neg (by rw [hd]; simp)] at h
      rcases List.mem_cons.1 hc with rfl | hc
      · exact hd
      · exact all_bad h c hc
    · rw [if_pos hd] at h; exact absurd h hd
def lensOf (ls : List Bs) : Nat := (ls.map fun l => l.length + 1).sum
theorem parse_ok : ∀ (ls : List Bs) (n : Nat) (acc : List Cmd), acc.length ≤ 1000 → (parseP n acc ls).2.2 = 0 →
    ∃ ps, (parseP n acc ls).1 = acc ++ ps ∧ (parseP n acc ls).2.1 = 0 ∧ (textOf ps).length ≤ lensOf ls ∧ (∀ c ∈ ps, checkR c = 0) ∧ (∀ c ∈ ps, ∀ k ∈ c.2.2.1, in64 k = true) ∧ (acc ++ ps).length ≤ 1000 ∧ ∀ c ∈ ps, ∃ m : Nat, c.1 = (m : Int) ∧ n ≤ m ∧ m < n + ls.length
  | [], n, acc, ha, h => ⟨[], by simp [parseP], rfl, Nat.zero_le _, (by simp), (by simp), by simpa using ha, by simp⟩
  | l :: ls, n, acc, ha, h => by
    have hlens : lensOf (l :: ls) = l.length + 1 + lensOf ls := by simp [lensOf]
    rw [parseP] at h ⊢
    by_cases hsk : skipR l = true
    · rw [if_pos hsk] at h ⊢
      obtain ⟨ps, h1, h2, h3, h4, h5, h6, h7⟩ := parse_ok ls (n + 1) acc ha h
      refine ⟨ps, h1, h2, by omega, h4, h5, h6, fun c hc => ?_⟩
      obtain ⟨m, m1, m2, m3⟩ := h7 c hc
      exact ⟨m, m1, by omega, by rw [List.length_cons]; omega⟩
    rw [if_neg hsk] at h ⊢
    by_cases he : (readR l).2 ≠ 0
    · rw [if_pos he] at h; exact absurd h he
    rw [if_neg he] at h ⊢
    by_cases hf : acc.length = 1000
    · rw [if_pos hf] at h; cases h
    rw [if_neg hf] at h ⊢
    obtain ⟨ps, h1, h2, h3, h4, h5, h6, h7⟩ := parse_ok ls (n + 1) (acc ++ [((n : Int), (readR l).1.2)]) (by simp; omega) h
    have he0 : (readR l).2 = 0 := by simpa using he
    obtain ⟨b1, b2, b3, b4⟩ := read_line (s := l) (c := (readR l).1) (Prod.ext rfl he0)
    have b1' : bare ((n : Int), (readR l).1.2) = l := (bare_two rfl).trans b1
    have b2' : checkR ((n : Int), (readR l).1.2) = 0 := (check_two rfl).trans b2
    refine ⟨((n : Int), (readR l).1.2) :: ps, by rw [h1]; simp, h2, ?_, ?_, ?_, by simpa using h6, ?_⟩
    · rw [text_cons, List.length_append, List.length_cons, b1']; omega
    · intro c hc
      rcases List.mem_cons.1 hc with rfl | hc
      · exact b2'
      · exact h4 c hc
    · intro c hc
      rcases List.mem_cons.1 hc with rfl | hc
      · exact b3
      · exact h5 c hc
    · intro c hc
      rcases List.mem_cons.1 hc with rfl | hc
      · exact ⟨n, rfl, Nat.le_refl _, by rw [List.length_cons]; omega⟩
      · obtain ⟨m, m1, m2, m3⟩ := h7 c hc
        exact ⟨m, m1, by omega, by rw [List.length_cons]; omega⟩
theorem parse_bad : ∀ (ls : List Bs) (n : Nat) (acc : List Cmd), (parseP n acc ls).2.2 ≠ 0 → (parseP n acc ls).1 = []
  | [], n, acc, h => by rw [parseP] at h; exact absurd rfl h
  | l :: ls, n, acc, h => by
    rw [parseP] at h ⊢
    by_cases hsk : skipR l = true
    · rw [if_pos hsk] at h ⊢; exact parse_bad ls (n + 1) acc h
    rw [if_neg hsk] at h ⊢
    by_cases he : (readR l).2 ≠ 0
    · rw [if_pos he]
    rw [if_neg he] at h ⊢
    by_cases hf : acc.length = 1000
    · rw [if_pos hf]
    rw [if_neg hf] at h ⊢
    exact parse_bad ls (n + 1) _ h
theorem parseR_bad {s : Bs} (h : (parseR s).2.2 ≠ 0) : (parseR s).1 = [] := by
  unfold parseR at h ⊢
  by_cases hl : s.length > 65536
  · rw [if_pos hl]
  · rw [if_neg hl] at h ⊢; exact parse_bad _ _ _ h
theorem lens_pieces : ∀ (k : Nat) (s : Bs), s.length ≤ k → lensOf (pieces 10 s) = s.length + 1
  | 0, [], _ => rfl
  | k + 1, s, hk => by
    rcases split_at 10 s with h | ⟨l, r, rfl, h⟩
    · rw [pieces_miss h]; simp [lensOf]
    · rw [pieces_hit _ h]
      rw [List.length_append, List.length_cons] at hk
      have := lens_pieces k r (by omega)
      have e : lensOf (l :: pieces 10 r) = l.length + 1 + lensOf (pieces 10 r) := by simp [lensOf]
      rw [e, this, List.length_append, List.length_cons]; omega
/-- What is parsed can be printed, and is parsed again. -/
theorem print_parse {s : Bs} (hs : s.length ≤ 65535) (h : (parseR s).2.2 = 0) :
    (parseR s).2.1 = 0 ∧ printR (parseR s).1 = (textOf (parseR s).1, 0) ∧ parseR (textOf (parseR s).1) = (renum 1 (parseR s).1, 0, 0) ∧ (parseR s).1.length ≤ 1000 ∧ (∀ c ∈ (parseR s).1, checkR c = 0) ∧ (∀ c ∈ (parseR s).1, ∀ k ∈ c.2.2.1, in64 k = true) ∧ (textOf (parseR s).1).length ≤ s.length + 1 := by
  have e : parseR s = parseP 1 [] (pieces 10 s) := by rw [parseR, if_neg (by omega)]
  rw [e] at h ⊢
  obtain ⟨ps, h1, h2, h3, h4, h5, h6, -⟩ := parse_ok (pieces 10 s) 1 [] (Nat.zero_le _) h
  rw [lens_pieces _ s (Nat.le_refl _)] at h3
  rw [List.nil_append] at h1 h6
  rw [h1]
  refine ⟨h2, ?_, parse_print h4 h5 h6 (by omega), h6, h4, h5, h3⟩
  rw [printR, if_neg (by omega), if_neg (by rw [bad_all h4]; simp), if_neg (by omega)]
/-- How long a command's line is. -/
theorem itoa_20 {n : Int} (h : in64 n = true) : (Lib.itoa n).length ≤ 20 := by
  unfold in64 at h; simp at h
  exact itoa_len h.1 h.2
theorem joinC_bound (c : UInt8) (B : Nat) : ∀ ws : List Bs, (∀ w ∈ ws, w.length ≤ B) → (joinC c ws).length ≤ (B + 1) * ws.length
  | [], _ => by simp [joinC]
  | [w], h => by
    have := h w (by simp)
    simp only [joinC, List.length_singleton]; omega
  | w :: v :: ws, h => by
    have h1 := h w (by simp)
    have h2 := joinC_bound c B (v :: ws) fun u hu => h u (by simp [hu])
    rw [joinC, List.length_append, List.length_cons, List.length_cons (a := w)]
    rw [Nat.mul_add]; omega
theorem line_len {c : Cmd} (h : checkR c = 0) (hn : ∀ k ∈ c.2.2.1, in64 k = true) : (lineR c).length ≤ 800 := by
  obtain ⟨h0, h15, h1, h2, -⟩ := check_ok h
  have hll := least_le c.2.1
  have hm : moreOf c.2.1 ≤ 4 := by unfold moreOf; split <;> omega
  have hnm := name_len h0 h15
  unfold lineR bare
  rw [List.length_append, List.length_singleton]
  rcases words_cases h with ⟨-, -, e⟩ | ⟨-, ho, -, w, -, hp, e⟩ | ⟨-, w, -, hp, e⟩
  · rw [e]
    have := joinC_bound 32 20 (nameOf c.2.1 :: c.2.2.1.map Lib.itoa) (fun x hx => by
      rcases List.mem_cons.1 hx with rfl | hx
      · omega
      · obtain ⟨n, hn', rfl⟩ := List.mem_map.1 hx; exact itoa_20 (hn n hn'))
    rw [List.length_cons, List.length_map] at this
    omega
  · rw [e]
    show (nameOf 1 ++ 32 :: w).length + 1 ≤ 800
    unfold plainW at hp; simp at hp
    rw [ho] at hnm
    rw [List.length_append, List.length_cons]; omega
  · rw [e]
    unfold namedW at hp; simp at hp
    have := joinC_bound 32 24 (nameOf c.2.1 :: ((c.2.2.1.take (leastOf c.2.1)).map Lib.itoa ++ w :: (c.2.2.1.drop (leastOf c.2.1)).map Lib.itoa)) (fun x hx => by
      rcases List.mem_cons.1 hx with rfl | hx
      · omega
      · rcases List.mem_append.1 hx with hx | hx
        · obtain ⟨n, hn', rfl⟩ := List.mem_map.1 hx; have := itoa_20 (hn n (List.mem_of_mem_take hn')); omega
        · rcases List.mem_cons.1 hx with rfl | hx
          · omega
          · obtain ⟨n, hn', rfl⟩ := List.mem_map.1 hx; have := itoa_20 (hn n (List.mem_of_mem_drop hn')); omega)
    rw [List.length_cons, List.length_append, List.length_cons, List.length_map, List.length_map, List.length_take, List.length_drop] at this
    omega
theorem text_len : ∀ l : List Cmd, (∀ c ∈ l, checkR c = 0) → (∀ c ∈ l, ∀ k ∈ c.2.2.1, in64 k = true) → (textOf l).length ≤ 800 * l.length
  | [], _, _ => by simp [textOf]
  | c :: l, h, hn => by
    have h1 := line_len (h c (by simp)) (hn c (by simp))
    have h2 := text_len l (fun q hq => h q (by simp [hq])) fun q hq => hn q (by simp [hq])
    have : textOf (c :: l) = lineR c ++ textOf l := by simp [textOf]
    rw [this, List.length_append, List.length_cons]; omega

/-! Lines that are woven in. -/
def cnt (sk : List Nat) (j : Nat) : Nat := sk.getD j 0 % 3
def ins (sk : List Nat) (more : Bs) (j : Nat) : List Bs := if cnt sk j = 0 then [] else if cnt sk j = 1 then [[]] else [[], more]
def woven (sk : List Nat) (more : Bs) : Nat → List Bs → List Bs
  | _, [] => []
  | j, [l] => if l = [] then [[]] else ins sk more j ++ [l]
  | j, l :: m :: ls => ins sk more j ++ l :: woven sk more (j + 1) (m :: ls)
def before (sk : List Nat) : Nat → Nat
  | 0 => 0
  | n + 1 => before sk n + 1 + cnt sk n
def bef (sk : List Nat) (n : Int) : Int := (before sk n.toNat : Int)
def befC (sk : List Nat) (c : Cmd) : Cmd := (bef sk c.1, c.2)
theorem skip_nil : skipR [] = true := rfl
theorem parse_ins {sk : List Nat} {more : Bs} (hm : skipR more = true) (j n : Nat) (acc : List Cmd) (ls : List Bs) : parseP n acc (ins sk more j ++ ls) = parseP (n + cnt sk j) acc ls := by
  have h3 : cnt sk j < 3 := Nat.mod_lt _ (by decide)
  unfold ins
  by_cases h0 : cnt sk j = 0
  · rw [if_pos h0, h0]; rfl
  rw [if_neg h0]
  by_cases h1 : cnt sk j = 1
  · rw [if_pos h1, h1]
    show parseP n acc ([] :: ls) = _
    rw [parseP, if_pos skip_nil]
  rw [if_neg h1]
  have h2 : cnt sk j = 2 := by omega
  rw [h2]
  show parseP n acc ([] :: more :: ls) = _
  rw [parseP, if_pos skip_nil, parseP, if_pos hm]
theorem parse_cons (n : Nat) (acc : List Cmd) (l : Bs) (ls : List Bs) : parseP n acc (l :: ls) = if skipR l = true then parseP (n + 1) acc ls else
    if (readR l).2 ≠ 0 then ([], (n : Int), (readR l).2) else
    if acc.length = 1000 then ([], (n : Int), 15) else parseP (n + 1) (acc ++ [((n : Int), (readR l).1.2)]) ls := rfl
theorem parse_woven {sk : List Nat} {more : Bs} (hm : skipR more = true) : ∀ (L : List Bs) (j : Nat) (acc : List Cmd),
    parseP (before sk j + 1) (acc.map (befC sk)) (woven sk more j L) = ((parseP (j + 1) acc L).1.map (befC sk), bef sk (parseP (j + 1) acc L).2.1, (parseP (j + 1) acc L).2.2)
  | [], j, acc => rfl
  | [l], j, acc => by
    rw [woven]
    by_cases hl : l = []
    · rw [if_pos hl, hl]
      rw [parse_cons, if_pos skip_nil, parse_cons, if_pos skip_nil]; rfl
    rw [if_neg hl, parse_ins hm]
    have hn : before sk j + 1 + cnt sk j = before sk (j + 1) := rfl
    rw [hn, parse_cons, parse_cons]
    by_cases hsk : skipR l = true
    · rw [if_pos hsk, if_pos hsk]; rfl
    rw [if_neg hsk, if_neg hsk]
    by_cases he : (readR l).2 ≠ 0
    · rw [if_pos he, if_pos he]; rfl
    rw [if_neg he, if_neg he, List.length_map]
    by_cases hf : acc.length = 1000
    · rw [if_pos hf, if_pos hf]; rfl
    rw [if_neg hf, if_neg hf]
    show (_, _, _) = (List.map _ (_ ++ _), _, _)
    rw [List.map_append]; rfl
  | l :: m :: ls, j, acc => by
    rw [woven, parse_ins hm]
    have hn : before sk j + 1 + cnt sk j = before sk (j + 1) := rfl
    rw [hn, parse_cons, parse_cons]
    by_cases hsk : skipR l = true
    · rw [if_pos hsk, if_pos hsk]; exact parse_woven hm (m :: ls) (j + 1) acc
    rw [if_neg hsk, if_neg hsk]
    by_cases he : (readR l).2 ≠ 0
    · rw [if_pos he, if_pos he]; rfl
    rw [if_neg he, if_neg he, List.length_map]
    by_cases hf : acc.length = 1000
    · rw [if_pos hf, if_pos hf]; rfl
    rw [if_neg hf, if_neg hf]
    have := parse_woven (sk := sk) hm (m :: ls) (j + 1) (acc ++ [(((j + 1 : Nat) : Int), (readR l).1.2)])
    rw [List.map_append] at this
    exact this
end Go.Proofs.YtikpdgjdeikinaaGreatDoor.Sc
