/- law57: the lines of a history; reading is the inverse of printing. -/
import Derived.Test.YtpeehenohdlfdaaGreatDoorPa
namespace Go.Proofs.YtpeehenohdlfdaaGreatDoor.Rc
open Go.Txt
set_option maxRecDepth 100000
def wCall : Bs := [99, 97, 108, 108]
def wAns : Bs := [97, 110, 115, 119, 101, 114]
def wCom : Bs := [99, 111, 109, 109, 105, 116]
def wCra : Bs := [99, 114, 97, 115, 104]
def wordsOf (e : Ev) : List Bs := if e.k = 0 then wCall :: Lib.itoa e.t :: Lib.itoa e.n :: e.nm :: e.as.map Lib.itoa else if e.k = 1 then [wAns, Lib.itoa e.t, Lib.itoa e.n, Lib.itoa e.er, Lib.itoa e.va] else if e.k = 2 then [wCom, Lib.itoa e.t, Lib.itoa e.n] else [wCra]
def bare (e : Ev) : Bs := joinC 32 (wordsOf e)
def lineR (e : Ev) : Bs := bare e ++ [10]
def textR (l : List Ev) : Bs := l.flatMap lineR
theorem text_snoc (l : List Ev) (e : Ev) : textR (l ++ [e]) = textR l ++ lineR e := by simp [textR]
def ansR (l : List Ev) (t n er va : Int) : List Ev × Int := if (answerR l t er va).2 = 0 ∧ numAt l (openR l t) ≠ n then (l, 14) else answerR l t er va
def comR (l : List Ev) (t n : Int) : List Ev × Int := if (commitR l t).2 = 0 ∧ numAt l (openR l t) ≠ n then (l, 14) else commitR l t
def readC (l : List Ev) : List Bs → List Ev × Int
  | a :: b :: nm :: as => if (Sc.okW a && Sc.okW b && as.all Sc.okW) = true then callR l (valOf a) (valOf b) nm (as.map valOf) else (l, 5)
  | _ => (l, 5)
def readA (l : List Ev) : List Bs → List Ev × Int
  | [a, b, c, d] => if (Sc.okW a && Sc.okW b && Sc.okW c && Sc.okW d) = true then (if valOf c < 0 ∨ 255 < valOf c then (l, 5) else ansR l (valOf a) (valOf b) (valOf c) (valOf d)) else (l, 5)
  | _ => (l, 5)
def readM (l : List Ev) : List Bs → List Ev × Int
  | [a, b] => if (Sc.okW a && Sc.okW b) = true then comR l (valOf a) (valOf b) else (l, 5)
  | _ => (l, 5)
def readW (l : List Ev) : List Bs → List Ev × Int
  | w0 :: ws => if w0 = wCall then readC l ws else if w0 = wAns then readA l ws else if w0 = wCom then readM l ws else (l, 5)
  | [] => (l, 5)
/-- A line: the events behind it, and the error. -/
def readR (l : List Ev) (s : Bs) : List Ev × Int := if s = wCra then (if 1024 ≤ l.length then (l, 9) else (l ++ [crash], 0)) else readW l (pieces 32 s)
def parseP (n : Nat) (acc : List Ev) : List Bs → List Ev × Int × Int
  | [] => (acc, 0, 0)
  | s :: ls => if ls = [] then (if s = [] then (acc, 0, 0) else ([], (n : Int), 5)) else if (readR acc s).2 ≠ 0 then ([], (n : Int), (readR acc s).2) else parseP (n + 1) (readR acc s).1 ls
def parseR (s : Bs) : List Ev × Int × Int := if 65536 < s.length then ([], 0, 7) else parseP 1 [] (pieces 10 s)

/-- The operations fail and leave all, or add one event. -/
theorem call_cases (l : List Ev) (t n : Int) (nm : Bs) (as : List Int) : ((callR l t n nm as).1 = l ∧ (callR l t n nm as).2 ≠ 0) ∨ callR l t n nm as = (l ++ [⟨0, t, n, nm, as, 0, 0⟩], 0) := by
  unfold callR
  split; · exact .inl ⟨rfl, by simp⟩
  split; · exact .inl ⟨rfl, by simp⟩
  split; · exact .inl ⟨rfl, by simp⟩
  split; · exact .inl ⟨rfl, by simp⟩
  split; · exact .inl ⟨rfl, by simp⟩
  split; · exact .inl ⟨rfl, by simp⟩
  exact .inr rfl
theorem answer_cases (l : List Ev) (t er va : Int) : ((answerR l t er va).1 = l ∧ (answerR l t er va).2 ≠ 0) ∨ answerR l t er va = (l ++ [⟨1, t, numAt l (openR l t), [], [], er, va⟩], 0) := by
  unfold answerR
  split; · exact .inl ⟨rfl, by simp⟩
  split; · exact .inl ⟨rfl, by simp⟩
  split; · exact .inl ⟨rfl, by simp⟩
  exact .inr rfl
theorem commit_cases (l : List Ev) (t : Int) : ((commitR l t).1 = l ∧ (commitR l t).2 ≠ 0) ∨ commitR l t = (l ++ [⟨2, t, numAt l (openR l t), [], [], 0, 0⟩], 0) := by
  unfold commitR
  split; · exact .inl ⟨rfl, by simp⟩
  split; · exact .inl ⟨rfl, by simp⟩
  split; · exact .inl ⟨rfl, by simp⟩
  split; · exact .inl ⟨rfl, by simp⟩
  exact .inr rfl
theorem ok_itoa {w : Bs} (h : Sc.okW w = true) : Lib.itoa (valOf w) = w := by
  unfold Sc.okW at h; rw [Bool.and_eq_true] at h; exact itoa_val h.1
theorem ok_in {w : Bs} (h : Sc.okW w = true) : Sc.in64 (valOf w) = true := by
  unfold Sc.okW at h; rw [Bool.and_eq_true] at h; exact h.2
theorem map_itoa : ∀ {ws : List Bs}, ws.all Sc.okW = true → (ws.map valOf).map Lib.itoa = ws
  | [], _ => rfl
  | w :: ws, h => by
    rw [List.all_cons, Bool.and_eq_true] at h
    rw [List.map_cons, List.map_cons, ok_itoa h.1, map_itoa h.2]
/-- Numbers of 64 bits, and small errors: what a text can hold. -/
def small (e : Ev) : Prop := Sc.in64 e.t = true ∧ Sc.in64 e.n = true ∧ (∀ a ∈ e.as, Sc.in64 a = true) ∧ (0 ≤ e.er ∧ e.er ≤ 255) ∧ Sc.in64 e.va = true
/-- A line that is read. -/
theorem read_ok {l : List Ev} {s : Bs} (h : (readR l s).2 = 0) : ∃ e, readR l s = (l ++ [e], 0) ∧ bare e = s ∧ small e := by
  unfold readR at h ⊢
  by_cases hc : s = wCra
  · rw [if_pos hc] at h ⊢
    by_cases hl : 1024 ≤ l.length
    · rw [if_pos hl] at h; cases h
    · rw [if_neg hl]; exact ⟨crash, rfl, hc.symm, rfl, rfl, (fun a ha => by cases ha), ⟨by decide, by decide⟩, rfl⟩
  rw [if_neg hc] at h ⊢
  have hj := join_pieces 32 s
  revert h hj
  generalize pieces 32 s = ws
  intro h hj
  unfold readW at h ⊢
  cases ws with
  | nil => cases h
  | cons w0 ws =>
    dsimp only at h ⊢
    by_cases h1 : w0 = wCall
    · rw [if_pos h1] at h ⊢
      unfold readC at h ⊢
      split at h
      · rename_i a b nm as
        by_cases hk : (Sc.okW a && Sc.okW b && as.all Sc.okW) = true
        · rw [if_pos hk] at h ⊢
          rw [Bool.and_eq_true, Bool.and_eq_true] at hk
          rcases call_cases l (valOf a) (valOf b) nm (as.map valOf) with q | q
          · exact absurd h q.2
          · refine ⟨_, q, ?_, ok_in hk.1.1, ok_in hk.1.2, fun x hx => ?_, (by show (0 : Int) ≤ 0 ∧ (0 : Int) ≤ 255; omega), rfl⟩
            · rw [← hj, h1]
              show joinC 32 (wCall :: Lib.itoa (valOf a) :: Lib.itoa (valOf b) :: nm :: (as.map valOf).map Lib.itoa) = _
              rw [ok_itoa hk.1.1, ok_itoa hk.1.2, map_itoa hk.2]
            · obtain ⟨w, hw, rfl⟩ := List.mem_map.1 hx
              exact ok_in (List.all_eq_true.1 hk.2 w hw)
        · rw [if_neg hk] at h; cases h
      · cases h
    rw [if_neg h1] at h ⊢
    by_cases h2 : w0 = wAns
    · rw [if_pos h2] at h ⊢
      unfold readA at h ⊢
      split at h
      · rename_i a b c d
        by_cases hk : (Sc.okW a && Sc.okW b && Sc.okW c && Sc.okW d) = true
        · rw [if_pos hk] at h ⊢
          rw [Bool.and_eq_true, Bool.and_eq_true, Bool.and_eq_true] at hk
          by_cases hr : valOf c < 0 ∨ 255 < valOf c
          · rw [if_pos hr] at h; cases h
          rw [if_neg hr] at h ⊢
          unfold ansR at h ⊢
          by_cases hn : (answerR l (valOf a) (valOf c) (valOf d)).2 = 0 ∧ numAt l (openR l (valOf a)) ≠ valOf b
          · rw [if_pos hn] at h; cases h
          rw [if_neg hn] at h ⊢
          have hnum : numAt l (openR l (valOf a)) = valOf b := by
            by_cases q : numAt l (openR l (valOf a)) = valOf b
            · exact q
            · exact absurd ⟨h, q⟩ hn
          rcases answer_cases l (valOf a) (valOf c) (valOf d) with q | q
          · exact absurd h q.2
          · refine ⟨_, q, ?_, ok_in hk.1.1.1, ?_, (fun a ha => by cases ha), (by show 0 ≤ valOf c ∧ valOf c ≤ 255; omega), ok_in hk.2⟩
            · rw [← hj, h2]
              show joinC 32 [wAns, Lib.itoa (valOf a), Lib.itoa (numAt l (openR l (valOf a))), Lib.itoa (valOf c), Lib.itoa (valOf d)] = _
              rw [hnum, ok_itoa hk.1.1.1, ok_itoa hk.1.1.2, ok_itoa hk.1.2, ok_itoa hk.2]
            · show Sc.in64 (numAt l (openR l (valOf a))) = true
              rw [hnum]; exact ok_in hk.1.1.2
        · rw [if_neg hk] at h; cases h
      · cases h
    rw [if_neg h2] at h ⊢
    by_cases h3 : w0 = wCom
    · rw [if_pos h3] at h ⊢
      unfold readM at h ⊢
      split at h
      · rename_i a b
        by_cases hk : (Sc.okW a && Sc.okW b) = true
        · rw [if_pos hk] at h ⊢
          rw [Bool.and_eq_true] at hk
          unfold comR at h ⊢
          by_cases hn : (commitR l (valOf a)).2 = 0 ∧ numAt l (openR l (valOf a)) ≠ valOf b
          · rw [if_pos hn] at h; cases h
          rw [if_neg hn] at h ⊢
          have hnum : numAt l (openR l (valOf a)) = valOf b := by
            by_cases q : numAt l (openR l (valOf a)) = valOf b
            · exact q
            · exact absurd ⟨h, q⟩ hn
          rcases commit_cases l (valOf a) with q | q
          · exact absurd h q.2
          · refine ⟨_, q, ?_, ok_in hk.1, ?_, (fun a ha => by cases ha), (by show (0 : Int) ≤ 0 ∧ (0 : Int) ≤ 255; omega), rfl⟩
            · rw [← hj, h3]
              show joinC 32 [wCom, Lib.itoa (valOf a), Lib.itoa (numAt l (openR l (valOf a)))] = _
              rw [hnum, ok_itoa hk.1, ok_itoa hk.2]
            · show Sc.in64 (numAt l (openR l (valOf a))) = true
              rw [hnum]; exact ok_in hk.2
        · rw [if_neg hk] at h; cases h
      · cases h
    rw [if_neg h3] at h; cases h
theorem call_hist' {l : List Ev} (h : Hist l) (s : Bs) : Hist (readR l s).1 := by
  unfold readR
  split
  · split
    · exact h
    · exact hist_snoc h ⟨by omega, .inr (.inr (.inr rfl))⟩
  unfold readW
  split
  · split
    · unfold readC
      split
      · split
        · exact call_hist h _ _ _ _
        · exact h
      · exact h
    split
    · unfold readA
      split
      · split
        · split
          · exact h
          · unfold ansR
            split
            · exact h
            · exact answer_hist h _ _ _
        · exact h
      · exact h
    split
    · unfold readM
      split
      · split
        · unfold comR
          split
          · exact h
          · exact commit_hist h _
        · exact h
      · exact h
    · exact h
  · exact h

theorem join_cons {c : UInt8} {w : Bs} {ws : List Bs} (h : ws ≠ []) : joinC c (w :: ws) = w ++ c :: joinC c ws := by
  cases ws with
  | nil => exact absurd rfl h
  | cons v vs => rfl
theorem join_no {c : UInt8} (hc : c ≠ 32) : ∀ {ws : List Bs}, (∀ w ∈ ws, c ∉ w) → c ∉ joinC 32 ws
  | [], _ => by simp [joinC]
  | [w], h => by rw [joinC]; exact h w (by simp)
  | w :: v :: ws, h => by
    rw [joinC, List.mem_append, List.mem_cons]
    rintro (q | q | q)
    · exact h w (by simp) q
    · exact hc q
    · exact join_no hc (fun u hu => h u (List.mem_cons_of_mem _ hu)) q
theorem text_cons (e : Ev) (l : List Ev) : textR (e :: l) = bare e ++ 10 :: textR l := by simp [textR, lineR]
theorem parse_ok : ∀ (ws : List Bs) (n : Nat) (acc : List Ev), Hist acc → ws ≠ [] → (parseP n acc ws).2.2 = 0 → ∃ rest, (parseP n acc ws).1 = acc ++ rest ∧ joinC 10 ws = textR rest ∧ Hist (acc ++ rest) ∧ (∀ e ∈ rest, small e) ∧ (parseP n acc ws).2.1 = 0
  | [], _, _, _, h, _ => absurd rfl h
  | s :: ls, n, acc, hh, _, h => by
    unfold parseP at h ⊢
    by_cases hl : ls = []
    · rw [if_pos hl] at h ⊢
      by_cases hs : s = []
      · rw [if_pos hs, hl, hs]
        exact ⟨[], (List.append_nil _).symm, rfl, by rw [List.append_nil]; exact hh, (fun e he => by cases he), rfl⟩
      · rw [if_neg hs] at h; cases h
    rw [if_neg hl] at h ⊢
    by_cases hr : (readR acc s).2 ≠ 0
    · rw [if_pos hr] at h; exact absurd h hr
    rw [if_neg hr] at h ⊢
    obtain ⟨e, he, hb, hsm⟩ := read_ok (l := acc) (s := s) (by simpa using hr)
    have hh2 := call_hist' hh s
    rw [he] at h hh2 ⊢
    obtain ⟨rest, h1, h2, h3, h4, h5⟩ := parse_ok ls (n + 1) (acc ++ [e]) hh2 hl h
    refine ⟨e :: rest, ?_, ?_, ?_, ?_, h5⟩
    · rw [h1]; simp
    · rw [join_cons hl, h2, text_cons, hb]
    · rw [show acc ++ e :: rest = acc ++ [e] ++ rest by simp]; exact h3
    · intro x hx
      rcases List.mem_cons.1 hx with rfl | hx
      · exact hsm
      · exact h4 x hx
theorem parse_bad : ∀ (ws : List Bs) (n : Nat) (acc : List Ev), (parseP n acc ws).2.2 ≠ 0 → (parseP n acc ws).1 = []
  | [], _, _, h => absurd rfl h
  | s :: ls, n, acc, h => by
    unfold parseP at h ⊢
    by_cases hl : ls = []
    · rw [if_pos hl] at h ⊢
      by_cases hs : s = []
      · rw [if_pos hs] at h; exact absurd rfl h
      · rw [if_neg hs]
    rw [if_neg hl] at h ⊢
    by_cases hr : (readR acc s).2 ≠ 0
    · rw [if_pos hr]
    rw [if_neg hr] at h ⊢
    exact parse_bad ls _ _ h
theorem parseR_ok {s : Bs} (h : (parseR s).2.2 = 0) : textR (parseR s).1 = s ∧ Hist (parseR s).1 ∧ (∀ e ∈ (parseR s).1, small e) ∧ (parseR s).2.1 = 0 := by
  unfold parseR at h ⊢
  by_cases hl : 65536 < s.length
  · rw [if_pos hl] at h; cases h
  rw [if_neg hl] at h ⊢
  obtain ⟨rest, h1, h2, h3, h4, h5⟩ := parse_ok (pieces 10 s) 1 [] hist_nil (pieces_ne 10 s) h
  rw [List.nil_append] at h1 h3
  rw [h1, ← h2, join_pieces]
  exact ⟨rfl, h3, h4, h5⟩
theorem parseR_bad {s : Bs} (h : (parseR s).2.2 ≠ 0) : (parseR s).1 = [] := by
  unfold parseR at h ⊢
  by_cases hl : 65536 < s.length
  · rw [if_pos hl]
  rw [if_neg hl] at h ⊢
  exact parse_bad _ _ _ h
/-- The words of a valid event hold neither spaces nor ends of lines. -/
theorem words_sep {l : List Ev} {e : Ev} (hv : Valid l e) : ∀ w ∈ wordsOf e, (32 : UInt8) ∉ w ∧ (10 : UInt8) ∉ w := by
  have hi : ∀ n : Int, (32 : UInt8) ∉ Lib.itoa n ∧ (10 : UInt8) ∉ Lib.itoa n := fun n => itoa_sep
  have c1 : (32 : UInt8) ∉ wCall ∧ (10 : UInt8) ∉ wCall := by decide
  have c2 : (32 : UInt8) ∉ wAns ∧ (10 : UInt8) ∉ wAns := by decide
  have c3 : (32 : UInt8) ∉ wCom ∧ (10 : UInt8) ∉ wCom := by decide
  have c4 : (32 : UInt8) ∉ wCra ∧ (10 : UInt8) ∉ wCra := by decide
  intro w hw
  unfold wordsOf at hw
  by_cases h0 : e.k = 0
  · rw [if_pos h0] at hw
    have hn : Sc.namedW e.nm = true := by
      rcases hv.2 with ⟨-, -, -, -, h, -⟩ | ⟨h, -⟩ | ⟨h, -⟩ | h
      · exact h
      · omega
      · omega
      · rw [h] at h0; cases h0
    have hs := Sc.named_sep hn
    rcases List.mem_cons.1 hw with rfl | hw
    · exact c1
    rcases List.mem_cons.1 hw with rfl | hw
    · exact hi _
    rcases List.mem_cons.1 hw with rfl | hw
    · exact hi _
    rcases List.mem_cons.1 hw with rfl | hw
    · exact ⟨hs.1, hs.2.1⟩
    · obtain ⟨a, -, rfl⟩ := List.mem_map.1 hw; exact hi _
  rw [if_neg h0] at hw
  by_cases h1 : e.k = 1
  · rw [if_pos h1] at hw
    simp only [List.mem_cons, List.not_mem_nil, or_false] at hw
    rcases hw with rfl | rfl | rfl | rfl | rfl
    · exact c2
    all_goals exact hi _
  rw [if_neg h1] at hw
  by_cases h2 : e.k = 2
  · rw [if_pos h2] at hw
    simp only [List.mem_cons, List.not_mem_nil, or_false] at hw
    rcases hw with rfl | rfl | rfl
    · exact c3
    all_goals exact hi _
  rw [if_neg h2] at hw
  simp only [List.mem_cons, List.not_mem_nil, or_false] at hw
  rw [hw]; exact c4
theorem words_ne (e : Ev) : wordsOf e ≠ [] := by
  unfold wordsOf
  split
  · simp
  split
  · simp
  split <;> simp
theorem pieces_bare {l : List Ev} {e : Ev} (hv : Valid l e) : pieces 32 (bare e) = wordsOf e := pieces_join (words_ne e) fun w hw => (words_sep hv w hw).1
theorem bare_10 {l : List Ev} {e : Ev} (hv : Valid l e) : (10 : UInt8) ∉ bare e := join_no (by decide) fun w hw => (words_sep hv w hw).2
theorem bare_cra {l : List Ev} {e : Ev} (hv : Valid l e) (h : e.k ≠ 3) : bare e ≠ wCra := by
  intro q
  have h1 := pieces_bare hv
  rw [q, show pieces 32 wCra = [wCra] from rfl] at h1
  have hk : e.k = 0 ∨ e.k = 1 ∨ e.k = 2 := by
    rcases hv.2 with ⟨h, -⟩ | ⟨h, -⟩ | ⟨h, -⟩ | h'
    · exact .inl h
    · exact .inr (.inl h)
    · exact .inr (.inr h)
    · rw [h'] at h; exact absurd rfl h
  unfold wordsOf at h1
  rcases hk with hk | hk | hk <;> rw [hk] at h1 <;> simp at h1
/-- A line that was printed reads as its event. -/
theorem read_bare {l : List Ev} {e : Ev} (hv : Valid l e) (hs : small e) : readR l (bare e) = (l ++ [e], 0) := by
  have hp := pieces_bare hv
  obtain ⟨hl, hc⟩ := hv
  obtain ⟨k, t, n, nm, as, er, va⟩ := e
  obtain ⟨s1, s2, s3, s4, s5⟩ := hs
  have s1 : Sc.in64 t = true := s1
  have s2 : Sc.in64 n = true := s2
  have s3 : ∀ a ∈ as, Sc.in64 a = true := s3
  have s4 : 0 ≤ er ∧ er ≤ 255 := s4
  have s5 : Sc.in64 va = true := s5
  have e4 : Sc.in64 er = true := by unfold Sc.in64; simp; omega
  rcases hc with ⟨h0, ht, ho, hn, hnm, ha, he, hva⟩ | ⟨h0, ht, ⟨c, ho⟩, hnm, ha⟩ | ⟨h0, ht, ho, hnm, ha, he, hva⟩ | h0
  · have h0 : k = 0 := h0
    subst h0
    have he : er = 0 := he
    have hva : va = 0 := hva
    subst he hva
    have ht : 1 ≤ t ∧ t ≤ 8 := ht
    have ho : openM l t = none := ho
    have hn : lastR l t < n := hn
    have hnm : Sc.namedW nm = true := hnm
    have ha : as.length ≤ 4 := ha
    unfold readR
    rw [if_neg (bare_cra ⟨hl, .inl ⟨rfl, ht, ho, hn, hnm, ha, rfl, rfl⟩⟩ (by show (0 : Int) ≠ 3; decide)), hp]
    have hall : (as.map Lib.itoa).all Sc.okW = true := List.all_eq_true.2 fun w hw => by
      obtain ⟨a, ha, rfl⟩ := List.mem_map.1 hw
      exact Sc.okW_itoa (s3 a ha)
    show readC l (Lib.itoa t :: Lib.itoa n :: nm :: as.map Lib.itoa) = _
    unfold readC
    dsimp only
    rw [if_pos (by rw [Sc.okW_itoa s1, Sc.okW_itoa s2, hall]; rfl), val_itoa, val_itoa]
    have hm : (as.map Lib.itoa).map valOf = as := by
      rw [List.map_map]
      have : (valOf ∘ Lib.itoa) = id := funext fun x => val_itoa x
      rw [this, List.map_id]
    rw [hm]
    unfold callR
    have := open_iff.2 ho
    rw [if_neg (by omega), if_neg (by omega), if_neg (by omega), if_neg (by rw [hnm]; simp), if_neg (by omega), if_neg (by omega)]
  · have h0 : k = 1 := h0
    subst h0
    have hnm : nm = [] := hnm
    have ha : as = [] := ha
    subst hnm ha
    have ht : 1 ≤ t ∧ t ≤ 8 := ht
    have ho : openM l t = some (n, c) := ho
    unfold readR
    rw [if_neg (bare_cra ⟨hl, .inr (.inl ⟨rfl, ht, ⟨c, ho⟩, rfl, rfl⟩)⟩ (by show (1 : Int) ≠ 3; decide)), hp]
    show readA l [Lib.itoa t, Lib.itoa n, Lib.itoa er, Lib.itoa va] = _
    unfold readA
    have hnum := num_open ho
    have hop : ¬ openR l t < 0 := fun q => by rw [open_iff.1 q] at ho; cases ho
    have hans : answerR l t er va = (l ++ [⟨1, t, n, [], [], er, va⟩], 0) := by
      unfold answerR
      rw [if_neg (by omega), if_neg hop, if_neg (by omega), hnum]
    dsimp only
    rw [if_pos (by rw [Sc.okW_itoa s1, Sc.okW_itoa s2, Sc.okW_itoa e4, Sc.okW_itoa s5]; rfl), val_itoa, val_itoa, val_itoa, val_itoa, if_neg (by omega)]
    unfold ansR
    rw [if_neg (fun q => q.2 hnum), hans]
  · have h0 : k = 2 := h0
    subst h0
    have hnm : nm = [] := hnm
    have ha : as = [] := ha
    have he : er = 0 := he
    have hva : va = 0 := hva
    subst hnm ha he hva
    have ht : 1 ≤ t ∧ t ≤ 8 := ht
    have ho : openM l t = some (n, false) := ho
    unfold readR
    rw [if_neg (bare_cra ⟨hl, .inr (.inr (.inl ⟨rfl, ht, ho, rfl, rfl, rfl, rfl⟩))⟩ (by show (2 : Int) ≠ 3; decide)), hp]
    show readM l [Lib.itoa t, Lib.itoa n] = _
    unfold readM
    have hnum := num_open ho
    have hop : ¬ openR l t < 0 := fun q => by rw [open_iff.1 q] at ho; cases ho
    have htw := twice_open ho
    have hcom : commitR l t = (l ++ [⟨2, t, n, [], [], 0, 0⟩], 0) := by
      unfold commitR
      rw [if_neg (by omega), if_neg hop, if_neg (by rw [htw]; simp), if_neg (by omega), hnum]
    dsimp only
    rw [if_pos (by rw [Sc.okW_itoa s1, Sc.okW_itoa s2]; rfl), val_itoa, val_itoa]
    unfold comR
    rw [if_neg (fun q => q.2 hnum), hcom]
  · rw [h0]
    unfold readR
    rw [if_pos (by rfl), if_neg (by omega)]
theorem back : ∀ (rest acc : List Ev) (n : Nat), Hist (acc ++ rest) → (∀ e ∈ rest, small e) → parseP n acc (rest.map bare ++ [[]]) = (acc ++ rest, 0, 0)
  | [], acc, n, _, _ => by
    show parseP n acc [[]] = _
    unfold parseP
    rw [if_pos rfl, if_pos rfl, List.append_nil]
  | e :: rest, acc, n, hh, hs => by
    have hv : Valid acc e := by
      have := hh acc.length e (by simp)
      rwa [List.take_left] at this
    have hr := read_bare hv (hs e (by simp))
    rw [List.map_cons, List.cons_append]
    unfold parseP
    rw [if_neg (by simp), hr, if_neg (by simp)]
    have := back rest (acc ++ [e]) (n + 1) (by rw [List.append_assoc]; exact hh) fun x hx => hs x (List.mem_cons_of_mem _ hx)
    rw [this, List.append_assoc]; rfl
theorem pieces_text : ∀ (acc l : List Ev), Hist (acc ++ l) → pieces 10 (textR l) = l.map bare ++ [[]]
  | _, [], _ => rfl
  | acc, e :: l, hh => by
    have hv : Valid acc e := by
      have := hh acc.length e (by simp)
      rwa [List.take_left] at this
    rw [text_cons, pieces_hit _ (bare_10 hv), pieces_text (acc ++ [e]) l (by rw [List.append_assoc]; exact hh)]; rfl
theorem parse_print {l : List Ev} (h : Hist l) (hs : ∀ e ∈ l, small e) (hl : (textR l).length ≤ 65536) : parseR (textR l) = (l, 0, 0) := by
  unfold parseR
  rw [if_neg (by omega), pieces_text [] l h]
  exact back l [] 1 h hs
/-- Lengths. -/
def wide (e : Ev) : Prop := Sc.in64 e.t = true ∧ Sc.in64 e.n = true ∧ (∀ a ∈ e.as, Sc.in64 a = true) ∧ Sc.in64 e.er = true ∧ Sc.in64 e.va = true
theorem itoa_20 {n : Int} (h : Sc.in64 n = true) : (Lib.itoa n).length ≤ 20 := by
  unfold Sc.in64 at h; simp at h; exact itoa_len h.1 h.2
theorem line_len {l : List Ev} {e : Ev} (hv : Valid l e) (hw : wide e) : (lineR e).length ≤ 160 := by
  obtain ⟨w1, w2, w3, w4, w5⟩ := hw
  have a1 := itoa_20 w1
  have a2 := itoa_20 w2
  have a4 := itoa_20 w4
  have a5 := itoa_20 w5
  have hj : (joinC 32 (wordsOf e)).length + 1 ≤ ((wordsOf e).map fun w : Bs => w.length + 1).sum + 1 := joinC_len 32 (wordsOf e)
  have hlen : (lineR e).length = (joinC 32 (wordsOf e)).length + 1 := by unfold lineR bare; rw [List.length_append]; rfl
  show List.length (lineR e) ≤ 160
  rw [hlen]
  have key : ((wordsOf e).map fun w : Bs => w.length + 1).sum ≤ 159 := by
    unfold wordsOf
    by_cases h0 : e.k = 0
    · rw [if_pos h0]
      have hn : Sc.namedW e.nm = true ∧ e.as.length ≤ 4 := by
        rcases hv.2 with ⟨-, -, -, -, h, h', -⟩ | ⟨h, -⟩ | ⟨h, -⟩ | h
        · exact ⟨h, h'⟩
        · omega
        · omega
        · rw [h] at h0; cases h0
      have hs := (Sc.named_sep hn.1).2.2.1
      have has : ∀ as : List Int, (∀ a ∈ as, Sc.in64 a = true) → ((as.map Lib.itoa).map fun w : Bs => w.length + 1).sum ≤ 21 * as.length := by
        intro as
        induction as with
        | nil => intro _; simp
        | cons a as ih =>
          intro h
          have h1 := ih fun x hx => h x (List.mem_cons_of_mem _ hx)
          have h2 := itoa_20 (h a (by simp))
          rw [List.map_cons, List.map_cons, List.sum_cons, List.length_cons]; omega
      have := has e.as w3
      simp only [List.map_cons, List.sum_cons]
      have hc : wCall.length = 4 := rfl
      omega
    rw [if_neg h0]
    by_cases h1 : e.k = 1
    · rw [if_pos h1]
      simp only [List.map_cons, List.sum_cons, List.map_nil, List.sum_nil]
      have hc : wAns.length = 6 := rfl
      omega
    rw [if_neg h1]
    by_cases h2 : e.k = 2
    · rw [if_pos h2]
      simp only [List.map_cons, List.sum_cons, List.map_nil, List.sum_nil]
      have hc : wCom.length = 6 := rfl
      omega
    rw [if_neg h2]
    decide
  omega
theorem text_len {l : List Ev} (hh : Hist l) (hw : ∀ e ∈ l, wide e) : (textR l).length ≤ 160 * l.length := by
  have : ∀ m : List Ev, Hist m → (∀ e ∈ m, wide e) → (textR m).length ≤ 160 * m.length := list_rev (P := fun m => Hist m → (∀ e ∈ m, wide e) → (textR m).length ≤ 160 * m.length) (fun _ _ => by simp [textR]) fun m e ih hh hw => by
    obtain ⟨h1, h2⟩ := hh.init
    have := ih h1 fun x hx => hw x (by simp [hx])
    have := line_len h2 (hw e (by simp))
    rw [text_snoc, List.length_append, List.length_append, List.length_singleton]; omega
  exact this l hh hw
end Go.Proofs.YtpeehenohdlfdaaGreatDoor.Rc
