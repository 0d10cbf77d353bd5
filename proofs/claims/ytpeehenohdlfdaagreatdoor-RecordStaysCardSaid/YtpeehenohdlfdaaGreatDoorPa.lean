/- law57: histories in plain words: events, what is open, the operations, the pending calls. -/
import Derived.Test.YtpeehenohdlfdaaGreatDoorPs
namespace Go.Proofs.YtpeehenohdlfdaaGreatDoor.Rc
set_option maxRecDepth 100000
abbrev Bs := List UInt8
/-- An event: kind, thread, number, name, arguments, error, value. -/
structure Ev where
  k : Int
  t : Int
  n : Int
  nm : Bs
  as : List Int
  er : Int
  va : Int
def crash : Ev := ⟨3, 0, 0, [], [], 0, 0⟩
/-- The index of a thread's open call, or -1. -/
def stepO (t : Int) (i : Nat) (e : Ev) (a : Int) : Int :=
  if e.k = 1 ∧ e.t = t then -1 else if e.k = 0 ∧ e.t = t then (i : Int) else if e.k = 3 then -1 else a
def openF (t : Int) : List Ev → Nat → Int → Int
  | [], _, a => a
  | e :: l, i, a => openF t l (i + 1) (stepO t i e a)
def openR (l : List Ev) (t : Int) : Int := openF t l 0 (-1)
theorem openF_snoc (t : Int) (e : Ev) : ∀ (l : List Ev) (i : Nat) (a : Int), openF t (l ++ [e]) i a = stepO t (i + l.length) e (openF t l i a)
  | [], i, a => rfl
  | x :: l, i, a => by
    show openF t (l ++ [e]) (i + 1) _ = stepO t (i + (x :: l).length) e (openF t l (i + 1) _)
    rw [openF_snoc t e l, List.length_cons]
    congr 1; omega
theorem openR_snoc (l : List Ev) (e : Ev) (t : Int) : openR (l ++ [e]) t = stepO t l.length e (openR l t) := by
  unfold openR; rw [openF_snoc, Nat.zero_add]
theorem openR_nil (t : Int) : openR [] t = -1 := rfl
/-- The number of a thread's last call. -/
def lastR (l : List Ev) (t : Int) : Int := l.foldl (fun n e => if e.k = 0 ∧ e.t = t then e.n else n) 0
theorem lastR_snoc (l : List Ev) (e : Ev) (t : Int) : lastR (l ++ [e]) t = if e.k = 0 ∧ e.t = t then e.n else lastR l t := by
  unfold lastR; rw [List.foldl_append]; rfl
def twiceR (l : List Ev) (t : Int) (i : Nat) : Bool := (l.drop i).any fun e => decide (e.k = 2 ∧ e.t = t)
/-- The open call as the program holds it: its number, and whether it has committed. -/
def stepM (t : Int) (e : Ev) (a : Option (Int × Bool)) : Option (Int × Bool) :=
  if e.k = 3 then none else if e.t = t then (if e.k = 0 then some (e.n, false) else if e.k = 1 then none else if e.k = 2 then a.map fun c => (c.1, true) else a) else a
def openM (l : List Ev) (t : Int) : Option (Int × Bool) := l.foldl (fun a e => stepM t e a) none
theorem openM_snoc (l : List Ev) (e : Ev) (t : Int) : openM (l ++ [e]) t = stepM t e (openM l t) := by
  unfold openM; rw [List.foldl_append]; rfl
theorem list_rev {P : List Ev → Prop} (h0 : P []) (h1 : ∀ l e, P l → P (l ++ [e])) : ∀ l, P l := fun l => by
  have : ∀ m : List Ev, P m.reverse := fun m => by
    induction m with
    | nil => exact h0
    | cons e m ih => rw [List.reverse_cons]; exact h1 _ _ ih
  have := this l.reverse
  rwa [List.reverse_reverse] at this
/-- The two say the same. -/
def Agree (l : List Ev) (t : Int) : Prop := match openM l t with
  | none => openR l t = -1
  | some c => ∃ (i : Nat) (e : Ev), openR l t = (i : Int) ∧ l[i]? = some e ∧ e.k = 0 ∧ e.t = t ∧ e.n = c.1 ∧ twiceR l t i = c.2 ∧ ∀ x ∈ l.drop i, x.k ≠ 3
theorem get_lt {l : List Ev} {i : Nat} {e : Ev} (h : l[i]? = some e) : i < l.length := (List.getElem?_eq_some_iff.1 h).1
theorem get_snoc {l : List Ev} {i : Nat} {e x : Ev} (h : l[i]? = some e) : (l ++ [x])[i]? = some e := by
  rw [List.getElem?_append_left (get_lt h)]; exact h
theorem drop_snoc {l : List Ev} {i : Nat} (h : i ≤ l.length) (x : Ev) : (l ++ [x]).drop i = l.drop i ++ [x] := List.drop_append_of_le_length h
theorem agree (t : Int) : ∀ l, Agree l t := list_rev rfl fun l e ih => by
  unfold Agree at ih ⊢
  rw [openM_snoc, openR_snoc]
  unfold stepM stepO
  by_cases h3 : e.k = 3
  · rw [if_pos h3, if_neg (by omega), if_neg (by omega), if_pos h3]
  rw [if_neg h3]
  by_cases ht : e.t = t
  · rw [if_pos ht]
    by_cases h0 : e.k = 0
    · rw [if_pos h0, if_neg (by omega), if_pos ⟨h0, ht⟩]
      refine ⟨l.length, e, rfl, by simp, h0, ht, rfl, ?_, fun x hx => ?_⟩
      · unfold twiceR; rw [List.drop_left]; simp [h0]
      · rw [List.drop_left] at hx; simp at hx; rw [hx]; exact h3
    rw [if_neg h0]
    by_cases h1 : e.k = 1
    · rw [if_pos h1, if_pos ⟨h1, ht⟩]
    rw [if_neg h1, if_neg (show ¬ (e.k = 1 ∧ e.t = t) from fun q => h1 q.1), if_neg (show ¬ (e.k = 0 ∧ e.t = t) from fun q => h0 q.1), if_neg h3]
    by_cases h2 : e.k = 2
    · rw [if_pos h2]
      cases hm : openM l t with
      | none => rw [hm] at ih; exact ih
      | some c =>
        rw [hm] at ih
        obtain ⟨i, x, a1, a2, a3, a4, a5, a6, a7⟩ := ih
        refine ⟨i, x, a1, get_snoc a2, a3, a4, a5, ?_, fun y hy => ?_⟩
        · unfold twiceR; rw [drop_snoc (Nat.le_of_lt (get_lt a2)), List.any_append]; simp [h2, ht]
        · rw [drop_snoc (Nat.le_of_lt (get_lt a2))] at hy
          rcases List.mem_append.1 hy with hy | hy
          · exact a7 y hy
          · simp at hy; rw [hy]; exact h3
    · rw [if_neg h2]
      cases hm : openM l t with
      | none => rw [hm] at ih; exact ih
      | some c =>
        rw [hm] at ih
        obtain ⟨i, x, a1, a2, a3, a4, a5, a6, a7⟩ := ih
        refine ⟨i, x, a1, get_snoc a2, a3, a4, a5, ?_, fun y hy => ?_⟩
        · unfold twiceR at a6 ⊢; rw [drop_snoc (Nat.le_of_lt (get_lt a2)), List.any_append, a6]; simp [h2]
        · rw [drop_snoc (Nat.le_of_lt (get_lt a2))] at hy
          rcases List.mem_append.1 hy with hy | hy
          · exact a7 y hy
          · simp at hy; rw [hy]; exact h3
  · rw [if_neg ht, if_neg (show ¬ (e.k = 1 ∧ e.t = t) from fun q => ht q.2), if_neg (show ¬ (e.k = 0 ∧ e.t = t) from fun q => ht q.2), if_neg h3]
    cases hm : openM l t with
    | none => rw [hm] at ih; exact ih
    | some c =>
      rw [hm] at ih
      obtain ⟨i, x, a1, a2, a3, a4, a5, a6, a7⟩ := ih
      refine ⟨i, x, a1, get_snoc a2, a3, a4, a5, ?_, fun y hy => ?_⟩
      · unfold twiceR at a6 ⊢; rw [drop_snoc (Nat.le_of_lt (get_lt a2)), List.any_append, a6]; simp [ht]
      · rw [drop_snoc (Nat.le_of_lt (get_lt a2))] at hy
        rcases List.mem_append.1 hy with hy | hy
        · exact a7 y hy
        · simp at hy; rw [hy]; exact h3
theorem open_none {l : List Ev} {t : Int} (h : openM l t = none) : openR l t = -1 := by have := agree t l; unfold Agree at this; rw [h] at this; exact this
theorem open_some {l : List Ev} {t : Int} {c : Int × Bool} (h : openM l t = some c) : ∃ (i : Nat) (e : Ev), openR l t = (i : Int) ∧ l[i]? = some e ∧ e.k = 0 ∧ e.t = t ∧ e.n = c.1 ∧ twiceR l t i = c.2 ∧ ∀ x ∈ l.drop i, x.k ≠ 3 := by
  have := agree t l; unfold Agree at this; rw [h] at this; exact this

def numAt (l : List Ev) (i : Int) : Int := match l[i.toNat]? with
  | some e => e.n
  | none => 0
/-- The operations: the events behind them, and the error. -/
def callR (l : List Ev) (t n : Int) (nm : Bs) (as : List Int) : List Ev × Int :=
  if t < 1 ∨ 8 < t then (l, 3) else if 0 ≤ openR l t then (l, 13) else if n ≤ lastR l t then (l, 12) else if Sc.namedW nm = false then (l, 16) else if 4 < as.length then (l, 15) else if 1024 ≤ l.length then (l, 9)
  else (l ++ [⟨0, t, n, nm, as, 0, 0⟩], 0)
def answerR (l : List Ev) (t er va : Int) : List Ev × Int :=
  if t < 1 ∨ 8 < t then (l, 3) else if openR l t < 0 then (l, 13) else if 1024 ≤ l.length then (l, 9) else (l ++ [⟨1, t, numAt l (openR l t), [], [], er, va⟩], 0)
def commitR (l : List Ev) (t : Int) : List Ev × Int :=
  if t < 1 ∨ 8 < t then (l, 3) else if openR l t < 0 then (l, 13) else if twiceR l t (openR l t).toNat = true then (l, 11) else if 1024 ≤ l.length then (l, 9) else (l ++ [⟨2, t, numAt l (openR l t), [], [], 0, 0⟩], 0)
def crashR (l : List Ev) : List Ev := if 1024 ≤ l.length then l else l ++ [crash]

/-- What may come behind some events. -/
def Valid (l : List Ev) (e : Ev) : Prop := l.length < 1024 ∧
  ((e.k = 0 ∧ (1 ≤ e.t ∧ e.t ≤ 8) ∧ openM l e.t = none ∧ lastR l e.t < e.n ∧ Sc.namedW e.nm = true ∧ e.as.length ≤ 4 ∧ e.er = 0 ∧ e.va = 0) ∨
   (e.k = 1 ∧ (1 ≤ e.t ∧ e.t ≤ 8) ∧ (∃ c, openM l e.t = some (e.n, c)) ∧ e.nm = [] ∧ e.as = []) ∨
   (e.k = 2 ∧ (1 ≤ e.t ∧ e.t ≤ 8) ∧ openM l e.t = some (e.n, false) ∧ e.nm = [] ∧ e.as = [] ∧ e.er = 0 ∧ e.va = 0) ∨ e = crash)
def Hist (l : List Ev) : Prop := ∀ i e, l[i]? = some e → Valid (l.take i) e
theorem hist_nil : Hist [] := fun i e h => by simp at h
theorem hist_snoc {l : List Ev} {e : Ev} (h : Hist l) (hv : Valid l e) : Hist (l ++ [e]) := fun i x hx => by
  rcases Nat.lt_or_ge i l.length with hi | hi
  · rw [List.getElem?_append_left hi] at hx
    rw [List.take_append_of_le_length (Nat.le_of_lt hi)]
    exact h i x hx
  · rw [List.getElem?_append_right hi] at hx
    have h0 : i - l.length = 0 := by have := (List.getElem?_eq_some_iff.1 hx).1; simp at this; omega
    rw [h0] at hx
    simp at hx
    subst hx
    have : i = l.length := by omega
    rw [this, List.take_left]; exact hv
theorem Hist.take {l : List Ev} (h : Hist l) (i : Nat) : Hist (l.take i) := fun j e he => by
  have hj := (List.getElem?_eq_some_iff.1 he).1
  rw [List.length_take] at hj
  rw [List.getElem?_take_of_lt (by omega)] at he
  have := h j e he
  rw [List.take_take, Nat.min_eq_left (by omega)]; exact this
theorem Hist.init {l : List Ev} {e : Ev} (h : Hist (l ++ [e])) : Hist l ∧ Valid l e := by
  refine ⟨?_, ?_⟩
  · have := h.take l.length; rwa [List.take_left] at this
  · have := h l.length e (by simp)
    rwa [List.take_left] at this
theorem num_open {l : List Ev} {t : Int} {c : Int × Bool} (h : openM l t = some c) : numAt l (openR l t) = c.1 := by
  obtain ⟨i, e, h1, h2, -, -, h5, -⟩ := open_some h
  unfold numAt; rw [h1, Int.toNat_natCast, h2]; exact h5
theorem open_iff {l : List Ev} {t : Int} : openR l t < 0 ↔ openM l t = none := by
  cases h : openM l t with
  | none => rw [open_none h]; simp
  | some c => obtain ⟨i, e, h1, -⟩ := open_some h; rw [h1]; simp
theorem twice_open {l : List Ev} {t : Int} {c : Int × Bool} (h : openM l t = some c) : twiceR l t (openR l t).toNat = c.2 := by
  obtain ⟨i, e, h1, -, -, -, -, h6, -⟩ := open_some h
  rw [h1, Int.toNat_natCast]; exact h6
theorem call_hist {l : List Ev} (h : Hist l) (t n : Int) (nm : Bs) (as : List Int) : Hist (callR l t n nm as).1 := by
  unfold callR
  split; · exact h
  split; · exact h
  split; · exact h
  split; · exact h
  split; · exact h
  split; · exact h
  rename_i a b c d e f
  refine hist_snoc h ⟨by omega, .inl ⟨rfl, by show 1 ≤ t ∧ t ≤ 8; omega, open_iff.1 (by show openR l t < 0; omega), by show lastR l t < n; omega, by show Sc.namedW nm = true; simpa using d, by show as.length ≤ 4; omega, rfl, rfl⟩⟩
theorem answer_hist {l : List Ev} (h : Hist l) (t er va : Int) : Hist (answerR l t er va).1 := by
  unfold answerR
  split; · exact h
  split; · exact h
  split; · exact h
  rename_i a b c
  cases hm : openM l t with
  | none => exact absurd (open_iff.2 hm) b
  | some x => exact hist_snoc h ⟨by omega, .inr (.inl ⟨rfl, by show 1 ≤ t ∧ t ≤ 8; omega, ⟨x.2, by show openM l t = some (numAt l (openR l t), x.2); rw [num_open hm]; exact hm⟩, rfl, rfl⟩)⟩
theorem commit_hist {l : List Ev} (h : Hist l) (t : Int) : Hist (commitR l t).1 := by
  unfold commitR
  split; · exact h
  split; · exact h
  split; · exact h
  split; · exact h
  rename_i a b c d
  cases hm : openM l t with
  | none => exact absurd (open_iff.2 hm) b
  | some x =>
    rw [twice_open hm] at c
    exact hist_snoc h ⟨by omega, .inr (.inr (.inl ⟨rfl, by show 1 ≤ t ∧ t ≤ 8; omega, by show openM l t = some (numAt l (openR l t), false); rw [num_open hm, hm]; exact congrArg some (Prod.ext rfl (by simpa using c)), rfl, rfl, rfl, rfl⟩))⟩
theorem crash_hist {l : List Ev} (h : Hist l) : Hist (crashR l) := by
  unfold crashR
  split
  · exact h
  · exact hist_snoc h ⟨by omega, .inr (.inr (.inr rfl))⟩
theorem hist_len {l : List Ev} (h : Hist l) : l.length ≤ 1024 := by
  rcases Nat.eq_zero_or_pos l.length with h0 | h0
  · omega
  · have := (h (l.length - 1) _ (List.getElem?_eq_getElem (by omega))).1
    rw [List.length_take] at this; omega
end Go.Proofs.YtpeehenohdlfdaaGreatDoor.Rc
