/- law58: plain laws: a history without overlap has its own order or none. -/
import Derived.Test.YtpfghndflegbaaaDoorPf
namespace Go.Proofs.YtpfghndflegbaaaDoor.Jd
set_option maxRecDepth 100000

variable {γ α : Type} [DecidableEq α]

/-- One call behind the other, each answered. -/
structure Seq (cs : List (Cl γ α)) : Prop where
  ans : ∀ x ∈ cs, x.ans.isSome = true ∧ x.place < x.over
  behind : ∀ (i j : Nat) (x y : Cl γ α), cs[i]? = some x → cs[j]? = some y → i < j → x.over < y.place
def tf (n j : Nat) : List Bool := List.replicate j true ++ List.replicate (n - j) false
theorem tf_lo {n j k : Nat} (h : k < j) : (tf n j)[k]? = some true := by
  unfold tf
  rw [List.getElem?_append_left (by simpa using h), List.getElem?_replicate, if_pos h]
theorem tf_hi {n j k : Nat} (h : j ≤ k) (hk : k < n) : (tf n j)[k]? = some false := by
  unfold tf
  rw [List.getElem?_append_right (by simpa using h), List.length_replicate, List.getElem?_replicate, if_pos (by omega)]
theorem tf_set {n j : Nat} (h : j < n) : (tf n j).set j true = tf n (j + 1) := by
  unfold tf
  obtain ⟨k, hk⟩ : ∃ k, n - j = k + 1 := ⟨n - j - 1, by omega⟩
  have hk2 : n - (j + 1) = k := by omega
  rw [hk, hk2, List.replicate_succ' (n := j), List.replicate_succ (n := k), List.set_append_right _ _ (by simp), List.length_replicate, Nat.sub_self, List.append_assoc]
  rfl
omit [DecidableEq α] in
theorem seq_may {cs : List (Cl γ α)} (h : Seq cs) {i j : Nat} (hi : i < cs.length) (hj : j < cs.length) : mayS cs (tf cs.length j) i = decide (i = j) := by
  obtain ⟨x, hx⟩ : ∃ x, cs[i]? = some x := ⟨_, List.getElem?_eq_getElem hi⟩
  rcases Nat.lt_trichotomy i j with hlt | rfl | hgt
  · have : decide (i = j) = false := decide_eq_false (by omega)
    rw [this]
    unfold mayS
    rw [hx, tf_lo hlt]
  · rw [decide_eq_true rfl]
    unfold mayS
    rw [hx, tf_hi (Nat.le_refl _) hi]
    simp only [List.all_eq_true]
    intro k hk
    have hkl := List.mem_range.1 hk
    obtain ⟨y, hy⟩ : ∃ y, cs[k]? = some y := ⟨_, List.getElem?_eq_getElem hkl⟩
    rw [hy]
    rcases Nat.lt_trichotomy k i with h1 | h1 | h1
    · rw [tf_lo h1]
      have a1 := h.behind k i y x hy hx h1
      have a2 := (h.ans y (List.mem_of_getElem? hy)).2
      have a3 := (h.ans x (List.mem_of_getElem? hx)).2
      simp; omega
    · subst h1
      rw [tf_hi (Nat.le_refl _) hkl]; simp
    · rw [tf_hi (Nat.le_of_lt h1) hkl]
      have a1 := h.behind i k x y hx hy h1
      have a2 := (h.ans y (List.mem_of_getElem? hy)).2
      have a3 := (h.ans x (List.mem_of_getElem? hx)).2
      simp; omega
  · have : decide (i = j) = false := decide_eq_false (by omega)
    rw [this]
    unfold mayS
    rw [hx, tf_hi (Nat.le_of_lt hgt) hi]
    simp only [List.all_eq_false]
    obtain ⟨y, hy⟩ : ∃ y, cs[j]? = some y := ⟨_, List.getElem?_eq_getElem hj⟩
    refine ⟨j, List.mem_range.2 hj, ?_⟩
    rw [hy, tf_hi (Nat.le_refl _) hj]
    have a1 := h.behind j i y x hy hx hgt
    have a2 := (h.ans y (List.mem_of_getElem? hy)).1
    simp [a2, a1]
    omega
/-- In their own order. -/
def seqS (step : Int → γ → Int × α) : Int → List (Cl γ α) → Option (List Nat)
  | _, [] => some []
  | st, x :: l => if fitS x (step st x.call).2 = true then (seqS step (step st x.call).1 l).map (x.place :: ·) else none
theorem only_one {β : Type} (f : Nat → Option β) (j : Nat) (hf : ∀ i, i ≠ j → f i = none) : ∀ n, j < n → (List.range n).findSome? f = f j := by
  intro n
  induction n with
  | zero => intro h; omega
  | succ n ih =>
    intro h
    rw [List.range_succ, List.findSome?_append]
    by_cases e : j < n
    · rw [ih e]
      have : (List.findSome? f [n]) = none := by
        rw [List.findSome?_cons, hf n (by omega)]; rfl
      rw [this]
      cases f j <;> rfl
    · have ej : j = n := by omega
      subst ej
      have : (List.range j).findSome? f = none := by
        rw [List.findSome?_eq_none_iff]
        intro i hi
        exact hf i (by have := List.mem_range.1 hi; omega)
      rw [this, List.findSome?_cons]
      cases f j <;> rfl
theorem seq_ans (step : Int → γ → Int × α) {cs : List (Cl γ α)} (h : Seq cs) : ∀ (k j : Nat) (st : Int), j + k = cs.length → ansS step cs st (tf cs.length j) = seqS step st (cs.drop j)
  | 0, j, st, hk => by
    have hj : j = cs.length := by omega
    subst hj
    have hw : wholeS cs (tf cs.length cs.length) = true := by
      unfold wholeS
      rw [List.all_eq_true]
      intro i hi
      rw [tf_lo (List.mem_range.1 hi)]
      cases cs[i]? <;> rfl
    rw [ans_step, if_pos hw, List.drop_length]; rfl
  | k + 1, j, st, hk => by
    have hj : j < cs.length := by omega
    obtain ⟨x, hx⟩ : ∃ x, cs[j]? = some x := ⟨_, List.getElem?_eq_getElem hj⟩
    have hw : wholeS cs (tf cs.length j) = false := by
      unfold wholeS
      rw [List.all_eq_false]
      refine ⟨j, List.mem_range.2 hj, ?_⟩
      rw [hx, tf_hi (Nat.le_refl _) hj]
      simp [(h.ans x (List.mem_of_getElem? hx)).1]
    have hd : cs.drop j = x :: cs.drop (j + 1) := by
      rw [List.drop_eq_getElem_cons hj]
      congr 1
      rw [List.getElem?_eq_getElem hj] at hx
      exact Option.some.inj hx
    rw [ans_step, if_neg (by rw [hw]; simp), only_one _ j _ _ hj]
    · rw [hx, hd, seqS]
      simp only
      rw [seq_may h hj hj, tf_set hj, seq_ans step h k (j + 1) _ (by omega)]
      by_cases hf : fitS x (step st x.call).2 = true
      · rw [if_pos ⟨decide_eq_true rfl, hf⟩, if_pos hf]
      · rw [if_neg (fun e => hf e.2), if_neg hf]
    · intro i hne
      cases hi : cs[i]? with
      | none => rfl
      | some y =>
        simp only
        have hil := (List.getElem?_eq_some_iff.1 hi).1
        rw [if_neg]
        intro e
        have := e.1
        rw [seq_may h hil hj] at this
        exact hne (of_decide_eq_true this)
theorem seq_all (step : Int → γ → Int × α) {cs : List (Cl γ α)} (h : Seq cs) (st : Int) : ansS step cs st (List.replicate cs.length false) = seqS step st cs := by
  have := seq_ans step h cs.length 0 st (by omega)
  rw [List.drop_zero] at this
  rw [← this]
  congr 1
end Go.Proofs.YtpfghndflegbaaaDoor.Jd
