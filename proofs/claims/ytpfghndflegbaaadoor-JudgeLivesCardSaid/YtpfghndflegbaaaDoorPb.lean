/- law58: plain laws of the search: fuel, runs. -/
import Derived.Test.YtpfghndflegbaaaDoorPa
namespace Go.Proofs.YtpfghndflegbaaaDoor.Jd
set_option maxRecDepth 100000

variable {γ α : Type} [DecidableEq α]

/-- How many calls are not placed. -/
def unpl (pl : List Bool) : Nat := pl.count false
theorem unpl_set : ∀ {pl : List Bool} {i : Nat}, pl[i]? = some false → unpl (pl.set i true) + 1 = unpl pl
  | [], _, h => by simp at h
  | b :: pl, 0, h => by
    simp at h
    subst h
    simp [unpl]
  | b :: pl, i + 1, h => by
    have h : pl[i]? = some false := by simpa using h
    have ih := unpl_set h
    unfold unpl at ih ⊢
    rw [List.set_cons_succ, List.count_cons, List.count_cons]
    omega
theorem unpl_zero {pl : List Bool} (h : unpl pl = 0) : ∀ i : Nat, pl[i]? ≠ some false := by
  intro i hi
  unfold unpl at h
  rw [List.count_eq_zero] at h
  exact h (List.mem_of_getElem? hi)
omit [DecidableEq α] in
theorem whole_zero (cs : List (Cl γ α)) {pl : List Bool} (h : unpl pl = 0) : wholeS cs pl = true := by
  unfold wholeS
  rw [List.all_eq_true]
  intro i _
  cases hc : cs[i]? with
  | none => rfl
  | some x =>
    cases hp : pl[i]? with
    | none => rfl
    | some b =>
      cases b with
      | true => rfl
      | false => exact absurd hp (unpl_zero h i)
omit [DecidableEq α] in
theorem may_free {cs : List (Cl γ α)} {pl : List Bool} {i : Nat} (h : mayS cs pl i = true) : pl[i]? = some false := by
  unfold mayS at h
  cases hc : cs[i]? with
  | none => rw [hc] at h; cases h
  | some x =>
    rw [hc] at h
    cases hp : pl[i]? with
    | none => rw [hp] at h; cases h
    | some b =>
      cases b with
      | true => rw [hp] at h; cases h
      | false => rfl
/-- Fuel beyond the calls that are not placed turns nothing. -/
theorem find_fuel (step : Int → γ → Int × α) (cs : List (Cl γ α)) : ∀ (n : Nat) (st : Int) (pl : List Bool), unpl pl ≤ n → findS step cs n st pl = findS step cs (unpl pl) st pl := by
  intro n
  induction n with
  | zero =>
    intro st pl h
    have : unpl pl = 0 := by omega
    rw [this]
  | succ n ih =>
    intro st pl h
    cases hu : unpl pl with
    | zero => rw [findS, findS, if_pos (whole_zero cs hu), if_pos (whole_zero cs hu)]
    | succ u =>
      rw [findS, findS]
      by_cases hw : wholeS cs pl = true
      · rw [if_pos hw, if_pos hw]
      · rw [if_neg hw, if_neg hw]
        congr 1
        funext i
        cases hi : cs[i]? with
        | none => rfl
        | some x =>
          simp only
          by_cases hm : mayS cs pl i = true ∧ fitS x (step st x.call).2 = true
          · rw [if_pos hm, if_pos hm]
            have hs := unpl_set (may_free hm.1)
            rw [ih _ _ (by omega)]
            have : unpl (pl.set i true) = u := by omega
            rw [this]
          · rw [if_neg hm, if_neg hm]
/-- The judge's answer at a state. -/
def ansS (step : Int → γ → Int × α) (cs : List (Cl γ α)) (st : Int) (pl : List Bool) : Option (List Nat) := findS step cs (unpl pl) st pl
/-- One step of it. -/
theorem ans_step (step : Int → γ → Int × α) (cs : List (Cl γ α)) (st : Int) (pl : List Bool) : ansS step cs st pl = if wholeS cs pl = true then some [] else (List.range cs.length).findSome? fun i => match cs[i]? with
    | some x => if mayS cs pl i = true ∧ fitS x (step st x.call).2 = true then (ansS step cs (step st x.call).1 (pl.set i true)).map (x.place :: ·) else none
    | none => none := by
  unfold ansS
  cases hu : unpl pl with
  | zero => rw [findS, if_pos (whole_zero cs hu), if_pos (whole_zero cs hu)]
  | succ u =>
    rw [findS]
    by_cases hw : wholeS cs pl = true
    · rw [if_pos hw, if_pos hw]
    · rw [if_neg hw, if_neg hw]
      congr 1
      funext i
      cases hi : cs[i]? with
      | none => rfl
      | some x =>
        simp only
        by_cases hm : mayS cs pl i = true ∧ fitS x (step st x.call).2 = true
        · rw [if_pos hm, if_pos hm]
          have hs := unpl_set (may_free hm.1)
          have : unpl (pl.set i true) = u := by omega
          rw [this]
        · rw [if_neg hm, if_neg hm]
/-- A way to the end. -/
inductive Run (step : Int → γ → Int × α) (cs : List (Cl γ α)) : Int → List Bool → List Nat → Prop
  | done {st pl} : wholeS cs pl = true → Run step cs st pl []
  | go {st pl i x is} : cs[i]? = some x → mayS cs pl i = true → fitS x (step st x.call).2 = true → Run step cs (step st x.call).1 (pl.set i true) is → Run step cs st pl (x.place :: is)
theorem run_find (step : Int → γ → Int × α) (cs : List (Cl γ α)) {st : Int} {pl : List Bool} {is : List Nat} (h : Run step cs st pl is) : ansS step cs st pl ≠ none := by
  induction h with
  | done hw => rw [ans_step, if_pos hw]; simp
  | @go st pl i x is hi hm hf _ ih =>
    rw [ans_step]
    by_cases hw : wholeS cs pl = true
    · rw [if_pos hw]; simp
    · rw [if_neg hw]
      intro e
      rw [List.findSome?_eq_none_iff] at e
      have := e i (List.mem_range.2 (List.getElem?_eq_some_iff.1 hi).1)
      rw [hi] at this
      simp only at this
      rw [if_pos ⟨hm, hf⟩] at this
      exact ih (by simpa using this)
theorem find_run (step : Int → γ → Int × α) (cs : List (Cl γ α)) : ∀ (n : Nat) (st : Int) (pl : List Bool) (is : List Nat), findS step cs n st pl = some is → Run step cs st pl is := by
  intro n
  induction n with
  | zero =>
    intro st pl is h
    rw [findS] at h
    by_cases hw : wholeS cs pl = true
    · rw [if_pos hw] at h
      obtain rfl := Option.some.inj h
      exact .done hw
    · rw [if_neg hw] at h; cases h
  | succ n ih =>
    intro st pl is h
    rw [findS] at h
    by_cases hw : wholeS cs pl = true
    · rw [if_pos hw] at h
      obtain rfl := Option.some.inj h
      exact .done hw
    · rw [if_neg hw] at h
      obtain ⟨i, _, hi⟩ := List.exists_of_findSome?_eq_some h
      cases hc : cs[i]? with
      | none => rw [hc] at hi; cases hi
      | some x =>
        rw [hc] at hi
        simp only at hi
        by_cases hm : mayS cs pl i = true ∧ fitS x (step st x.call).2 = true
        · rw [if_pos hm] at hi
          obtain ⟨r, hr, rfl⟩ := Option.map_eq_some_iff.1 hi
          exact .go hc hm.1 hm.2 (ih _ _ _ hr)
        · rw [if_neg hm] at hi; cases hi
/-- The memo: what stands in it has failed, or is being tried at a state with fewer calls placed. -/
def Memo (step : Int → γ → Int × α) (cs : List (Cl γ α)) (T : Int × List Bool → Prop) (m : Nat) : Prop := ∀ x, T x → ansS step cs x.1 x.2 = none ∨ m < unpl x.2
theorem memo_hit {step : Int → γ → Int × α} {cs : List (Cl γ α)} {T : Int × List Bool → Prop} {st : Int} {pl : List Bool} (h : Memo step cs T (unpl pl)) (ht : T (st, pl)) : ansS step cs st pl = none := by
  rcases h _ ht with h | h
  · exact h
  · exact absurd h (Nat.lt_irrefl _)
theorem memo_add {step : Int → γ → Int × α} {cs : List (Cl γ α)} {T T' : Int × List Bool → Prop} {st : Int} {pl : List Bool} {u : Nat} (h : Memo step cs T (unpl pl)) (hu : u + 1 = unpl pl) (hT : ∀ x, T' x → T x ∨ x = (st, pl)) : Memo step cs T' u := by
  intro x hx
  rcases hT x hx with hx | rfl
  · rcases h x hx with h | h
    · exact .inl h
    · exact .inr (by omega)
  · exact .inr (by show u < unpl pl; omega)
end Go.Proofs.YtpfghndflegbaaaDoor.Jd
