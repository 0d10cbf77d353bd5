/- law58: plain laws: a history that has an order has one for each of its prefixes. -/
import Derived.Test.YtpfghndflegbaaaDoorPd
namespace Go.Proofs.YtpfghndflegbaaaDoor.Jd
set_option maxRecDepth 100000

variable {γ α : Type} [DecidableEq α]

/-- What holds of cs where it holds of cs'. -/
structure Sim (cs cs' : List (Cl γ α)) : Prop where
  len : cs'.length = cs.length
  same : ∀ (i : Nat) (x x' : Cl γ α), cs[i]? = some x → cs'[i]? = some x' → x'.place = x.place ∧ x'.call = x.call ∧ (∀ a, fitS x' a = true → fitS x a = true) ∧ (x.ans.isSome = true → x'.ans.isSome = true)
  may : ∀ (i j : Nat) (x x' y y' : Cl γ α), cs[i]? = some x → cs'[i]? = some x' → cs[j]? = some y → cs'[j]? = some y' → (x.over < y.place → x'.over < y'.place) ∧ (x.ans.isSome = true → x.over < y.place → x'.ans.isSome = true ∧ x'.over < y'.place)
theorem sim_at {cs cs' : List (Cl γ α)} (h : Sim cs cs') {i : Nat} {x : Cl γ α} (hi : cs[i]? = some x) : ∃ x', cs'[i]? = some x' := ⟨_, List.getElem?_eq_getElem (by rw [h.len]; exact (List.getElem?_eq_some_iff.1 hi).1)⟩
theorem sim_at' {cs cs' : List (Cl γ α)} (h : Sim cs cs') {i : Nat} {x : Cl γ α} (hi : cs'[i]? = some x) : ∃ x', cs[i]? = some x' := ⟨_, List.getElem?_eq_getElem (by rw [← h.len]; exact (List.getElem?_eq_some_iff.1 hi).1)⟩
theorem sim_may {cs cs' : List (Cl γ α)} (h : Sim cs cs') {pl : List Bool} {i : Nat} (hm : mayS cs' pl i = true) : mayS cs pl i = true := by
  have hf := may_free hm
  unfold mayS at hm ⊢
  cases hx' : cs'[i]? with
  | none => rw [hx'] at hm; cases hm
  | some x' =>
    obtain ⟨x, hx⟩ := sim_at' h hx'
    rw [hx', hf] at hm
    rw [hx, hf]
    simp only [List.all_eq_true] at hm ⊢
    intro k hk
    have hk' : k ∈ List.range cs'.length := by rw [h.len]; exact hk
    have := hm k hk'
    cases hy : cs[k]? with
    | none => rfl
    | some y =>
      obtain ⟨y', hy'⟩ := sim_at h hy
      rw [hy'] at this
      cases hp : pl[k]? with
      | none => rfl
      | some b =>
        rw [hp] at this
        have h1 := (h.may i k x x' y y' hx hx' hy hy').1
        have h2 := (h.may k i y y' x x' hy hy' hx hx').2
        cases b with
        | true =>
          simp only [Bool.or_eq_true, decide_eq_true_eq, Bool.not_eq_true', decide_eq_false_iff_not] at this ⊢
          rcases this with h | h
          · exact .inl h
          · exact .inr fun q => h (h1 q)
        | false =>
          simp only [Bool.or_eq_true, decide_eq_true_eq, Bool.not_eq_true', Bool.and_eq_false_iff, decide_eq_false_iff_not] at this ⊢
          rcases this with h | h
          · exact .inl h
          · right
            cases ha : y.ans.isSome with
            | false => exact .inl rfl
            | true =>
              right
              intro q
              obtain ⟨q1, q2⟩ := h2 ha q
              rcases h with h | h
              · rw [q1] at h; cases h
              · exact h q2
theorem sim_whole {cs cs' : List (Cl γ α)} (h : Sim cs cs') {pl : List Bool} (hw : wholeS cs' pl = true) : wholeS cs pl = true := by
  unfold wholeS at hw ⊢
  rw [List.all_eq_true] at hw ⊢
  intro i hi
  have := hw i (by rw [h.len]; exact hi)
  cases hx : cs[i]? with
  | none => rfl
  | some x =>
    obtain ⟨x', hx'⟩ := sim_at h hx
    rw [hx'] at this
    cases hp : pl[i]? with
    | none => rfl
    | some b =>
      cases b with
      | true => rfl
      | false =>
        rw [hp] at this
        have hs := (h.same i x x' hx hx').2.2.2
        simp only [Bool.not_eq_true'] at this ⊢
        cases ha : x.ans.isSome with
        | false => rfl
        | true => rw [hs ha] at this; cases this
theorem sim_run (step : Int → γ → Int × α) {cs cs' : List (Cl γ α)} (h : Sim cs cs') {st : Int} {pl : List Bool} {is : List Nat} (hr : Run step cs' st pl is) : Run step cs st pl is := by
  induction hr with
  | done hw => exact .done (sim_whole h hw)
  | @go st pl i x' is hi hm hf _ ih =>
    obtain ⟨x, hx⟩ := sim_at' h hi
    obtain ⟨s1, s2, s3, _⟩ := h.same i x x' hx hi
    rw [s2] at ih hf
    rw [s1]
    exact .go hx (sim_may h hm) (s3 _ hf) ih
/-- A new call that nobody has answered may be left away, with all behind it. -/
theorem run_drop (step : Int → γ → Int × α) {cs : List (Cl γ α)} {z : Cl γ α} (hz : z.ans = none) (ho : ∀ x ∈ cs, x.ans.isSome = true → x.over < z.place) {st : Int} {pl' : List Bool} {is : List Nat} (hr : Run step (cs ++ [z]) st pl' is) :
    ∀ pl, pl.length = cs.length → pl' = pl ++ [false] → ∃ is', Run step cs st pl is' := by
  have mono : ∀ {pl : List Bool}, pl.length = cs.length → ∀ {i : Nat}, i < cs.length → mayS (cs ++ [z]) (pl ++ [false]) i = true → mayS cs pl i = true := by
    intro pl hl i hi hm
    unfold mayS at hm ⊢
    rw [List.getElem?_append_left hi, List.getElem?_append_left (by omega)] at hm
    cases hx : cs[i]? with
    | none => rw [hx] at hm; cases hm
    | some x =>
      rw [hx] at hm
      cases hp : pl[i]? with
      | none => rw [hp] at hm; cases hm
      | some b =>
        rw [hp] at hm
        cases b with
        | true => cases hm
        | false =>
          simp only [List.all_eq_true] at hm ⊢
          intro k hk
          have hkl := List.mem_range.1 hk
          have := hm k (List.mem_range.2 (by simp; omega))
          rw [List.getElem?_append_left hkl, List.getElem?_append_left (by omega)] at this
          exact this
  have whole : ∀ {pl : List Bool}, pl.length = cs.length → wholeS (cs ++ [z]) (pl ++ [false]) = true → wholeS cs pl = true := by
    intro pl hl hw
    unfold wholeS at hw ⊢
    rw [List.all_eq_true] at hw ⊢
    intro i hi
    have hil := List.mem_range.1 hi
    have := hw i (List.mem_range.2 (by simp; omega))
    rw [List.getElem?_append_left hil, List.getElem?_append_left (by omega)] at this
    exact this
  induction hr with
  | done hw =>
    rintro pl hl rfl
    exact ⟨[], .done (whole hl hw)⟩
  | @go st pl' i x is hi hm hf _ ih =>
    rintro pl hl rfl
    by_cases hil : i < cs.length
    · rw [List.getElem?_append_left hil] at hi
      obtain ⟨is', hr'⟩ := ih (pl.set i true) (by rw [List.length_set]; exact hl) (by rw [List.set_append_left _ _ (by omega)])
      exact ⟨_, .go hi (mono hl hil hm) hf hr'⟩
    · refine ⟨[], .done ?_⟩
      have hie : i = cs.length := by
        have := (List.getElem?_eq_some_iff.1 hi).1
        simp at this
        omega
      subst hie
      have hzx : x = z := by
        rw [List.getElem?_append_right (Nat.le_refl _), Nat.sub_self] at hi
        exact (Option.some.inj hi).symm
      subst hzx
      have hf2 := may_free hm
      unfold mayS at hm
      rw [hi, hf2] at hm
      simp only [List.all_eq_true] at hm
      unfold wholeS
      rw [List.all_eq_true]
      intro k hk
      have hkl := List.mem_range.1 hk
      have := hm k (List.mem_range.2 (by simp; omega))
      rw [List.getElem?_append_left hkl, List.getElem?_append_left (by omega)] at this
      cases hy : cs[k]? with
      | none => rfl
      | some y =>
        rw [hy] at this
        cases hp : pl[k]? with
        | none => rfl
        | some b =>
          rw [hp] at this
          cases b with
          | true => rfl
          | false =>
            simp only
            cases ha : y.ans.isSome with
            | false => rfl
            | true =>
              have hlt := ho y (List.mem_of_getElem? hy) ha
              simp [ha, hlt] at this
              omega
end Go.Proofs.YtpfghndflegbaaaDoor.Jd
