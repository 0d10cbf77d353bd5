/- law58: plain laws: calls that take effect one by one. -/
import Derived.Test.YtpfghndflegbaaaDoorPg
namespace Go.Proofs.YtpfghndflegbaaaDoor.Jd
set_option maxRecDepth 100000

variable {γ α : Type} [DecidableEq α]

/-- Calls that have taken effect, each with what it was told; the state and the placed calls behind them. -/
inductive Part (step : Int → γ → Int × α) (cs : List (Cl γ α)) (st0 : Int) : List (Nat × α) → Int → List Bool → Prop
  | nil : Part step cs st0 [] st0 (List.replicate cs.length false)
  | snoc {o st pl i x} : Part step cs st0 o st pl → cs[i]? = some x → mayS cs pl i = true → fitS x (step st x.call).2 = true → Part step cs st0 (o ++ [(i, (step st x.call).2)]) (step st x.call).1 (pl.set i true)
theorem part_run {step : Int → γ → Int × α} {cs : List (Cl γ α)} {st0 : Int} {o : List (Nat × α)} {st : Int} {pl : List Bool} (h : Part step cs st0 o st pl) : ∀ is, Run step cs st pl is → ∃ is', Run step cs st0 (List.replicate cs.length false) is' := by
  induction h with
  | nil => exact fun is h => ⟨is, h⟩
  | snoc _ hx hm hf ih => exact fun is h => ih _ (.go hx hm hf h)
theorem part_found {step : Int → γ → Int × α} {cs : List (Cl γ α)} {st0 : Int} {o : List (Nat × α)} {st : Int} {pl : List Bool} (h : Part step cs st0 o st pl) (hw : wholeS cs pl = true) : ansS step cs st0 (List.replicate cs.length false) ≠ none := by
  obtain ⟨is, hr⟩ := part_run h [] (.done hw)
  exact run_find step cs hr
theorem part_len {step : Int → γ → Int × α} {cs : List (Cl γ α)} {st0 : Int} {o : List (Nat × α)} {st : Int} {pl : List Bool} (h : Part step cs st0 o st pl) : pl.length = cs.length := by
  induction h with
  | nil => simp
  | snoc _ _ _ _ ih => rw [List.length_set]; exact ih
theorem part_placed {step : Int → γ → Int × α} {cs : List (Cl γ α)} {st0 : Int} {o : List (Nat × α)} {st : Int} {pl : List Bool} (h : Part step cs st0 o st pl) : ∀ i : Nat, pl[i]? = some true ↔ ∃ a, (i, a) ∈ o := by
  induction h with
  | nil =>
    intro i
    rw [List.getElem?_replicate]
    constructor
    · intro h; split at h <;> simp at h
    · rintro ⟨a, ha⟩; cases ha
  | @snoc o st pl j x hp hx hm hf ih =>
    intro i
    have hl := part_len hp
    by_cases e : j = i
    · subst e
      rw [List.getElem?_set_self (by rw [hl]; exact (List.getElem?_eq_some_iff.1 hx).1)]
      exact ⟨fun _ => ⟨_, List.mem_append_right _ (List.mem_singleton.2 rfl)⟩, fun _ => rfl⟩
    · rw [List.getElem?_set_ne e, ih i]
      constructor
      · rintro ⟨a, ha⟩; exact ⟨a, List.mem_append_left _ ha⟩
      · rintro ⟨a, ha⟩
        rcases List.mem_append.1 ha with ha | ha
        · exact ⟨a, ha⟩
        · have := congrArg Prod.fst (List.mem_singleton.1 ha)
          exact absurd this.symm e
/-- Calls may end, and be told what they were told at their effect, behind all that is there. -/
structure Later (cs cs' : List (Cl γ α)) (L : Nat) (o : List (Nat × α)) : Prop where
  len : cs'.length = cs.length
  same : ∀ (i : Nat) (x x' : Cl γ α), cs[i]? = some x → cs'[i]? = some x' → x'.place = x.place ∧ x'.call = x.call ∧ x.place < L ∧ (x' = x ∨ L ≤ x'.over)
  told : ∀ (i : Nat) (x' : Cl γ α) (a : α), cs'[i]? = some x' → (i, a) ∈ o → fitS x' a = true
theorem later_may {cs cs' : List (Cl γ α)} {L : Nat} {o : List (Nat × α)} (h : Later cs cs' L o) {pl : List Bool} {i : Nat} (hm : mayS cs pl i = true) : mayS cs' pl i = true := by
  have hf := may_free hm
  unfold mayS at hm ⊢
  cases hx : cs[i]? with
  | none => rw [hx] at hm; cases hm
  | some x =>
    have hil := (List.getElem?_eq_some_iff.1 hx).1
    obtain ⟨x', hx'⟩ : ∃ x', cs'[i]? = some x' := ⟨_, List.getElem?_eq_getElem (by rw [h.len]; exact hil)⟩
    rw [hx, hf] at hm
    rw [hx', hf]
    simp only [List.all_eq_true] at hm ⊢
    intro k hk
    have hkl := List.mem_range.1 hk
    rw [h.len] at hkl
    have := hm k (List.mem_range.2 hkl)
    obtain ⟨y, hy⟩ : ∃ y, cs[k]? = some y := ⟨_, List.getElem?_eq_getElem hkl⟩
    obtain ⟨y', hy'⟩ : ∃ y', cs'[k]? = some y' := ⟨_, List.getElem?_eq_getElem (by rw [h.len]; exact hkl)⟩
    obtain ⟨a1, _, a3, a4⟩ := h.same i x x' hx hx'
    obtain ⟨b1, _, b3, b4⟩ := h.same k y y' hy hy'
    rw [hy] at this
    rw [hy']
    cases hp : pl[k]? with
    | none => rfl
    | some b =>
      rw [hp] at this
      cases b with
      | true =>
        simp only [Bool.or_eq_true, decide_eq_true_eq, Bool.not_eq_true', decide_eq_false_iff_not] at this ⊢
        rcases this with q | q
        · exact .inl q
        · right
          rcases a4 with rfl | a4
          · rw [b1]; exact q
          · omega
      | false =>
        simp only [Bool.or_eq_true, decide_eq_true_eq, Bool.not_eq_true', Bool.and_eq_false_iff, decide_eq_false_iff_not] at this ⊢
        rcases this with q | q
        · exact .inl q
        · right
          rcases b4 with rfl | b4
          · rw [a1]; exact q
          · right; omega
theorem part_later {step : Int → γ → Int × α} {cs cs' : List (Cl γ α)} {L : Nat} {st0 : Int} {o : List (Nat × α)} {st : Int} {pl : List Bool} (hp : Part step cs st0 o st pl) : Later cs cs' L o → Part step cs' st0 o st pl := by
  induction hp with
  | nil =>
    intro h
    rw [← h.len]
    exact .nil
  | @snoc o st pl i x hp hx hm hf ih =>
    intro h
    have h0 : Later cs cs' L o := ⟨h.len, h.same, fun i x' a hi ha => h.told i x' a hi (List.mem_append_left _ ha)⟩
    obtain ⟨x', hx'⟩ : ∃ x', cs'[i]? = some x' := ⟨_, List.getElem?_eq_getElem (by rw [h.len]; exact (List.getElem?_eq_some_iff.1 hx).1)⟩
    have hs := (h.same i x x' hx hx').2.1
    have hft := h.told i x' (step st x.call).2 hx' (List.mem_append_right _ (List.mem_singleton.2 rfl))
    have := Part.snoc (ih h0) hx' (later_may h0 hm) (by rw [hs]; exact hft)
    rw [hs] at this
    exact this
end Go.Proofs.YtpfghndflegbaaaDoor.Jd
