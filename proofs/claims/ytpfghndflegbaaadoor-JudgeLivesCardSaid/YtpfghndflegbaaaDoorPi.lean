/- law58: plain laws: a new call, a new effect. -/
import Derived.Test.YtpfghndflegbaaaDoorPh
namespace Go.Proofs.YtpfghndflegbaaaDoor.Jd
set_option maxRecDepth 100000

variable {γ α : Type} [DecidableEq α]

theorem part_new {step : Int → γ → Int × α} {cs : List (Cl γ α)} {z : Cl γ α} (hz : z.ans = none) {st0 : Int} {o : List (Nat × α)} {st : Int} {pl : List Bool} (hp : Part step cs st0 o st pl) : Part step (cs ++ [z]) st0 o st (pl ++ [false]) := by
  induction hp with
  | nil =>
    have : List.replicate cs.length false ++ [false] = List.replicate (cs ++ [z]).length false := by
      rw [List.length_append]; exact List.replicate_succ'.symm
    rw [this]
    exact .nil
  | @snoc o st pl i x hp hx hm hf ih =>
    have hl := part_len hp
    have hil := (List.getElem?_eq_some_iff.1 hx).1
    have hx' : (cs ++ [z])[i]? = some x := by rw [List.getElem?_append_left hil]; exact hx
    have hm' : mayS (cs ++ [z]) (pl ++ [false]) i = true := by
      have hfr := may_free hm
      unfold mayS at hm ⊢
      rw [hx, hfr] at hm
      rw [hx', List.getElem?_append_left (by omega), hfr]
      simp only [List.all_eq_true] at hm ⊢
      intro k hk
      by_cases hkl : k < cs.length
      · have := hm k (List.mem_range.2 hkl)
        rw [List.getElem?_append_left hkl, List.getElem?_append_left (by omega)]
        exact this
      · have hke : k = cs.length := by
          have := List.mem_range.1 hk
          simp at this
          omega
        subst hke
        rw [List.getElem?_append_right (Nat.le_refl _), Nat.sub_self, List.getElem?_append_right (by omega), hl, Nat.sub_self]
        simp [hz]
    have := Part.snoc ih hx' hm' hf
    rw [List.set_append_left _ _ (by omega)] at this
    exact this
omit [DecidableEq α] in
/-- An open call may take effect where all answered calls have. -/
theorem may_open {cs : List (Cl γ α)} {pl : List Bool} {i : Nat} {x : Cl γ α} (hx : cs[i]? = some x) (hp : pl[i]? = some false) (hov : ∀ y ∈ cs, y.place ≤ x.over) (hans : ∀ (k : Nat) (y : Cl γ α), cs[k]? = some y → y.ans.isSome = true → pl[k]? = some true) : mayS cs pl i = true := by
  unfold mayS
  rw [hx, hp]
  simp only [List.all_eq_true]
  intro k hk
  obtain ⟨y, hy⟩ : ∃ y, cs[k]? = some y := ⟨_, List.getElem?_eq_getElem (List.mem_range.1 hk)⟩
  rw [hy]
  cases hb : pl[k]? with
  | none => rfl
  | some b =>
    cases b with
    | true =>
      have := hov y (List.mem_of_getElem? hy)
      simp; omega
    | false =>
      cases ha : y.ans.isSome with
      | false => simp [ha]
      | true =>
        have := hans k y hy ha
        rw [hb] at this; cases this
omit [DecidableEq α] in
/-- Where all answered calls are placed the whole is. -/
theorem whole_ans {cs : List (Cl γ α)} {pl : List Bool} (hans : ∀ (k : Nat) (y : Cl γ α), cs[k]? = some y → y.ans.isSome = true → pl[k]? = some true) : wholeS cs pl = true := by
  unfold wholeS
  rw [List.all_eq_true]
  intro k hk
  obtain ⟨y, hy⟩ : ∃ y, cs[k]? = some y := ⟨_, List.getElem?_eq_getElem (List.mem_range.1 hk)⟩
  rw [hy]
  cases hb : pl[k]? with
  | none => rfl
  | some b =>
    cases b with
    | true => rfl
    | false =>
      cases ha : y.ans.isSome with
      | false => simp [ha]
      | true =>
        have := hans k y hy ha
        rw [hb] at this; cases this
end Go.Proofs.YtpfghndflegbaaaDoor.Jd
