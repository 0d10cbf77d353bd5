/- law58: plain laws of the search for an order: the judge's search and the exhaustive one agree. -/
import Derived.Tactics
namespace Go.Proofs.YtpfghndflegbaaaDoor.Jd
set_option maxRecDepth 100000

variable {γ α : Type} [DecidableEq α]

/-- A call of a history: where it stands, where it ended, what was called, what was answered. -/
structure Cl (γ α : Type) where
  place : Nat
  over : Nat
  call : γ
  ans : Option α

/-- May call i come next? -/
def mayS (cs : List (Cl γ α)) (pl : List Bool) (i : Nat) : Bool :=
  match cs[i]?, pl[i]? with
  | some x, some false => (List.range cs.length).all fun k => match cs[k]?, pl[k]? with
    | some y, some true => decide (k = i) || !decide (x.over < y.place)
    | some y, some false => decide (k = i) || !(y.ans.isSome && decide (y.over < x.place))
    | _, _ => true
  | _, _ => false
/-- Are all answered calls placed? -/
def wholeS (cs : List (Cl γ α)) (pl : List Bool) : Bool :=
  (List.range cs.length).all fun i => match cs[i]?, pl[i]? with
    | some x, some false => !x.ans.isSome
    | _, _ => true
/-- Is the answer right? -/
def fitS (x : Cl γ α) (a : α) : Bool := match x.ans with
  | some b => decide (a = b)
  | none => true
/-- The judge's search: the smallest completion. -/
def findS (step : Int → γ → Int × α) (cs : List (Cl γ α)) : Nat → Int → List Bool → Option (List Nat)
  | 0, _, pl => if wholeS cs pl = true then some [] else none
  | n + 1, st, pl => if wholeS cs pl = true then some [] else (List.range cs.length).findSome? fun i => match cs[i]? with
    | some x => if mayS cs pl i = true ∧ fitS x (step st x.call).2 = true then (findS step cs n (step st x.call).1 (pl.set i true)).map (x.place :: ·) else none
    | none => none
def mayR (order : List Nat) (x : Cl γ α) : Bool := !order.contains x.place && order.all fun o => !decide (o > x.over)
def wholeR (cs : List (Cl γ α)) (order : List Nat) : Bool := cs.all fun x => !x.ans.isSome || order.contains x.place
/-- The exhaustive search. -/
def leastS (step : Int → γ → Int × α) (cs : List (Cl γ α)) : Nat → List Nat → Int → Option (List Nat)
  | 0, order, _ => if wholeR cs order = true then some order else none
  | n + 1, order, st => if wholeR cs order = true then some order else (List.range cs.length).findSome? fun i => match cs[i]? with
    | some x => if mayR order x = true ∧ fitS x (step st x.call).2 = true then leastS step cs n (order ++ [x.place]) (step st x.call).1 else none
    | none => none

/-- Calls stand at different places. -/
def Apart (cs : List (Cl γ α)) : Prop := ∀ (i j : Nat) (x y : Cl γ α), cs[i]? = some x → cs[j]? = some y → x.place = y.place → i = j
theorem doomed (step : Int → γ → Int × α) {cs : List (Cl γ α)} (ha : Apart cs) : ∀ (n : Nat) (order : List Nat) (st : Int) (k : Nat) (x : Cl γ α) (o : Nat),
    cs[k]? = some x → x.ans.isSome = true → x.place ∉ order → o ∈ order → o > x.over → leastS step cs n order st = none := by
  intro n
  induction n with
  | zero =>
    intro order st k x o hk hx hp ho hgt
    have hw : wholeR cs order = false := by
      unfold wholeR
      rw [List.all_eq_false]
      exact ⟨x, List.mem_of_getElem? hk, by simp [hx, hp]⟩
    rw [leastS, if_neg (by rw [hw]; simp)]
  | succ n ih =>
    intro order st k x o hk hx hp ho hgt
    have hw : wholeR cs order = false := by
      unfold wholeR
      rw [List.all_eq_false]
      exact ⟨x, List.mem_of_getElem? hk, by simp [hx, hp]⟩
    rw [leastS, if_neg (by rw [hw]; simp), List.findSome?_eq_none_iff]
    intro i _
    cases hi : cs[i]? with
    | none => rfl
    | some y =>
      simp only
      by_cases hc : mayR order y = true ∧ fitS y (step st y.call).2 = true
      · rw [if_pos hc]
        have hne : y.place ≠ x.place := by
          intro e
          have := ha i k y x hi hk e
          subst this
          rw [hk] at hi
          obtain rfl := Option.some.inj hi
          have hm := hc.1
          unfold mayR at hm
          simp only [Bool.and_eq_true, List.all_eq_true] at hm
          have := hm.2 o ho
          simp at this
          omega
        exact ih _ _ k x o hk hx (by simp [hp]; exact fun e => hne e.symm) (by simp [ho]) hgt
      · rw [if_neg hc]

/-- The placed calls are those of the order. -/
def Agree (cs : List (Cl γ α)) (order : List Nat) (pl : List Bool) : Prop := pl.length = cs.length ∧ ∀ (i : Nat) (x : Cl γ α) (b : Bool), cs[i]? = some x → pl[i]? = some b → (b = true ↔ x.place ∈ order)
omit [DecidableEq α] in
theorem pl_at {cs : List (Cl γ α)} {order : List Nat} {pl : List Bool} (h : Agree cs order pl) {i : Nat} {x : Cl γ α} (hi : cs[i]? = some x) : ∃ b, pl[i]? = some b ∧ (b = true ↔ x.place ∈ order) := by
  have hl := (List.getElem?_eq_some_iff.1 hi).1
  have : i < pl.length := by rw [h.1]; exact hl
  exact ⟨_, List.getElem?_eq_getElem this, h.2 i x _ hi (List.getElem?_eq_getElem this)⟩
omit [DecidableEq α] in
theorem whole_eq {cs : List (Cl γ α)} {order : List Nat} {pl : List Bool} (h : Agree cs order pl) : wholeS cs pl = wholeR cs order := by
  rw [Bool.eq_iff_iff]
  unfold wholeS wholeR
  rw [List.all_eq_true, List.all_eq_true]
  constructor
  · intro hw x hx
    obtain ⟨i, hi⟩ := List.mem_iff_getElem?.1 hx
    obtain ⟨b, hb, hbo⟩ := pl_at h hi
    have := hw i (List.mem_range.2 (List.getElem?_eq_some_iff.1 hi).1)
    rw [hi, hb] at this
    cases b with
    | true => simp [hbo.1 rfl]
    | false => simp at this; simp [this]
  · intro hw i hir
    obtain ⟨x, hi⟩ : ∃ x, cs[i]? = some x := ⟨_, List.getElem?_eq_getElem (List.mem_range.1 hir)⟩
    obtain ⟨b, hb, hbo⟩ := pl_at h hi
    have := hw x (List.mem_of_getElem? hi)
    rw [hi, hb]
    cases b with
    | true => rfl
    | false =>
      have hn : x.place ∉ order := fun e => by have := hbo.2 e; cases this
      simp [hn] at this
      simp [this]
omit [DecidableEq α] in
theorem agree_set {cs : List (Cl γ α)} (ha : Apart cs) {order : List Nat} {pl : List Bool} (h : Agree cs order pl) {i : Nat} {x : Cl γ α} (hi : cs[i]? = some x) : Agree cs (order ++ [x.place]) (pl.set i true) := by
  refine ⟨by rw [List.length_set]; exact h.1, fun j y b hj hb => ?_⟩
  by_cases e : i = j
  · subst e
    rw [hi] at hj
    obtain rfl := Option.some.inj hj
    rw [List.getElem?_set_self (by rw [h.1]; exact (List.getElem?_eq_some_iff.1 hi).1)] at hb
    obtain rfl := Option.some.inj hb
    simp
  · rw [List.getElem?_set_ne e] at hb
    have h2 := h.2 j y b hj hb
    rw [h2, List.mem_append, List.mem_singleton]
    exact ⟨.inl, fun o => o.elim id fun e2 => absurd (ha j i y x hj hi e2).symm e⟩
omit [DecidableEq α] in
/-- Where the judge may go on the exhaustive search may; where the latter alone may it fails. -/
theorem may_both {cs : List (Cl γ α)} {order : List Nat} (hsub : ∀ o ∈ order, ∃ (k : Nat) (y : Cl γ α), cs[k]? = some y ∧ y.place = o) {pl : List Bool} (h : Agree cs order pl) {i : Nat} {x : Cl γ α} (hi : cs[i]? = some x) :
    (mayS cs pl i = true → mayR order x = true) ∧ (mayR order x = true → mayS cs pl i = false → ∃ (k : Nat) (y : Cl γ α), cs[k]? = some y ∧ y.ans.isSome = true ∧ y.place ∉ order ∧ k ≠ i ∧ x.place > y.over) := by
  obtain ⟨b, hb, hbo⟩ := pl_at h hi
  constructor
  · intro hm
    unfold mayS at hm
    rw [hi, hb] at hm
    cases b with
    | true => cases hm
    | false =>
      simp only [List.all_eq_true] at hm
      have hn : x.place ∉ order := fun e => by have := hbo.2 e; cases this
      unfold mayR
      simp only [Bool.and_eq_true, List.all_eq_true]
      refine ⟨by simp [hn], fun o ho => ?_⟩
      obtain ⟨k, y, hk, rfl⟩ := hsub o ho
      obtain ⟨c, hc, hco⟩ := pl_at h hk
      have := hm k (List.mem_range.2 (List.getElem?_eq_some_iff.1 hk).1)
      obtain rfl : c = true := hco.2 ho
      rw [hk, hc] at this
      by_cases e : k = i
      · subst e
        rw [hi] at hk
        obtain rfl := Option.some.inj hk
        exact absurd ho hn
      · simp [e] at this ⊢
        omega
  · intro hr hs
    unfold mayR at hr
    simp only [Bool.and_eq_true, List.all_eq_true] at hr
    have hn : x.place ∉ order := by have := hr.1; simpa using this
    obtain rfl : b = false := by
      cases b with
      | true => exact absurd (hbo.1 rfl) hn
      | false => rfl
    unfold mayS at hs
    rw [hi, hb] at hs
    simp only [List.all_eq_false] at hs
    obtain ⟨k, hk, hf⟩ := hs
    obtain ⟨y, hy⟩ : ∃ y, cs[k]? = some y := ⟨_, List.getElem?_eq_getElem (List.mem_range.1 hk)⟩
    obtain ⟨c, hc, hco⟩ := pl_at h hy
    rw [hy, hc] at hf
    cases c with
    | true =>
      have := hr.2 _ (hco.1 rfl)
      simp at hf this
      omega
    | false =>
      simp at hf
      exact ⟨k, y, hy, Option.isSome_iff_ne_none.2 hf.2.1, (fun e => by have := hco.2 e; cases this), hf.1, hf.2.2⟩
theorem find_least (step : Int → γ → Int × α) {cs : List (Cl γ α)} (ha : Apart cs) : ∀ (n : Nat) (order : List Nat) (st : Int) (pl : List Bool), Agree cs order pl → (∀ o ∈ order, ∃ (k : Nat) (y : Cl γ α), cs[k]? = some y ∧ y.place = o) →
    leastS step cs n order st = (findS step cs n st pl).map (order ++ ·) := by
  intro n
  induction n with
  | zero =>
    intro order st pl h _
    rw [leastS, findS, whole_eq h]
    by_cases hw : wholeR cs order = true
    · rw [if_pos hw, if_pos hw]; simp
    · rw [if_neg hw, if_neg hw]; rfl
  | succ n ih =>
    intro order st pl h hsub
    rw [leastS, findS, whole_eq h]
    by_cases hw : wholeR cs order = true
    · rw [if_pos hw, if_pos hw]; simp
    rw [if_neg hw, if_neg hw, List.map_findSome?]
    congr 1
    funext i
    simp only [Function.comp]
    cases hi : cs[i]? with
    | none => rfl
    | some x =>
      simp only
      have hb := may_both hsub h hi
      have hsub2 : ∀ o ∈ order ++ [x.place], ∃ (k : Nat) (y : Cl γ α), cs[k]? = some y ∧ y.place = o := by
        intro o ho
        rcases List.mem_append.1 ho with ho | ho
        · exact hsub o ho
        · exact ⟨i, x, hi, (List.mem_singleton.1 ho).symm⟩
      by_cases hf : fitS x (step st x.call).2 = true
      · by_cases hs : mayS cs pl i = true
        · rw [if_pos ⟨hb.1 hs, hf⟩, if_pos ⟨hs, hf⟩, ih _ _ _ (agree_set ha h hi) hsub2, Option.map_map]
          congr 1
          funext r
          simp
        · rw [if_neg (show ¬ (mayS cs pl i = true ∧ fitS x (step st x.call).2 = true) from fun e => hs e.1)]
          by_cases hr : mayR order x = true
          · rw [if_pos ⟨hr, hf⟩]
            obtain ⟨k, y, hk, hy, hp, hne, hgt⟩ := hb.2 hr (by simpa using hs)
            exact doomed step ha n _ _ k y x.place hk hy (by
              simp only [List.mem_append, List.mem_singleton, not_or]
              exact ⟨hp, fun e => hne (ha k i y x hk hi e)⟩) (by simp) hgt
          · rw [if_neg (fun e => hr e.1)]; rfl
      · rw [if_neg (fun e => hf e.2), if_neg (fun e => hf e.2)]; rfl
end Go.Proofs.YtpfghndflegbaaaDoor.Jd
