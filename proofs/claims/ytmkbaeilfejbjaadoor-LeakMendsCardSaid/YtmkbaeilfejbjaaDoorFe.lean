/- law16: compact of sorted is rising: plain laws. -/
import Derived.Test.YtmkbaeilfejbjaaDoorFd
namespace Go.Proofs.YtmkbaeilfejbjaaDoor
open Go Go.Vc

theorem strict_ext : ∀ {l m : List Int}, l.Pairwise (· < ·) → m.Pairwise (· < ·) → (∀ y, y ∈ l ↔ y ∈ m) → l = m
  | [], [], _, _, _ => rfl
  | [], y :: m, _, _, h => by have := (h y).2 (by simp); simp at this
  | x :: l, [], _, _, h => by have := (h x).1 (by simp); simp at this
  | x :: l, y :: m, h1, h2, h => by
    rw [List.pairwise_cons] at h1 h2
    have hxy : x = y := by
      rcases List.mem_cons.1 ((h x).1 (by simp)) with e | e
      · exact e
      · rcases List.mem_cons.1 ((h y).2 (by simp)) with e' | e'
        · exact e'.symm
        · have a := h2.1 x e
          have b := h1.1 y e'
          omega
    subst hxy
    congr 1
    refine strict_ext h1.2 h2.2 fun z => ⟨fun hz => ?_, fun hz => ?_⟩
    · rcases List.mem_cons.1 ((h z).1 (by simp [hz])) with e | e
      · have := h1.1 z hz; omega
      · exact e
    · rcases List.mem_cons.1 ((h z).2 (by simp [hz])) with e | e
      · have := h2.1 z hz; omega
      · exact e

theorem ins_strict : ∀ {out : List Int} {x : Int}, out.Pairwise (· < ·) → (ins out x).Pairwise (· < ·)
  | [], x, _ => by simp [ins]
  | y :: out, x, h => by
    rw [List.pairwise_cons] at h
    have ih := ins_strict (out := out) (x := x) h.2
    unfold ins at ih ⊢
    by_cases hm : x ∈ y :: out
    · rw [if_pos hm, List.pairwise_cons]; exact h
    · rw [if_neg hm]
      have hx : x ∉ out := fun e => hm (by simp [e])
      have hne : x ≠ y := fun e => hm (by simp [e])
      rw [if_neg hx] at ih
      by_cases hy : y < x
      · simp only [List.takeWhile_cons, List.dropWhile_cons, decide_eq_true hy, if_true, List.cons_append, List.pairwise_cons]
        refine ⟨fun z hz => ?_, ih⟩
        have hz' : z ∈ ins out x := by unfold ins; rw [if_neg hx]; exact hz
        rcases mem_ins.1 hz' with e | e
        · exact h.1 z e
        · omega
      · simp only [List.takeWhile_cons, List.dropWhile_cons, decide_eq_false hy, Bool.false_eq_true, if_false, List.nil_append, List.pairwise_cons]
        refine ⟨fun z hz => ?_, h.1, h.2⟩
        rcases List.mem_cons.1 hz with e | e
        · omega
        · have := h.1 z e; omega

theorem rising_strict (l : List Int) : (rising l).Pairwise (· < ·) := by
  have key : ∀ (l out : List Int), out.Pairwise (· < ·) → (l.foldl ins out).Pairwise (· < ·) := by
    intro l
    induction l with
    | nil => intro out h; exact h
    | cons x l ih => intro out h; exact ih _ (ins_strict h)
  exact key l [] (by simp)

theorem get_bang (xs : List Int) {i : Nat} (h : i < xs.length) : xs.toArray[i]! = xs[i] := by simp [h]

theorem compact_mem {xs : List Int} {y : Int} : y ∈ Lib.compact xs ↔ y ∈ xs := by
  unfold Lib.compact Lib.compactUpTo
  rw [List.mem_map]
  constructor
  · rintro ⟨i, hi, rfl⟩
    have hil : i < xs.length := by have := (List.mem_filter.1 hi).1; simpa using this
    rw [get_bang xs hil]
    exact List.getElem_mem hil
  · intro hy
    obtain ⟨i, hil, rfl⟩ := List.getElem_of_mem hy
    have key : ∀ (i : Nat) (hil : i < xs.length), ∃ a, a ∈ (List.range xs.length).filter (Lib.keeps xs.toArray) ∧ xs.toArray[a]! = xs[i] := by
      intro i
      induction i with
      | zero => intro h; exact ⟨0, by simp [Lib.keeps]; omega, get_bang xs h⟩
      | succ i ih =>
        intro h
        by_cases hk : Lib.keeps xs.toArray (i + 1) = true
        · exact ⟨i + 1, List.mem_filter.2 ⟨by simpa using h, hk⟩, get_bang xs h⟩
        · obtain ⟨a, ha, e⟩ := ih (by omega)
          refine ⟨a, ha, e.trans ?_⟩
          have hk' : xs.toArray[i + 1]! = xs.toArray[i + 1 - 1]! := by
            simp only [Lib.keeps, decide_eq_true_eq, not_or, Decidable.not_not] at hk
            exact hk.2
          rw [get_bang xs h, Nat.add_sub_cancel, get_bang xs (by omega)] at hk'
          exact hk'.symm
    exact key i hil

theorem compact_strict {xs : List Int} (h : xs.Pairwise (· ≤ ·)) : (Lib.compact xs).Pairwise (· < ·) := by
  unfold Lib.compact Lib.compactUpTo
  rw [List.pairwise_map]
  have hmono : ∀ (i j : Nat) (hi : i < xs.length) (hj : j < xs.length), i ≤ j → xs[i] ≤ xs[j] := by
    intro i j hi hj hij
    rcases Nat.lt_or_eq_of_le hij with h1 | rfl
    · exact List.pairwise_iff_getElem.1 h i j hi hj h1
    · exact Int.le_refl _
  refine List.Pairwise.imp_of_mem ?_ (List.Pairwise.filter _ List.pairwise_lt_range)
  intro j k hj hk hjk
  have hj1 : j < xs.length := by simpa using (List.mem_filter.1 hj).1
  have hk1 : k < xs.length := by simpa using (List.mem_filter.1 hk).1
  have hk2 := (List.mem_filter.1 hk).2
  simp only [Lib.keeps, decide_eq_true_eq] at hk2
  rcases hk2 with h0 | hne
  · omega
  rw [get_bang xs hj1, get_bang xs hk1]
  rw [get_bang xs hk1, get_bang xs (by omega : k - 1 < xs.length)] at hne
  have h1 := hmono j (k - 1) hj1 (by omega) (by omega)
  have h2 := hmono (k - 1) k (by omega) hk1 (by omega)
  omega

theorem compact_sorted (l : List Int) : Lib.compact (sorted l) = rising l := by
  have hs : (sorted l).Pairwise (· ≤ ·) := by
    have := List.pairwise_mergeSort (le := fun x y : Int => decide (x ≤ y)) (fun a b c h1 h2 => by simp at h1 h2 ⊢; omega) (fun a b => by simp; omega) l
    exact this.imp fun h => by simpa using h
  refine strict_ext (compact_strict hs) (rising_strict l) fun y => ?_
  rw [compact_mem, mem_rising, sorted, List.mem_mergeSort]

theorem lessOf_rising (a b : List Int) : lessOf a b = rising (a.filter fun n => decide (n ∉ b)) := compact_sorted _
end Go.Proofs.YtmkbaeilfejbjaaDoor
