/- law16: what Reach computes: the nodes that can be reached. Plain facts. -/
import Derived.Test.YtmkbaeilfejbjaaDoorFf
namespace Go.Proofs.YtmkbaeilfejbjaaDoor
open Go Go.Vc

/-- A node of the graph. -/
@[reducible] def isNode (next : List (List Int)) (x : Int) : Prop := 0 ≤ x ∧ x < (next.length : Int)

/-- What can be reached. -/
inductive Rch (roots : List Int) (next : List (List Int)) : Int → Prop
  | root (x : Int) : x ∈ roots → isNode next x → Rch roots next x
  | step (x y : Int) (l : List Int) : Rch roots next x → next[x.toNat]? = some l → y ∈ l → isNode next y → Rch roots next y

theorem Rch.node {roots : List Int} {next : List (List Int)} {x : Int} (h : Rch roots next x) : isNode next x := by
  cases h <;> assumption

/-- The rising list of what can be reached. -/
def IsReach (roots : List Int) (next : List (List Int)) (out : List Int) : Prop := out.Pairwise (· < ·) ∧ ∀ x, x ∈ out ↔ Rch roots next x

/-- What has been seen and what has been listed fit. -/
structure Good (n : Nat) (s : List Bool × List Int) : Prop where
  len : s.1.length = n
  seen : ∀ x ∈ s.2, 0 ≤ x ∧ x < (n : Int) ∧ s.1[x.toNat]? = some true
  listed : ∀ k : Nat, s.1[k]? = some true → (k : Int) ∈ s.2
  once : s.2.Nodup

theorem good_start (n : Nat) : Good n (List.replicate n false, []) := by
  refine ⟨by simp, by simp, fun k h => ?_, by simp⟩
  have := List.mem_of_getElem? h
  simp at this

theorem add_out {s : List Bool × List Int} {m : Int} (h : ¬ (0 ≤ m ∧ m < s.1.length ∧ s.1[m.toNat]? = some false)) : addOf s m = s := by unfold addOf; rw [if_neg h]
theorem add_in {s : List Bool × List Int} {m : Int} (h : 0 ≤ m ∧ m < s.1.length ∧ s.1[m.toNat]? = some false) : addOf s m = (s.1.set m.toNat true, s.2 ++ [m]) := by unfold addOf; rw [if_pos h]

theorem add_len (s : List Bool × List Int) (m : Int) : (addOf s m).1.length = s.1.length := by
  unfold addOf; split <;> simp
theorem add_more (s : List Bool × List Int) (m : Int) : ∃ t, (addOf s m).2 = s.2 ++ t := by
  unfold addOf; split
  · exact ⟨[m], rfl⟩
  · exact ⟨[], by simp⟩
theorem add_keeps {s : List Bool × List Int} {m x : Int} (h : x ∈ s.2) : x ∈ (addOf s m).2 := by
  obtain ⟨t, ht⟩ := add_more s m
  rw [ht]; exact List.mem_append_left _ h
theorem add_from {s : List Bool × List Int} {m x : Int} (h : x ∈ (addOf s m).2) : x ∈ s.2 ∨ (x = m ∧ 0 ≤ m ∧ m < s.1.length) := by
  unfold addOf at h
  split at h
  · rename_i hc
    rcases List.mem_append.1 h with h | h
    · exact .inl h
    · exact .inr ⟨by simpa using h, hc.1, hc.2.1⟩
  · exact .inl h

theorem add_good {n : Nat} {s : List Bool × List Int} (h : Good n s) (m : Int) : Good n (addOf s m) := by
  by_cases hc : 0 ≤ m ∧ m < s.1.length ∧ s.1[m.toNat]? = some false
  · rw [add_in hc]
    have hml : m.toNat < s.1.length := by omega
    refine ⟨by simpa using h.len, fun x hx => ?_, fun k hk => ?_, ?_⟩
    · rcases List.mem_append.1 hx with hx | hx
      · obtain ⟨h1, h2, h3⟩ := h.seen x hx
        refine ⟨h1, h2, ?_⟩
        show (s.1.set m.toNat true)[x.toNat]? = some true
        rw [List.getElem?_set]
        split
        · first | rfl | (rename_i e; simp; omega)
        · exact h3
      · have : x = m := by simpa using hx
        subst this
        refine ⟨hc.1, by rw [← h.len]; exact hc.2.1, ?_⟩
        show (s.1.set x.toNat true)[x.toNat]? = some true
        rw [List.getElem?_set_self hml]
    · by_cases e : m.toNat = k
      · subst e
        exact List.mem_append_right _ (by simp; omega)
      · have hk' : (s.1.set m.toNat true)[k]? = some true := hk
        rw [List.getElem?_set_ne e] at hk'
        exact List.mem_append_left _ (h.listed k hk')
    · refine List.nodup_append.2 ⟨h.once, by simp, ?_⟩
      intro a ha b hb
      have : b = m := by simpa using hb
      subst this
      rintro rfl
      have := (h.seen _ ha).2.2
      rw [this] at hc
      cases hc.2.2
  · rw [add_out hc]; exact h

theorem add_has {n : Nat} {s : List Bool × List Int} (h : Good n s) {m : Int} (h0 : 0 ≤ m) (h1 : m < (n : Int)) : m ∈ (addOf s m).2 := by
  by_cases hc : 0 ≤ m ∧ m < s.1.length ∧ s.1[m.toNat]? = some false
  · rw [add_in hc]; simp
  · rw [add_out hc]
    have hml : m.toNat < s.1.length := by rw [h.len]; omega
    have hx : s.1[m.toNat]? = some s.1[m.toNat] := List.getElem?_eq_getElem hml
    cases hb : s.1[m.toNat] with
    | false => exact absurd ⟨h0, by rw [h.len]; exact h1, by rw [hx, hb]⟩ hc
    | true =>
      have := h.listed m.toNat (by rw [hx, hb])
      rwa [Int.toNat_of_nonneg h0] at this

/-- A list of distinct nodes is no longer than there are nodes. -/
theorem nodup_le : ∀ (n : Nat) (l : List Int), l.Nodup → (∀ x ∈ l, 0 ≤ x ∧ x < (n : Int)) → l.length ≤ n
  | 0, [], _, _ => by simp
  | 0, x :: _, _, h => by have := h x (by simp); omega
  | n + 1, l, hn, h => by
    have ih := nodup_le n (l.filter fun x => decide (x ≠ (n : Int))) (hn.filter _) (fun x hx => by
      have h1 := List.mem_filter.1 hx
      have h2 := h x h1.1
      have h3 : x ≠ (n : Int) := by simpa using h1.2
      omega)
    have key : ∀ l : List Int, l.Nodup → l.length ≤ (l.filter fun x => decide (x ≠ (n : Int))).length + 1 := by
      intro l
      induction l with
      | nil => intro _; simp
      | cons x l ih =>
        intro hn
        rw [List.nodup_cons] at hn
        by_cases e : x = (n : Int)
        · have : l.filter (fun x => decide (x ≠ (n : Int))) = l := by
            rw [List.filter_eq_self]
            intro y hy
            simp only [decide_eq_true_eq]
            rintro rfl
            exact hn.1 (e ▸ hy)
          rw [List.filter_cons, if_neg (by simp [e]), this]
          simp
        · have := ih hn.2
          simp only [List.filter_cons, List.length_cons]
          rw [if_pos (by simpa using e)]
          simp only [List.length_cons]
          omega
    have := key l hn
    omega

theorem good_length {n : Nat} {s : List Bool × List Int} (h : Good n s) : s.2.length ≤ n :=
  nodup_le n _ h.once fun x hx => ⟨(h.seen x hx).1, (h.seen x hx).2.1⟩

/-- The nodes that were seen, in order. -/
def seenUpto (seen : List Bool) : Nat → List Int
  | 0 => []
  | k + 1 => if seen[k]? = some true then seenUpto seen k ++ [(k : Int)] else seenUpto seen k
theorem seenUpto_mem (seen : List Bool) : ∀ (k : Nat) (x : Int), x ∈ seenUpto seen k ↔ 0 ≤ x ∧ x < (k : Int) ∧ seen[x.toNat]? = some true
  | 0, x => by simp [seenUpto]; omega
  | k + 1, x => by
    unfold seenUpto
    split
    · rename_i h
      rw [List.mem_append, seenUpto_mem seen k x]
      constructor
      · rintro (⟨h1, h2, h3⟩ | h1)
        · exact ⟨h1, by omega, h3⟩
        · have : x = (k : Int) := by simpa using h1
          subst this
          exact ⟨by omega, by omega, by simpa using h⟩
      · rintro ⟨h1, h2, h3⟩
        by_cases e : x = (k : Int)
        · exact .inr (by simp [e])
        · exact .inl ⟨h1, by omega, h3⟩
    · rename_i h
      rw [seenUpto_mem seen k x]
      constructor
      · rintro ⟨h1, h2, h3⟩; exact ⟨h1, by omega, h3⟩
      · rintro ⟨h1, h2, h3⟩
        refine ⟨h1, ?_, h3⟩
        by_cases e : x = (k : Int)
        · subst e; exact absurd (by simpa using h3) h
        · omega
theorem seenUpto_rising (seen : List Bool) : ∀ k, (seenUpto seen k).Pairwise (· < ·)
  | 0 => List.Pairwise.nil
  | k + 1 => by
    unfold seenUpto
    split
    · refine List.pairwise_append.2 ⟨seenUpto_rising seen k, by simp, fun a ha b hb => ?_⟩
      have h1 := (seenUpto_mem seen k a).1 ha
      have : b = (k : Int) := by simpa using hb
      omega
    · exact seenUpto_rising seen k
theorem seenUpto_length (seen : List Bool) : ∀ k, (seenUpto seen k).length ≤ k
  | 0 => by simp [seenUpto]
  | k + 1 => by
    have := seenUpto_length seen k
    unfold seenUpto
    split <;> simp <;> omega

/-- Closed at a node: its successors are listed. -/
def closedAt (next : List (List Int)) (got : List Int) (x : Int) : Prop := ∀ l, next[x.toNat]? = some l → ∀ y ∈ l, isNode next y → y ∈ got

theorem rch_of_closed {roots : List Int} {next : List (List Int)} {got : List Int} (hr : ∀ x ∈ roots, isNode next x → x ∈ got) (hc : ∀ x ∈ got, closedAt next got x) {x : Int} (h : Rch roots next x) : x ∈ got := by
  induction h with
  | root x h1 h2 => exact hr x h1 h2
  | step x y l _ h2 h3 h4 ih => exact hc x ih l h2 y h3 h4

theorem isReach_of {roots : List Int} {next : List (List Int)} {s : List Bool × List Int} (hg : Good next.length s) (hs : ∀ x ∈ s.2, Rch roots next x) (hr : ∀ x ∈ roots, isNode next x → x ∈ s.2) (hc : ∀ x ∈ s.2, closedAt next s.2 x) :
    IsReach roots next (seenUpto s.1 next.length) := by
  refine ⟨seenUpto_rising _ _, fun x => ?_⟩
  rw [seenUpto_mem]
  constructor
  · rintro ⟨h1, h2, h3⟩
    have := hg.listed x.toNat h3
    rw [Int.toNat_of_nonneg h1] at this
    exact hs x this
  · intro h
    obtain ⟨h1, h2, h3⟩ := hg.seen x (rch_of_closed hr hc h)
    exact ⟨h1, h2, h3⟩
end Go.Proofs.YtmkbaeilfejbjaaDoor
