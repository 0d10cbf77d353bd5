/- law02: the reference: With, Join. -/
import Derived.Test.YtjcbbmibcbiedaaFa
namespace Go.Proofs.Ytjcbbmibcbiedaa
open Go Go.Vc
set_option maxRecDepth 100000

/-- One round of With. -/
def stW (l n : Int) (s : List (Int × Int) × Bool) (p : Int × Int) : List (Int × Int) × Bool :=
  if p.1 ≥ l ∧ s.2 = false then ((if p.1 ≠ l then s.1 ++ [(l, n)] ++ [p] else s.1 ++ [(l, n)]), true)
  else ((if p.1 ≠ l then s.1 ++ [p] else s.1), s.2)
def putW (m : List (Int × Int)) (l n : Int) : List (Int × Int) := match m.foldl (stW l n) ([], false) with
  | (out, true) => out
  | (out, false) => out ++ [(l, n)]
def rWith (m : List (Int × Int)) (l n : Int) : List (Int × Int) := if l < 0 ∨ l ≥ 4096 ∨ n ≤ rAt m l then m else putW m l n

theorem stW_length (l n : Int) : ∀ (m : List (Int × Int)) (s : List (Int × Int) × Bool), (m.foldl (stW l n) s).1.length ≤ s.1.length + m.length + (if s.2 = false then 1 else 0)
  | [], s => by simp
  | p :: m, s => by
    rw [List.foldl_cons]
    have ih := stW_length l n m (stW l n s p)
    rw [List.length_cons]
    obtain ⟨out, b⟩ := s
    unfold stW at ih ⊢
    by_cases h1 : p.1 ≥ l ∧ b = false
    · simp only [h1, and_self, if_true] at ih ⊢
      split at ih <;> simp_all <;> omega
    · simp only [h1, if_false] at ih ⊢
      split at ih <;> simp_all <;> omega

set_option maxHeartbeats 1000000 in
theorem ref_with_spec (S : Store) (p : Hd) (m : List (Int × Int)) (l n : Int) (hl : m.length = p.2.1) (hr : RowRd S p.1 shP m) (hn : m.length ≤ 1000000) :
    Pure Try.prog 17 S [slV p, .int .i64 l, .int .i64 n] (A := Hd) (fun q => .c (.v (slV q))) (fun S' q => q.2.1 = (rWith m l n).length ∧ RowRd S' q.1 shP (rWith m l n)) := by
  obtain ⟨p, k, c⟩ := p
  simp only at hl hr
  subst hl
  refine pure_vc agrees Try.func17 rfl rfl (fun S S' q hle h => ⟨h.1, h.2.le hle⟩) ?_
  have back : (l < 0 ∨ l ≥ 4096 ∨ n ≤ rAt m l) → (m.length = (rWith m l n).length ∧ RowRd S p shP (rWith m l n)) := fun h => by
    rw [rWith, if_pos h]; exact ⟨rfl, hr⟩
  refine And.intro (fun h0 => ?_) (fun h0 => ?_)
  · exact onT (onT ⟨rfl, (p, m.length, c), rfl, back (.inl (of_decide_eq_true h0))⟩)
  refine And.intro (fun h1 => ?_) (fun h1 => ?_)
  · exact onT ⟨rfl, (p, m.length, c), rfl, back (.inr (.inl (of_decide_eq_true h1)))⟩
  refine ⟨⟨_, rfl, rfl, rfl⟩, .inl ⟨_, _, _, ref_at_spec S (p, m.length, c) m l rfl hr hn, fun S1 v hS1 hv => ?_⟩⟩
  have hv : v = rAt m l := hv
  subst hv
  refine And.intro (fun h2 => ?_) (fun h2 => ?_)
  · have := back (.inr (.inr (of_decide_eq_true h2)))
    exact ⟨rfl, (p, m.length, c), rfl, this.1, this.2.le hS1⟩
  have e0 : rWith m l n = putW m l n := by
    rw [rWith, if_neg]
    rintro (h | h | h)
    · exact absurd h (of_decide_eq_false h0)
    · exact absurd h (of_decide_eq_false h1)
    · exact absurd h (of_decide_eq_false h2)
  have hr1 := hr.le hS1
  clear back h0 h1 h2
  refine ⟨[], [(7, shP, 52)], Nat × List (Int × Int) × Bool, List.range' 10 60, fun z => [(9, rI z.1), (8, rB z.2.2)], fun z => [.row shP 52 z.2.1], fun _ => S1, fun z => z.1 ≤ m.length ∧ (m.take z.1).foldl (stW l n) ([], false) = z.2, fun z => m.length - z.1, ?_⟩
  refine And.intro (Exists.intro (0, [], false) (And.intro (And.intro (And.intro ?_ rfl) (And.intro rfl (Store.le_refl _))) ⟨Nat.zero_le _, rfl⟩)) ?_
  · repeat' first | exact trivial | exact rfl | refine And.intro ?_ ?_
  rintro ⟨i, out, b⟩ ⟨hi, hst⟩
  simp only at hi hst
  have hlen := stW_length l n (m.take i) ([], false)
  have htl : (m.take i).length ≤ m.length := by rw [List.length_take]; omega
  have i0 : (0 : Int) ≤ ((i : Nat) : Int) := Int.natCast_nonneg _
  rw [hst] at hlen
  simp only [List.length_nil, if_true] at hlen
  refine And.intro (fun h => ?_) (fun h => ?_)
  · have hil : i < m.length := by
      have : ((i : Nat) : Int) < ((m.length : Nat) : Int) := of_decide_eq_true h
      omega
    have i1 : ((i : Nat) : Int) < ((m.length : Nat) : Int) := by omega
    have hwi : IntKind.i64.wrap (((i : Nat) : Int) + 1) = ((i + 1 : Nat) : Int) := wrap_i64 (by omega) (by omega)
    have hx : m[i]? = some m[i] := List.getElem?_eq_getElem hil
    obtain ⟨x, hxx⟩ : ∃ x, m[i] = x := ⟨_, rfl⟩
    rw [hxx] at hx
    have hst' : (m.take (i + 1)).foldl (stW l n) ([], false) = stW l n (out, b) x := by
      rw [List.take_add_one, hx, List.foldl_append, hst]; rfl
    obtain ⟨b1, o, hp, hok, hrd⟩ := row_at hr1 hx
    refine ⟨i0, i1, b1, o, hp, x.1, trivial, rd_field hrd rfl, ?_⟩
    refine And.intro (fun h0 => ?_) (fun h0 => ?_)
    · have h0' : x.1 ≥ l := of_decide_eq_true h0
      cases b
      · refine onT ?_
        refine ⟨[(l, n)], ⟨rfl, rfl⟩, fun _ _ => ⟨trivial, trivial⟩, by show (out.length + 1) * 16 ≤ 140737488355328; omega, ?_⟩
        refine ⟨i0, i1, b1, o, hp, x.1, trivial, rd_field hrd rfl, ?_⟩
        refine And.intro (fun h2 => ?_) (fun h2 => ?_)
        · have h2' : x.1 ≠ l := by simpa using h2
          refine ⟨i0, i1, b1, o, hp, x, ⟨trivial, trivial⟩, hrd, [x], ⟨rfl, rfl⟩, fun _ _ => ⟨trivial, trivial⟩, by show ((out ++ [(l, n)]).length + 1) * 16 ≤ 140737488355328; (try rw [List.length_append, List.length_singleton]); omega, ((i + 1 : Nat) : Int), hwi, (i + 1, out ++ [(l, n)] ++ [x], true), ⟨⟨?_, rfl⟩, rfl, Store.le_refl _⟩, ⟨hil, ?_⟩, ?_⟩
          · repeat' first | exact trivial | exact rfl | refine And.intro ?_ ?_
          · show (m.take (i + 1)).foldl (stW l n) ([], false) = (out ++ [(l, n)] ++ [x], true)
            rw [hst', stW]
            simp [h0', h2']
          · show m.length - (i + 1) < m.length - i
            omega
        · have h2' : x.1 = l := by simpa using h2
          refine ⟨((i + 1 : Nat) : Int), hwi, (i + 1, out ++ [(l, n)], true), ⟨⟨?_, rfl⟩, rfl, Store.le_refl _⟩, ⟨hil, ?_⟩, ?_⟩
          · repeat' first | exact trivial | exact rfl | refine And.intro ?_ ?_
          · show (m.take (i + 1)).foldl (stW l n) ([], false) = (out ++ [(l, n)], true)
            rw [hst', stW]
            simp [h0', h2']
          · show m.length - (i + 1) < m.length - i
            omega
      · refine onF ?_
        refine ⟨i0, i1, b1, o, hp, x.1, trivial, rd_field hrd rfl, ?_⟩
        refine And.intro (fun h2 => ?_) (fun h2 => ?_)
        · have h2' : x.1 ≠ l := by simpa using h2
          refine ⟨i0, i1, b1, o, hp, x, ⟨trivial, trivial⟩, hrd, [x], ⟨rfl, rfl⟩, fun _ _ => ⟨trivial, trivial⟩, by show ((out).length + 1) * 16 ≤ 140737488355328; (try rw [List.length_append, List.length_singleton]); omega, ((i + 1 : Nat) : Int), hwi, (i + 1, out ++ [x], true), ⟨⟨?_, rfl⟩, rfl, Store.le_refl _⟩, ⟨hil, ?_⟩, ?_⟩
          · repeat' first | exact trivial | exact rfl | refine And.intro ?_ ?_
          · show (m.take (i + 1)).foldl (stW l n) ([], false) = (out ++ [x], true)
            rw [hst', stW]
            simp [h2']
          · show m.length - (i + 1) < m.length - i
            omega
        · have h2' : x.1 = l := by simpa using h2
          refine ⟨((i + 1 : Nat) : Int), hwi, (i + 1, out, true), ⟨⟨?_, rfl⟩, rfl, Store.le_refl _⟩, ⟨hil, ?_⟩, ?_⟩
          · repeat' first | exact trivial | exact rfl | refine And.intro ?_ ?_
          · show (m.take (i + 1)).foldl (stW l n) ([], false) = (out, true)
            rw [hst', stW]
            simp [h2']
          · show m.length - (i + 1) < m.length - i
            omega
    · have h0' : ¬ x.1 ≥ l := of_decide_eq_false h0
      refine onF ?_
      refine ⟨i0, i1, b1, o, hp, x.1, trivial, rd_field hrd rfl, ?_⟩
      refine And.intro (fun h2 => ?_) (fun h2 => ?_)
      · have h2' : x.1 ≠ l := by simpa using h2
        refine ⟨i0, i1, b1, o, hp, x, ⟨trivial, trivial⟩, hrd, [x], ⟨rfl, rfl⟩, fun _ _ => ⟨trivial, trivial⟩, by show ((out).length + 1) * 16 ≤ 140737488355328; (try rw [List.length_append, List.length_singleton]); omega, ((i + 1 : Nat) : Int), hwi, (i + 1, out ++ [x], b), ⟨⟨?_, rfl⟩, rfl, Store.le_refl _⟩, ⟨hil, ?_⟩, ?_⟩
        · repeat' first | exact trivial | exact rfl | refine And.intro ?_ ?_
        · show (m.take (i + 1)).foldl (stW l n) ([], false) = (out ++ [x], b)
          rw [hst', stW]
          simp [h0', h2']
        · show m.length - (i + 1) < m.length - i
          omega
      · have h2' : x.1 = l := by simpa using h2
        refine ⟨((i + 1 : Nat) : Int), hwi, (i + 1, out, b), ⟨⟨?_, rfl⟩, rfl, Store.le_refl _⟩, ⟨hil, ?_⟩, ?_⟩
        · repeat' first | exact trivial | exact rfl | refine And.intro ?_ ?_
        · exact absurd (show x.1 ≥ l by omega) h0'
        · show m.length - (i + 1) < m.length - i
          omega
  · have hil : i = m.length := by
      have : ¬ ((i : Nat) : Int) < ((m.length : Nat) : Int) := of_decide_eq_false h
      omega
    rw [hil, List.take_length] at hst
    have e1 : putW m l n = if b = true then out else out ++ [(l, n)] := by rw [putW, hst]; clear hst h; cases b <;> rfl
    rw [← e0] at e1
    rw [e1]
    cases b
    · refine onT ⟨[(l, n)], ⟨rfl, rfl⟩, fun _ _ => ⟨trivial, trivial⟩, by show (out.length + 1) * 16 ≤ 140737488355328; omega, ?_⟩
      exact fun p' c' S' hle hr' hpf => ⟨rfl, (p', (out ++ [(l, n)]).length, c'), rfl, rfl, hr'⟩
    · exact onF fun p' c' S' hle hr' hpf => ⟨rfl, (p', out.length, c'), rfl, rfl, hr'⟩
end Go.Proofs.Ytjcbbmibcbiedaa
