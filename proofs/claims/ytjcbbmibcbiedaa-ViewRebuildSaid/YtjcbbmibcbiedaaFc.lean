/- law02: the reference: Join; what With does to a sorted list. -/
import Derived.Test.YtjcbbmibcbiedaaFb
namespace Go.Proofs.Ytjcbbmibcbiedaa
open Go Go.Vc
set_option maxRecDepth 100000

def rJoin (a b : List (Int × Int)) : List (Int × Int) := b.foldl (fun out p => rWith out p.1 p.2) a

theorem stW_length2 (l n : Int) : ∀ (m : List (Int × Int)) (s : List (Int × Int) × Bool), (m.foldl (stW l n) s).1.length + (if (m.foldl (stW l n) s).2 = false then 1 else 0) ≤ s.1.length + m.length + (if s.2 = false then 1 else 0)
  | [], s => by show s.1.length + _ ≤ s.1.length + 0 + _; exact Nat.le_refl _
  | p :: m, s => by
    rw [List.foldl_cons]
    have ih := stW_length2 l n m (stW l n s p)
    rw [List.length_cons]
    obtain ⟨out, b⟩ := s
    refine Nat.le_trans ih ?_
    clear ih
    unfold stW
    by_cases h1 : p.1 ≥ l ∧ b = false
    · simp only [h1, and_self, if_true]
      split <;> simp <;> omega
    · simp only [h1, if_false]
      split <;> simp <;> omega

theorem putW_length (m : List (Int × Int)) (l n : Int) : (putW m l n).length ≤ m.length + 1 := by
  have h := stW_length2 l n m ([], false)
  unfold putW
  split
  · rename_i out hs
    rw [hs] at h
    simpa using h
  · rename_i out hs
    rw [hs] at h
    simpa using h
theorem rWith_length (m : List (Int × Int)) (l n : Int) : (rWith m l n).length ≤ m.length + 1 := by
  unfold rWith
  split
  · omega
  · exact putW_length m l n
theorem rJoin_length (a : List (Int × Int)) : ∀ b : List (Int × Int), (rJoin a b).length ≤ a.length + b.length := by
  intro b
  induction b generalizing a with
  | nil => simp [rJoin]
  | cons p b ih =>
    have h1 := ih (rWith a p.1 p.2)
    have h2 := rWith_length a p.1 p.2
    simp only [rJoin, List.foldl_cons, List.length_cons] at h1 ⊢
    omega

set_option maxHeartbeats 1000000 in
theorem ref_join_spec (S : Store) (p q : Hd) (a b : List (Int × Int)) (hl : a.length = p.2.1) (hr : RowRd S p.1 shP a) (hm : b.length = q.2.1) (hr' : RowRd S q.1 shP b) (hn : a.length ≤ 100000) (hn' : b.length ≤ 100000) :
    Pure Try.prog 21 S [slV p, slV q] (A := Hd) (fun q => .c (.v (slV q))) (fun S' q => q.2.1 = (rJoin a b).length ∧ RowRd S' q.1 shP (rJoin a b)) := by
  obtain ⟨q, k, c⟩ := q
  simp only at hm hr'
  subst hm
  refine pure_vc agrees Try.func21 rfl rfl (fun S S' q hle h => ⟨h.1, h.2.le hle⟩) ?_
  refine ⟨[], [], Nat × Hd × Store, List.range' 7 60, fun z => [(6, rI z.1), (5, .c (.v (slV z.2.1)))], fun _ => [], fun z => z.2.2,
    fun z => z.1 ≤ b.length ∧ S.le z.2.2 ∧ z.2.1.2.1 = (rJoin a (b.take z.1)).length ∧ RowRd z.2.2 z.2.1.1 shP (rJoin a (b.take z.1)), fun z => b.length - z.1, ?_⟩
  refine And.intro (Exists.intro (0, p, S) (And.intro (And.intro (And.intro ?_ rfl) (And.intro rfl (Store.le_refl _))) ⟨Nat.zero_le _, Store.le_refl _, hl.symm, hr⟩)) ?_
  · repeat' first | exact trivial | exact rfl | refine And.intro ?_ ?_
  rintro ⟨i, u, T⟩ ⟨hi, hT, hul, hur⟩
  simp only at hi hT hul hur
  have hjl := rJoin_length a (b.take i)
  have htl : (b.take i).length ≤ b.length := by rw [List.length_take]; omega
  have i0 : (0 : Int) ≤ ((i : Nat) : Int) := Int.natCast_nonneg _
  refine And.intro (fun h => ?_) (fun h => ?_)
  · have hil : i < b.length := by
      have : ((i : Nat) : Int) < ((b.length : Nat) : Int) := of_decide_eq_true h
      omega
    have i1 : ((i : Nat) : Int) < ((b.length : Nat) : Int) := by omega
    have hx : b[i]? = some b[i] := List.getElem?_eq_getElem hil
    obtain ⟨x, hxx⟩ : ∃ x, b[i] = x := ⟨_, rfl⟩
    rw [hxx] at hx
    have hst : rJoin a (b.take (i + 1)) = rWith (rJoin a (b.take i)) x.1 x.2 := by
      rw [rJoin, List.take_add_one, hx, List.foldl_append]; rfl
    obtain ⟨b1, o, hp, hok, hrd⟩ := row_at (hr'.le hT) hx
    refine ⟨or21_5, [], oF21_5, by kernel_rfl, ?_⟩
    refine ⟨i0, i1, b1, o, hp, x.1, trivial, rd_field hrd rfl, i0, i1, b1, o, hp, x.2, trivial, rd_field hrd rfl, ⟨_, rfl, rfl, rfl⟩, .inl ⟨_, _, _, ref_with_spec T u (rJoin a (b.take i)) x.1 x.2 hul.symm hur (by omega), fun T1 v hT1 hv => ?_⟩⟩
    have hv : v.2.1 = (rWith (rJoin a (b.take i)) x.1 x.2).length ∧ RowRd T1 v.1 shP (rWith (rJoin a (b.take i)) x.1 x.2) := hv
    rw [← hst] at hv
    refine ⟨((i + 1 : Nat) : Int), wrap_i64 (by omega) (by omega), (i + 1, v, T1), ⟨⟨?_, rfl⟩, rfl, Store.le_refl _⟩, ⟨hil, Store.le_trans hT hT1, hv.1, hv.2⟩, ?_⟩
    · repeat' first | exact trivial | exact rfl | refine And.intro ?_ ?_
    · show b.length - (i + 1) < b.length - i
      omega
  · have hil : i = b.length := by
      have : ¬ ((i : Nat) : Int) < ((b.length : Nat) : Int) := of_decide_eq_false h
      omega
    rw [hil, List.take_length] at hul hur
    exact ⟨rfl, u, rfl, hul, hur⟩
end Go.Proofs.Ytjcbbmibcbiedaa
