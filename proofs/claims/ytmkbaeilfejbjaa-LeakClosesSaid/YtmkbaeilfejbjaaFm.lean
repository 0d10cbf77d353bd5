/- law16: the law Joins says true. -/
import Derived.Test.YtmkbaeilfejbjaaFl
namespace Go.Proofs.Ytmkbaeilfejbjaa
open Go Go.Vc
set_option maxRecDepth 100000

theorem reach_length {roots : List Int} {next : List (List Int)} {l : List Int} (h : IsReach roots next l) : l.length ≤ next.length :=
  nodup_le next.length l (h.1.imp fun h => by omega) (fun x hx => ((h.2 x).1 hx).node)

/-- What is reached from two sets is reached from either. -/
theorem rch_join {a b : List Int} {next : List (List Int)} {x : Int} : Rch (a ++ b) next x ↔ Rch a next x ∨ Rch b next x := by
  constructor
  · intro h
    induction h with
    | root x h1 h2 =>
      rcases List.mem_append.1 h1 with h1 | h1
      · exact .inl (.root x h1 h2)
      · exact .inr (.root x h1 h2)
    | step x y l _ h2 h3 h4 ih =>
      rcases ih with ih | ih
      · exact .inl (.step x y l ih h2 h3 h4)
      · exact .inr (.step x y l ih h2 h3 h4)
  · rintro (h | h)
    · induction h with
      | root x h1 h2 => exact .root x (List.mem_append_left _ h1) h2
      | step x y l _ h2 h3 h4 ih => exact .step x y l ih h2 h3 h4
    · induction h with
      | root x h1 h2 => exact .root x (List.mem_append_right _ h1) h2
      | step x y l _ h2 h3 h4 ih => exact .step x y l ih h2 h3 h4

/-- Nothing is left of a part. -/
theorem less_none {a b : List Int} (h : ∀ x ∈ a, x ∈ b) : lessOf a b = [] := by
  rw [lessOf_rising, List.filter_eq_nil_iff.2]
  · rfl
  · intro x hx
    simp [h x hx]

set_option maxHeartbeats 1000000 in
theorem law_join (S : Store) (p p2 q : Hd) (a b : List Int) (hs : List Hd) (next : List (List Int)) (hl : a.length = p.2.1) (hr : RowRd S p.1 shI a) (hl2 : b.length = p2.2.1) (hr2 : RowRd S p2.1 shI b) (hm : hs.length = q.2.1) (hr' : RowRd S q.1 .slice hs) (hrs : RowsRd S shI hs next) :
    Pure Try.prog 6 S [slV p, slV p2, slV q] rB (fun _ x => x = true) := by
  refine pure_vc agrees Try.func6 rfl rfl (fun S S' q hle h => h) ?_
  refine ⟨⟨_, rfl, rfl, rfl⟩, .inl ⟨_, _, _, great_spec S p q a hs next hl hm hr' hrs, fun S1 x hS1 hx => ?_⟩⟩
  refine And.intro (fun h0 => ?_) (fun h0 => ?_)
  · subst h0
    exact onT ⟨⟨_, rfl, rfl, rfl⟩, .inl ⟨_, _, _, awake_spec S1, fun S1 x hS1 hx => ⟨rfl, x, rfl, hx⟩⟩⟩
  subst h0
  obtain ⟨g1, g2, g3⟩ := hx rfl
  have g4 : ∀ l ∈ next, l.length ≤ 1000000 := fun l hl => Nat.le_trans (g3 l hl) (by omega)
  refine And.intro (fun h1 => ?_) (fun h1 => ?_)
  · exact ⟨⟨_, rfl, rfl, rfl⟩, .inl ⟨_, _, _, awake_spec S1, fun S1 x hS1 hx => ⟨rfl, x, rfl, hx⟩⟩⟩
  have h1' : ¬ ((p2.2.1 : Nat) : Int) > 24 := of_decide_eq_false h1
  have g5 : b.length ≤ 24 := by omega
  refine ⟨⟨_, rfl, rfl, rfl⟩, .inl ⟨_, _, _, reach_spec S1 p q a hs next hl (hr.le hS1) hm (hr'.le hS1) (hrs.le hS1) (by omega) (by omega) g4, fun S2 u hS2 hu => ?_⟩⟩
  have hu : u.1.2.1 = u.2.length ∧ RowRd S2 u.1.1 shI u.2 ∧ IsReach a next u.2 := hu
  have h12 := Store.le_trans hS1 hS2
  refine ⟨⟨_, rfl, rfl, rfl⟩, .inl ⟨_, _, _, reach_spec S2 p2 q b hs next hl2 (hr2.le h12) hm (hr'.le h12) (hrs.le h12) (by omega) (by omega) g4, fun S3 v hS3 hv => ?_⟩⟩
  have hv : v.1.2.1 = v.2.length ∧ RowRd S3 v.1.1 shI v.2 ∧ IsReach b next v.2 := hv
  have h13 := Store.le_trans h12 hS3
  have hul := reach_length hu.2.2
  have hvl := reach_length hv.2.2
  refine ⟨a, src_of hl.symm (hr.le h13), fun _ _ => trivial, by show ([].length + a.length) * 8 ≤ 140737488355328; rw [List.length_nil]; omega, ?_⟩
  refine ⟨b, src_of hl2.symm (hr2.le h13), fun _ _ => trivial, by show (([] ++ a).length + b.length) * 8 ≤ 140737488355328; rw [List.nil_append]; omega, ?_⟩
  refine ⟨⟨_, rfl, rfl, rfl⟩, .inl fun p4 c4 S4 hS4 hr4 f4 => ⟨_, _, _, reach_spec S4 (p4, _, c4) q _ hs next rfl hr4 hm (hr'.le (Store.le_trans h13 hS4)) (hrs.le (Store.le_trans h13 hS4)) (show (a ++ b).length ≤ 1000000 by rw [List.length_append]; omega) (by omega) g4, fun S5 w hS5 hw => ?_⟩⟩
  have hw : w.1.2.1 = w.2.length ∧ RowRd S5 w.1.1 shI w.2 ∧ IsReach (a ++ b) next w.2 := hw
  have h35 := Store.le_trans hS4 hS5
  have hwl := reach_length hw.2.2
  refine ⟨u.2, src_of hu.1 (hu.2.1.le (Store.le_trans hS3 h35)), fun _ _ => trivial, by show ([].length + u.2.length) * 8 ≤ 140737488355328; rw [List.length_nil]; omega, ?_⟩
  refine ⟨v.2, src_of hv.1 (hv.2.1.le h35), fun _ _ => trivial, by show (([] ++ u.2).length + v.2.length) * 8 ≤ 140737488355328; rw [List.nil_append]; omega, ?_⟩
  refine ⟨⟨_, rfl, rfl, rfl⟩, .inl fun p6 c6 S6 hS6 hr6 f6 => ⟨_, _, _, rising_spec S6 (p6, _, c6) _ rfl hr6 (show (u.2 ++ v.2).length ≤ 1000000 by rw [List.length_append]; omega), fun S7 z hS7 hz => ?_⟩⟩
  have hz : z.2.1 = (rising (u.2 ++ v.2)).length ∧ RowRd S7 z.1 shI (rising (u.2 ++ v.2)) := hz
  have hwr := hw.2.1.le (Store.le_trans hS6 hS7)
  refine ⟨⟨_, rfl, rfl, rfl⟩, .inl ⟨_, _, _, same_spec S7 w.1 z w.2 _ hw.1.symm hwr hz.1.symm hz.2 (by omega), fun S8 x hS8 hx => ?_⟩⟩
  have e : w.2 = rising (u.2 ++ v.2) := by
    refine strict_ext hw.2.2.1 (rising_strict _) fun y => ?_
    rw [hw.2.2.2, mem_rising, List.mem_append, hu.2.2.2, hv.2.2.2, rch_join]
  have hx : x = true := by rw [show x = decide _ from hx]; exact decide_eq_true e
  subst hx
  have hle : ∀ {y : Nat}, y ≤ next.length → y ≤ 1000000 := fun h => by omega
  refine onT ⟨⟨_, rfl, rfl, rfl⟩, .inl ⟨_, _, _, lost_spec S8 u.1 w.1 u.2 w.2 hu.1.symm (hu.2.1.le (Store.le_trans (Store.le_trans hS3 h35) (Store.le_trans hS6 (Store.le_trans hS7 hS8)))) hw.1.symm (hwr.le hS8) (hle hul) (hle hwl), fun S9 z1 hS9 hz1 => ?_⟩⟩
  rw [less_none fun x hx => (hw.2.2.2 x).2 (rch_join.2 (.inl ((hu.2.2.2 x).1 hx)))] at hz1
  have e9 : z1.2.1 = 0 := hz1.1
  refine And.intro (fun _ => ?_) (fun h => absurd h (by rw [show ((z1.2.1 : Nat) : Int) = 0 by rw [e9]; rfl]; decide))
  refine ⟨⟨_, rfl, rfl, rfl⟩, .inl ⟨_, _, _, wild_spec S9 w.1 v.1 w.2 v.2 hw.1.symm (hwr.le (Store.le_trans hS8 hS9)) hv.1.symm (hv.2.1.le (Store.le_trans h35 (Store.le_trans hS6 (Store.le_trans hS7 (Store.le_trans hS8 hS9))))) (hle hwl) (hle hvl), fun S10 z2 hS10 hz2 => ?_⟩⟩
  rw [less_none fun x hx => (hw.2.2.2 x).2 (rch_join.2 (.inr ((hv.2.2.2 x).1 hx)))] at hz2
  have e10 : z2.2.1 = 0 := hz2.1
  refine And.intro (fun _ => ?_) (fun h => absurd h (by rw [show ((z2.2.1 : Nat) : Int) = 0 by rw [e10]; rfl]; decide))
  exact ⟨⟨_, rfl, rfl, rfl⟩, .inl ⟨_, _, _, awake_spec S10, fun S7 x hS7 hx => ⟨rfl, x, rfl, hx⟩⟩⟩
end Go.Proofs.Ytmkbaeilfejbjaa
