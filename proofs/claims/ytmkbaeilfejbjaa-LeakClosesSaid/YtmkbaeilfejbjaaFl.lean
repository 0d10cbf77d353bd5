/- law16: the laws Tells and Reaches say true. -/
import Derived.Test.YtmkbaeilfejbjaaFk
import Derived.Test.YtmkbaeilfejbjaaFd
namespace Go.Proofs.Ytmkbaeilfejbjaa
open Go Go.Vc
set_option maxRecDepth 100000

set_option maxHeartbeats 4000000 in
theorem law_tell (S : Store) (p q : Hd) (a b : List Int) (hl : a.length = p.2.1) (hr : RowRd S p.1 shI a) (hm : b.length = q.2.1) (hr' : RowRd S q.1 shI b) :
    Pure Try.prog 5 S [slV p, slV q] rB (fun _ x => x = true) := by
  obtain ⟨p, n, c⟩ := p
  obtain ⟨q, n', c'⟩ := q
  simp only at hl hr hm hr'
  subst hl hm
  refine pure_vc agrees Try.func5 rfl rfl (fun S S' q hle h => h) ?_
  refine And.intro (fun h0 => ?_) (fun h0 => ?_)
  · refine onT ⟨⟨_, rfl, rfl, rfl⟩, .inl ⟨_, _, _, awake_spec S, fun S1 x hS1 hx => ⟨rfl, x, rfl, hx⟩⟩⟩
  have h0' : ¬ ((a.length : Nat) : Int) > 60 := of_decide_eq_false h0
  refine And.intro (fun h1 => ?_) (fun h1 => ?_)
  · exact ⟨⟨_, rfl, rfl, rfl⟩, .inl ⟨_, _, _, awake_spec S, fun S1 x hS1 hx => ⟨rfl, x, rfl, hx⟩⟩⟩
  have h1' : ¬ ((b.length : Nat) : Int) > 60 := of_decide_eq_false h1
  have ha : a.length ≤ 1000000 := by omega
  have hb : b.length ≤ 1000000 := by omega
  refine ⟨⟨_, rfl, rfl, rfl⟩, .inl ⟨_, _, _, lost_spec S (p, a.length, c) (q, b.length, c') a b rfl hr rfl hr' ha hb, fun S1 u hS1 hu => ?_⟩⟩
  have hu : u.2.1 = (lessOf a b).length ∧ RowRd S1 u.1 shI (lessOf a b) := hu
  rw [lessOf_rising] at hu
  refine ⟨⟨_, rfl, rfl, rfl⟩, .inl ⟨_, _, _, ref_less_spec S1 (p, a.length, c) (q, b.length, c') a b rfl (hr.le hS1) rfl (hr'.le hS1) ha hb, fun S2 v hS2 hv => ?_⟩⟩
  have hv : v.2.1 = (rising (a.filter fun n => decide (n ∉ b))).length ∧ RowRd S2 v.1 shI (rising (a.filter fun n => decide (n ∉ b))) := hv
  have hfl : (rising (a.filter fun n => decide (n ∉ b))).length ≤ 1000000 := by
    have e1 := rising_length (a.filter fun n => decide (n ∉ b))
    have e2 := List.length_filter_le (fun n => decide (n ∉ b)) a
    omega
  refine ⟨⟨_, rfl, rfl, rfl⟩, .inl ⟨_, _, _, same_spec S2 u v _ _ hu.1.symm (hu.2.le hS2) hv.1.symm hv.2 hfl, fun S3 x hS3 hx => ?_⟩⟩
  have hx : x = true := by rw [show x = decide _ from hx]; exact decide_eq_true rfl
  subst hx
  have h13 := Store.le_trans hS1 (Store.le_trans hS2 hS3)
  refine onT ⟨⟨_, rfl, rfl, rfl⟩, .inl ⟨_, _, _, wild_spec S3 (p, a.length, c) (q, b.length, c') a b rfl (hr.le h13) rfl (hr'.le h13) ha hb, fun S4 u2 hS4 hu2 => ?_⟩⟩
  have hu2 : u2.2.1 = (lessOf b a).length ∧ RowRd S4 u2.1 shI (lessOf b a) := hu2
  rw [lessOf_rising] at hu2
  have h14 := Store.le_trans h13 hS4
  refine ⟨⟨_, rfl, rfl, rfl⟩, .inl ⟨_, _, _, ref_less_spec S4 (q, b.length, c') (p, a.length, c) b a rfl (hr'.le h14) rfl (hr.le h14) hb ha, fun S5 v2 hS5 hv2 => ?_⟩⟩
  have hv2 : v2.2.1 = (rising (b.filter fun n => decide (n ∉ a))).length ∧ RowRd S5 v2.1 shI (rising (b.filter fun n => decide (n ∉ a))) := hv2
  have hfl2 : (rising (b.filter fun n => decide (n ∉ a))).length ≤ 1000000 := by
    have e1 := rising_length (b.filter fun n => decide (n ∉ a))
    have e2 := List.length_filter_le (fun n => decide (n ∉ a)) b
    omega
  refine ⟨⟨_, rfl, rfl, rfl⟩, .inl ⟨_, _, _, same_spec S5 u2 v2 _ _ hu2.1.symm (hu2.2.le hS5) hv2.1.symm hv2.2 hfl2, fun S6 x hS6 hx => ?_⟩⟩
  have hx : x = true := by rw [show x = decide _ from hx]; exact decide_eq_true rfl
  subst hx
  refine onT ⟨⟨_, rfl, rfl, rfl⟩, .inl ⟨_, _, _, awake_spec S6, fun S7 x hS7 hx => ⟨rfl, x, rfl, hx⟩⟩⟩

set_option maxHeartbeats 4000000 in
theorem law_reach (S : Store) (p q : Hd) (roots : List Int) (hs : List Hd) (next : List (List Int)) (hl : roots.length = p.2.1) (hr : RowRd S p.1 shI roots) (hm : hs.length = q.2.1) (hr' : RowRd S q.1 .slice hs) (hrs : RowsRd S shI hs next) :
    Pure Try.prog 3 S [slV p, slV q] rB (fun _ x => x = true) := by
  refine pure_vc agrees Try.func3 rfl rfl (fun S S' q hle h => h) ?_
  refine ⟨⟨_, rfl, rfl, rfl⟩, .inl ⟨_, _, _, great_spec S p q roots hs next hl hm hr' hrs, fun S1 x hS1 hx => ?_⟩⟩
  refine And.intro (fun h0 => ?_) (fun h0 => ?_)
  · exact ⟨⟨_, rfl, rfl, rfl⟩, .inl ⟨_, _, _, awake_spec S1, fun S1 x hS1 hx => ⟨rfl, x, rfl, hx⟩⟩⟩
  obtain ⟨g1, g2, g3⟩ := hx h0
  have g4 : ∀ l ∈ next, l.length ≤ 1000000 := fun l hl => Nat.le_trans (g3 l hl) (by omega)
  refine ⟨⟨_, rfl, rfl, rfl⟩, .inl ⟨_, _, _, reach_spec S1 p q roots hs next hl (hr.le hS1) hm (hr'.le hS1) (hrs.le hS1) (by omega) (by omega) g4, fun S2 u hS2 hu => ?_⟩⟩
  have hu : u.1.2.1 = u.2.length ∧ RowRd S2 u.1.1 shI u.2 ∧ IsReach roots next u.2 := hu
  have h12 := Store.le_trans hS1 hS2
  refine ⟨⟨_, rfl, rfl, rfl⟩, .inl ⟨_, _, _, ref_reach_spec S2 p q roots hs next hl (hr.le h12) hm (hr'.le h12) (hrs.le h12) (by omega) (by omega) g4, fun S3 v hS3 hv => ?_⟩⟩
  have hv : v.1.2.1 = v.2.length ∧ RowRd S3 v.1.1 shI v.2 ∧ IsReach roots next v.2 := hv
  have e : u.2 = v.2 := isReach_unique hu.2.2 hv.2.2
  have hlen : u.2.length ≤ 1000000 := by
    have := nodup_le next.length u.2 (hu.2.2.1.imp fun h => by omega) (fun x hx => ((hu.2.2.2 x).1 hx).node)
    omega
  refine ⟨⟨_, rfl, rfl, rfl⟩, .inl ⟨_, _, _, same_spec S3 u.1 v.1 u.2 v.2 hu.1.symm (hu.2.1.le hS3) hv.1.symm hv.2.1 hlen, fun S4 x hS4 hx => ?_⟩⟩
  have hx : x = true := by rw [show x = decide _ from hx]; exact decide_eq_true e
  subst hx
  exact onT ⟨⟨_, rfl, rfl, rfl⟩, .inl ⟨_, _, _, awake_spec S4, fun S7 x hS7 hx => ⟨rfl, x, rfl, hx⟩⟩⟩
end Go.Proofs.Ytmkbaeilfejbjaa
