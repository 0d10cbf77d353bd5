/- law02: the laws Tells, Adds, Joins say true. -/
import Derived.Test.YtjcbbmibcbiedaaFj
namespace Go.Proofs.Ytjcbbmibcbiedaa
open Go Go.Vc Go.Sort Go.RowKit Go.Maps
set_option maxRecDepth 100000

set_option maxHeartbeats 1000000 in
theorem law_tell (S : Store) (p : Hd) (l : List (Int × Int)) (at_ : Int) (hl : l.length = p.2.1) (hr : RowRd S p.1 shP l) :
    Pure Try.prog 3 S [slV p, .int .i64 at_] rB (fun _ x => x = true) := by
  refine pure_vc agrees Try.func3 rfl rfl (fun S S' q hle h => h) ?_
  refine ⟨⟨_, rfl, rfl, rfl⟩, .inl ⟨_, _, _, great_spec S p, fun S1 g hS1 hg => ?_⟩⟩
  refine And.intro (fun h0 => ?_) (fun h0 => ?_)
  · exact ⟨⟨_, rfl, rfl, rfl⟩, .inl ⟨_, _, _, awake_spec S1, fun S1 x hS1 hx => ⟨rfl, x, rfl, hx⟩⟩⟩
  have hg : g = decide (((p.2.1 : Nat) : Int) > 100) := hg
  rw [h0] at hg
  have hn : ¬ ((p.2.1 : Nat) : Int) > 100 := of_decide_eq_false hg.symm
  have hl1 : l.length ≤ 100 := by omega
  have hml := made_length l
  refine ⟨⟨_, rfl, rfl, rfl⟩, .inl ⟨_, _, _, made_spec S1 p l hl (hr.le hS1) (by omega), fun S2 z hS2 hz => ?_⟩⟩
  obtain ⟨v, m⟩ := z
  obtain ⟨hv, hml2, hmr⟩ : VIs S2 v (made l) ∧ m.2.1 = (made l).length ∧ RowRd S2 m.1 shP (made l) := hz
  refine ⟨⟨_, rfl, rfl, rfl⟩, .inl ⟨_, _, _, is_spec S2 v (made l) m (made l) hv (by omega) hml2.symm hmr, fun S3 x hS3 hx => ?_⟩⟩
  have hx : x = true := by rw [show x = decide _ from hx]; exact decide_eq_true rfl
  subst hx
  refine onT ⟨⟨_, rfl, rfl, rfl⟩, .inl ⟨_, _, _, at_spec S3 v (made l) at_ (hv.le hS3), fun S4 x hS4 hx => ?_⟩⟩
  have hx : x = rAt (made l) at_ := hx
  subst hx
  refine ⟨⟨_, rfl, rfl, rfl⟩, .inl ⟨_, _, _, ref_at_spec S4 m (made l) at_ hml2.symm (hmr.le (Store.le_trans hS3 hS4)) (by omega), fun S5 x hS5 hx => ?_⟩⟩
  have hx : x = rAt (made l) at_ := hx
  subst hx
  exact onE (beq_self_eq_true _) ⟨⟨_, rfl, rfl, rfl⟩, .inl ⟨_, _, _, awake_spec S5, fun S1 x hS1 hx => ⟨rfl, x, rfl, hx⟩⟩⟩

theorem with_ge {m : List (Int × Int)} (h : SP m) (l n x : Int) : rAt m x ≤ rAt (rWith m l n) x := by
  rw [rAt_with h]
  split
  · rename_i hc
    rw [hc.1]; omega
  · omega
theorem below_iff {a b : List (Int × Int)} (ha : SP a) (hb : SP b) : rBelow a b = true ↔ ∀ x, rAt a x ≤ rAt b x := by
  rw [rBelow, List.all_eq_true]
  constructor
  · intro h x
    by_cases hx : rAt a x = 0
    · rw [hx]; exact rAt_nonneg hb x
    · have := h _ (mem_of_rAt hx)
      simpa using this
  · intro h p hp
    have := h p.1
    rw [rAt_of_mem ha.nodup hp] at this
    exact decide_eq_true this

set_option maxHeartbeats 1000000 in
theorem law_add (S : Store) (p : Hd) (l : List (Int × Int)) (o : Int × Int) (at_ : Int) (hl : l.length = p.2.1) (hr : RowRd S p.1 shP l) :
    Pure Try.prog 4 S [slV p, .agg #[.int .i64 o.1, .int .i64 o.2], .int .i64 at_] rB (fun _ x => x = true) := by
  refine pure_vc agrees Try.func4 rfl rfl (fun S S' q hle h => h) ?_
  refine ⟨⟨_, rfl, rfl, rfl⟩, .inl ⟨_, _, _, great_spec S p, fun S1 g hS1 hg => ?_⟩⟩
  refine And.intro (fun h0 => ?_) (fun h0 => ?_)
  · exact ⟨⟨_, rfl, rfl, rfl⟩, .inl ⟨_, _, _, awake_spec S1, fun S1 x hS1 hx => ⟨rfl, x, rfl, hx⟩⟩⟩
  have hg : g = decide (((p.2.1 : Nat) : Int) > 100) := hg
  rw [h0] at hg
  have hn : ¬ ((p.2.1 : Nat) : Int) > 100 := of_decide_eq_false hg.symm
  have hl1 : l.length ≤ 100 := by omega
  have hml := made_length l
  refine ⟨⟨_, rfl, rfl, rfl⟩, .inl ⟨_, _, _, made_spec S1 p l hl (hr.le hS1) (by omega), fun S2 z hS2 hz => ?_⟩⟩
  obtain ⟨v, m⟩ := z
  obtain ⟨hv, hml2, hmr⟩ : VIs S2 v (made l) ∧ m.2.1 = (made l).length ∧ RowRd S2 m.1 shP (made l) := hz
  refine ⟨⟨_, rfl, rfl, rfl⟩, .inl ⟨_, _, _, with_spec S2 v (made l) o.1 o.2 hv, fun S3 w hS3 hw => ?_⟩⟩
  have hw : VIs S3 w (rWith (made l) o.1 o.2) := hw
  refine ⟨or4_5, [], oF4_5, by kernel_rfl, ?_⟩
  have hv3 := hv.le hS3
  refine ⟨⟨_, rfl, rfl, rfl⟩, .inl ⟨_, _, _, ref_with_spec S3 m (made l) o.1 o.2 hml2.symm (hmr.le hS3) (by omega), fun S4 u hS4 hu => ?_⟩⟩
  have hu : u.2.1 = (rWith (made l) o.1 o.2).length ∧ RowRd S4 u.1 shP (rWith (made l) o.1 o.2) := hu
  have hwl := rWith_length (made l) o.1 o.2
  refine ⟨⟨_, rfl, rfl, rfl⟩, .inl ⟨_, _, _, is_spec S4 w _ u _ (hw.le hS4) (by omega) hu.1.symm hu.2, fun S5 x hS5 hx => ?_⟩⟩
  have hx : x = true := by rw [show x = decide _ from hx]; exact decide_eq_true rfl
  subst hx
  have hv5 := hv3.le (Store.le_trans hS4 hS5)
  have hw5 := hw.le (Store.le_trans hS4 hS5)
  have hm5 := hmr.le (Store.le_trans hS3 (Store.le_trans hS4 hS5))
  refine onF ⟨⟨_, rfl, rfl, rfl⟩, .inl ⟨_, _, _, is_spec S5 v _ m _ hv5 (by omega) hml2.symm hm5, fun S6 x hS6 hx => ?_⟩⟩
  have hx : x = true := by rw [show x = decide _ from hx]; exact decide_eq_true rfl
  subst hx
  refine onF ⟨⟨_, rfl, rfl, rfl⟩, .inl ⟨_, _, _, at_spec S6 w _ o.1 (hw5.le hS6), fun S7 x hS7 hx => ?_⟩⟩
  have hx : x = rAt (rWith (made l) o.1 o.2) o.1 := hx
  subst hx
  refine ⟨⟨_, rfl, rfl, rfl⟩, .inl ⟨_, _, _, at_spec S7 v _ o.1 ((hv5.le hS6).le hS7), fun S8 x hS8 hx => ?_⟩⟩
  have hx : x = rAt (made l) o.1 := hx
  subst hx
  have hge := with_ge (made_sp l) o.1 o.2
  have hv8 := ((hv5.le hS6).le hS7).le hS8
  have hw8 := ((hw5.le hS6).le hS7).le hS8
  refine And.intro (fun h => absurd (of_decide_eq_true h) (by have := hge o.1; omega)) (fun _ => ?_)
  refine ⟨or4_7, [], oF4_7, by kernel_rfl, ?_⟩
  have hbel : rBelow (made l) (rWith (made l) o.1 o.2) = true := (below_iff (made_sp l) (rWith_sp (made_sp l) _ _)).2 hge
  refine And.intro (fun h => ?_) (fun h => ?_)
  · refine onT ⟨⟨_, rfl, rfl, rfl⟩, .inl ⟨_, _, _, below_spec S8 v w _ _ hv8 hw8, fun S9 x hS9 hx => ?_⟩⟩
    have hx : x = true := by rw [show x = rBelow _ _ from hx, hbel]
    subst hx
    exact onT ⟨⟨_, rfl, rfl, rfl⟩, .inl ⟨_, _, _, awake_spec S9, fun S1 x hS1 hx => ⟨rfl, x, rfl, hx⟩⟩⟩
  · have h' : (at_ == o.1) = false := h
    rw [beq_eq_false_iff_ne] at h'
    have heq : rAt (rWith (made l) o.1 o.2) at_ = rAt (made l) at_ := by rw [rAt_with (made_sp l), if_neg fun h => h' h.1]
    refine ⟨⟨_, rfl, rfl, rfl⟩, .inl ⟨_, _, _, at_spec S8 w _ at_ hw8, fun S9 x hS9 hx => ?_⟩⟩
    have hx : x = rAt (rWith (made l) o.1 o.2) at_ := hx
    rw [heq] at hx
    subst hx
    refine ⟨⟨_, rfl, rfl, rfl⟩, .inl ⟨_, _, _, at_spec S9 v _ at_ (hv8.le hS9), fun S10 x hS10 hx => ?_⟩⟩
    have hx : x = rAt (made l) at_ := hx
    subst hx
    refine onE (beq_self_eq_true _) ⟨⟨_, rfl, rfl, rfl⟩, .inl ⟨_, _, _, below_spec S10 v w _ _ ((hv8.le hS9).le hS10) ((hw8.le hS9).le hS10), fun S11 x hS11 hx => ?_⟩⟩
    have hx : x = true := by rw [show x = rBelow _ _ from hx, hbel]
    subst hx
    exact onT ⟨⟨_, rfl, rfl, rfl⟩, .inl ⟨_, _, _, awake_spec S11, fun S1 x hS1 hx => ⟨rfl, x, rfl, hx⟩⟩⟩
end Go.Proofs.Ytjcbbmibcbiedaa
