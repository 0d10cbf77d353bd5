/- law02: the law Joins says true. -/
import Derived.Test.YtjcbbmibcbiedaaFk
namespace Go.Proofs.Ytjcbbmibcbiedaa
open Go Go.Vc Go.Sort Go.RowKit Go.Maps
set_option maxRecDepth 100000

theorem same_iff {a b : List (Int × Int)} (ha : SP a) (hb : SP b) : decide (a = b) = (rBelow a b && rBelow b a) := by
  rw [Bool.eq_iff_iff, decide_eq_true_iff, Bool.and_eq_true, below_iff ha hb, below_iff hb ha]
  constructor
  · rintro rfl
    exact ⟨fun _ => Int.le_refl _, fun _ => Int.le_refl _⟩
  · rintro ⟨h1, h2⟩
    exact sp_ext ha hb fun x => Int.le_antisymm (h1 x) (h2 x)
theorem rJoin_len {a b : List (Int × Int)} (ha : a.length ≤ 1000) (hb : b.length ≤ 1000) : (rJoin a b).length ≤ 10000 := by
  have := rJoin_length a b
  omega

theorem is_true (S : Store) (b : Option Nat) (m : List (Int × Int)) (q : Hd) (hv : VIs S b m) (hn : m.length ≤ 10000) (hl : m.length = q.2.1) (hr : RowRd S q.1 shP m) : Pure Try.prog 13 S [vV b, slV q] rB (fun _ x => x = true) := by
  intro w hw
  refine (is_spec S b m q m hv hn hl hr w hw).mono ?_
  rintro e w' ⟨v, x, S', h1, h2, h3, h4, h5, h6, h7⟩
  exact ⟨v, x, S', h1, h2, h3, h4, h5, h6, by rw [h7]; exact decide_eq_true rfl⟩

set_option maxHeartbeats 1000000 in
theorem law_joins (S : Store) (p q : Hd) (a b : List (Int × Int)) (hl : a.length = p.2.1) (hr : RowRd S p.1 shP a) (hm : b.length = q.2.1) (hr' : RowRd S q.1 shP b) :
    Pure Try.prog 5 S [slV p, slV q] rB (fun _ x => x = true) := by
  refine pure_vc agrees Try.func5 rfl rfl (fun S S' q hle h => h) ?_
  refine ⟨⟨_, rfl, rfl, rfl⟩, .inl ⟨_, _, _, great_spec S p, fun S1 g hS1 hg => ?_⟩⟩
  have hg : g = decide (((p.2.1 : Nat) : Int) > 100) := hg
  refine And.intro (fun h0 => ?_) (fun h0 => ?_)
  · exact onT ⟨⟨_, rfl, rfl, rfl⟩, .inl ⟨_, _, _, awake_spec S1, fun S1 x hS1 hx => ⟨rfl, x, rfl, hx⟩⟩⟩
  rw [h0] at hg
  have hn : ¬ ((p.2.1 : Nat) : Int) > 100 := of_decide_eq_false hg.symm
  refine ⟨⟨_, rfl, rfl, rfl⟩, .inl ⟨_, _, _, great_spec S1 q, fun S2 g hS2 hg2 => ?_⟩⟩
  have hg2 : g = decide (((q.2.1 : Nat) : Int) > 100) := hg2
  refine And.intro (fun h1 => ?_) (fun h1 => ?_)
  · exact ⟨⟨_, rfl, rfl, rfl⟩, .inl ⟨_, _, _, awake_spec S2, fun S1 x hS1 hx => ⟨rfl, x, rfl, hx⟩⟩⟩
  rw [h1] at hg2
  have hn2 : ¬ ((q.2.1 : Nat) : Int) > 100 := of_decide_eq_false hg2.symm
  have ha := made_length a
  have hb := made_length b
  have h12 := Store.le_trans hS1 hS2
  refine ⟨⟨_, rfl, rfl, rfl⟩, .inl ⟨_, _, _, made_spec S2 p a hl (hr.le h12) (by omega), fun S3 z hS3 hz => ?_⟩⟩
  obtain ⟨v, m⟩ := z
  obtain ⟨hv, hm1, hmr⟩ : VIs S3 v (made a) ∧ m.2.1 = (made a).length ∧ RowRd S3 m.1 shP (made a) := hz
  refine ⟨⟨_, rfl, rfl, rfl⟩, .inl ⟨_, _, _, made_spec S3 q b hm (hr'.le (Store.le_trans h12 hS3)) (by omega), fun S4 z hS4 hz => ?_⟩⟩
  obtain ⟨w, n⟩ := z
  obtain ⟨hw, hn1, hnr⟩ : VIs S4 w (made b) ∧ n.2.1 = (made b).length ∧ RowRd S4 n.1 shP (made b) := hz
  have hv := hv.le hS4
  have hmr := hmr.le hS4
  refine ⟨⟨_, rfl, rfl, rfl⟩, .inl ⟨_, _, _, ref_below_spec S4 m n _ _ hm1.symm hmr hn1.symm hnr (by omega) (by omega), fun S5 x hS5 hx => ?_⟩⟩
  have hx : x = rBelow (made a) (made b) := hx
  refine ⟨⟨_, rfl, rfl, rfl⟩, .inl ⟨_, _, _, ref_below_spec S5 n m _ _ hn1.symm (hnr.le hS5) hm1.symm (hmr.le hS5) (by omega) (by omega), fun S6 y hS6 hy => ?_⟩⟩
  have hy : y = rBelow (made b) (made a) := hy
  have hv6 := (hv.le hS5).le hS6
  have hw6 := (hw.le hS5).le hS6
  have hm6 := (hmr.le hS5).le hS6
  have hn6 := (hnr.le hS5).le hS6
  refine ⟨⟨_, rfl, rfl, rfl⟩, .inl ⟨_, _, _, join_spec S6 v w _ _ hv6 hw6, fun S7 j hS7 hj => ?_⟩⟩
  have hj : VIs S7 j (rJoin (made a) (made b)) := hj
  refine ⟨⟨_, rfl, rfl, rfl⟩, .inl ⟨_, _, _, ref_join_spec S7 m n _ _ hm1.symm (hm6.le hS7) hn1.symm (hn6.le hS7) (by omega) (by omega), fun S8 u hS8 hu => ?_⟩⟩
  have hu : u.2.1 = (rJoin (made a) (made b)).length ∧ RowRd S8 u.1 shP (rJoin (made a) (made b)) := hu
  refine ⟨⟨_, rfl, rfl, rfl⟩, .inl ⟨_, _, _, is_true S8 j _ u (hj.le hS8) (rJoin_len (by omega) (by omega)) hu.1.symm hu.2, fun S9 r hS9 hr9 => ?_⟩⟩
  have hr9 : r = true := hr9
  subst hr9
  have h69 := Store.le_trans hS7 (Store.le_trans hS8 hS9)
  have hv9 := hv6.le h69
  have hw9 := hw6.le h69
  have hm9 := hm6.le h69
  have hn9 := hn6.le h69
  refine onT ⟨⟨_, rfl, rfl, rfl⟩, .inl ⟨_, _, _, is_true S9 v _ m hv9 (by omega) hm1.symm hm9, fun S10 r hS10 hr10 => ?_⟩⟩
  have hr10 : r = true := hr10
  subst hr10
  refine onT ⟨⟨_, rfl, rfl, rfl⟩, .inl ⟨_, _, _, is_true S10 w _ n (hw9.le hS10) (by omega) hn1.symm (hn9.le hS10), fun S11 r hS11 hr11 => ?_⟩⟩
  have hr11 : r = true := hr11
  subst hr11
  have hv11 := (hv9.le hS10).le hS11
  have hw11 := (hw9.le hS10).le hS11
  refine onT ⟨⟨_, rfl, rfl, rfl⟩, .inl ⟨_, _, _, below_spec S11 v w _ _ hv11 hw11, fun S12 r hS12 hr12 => ?_⟩⟩
  have hr12 : r = x := by rw [show r = rBelow _ _ from hr12, hx]
  subst hr12
  refine onE (beq_self_eq_true _) ⟨⟨_, rfl, rfl, rfl⟩, .inl ⟨_, _, _, below_spec S12 w v _ _ (hw11.le hS12) (hv11.le hS12), fun S13 r2 hS13 hr13 => ?_⟩⟩
  have hr13 : r2 = y := by rw [show r2 = rBelow _ _ from hr13, hy]
  subst hr13
  refine onE (beq_self_eq_true _) ⟨⟨_, rfl, rfl, rfl⟩, .inl ⟨_, _, _, same_spec S13 v w _ _ ((hv11.le hS12).le hS13) ((hw11.le hS12).le hS13), fun S14 r3 hS14 hr14 => ?_⟩⟩
  have hr14 : r3 = (r && r2) := by rw [show r3 = decide _ from hr14, same_iff (made_sp a) (made_sp b), hx, hy]
  subst hr14
  refine And.intro (fun e => ?_) (fun e => ?_)
  · refine onE (by rw [e]; cases r2 <;> rfl) ?_
    exact ⟨⟨_, rfl, rfl, rfl⟩, .inl ⟨_, _, _, awake_spec S14, fun S1 x hS1 hx => ⟨rfl, x, rfl, hx⟩⟩⟩
  · refine onE (by rw [e]; rfl) ?_
    exact ⟨⟨_, rfl, rfl, rfl⟩, .inl ⟨_, _, _, awake_spec S14, fun S1 x hS1 hx => ⟨rfl, x, rfl, hx⟩⟩⟩
end Go.Proofs.Ytjcbbmibcbiedaa
