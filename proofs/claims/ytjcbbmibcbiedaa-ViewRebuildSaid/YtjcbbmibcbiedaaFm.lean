/- law02: the law Lattice says true. -/
import Derived.Test.YtjcbbmibcbiedaaFl
namespace Go.Proofs.Ytjcbbmibcbiedaa
open Go Go.Vc Go.Sort Go.RowKit Go.Maps
set_option maxRecDepth 100000

section
variable {a b c : List (Int × Int)} (ha : SP a) (hb : SP b) (hc : SP c)
include ha hb
theorem join_comm : rJoin a b = rJoin b a := sp_ext (rJoin_sp ha b) (rJoin_sp hb a) fun x => by
  rw [rAt_join ha hb, rAt_join hb ha]; unfold imax; split <;> split <;> omega
theorem join_absorb : rJoin (rJoin a b) a = rJoin a b := sp_ext (rJoin_sp (rJoin_sp ha b) a) (rJoin_sp ha b) fun x => by
  rw [rAt_join (rJoin_sp ha b) ha, rAt_join ha hb]; unfold imax; (repeat' split) <;> omega
theorem below_left : rBelow a (rJoin a b) = true := (below_iff ha (rJoin_sp ha b)).2 fun x => by
  rw [rAt_join ha hb]; unfold imax; split <;> omega
theorem below_right : rBelow b (rJoin a b) = true := (below_iff hb (rJoin_sp ha b)).2 fun x => by
  rw [rAt_join ha hb]; unfold imax; split <;> omega
theorem below_same : rBelow a b = decide (rJoin a b = b) := by
  rw [Bool.eq_iff_iff, below_iff ha hb, decide_eq_true_iff]
  constructor
  · intro h
    refine sp_ext (rJoin_sp ha b) hb fun x => ?_
    have := h x
    rw [rAt_join ha hb]; unfold imax; split <;> omega
  · intro h x
    rw [← h, rAt_join ha hb]; unfold imax; split <;> omega
include hc
theorem join_assoc : rJoin (rJoin a b) c = rJoin a (rJoin b c) := sp_ext (rJoin_sp (rJoin_sp ha b) c) (rJoin_sp ha _) fun x => by
  rw [rAt_join (rJoin_sp ha b) hc, rAt_join ha hb, rAt_join ha (rJoin_sp hb c), rAt_join hb hc]; unfold imax; (repeat' split) <;> omega
theorem below_join (h1 : rBelow a c = true) (h2 : rBelow b c = true) : rBelow (rJoin a b) c = true := (below_iff (rJoin_sp ha b) hc).2 fun x => by
  have h1 := (below_iff ha hc).1 h1 x
  have h2 := (below_iff hb hc).1 h2 x
  rw [rAt_join ha hb]; unfold imax; split <;> omega
end

set_option maxHeartbeats 1000000 in
theorem law_lattice (S : Store) (p q o : Hd) (a b c : List (Int × Int)) (hl : a.length = p.2.1) (hr : RowRd S p.1 shP a) (hm : b.length = q.2.1) (hr' : RowRd S q.1 shP b) (ho : c.length = o.2.1) (hr2 : RowRd S o.1 shP c) :
    Pure Try.prog 6 S [slV p, slV q, slV o] rB (fun _ x => x = true) := by
  refine pure_vc agrees Try.func6 rfl rfl (fun S S' q hle h => h) ?_
  refine ⟨⟨_, rfl, rfl, rfl⟩, .inl ⟨_, _, _, great_spec S p, fun S1 g hS1 hg => ?_⟩⟩
  have hg : g = decide (((p.2.1 : Nat) : Int) > 100) := hg
  refine And.intro (fun h0 => ?_) (fun h0 => ?_)
  · exact onT (onT ⟨⟨_, rfl, rfl, rfl⟩, .inl ⟨_, _, _, awake_spec S1, fun S1 x hS1 hx => ⟨rfl, x, rfl, hx⟩⟩⟩)
  rw [h0] at hg
  have hn : ¬ ((p.2.1 : Nat) : Int) > 100 := of_decide_eq_false hg.symm
  refine ⟨⟨_, rfl, rfl, rfl⟩, .inl ⟨_, _, _, great_spec S1 q, fun S2 g hS2 hg2 => ?_⟩⟩
  have hg2 : g = decide (((q.2.1 : Nat) : Int) > 100) := hg2
  refine And.intro (fun h1 => ?_) (fun h1 => ?_)
  · exact onT ⟨⟨_, rfl, rfl, rfl⟩, .inl ⟨_, _, _, awake_spec S2, fun S1 x hS1 hx => ⟨rfl, x, rfl, hx⟩⟩⟩
  rw [h1] at hg2
  have hn2 : ¬ ((q.2.1 : Nat) : Int) > 100 := of_decide_eq_false hg2.symm
  refine ⟨⟨_, rfl, rfl, rfl⟩, .inl ⟨_, _, _, great_spec S2 o, fun S3 g hS3 hg3 => ?_⟩⟩
  have hg3 : g = decide (((o.2.1 : Nat) : Int) > 100) := hg3
  refine And.intro (fun h1 => ?_) (fun h1 => ?_)
  · exact ⟨⟨_, rfl, rfl, rfl⟩, .inl ⟨_, _, _, awake_spec S3, fun S1 x hS1 hx => ⟨rfl, x, rfl, hx⟩⟩⟩
  rw [h1] at hg3
  have hn3 : ¬ ((o.2.1 : Nat) : Int) > 100 := of_decide_eq_false hg3.symm
  have h13 := Store.le_trans hS1 (Store.le_trans hS2 hS3)
  refine ⟨⟨_, rfl, rfl, rfl⟩, .inl ⟨_, _, _, made_spec S3 p a hl (hr.le h13) (by omega), fun S4 z hS4 hz => ?_⟩⟩
  obtain ⟨x, m⟩ := z
  have hx : VIs S4 x (made a) := hz.1
  clear hz
  refine ⟨⟨_, rfl, rfl, rfl⟩, .inl ⟨_, _, _, made_spec S4 q b hm (hr'.le (Store.le_trans h13 hS4)) (by omega), fun S5 z hS5 hz => ?_⟩⟩
  obtain ⟨y, m2⟩ := z
  have hy : VIs S5 y (made b) := hz.1
  clear hz
  refine ⟨⟨_, rfl, rfl, rfl⟩, .inl ⟨_, _, _, made_spec S5 o c ho (hr2.le (Store.le_trans h13 (Store.le_trans hS4 hS5))) (by omega), fun S6 z hS6 hz => ?_⟩⟩
  obtain ⟨w, m3⟩ := z
  have hw : VIs S6 w (made c) := hz.1
  clear hz
  have hx := (hx.le hS5).le hS6
  have hy := hy.le hS6
  have sa := made_sp a
  have sb := made_sp b
  have sc := made_sp c
  generalize made a = A at *
  generalize made b = B at *
  generalize made c = C at *
  refine ⟨⟨_, rfl, rfl, rfl⟩, .inl ⟨_, _, _, join_spec S6 x y _ _ hx hy, fun S7 j hS7 hj => ?_⟩⟩
  have hj : VIs S7 j (rJoin A B) := hj
  have hx := hx.le hS7
  have hy := hy.le hS7
  have hw := hw.le hS7
  refine ⟨or6_7, [], oF6_7, by kernel_rfl, ?_⟩
  refine ⟨⟨_, rfl, rfl, rfl⟩, .inl ⟨_, _, _, join_spec S7 y x _ _ hy hx, fun S8 t1 hS8 ht1 => ?_⟩⟩
  have ht1 : VIs S8 t1 (rJoin B A) := ht1
  refine ⟨⟨_, rfl, rfl, rfl⟩, .inl ⟨_, _, _, same_spec S8 j t1 _ _ (hj.le hS8) ht1, fun S9 r hS9 hr9 => ?_⟩⟩
  have hr9 : r = true := by rw [show r = decide _ from hr9]; exact decide_eq_true (join_comm sa sb)
  subst hr9
  have h79 := Store.le_trans hS8 hS9
  have hx := hx.le h79
  have hy := hy.le h79
  have hw := hw.le h79
  have hj := hj.le h79
  refine onF ⟨⟨_, rfl, rfl, rfl⟩, .inl ⟨_, _, _, join_spec S9 j w _ _ hj hw, fun S10 t2 hS10 ht2 => ?_⟩⟩
  have ht2 : VIs S10 t2 (rJoin (rJoin A B) C) := ht2
  refine ⟨⟨_, rfl, rfl, rfl⟩, .inl ⟨_, _, _, join_spec S10 y w _ _ (hy.le hS10) (hw.le hS10), fun S11 t3 hS11 ht3 => ?_⟩⟩
  have ht3 : VIs S11 t3 (rJoin B C) := ht3
  refine ⟨⟨_, rfl, rfl, rfl⟩, .inl ⟨_, _, _, join_spec S11 x t3 _ _ ((hx.le hS10).le hS11) ht3, fun S12 t4 hS12 ht4 => ?_⟩⟩
  have ht4 : VIs S12 t4 (rJoin A (rJoin B C)) := ht4
  refine ⟨⟨_, rfl, rfl, rfl⟩, .inl ⟨_, _, _, same_spec S12 t2 t4 _ _ ((ht2.le hS11).le hS12) ht4, fun S13 r hS13 hr13 => ?_⟩⟩
  have hr13 : r = true := by rw [show r = decide _ from hr13]; exact decide_eq_true (join_assoc sa sb sc)
  subst hr13
  have h913 := Store.le_trans hS10 (Store.le_trans hS11 (Store.le_trans hS12 hS13))
  have hx := hx.le h913
  have hy := hy.le h913
  have hw := hw.le h913
  have hj := hj.le h913
  refine onF ⟨⟨_, rfl, rfl, rfl⟩, .inl ⟨_, _, _, join_spec S13 j x _ _ hj hx, fun S14 t5 hS14 ht5 => ?_⟩⟩
  have ht5 : VIs S14 t5 (rJoin (rJoin A B) A) := ht5
  refine ⟨⟨_, rfl, rfl, rfl⟩, .inl ⟨_, _, _, same_spec S14 t5 j _ _ ht5 (hj.le hS14), fun S15 r hS15 hr15 => ?_⟩⟩
  have hr15 : r = true := by rw [show r = decide _ from hr15]; exact decide_eq_true (join_absorb sa sb)
  subst hr15
  have h1315 := Store.le_trans hS14 hS15
  have hx := hx.le h1315
  have hy := hy.le h1315
  have hw := hw.le h1315
  have hj := hj.le h1315
  refine onF ⟨⟨_, rfl, rfl, rfl⟩, .inl ⟨_, _, _, below_spec S15 x j _ _ hx hj, fun S16 r hS16 hr16 => ?_⟩⟩
  have hr16 : r = true := by rw [show r = rBelow _ _ from hr16, below_left sa sb]
  subst hr16
  have hx := hx.le hS16
  have hy := hy.le hS16
  have hw := hw.le hS16
  have hj := hj.le hS16
  refine onF ⟨⟨_, rfl, rfl, rfl⟩, .inl ⟨_, _, _, below_spec S16 y j _ _ hy hj, fun S17 r hS17 hr17 => ?_⟩⟩
  have hr17 : r = true := by rw [show r = rBelow _ _ from hr17, below_right sa sb]
  subst hr17
  have hx := hx.le hS17
  have hy := hy.le hS17
  have hw := hw.le hS17
  have hj := hj.le hS17
  refine onF ⟨⟨_, rfl, rfl, rfl⟩, .inl ⟨_, _, _, below_spec S17 x w _ _ hx hw, fun S18 r hS18 hr18 => ?_⟩⟩
  have hr18 : r = rBelow A C := hr18
  have hx := hx.le hS18
  have hy := hy.le hS18
  have hw := hw.le hS18
  have hj := hj.le hS18
  refine And.intro (fun e => ?_) (fun e => ?_)
  · refine ⟨⟨_, rfl, rfl, rfl⟩, .inl ⟨_, _, _, below_spec S18 y w _ _ hy hw, fun S19 r2 hS19 hr19 => ?_⟩⟩
    have hr19 : r2 = rBelow B C := hr19
    have hx := hx.le hS19
    have hy := hy.le hS19
    have hw := hw.le hS19
    have hj := hj.le hS19
    refine And.intro (fun e2 => ?_) (fun e2 => ?_)
    · refine ⟨⟨_, rfl, rfl, rfl⟩, .inl ⟨_, _, _, below_spec S19 j w _ _ hj hw, fun S20 r3 hS20 hr20 => ?_⟩⟩
      have hr20 : r3 = true := by
        rw [show r3 = rBelow _ _ from hr20]
        exact below_join sa sb sc (by rw [← hr18]; exact e) (by rw [← hr19]; exact e2)
      subst hr20
      have hx := hx.le hS20
      have hy := hy.le hS20
      have hw := hw.le hS20
      have hj := hj.le hS20
      refine onF ?_
      refine ⟨⟨_, rfl, rfl, rfl⟩, .inl ⟨_, _, _, join_spec S20 j w _ _ hj hw, fun T1 al hT1 hal => ?_⟩⟩
      have hal : VIs T1 al (rJoin (rJoin A B) C) := hal
      have hx := hx.le hT1
      have hy := hy.le hT1
      have hj := hj.le hT1
      refine ⟨or6_12, [], oF6_12, by kernel_rfl, ?_⟩
      refine ⟨⟨_, rfl, rfl, rfl⟩, .inl ⟨_, _, _, below_spec T1 j al _ _ hj hal, fun T2 r hT2 hrT => ?_⟩⟩
      have hrT : r = true := by rw [show r = rBelow _ _ from hrT, below_left (rJoin_sp sa B) sc]
      subst hrT
      have hx := hx.le hT2
      have hy := hy.le hT2
      have hj := hj.le hT2
      refine onT ⟨⟨_, rfl, rfl, rfl⟩, .inl ⟨_, _, _, below_spec T2 x y _ _ hx hy, fun T3 r1 hT3 hrT1 => ?_⟩⟩
      have hrT1 : r1 = decide (rJoin A B = B) := by rw [show r1 = rBelow _ _ from hrT1, below_same sa sb]
      refine ⟨⟨_, rfl, rfl, rfl⟩, .inl ⟨_, _, _, same_spec T3 j y _ _ (hj.le hT3) (hy.le hT3), fun T4 r2 hT4 hrT2 => ?_⟩⟩
      have hrT2 : r2 = decide (rJoin A B = B) := hrT2
      have hrr : (r1 == r2) = true := by rw [hrT1, hrT2]; exact beq_self_eq_true _
      exact onE hrr ⟨⟨_, rfl, rfl, rfl⟩, .inl ⟨_, _, _, awake_spec T4, fun S1 x hS1 hx => ⟨rfl, x, rfl, hx⟩⟩⟩
    · refine onF ?_
      refine ⟨⟨_, rfl, rfl, rfl⟩, .inl ⟨_, _, _, join_spec S19 j w _ _ hj hw, fun T1 al hT1 hal => ?_⟩⟩
      have hal : VIs T1 al (rJoin (rJoin A B) C) := hal
      have hx := hx.le hT1
      have hy := hy.le hT1
      have hj := hj.le hT1
      refine ⟨or6_12, [], oF6_12, by kernel_rfl, ?_⟩
      refine ⟨⟨_, rfl, rfl, rfl⟩, .inl ⟨_, _, _, below_spec T1 j al _ _ hj hal, fun T2 r hT2 hrT => ?_⟩⟩
      have hrT : r = true := by rw [show r = rBelow _ _ from hrT, below_left (rJoin_sp sa B) sc]
      subst hrT
      have hx := hx.le hT2
      have hy := hy.le hT2
      have hj := hj.le hT2
      refine onT ⟨⟨_, rfl, rfl, rfl⟩, .inl ⟨_, _, _, below_spec T2 x y _ _ hx hy, fun T3 r1 hT3 hrT1 => ?_⟩⟩
      have hrT1 : r1 = decide (rJoin A B = B) := by rw [show r1 = rBelow _ _ from hrT1, below_same sa sb]
      refine ⟨⟨_, rfl, rfl, rfl⟩, .inl ⟨_, _, _, same_spec T3 j y _ _ (hj.le hT3) (hy.le hT3), fun T4 r2 hT4 hrT2 => ?_⟩⟩
      have hrT2 : r2 = decide (rJoin A B = B) := hrT2
      have hrr : (r1 == r2) = true := by rw [hrT1, hrT2]; exact beq_self_eq_true _
      exact onE hrr ⟨⟨_, rfl, rfl, rfl⟩, .inl ⟨_, _, _, awake_spec T4, fun S1 x hS1 hx => ⟨rfl, x, rfl, hx⟩⟩⟩
  · refine onF (onF ?_)
    refine ⟨⟨_, rfl, rfl, rfl⟩, .inl ⟨_, _, _, join_spec S18 j w _ _ hj hw, fun T1 al hT1 hal => ?_⟩⟩
    have hal : VIs T1 al (rJoin (rJoin A B) C) := hal
    have hx := hx.le hT1
    have hy := hy.le hT1
    have hj := hj.le hT1
    refine ⟨or6_12, [], oF6_12, by kernel_rfl, ?_⟩
    refine ⟨⟨_, rfl, rfl, rfl⟩, .inl ⟨_, _, _, below_spec T1 j al _ _ hj hal, fun T2 r hT2 hrT => ?_⟩⟩
    have hrT : r = true := by rw [show r = rBelow _ _ from hrT, below_left (rJoin_sp sa B) sc]
    subst hrT
    have hx := hx.le hT2
    have hy := hy.le hT2
    have hj := hj.le hT2
    refine onT ⟨⟨_, rfl, rfl, rfl⟩, .inl ⟨_, _, _, below_spec T2 x y _ _ hx hy, fun T3 r1 hT3 hrT1 => ?_⟩⟩
    have hrT1 : r1 = decide (rJoin A B = B) := by rw [show r1 = rBelow _ _ from hrT1, below_same sa sb]
    refine ⟨⟨_, rfl, rfl, rfl⟩, .inl ⟨_, _, _, same_spec T3 j y _ _ (hj.le hT3) (hy.le hT3), fun T4 r2 hT4 hrT2 => ?_⟩⟩
    have hrT2 : r2 = decide (rJoin A B = B) := hrT2
    have hrr : (r1 == r2) = true := by rw [hrT1, hrT2]; exact beq_self_eq_true _
    exact onE hrr ⟨⟨_, rfl, rfl, rfl⟩, .inl ⟨_, _, _, awake_spec T4, fun S1 x hS1 hx => ⟨rfl, x, rfl, hx⟩⟩⟩
end Go.Proofs.Ytjcbbmibcbiedaa
