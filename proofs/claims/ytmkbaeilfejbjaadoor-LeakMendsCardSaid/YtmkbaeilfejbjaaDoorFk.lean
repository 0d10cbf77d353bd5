/- law16: great, awake. -/
import Derived.Test.YtmkbaeilfejbjaaDoorFg
namespace Go.Proofs.YtmkbaeilfejbjaaDoor
open Go Go.Vc
set_option maxRecDepth 100000

set_option maxHeartbeats 4000000 in
theorem isReach_unique {roots : List Int} {next : List (List Int)} {a b : List Int} (ha : IsReach roots next a) (hb : IsReach roots next b) : a = b :=
  strict_ext ha.1 hb.1 fun y => by rw [ha.2, hb.2]

theorem awake_reach : IsReach [0] [[1, 2], [3], [], [1], [0]] [0, 1, 2, 3] := by
  refine ⟨by decide, fun x => ⟨fun h => ?_, fun h => ?_⟩⟩
  · have r0 : Rch [0] [[1, 2], [3], [], [1], [0]] 0 := .root 0 (by simp) ⟨by decide, by decide⟩
    have r1 : Rch [0] [[1, 2], [3], [], [1], [0]] 1 := .step 0 1 [1, 2] r0 rfl (by simp) ⟨by decide, by decide⟩
    have r2 : Rch [0] [[1, 2], [3], [], [1], [0]] 2 := .step 0 2 [1, 2] r0 rfl (by simp) ⟨by decide, by decide⟩
    have r3 : Rch [0] [[1, 2], [3], [], [1], [0]] 3 := .step 1 3 [3] r1 rfl (by simp) ⟨by decide, by decide⟩
    simp only [List.mem_cons, List.not_mem_nil, or_false] at h
    rcases h with rfl | rfl | rfl | rfl
    · exact r0
    · exact r1
    · exact r2
    · exact r3
  · refine rch_of_closed (fun y hy _ => ?_) (fun y hy l hl z hz _ => ?_) h
    · simp at hy; simp [hy]
    · simp only [List.mem_cons, List.not_mem_nil, or_false] at hy
      rcases hy with rfl | rfl | rfl | rfl <;> (simp at hl; subst hl; simp at hz; try omega) <;> simp [hz]
      rcases hz with rfl | rfl <;> simp

set_option maxHeartbeats 4000000 in
theorem awake_spec (S : Store) : Pure Tryd.prog 4 S [] rB (fun _ x => x = true) := by
  refine pure_vc agrees Tryd.func4 rfl rfl (fun S S' q hle h => h) ?_
  refine fun p1 c1 S1 hS1 hr1 f1 => fun p2 c2 S2 hS2 hr2 f2 => fun p3 c3 S3 hS3 hr3 f3 => fun p4 c4 S4 hS4 hr4 f4 => ?_
  refine ⟨⟨_, rfl, rfl, rfl⟩, .inl fun p5 c5 S5 hS5 hr5 f5 => fun p6 c6 S6 hS6 hr6 f6 => ?_⟩
  have h56 := hS6
  have h46 := Store.le_trans hS5 h56
  have h36 := Store.le_trans hS4 h46
  have h26 := Store.le_trans hS3 h36
  have h16 := Store.le_trans hS2 h26
  refine ⟨_, _, _, reach_spec S6 (p5, 1, c5) (p6, 5, c6) [0] [(p1, 2, c1), (p2, 1, c2), (none, 0, 0), (p3, 1, c3), (p4, 1, c4)] [[1, 2], [3], [], [1], [0]] rfl (hr5.le h56) rfl hr6
    ⟨⟨rfl, hr1.le h16⟩, ⟨rfl, hr2.le h26⟩, ⟨rfl, .inl rfl, by simp⟩, ⟨rfl, hr3.le h36⟩, ⟨rfl, hr4.le h46⟩, trivial⟩ (by decide) (by decide) (by decide), fun S7 y hS7 hy => ?_⟩
  obtain ⟨⟨yp, yn, yc⟩, l⟩ := y
  obtain ⟨hyl, hyr, hyi⟩ := hy
  have hl : l = [0, 1, 2, 3] := isReach_unique hyi awake_reach
  simp only at hyl hyr hyi
  subst hl
  subst hyl
  refine ⟨⟨_, rfl, rfl, rfl⟩, .inl fun p8 c8 S8 hS8 hr8 f8 => ⟨_, _, _, same_spec S8 (yp, 4, yc) (p8, 4, c8) [0, 1, 2, 3] [0, 1, 2, 3] rfl (hyr.le hS8) rfl hr8 (by decide), fun S9 b hS9 hb => ?_⟩⟩
  have hb' : b = true := by rw [show b = decide _ from hb]; decide
  subst hb'
  have hyr9 := (hyr.le hS8).le hS9
  refine onT ⟨⟨_, rfl, rfl, rfl⟩, .inl fun p10 c10 S10 hS10 hr10 f10 => ⟨_, _, _, lost_spec S10 (p10, 4, c10) (yp, 4, yc) [1, 3, 4, 5] [0, 1, 2, 3] rfl hr10 rfl (hyr9.le hS10) (by decide) (by decide), fun S11 u hS11 hu => ?_⟩⟩
  obtain ⟨up, un, uc⟩ := u
  obtain ⟨hul, hur⟩ := hu
  have e1 : lessOf [1, 3, 4, 5] [0, 1, 2, 3] = [4, 5] := by rw [lessOf_rising]; decide
  rw [e1] at hul hur
  simp only at hul hur
  subst hul
  refine ⟨⟨_, rfl, rfl, rfl⟩, .inl fun p12 c12 S12 hS12 hr12 f12 => ⟨_, _, _, same_spec S12 (up, 2, uc) (p12, 2, c12) [4, 5] [4, 5] rfl (hur.le hS12) rfl hr12 (by decide), fun S13 b hS13 hb => ?_⟩⟩
  have hb' : b = true := by rw [show b = decide _ from hb]; decide
  subst hb'
  have h1013 := Store.le_trans hS11 (Store.le_trans hS12 hS13)
  refine onT ⟨⟨_, rfl, rfl, rfl⟩, .inl ⟨_, _, _, wild_spec S13 (p10, 4, c10) (yp, 4, yc) [1, 3, 4, 5] [0, 1, 2, 3] rfl (hr10.le h1013) rfl (hyr9.le (Store.le_trans hS10 h1013)) (by decide) (by decide), fun S14 u hS14 hu => ?_⟩⟩
  obtain ⟨vp, vn, vc⟩ := u
  obtain ⟨hvl, hvr⟩ := hu
  have e2 : lessOf [0, 1, 2, 3] [1, 3, 4, 5] = [0, 2] := by rw [lessOf_rising]; decide
  rw [e2] at hvl hvr
  simp only at hvl hvr
  subst hvl
  refine ⟨⟨_, rfl, rfl, rfl⟩, .inl fun p15 c15 S15 hS15 hr15 f15 => ⟨_, _, _, same_spec S15 (vp, 2, vc) (p15, 2, c15) [0, 2] [0, 2] rfl (hvr.le hS15) rfl hr15 (by decide), fun S16 b hS16 hb => ?_⟩⟩
  have hb' : b = true := by rw [show b = decide _ from hb]; decide
  subst hb'
  exact ⟨rfl, true, rfl, rfl⟩
end Go.Proofs.YtmkbaeilfejbjaaDoor
