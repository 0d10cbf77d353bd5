/- law57: awake. -/
import Derived.Test.YtpeehenohdlfdaaGreatDoorFy
import Derived.Test.YtpeehenohdlfdaaGreatDoorFm
namespace Go.Proofs.YtpeehenohdlfdaaGreatDoor
open Go Go.Vc
set_option maxRecDepth 100000
set_option maxHeartbeats 8000000

/-- The example's acts. -/
def wActs : List Rc.Ev := [⟨0, 1, 3, [109, 111, 118, 101], [5], 0, 0⟩, ⟨2, 1, 0, [], [], 0, 0⟩, ⟨3, 0, 0, [], [], 0, 0⟩, ⟨0, 2, 1, [116, 97, 107, 101], [], 0, 0⟩, ⟨1, 2, 0, [], [], 8, 0⟩]
def wText : List UInt8 := [99, 97, 108, 108, 32, 49, 32, 51, 32, 109, 111, 118, 101, 32, 53, 10, 99, 111, 109, 109, 105, 116, 32, 49, 32, 51, 10, 99, 114, 97, 115, 104, 10, 99, 97, 108, 108, 32, 50, 32, 49, 32, 116, 97, 107, 101, 10, 97, 110, 115, 119, 101, 114, 32, 50, 32, 49, 32, 56, 32, 48, 10]
theorem w_text : Rc.textR (madeR wActs) = wText := by kernel_rfl
theorem w_pend : pendI (madeR wActs) = [0] := by kernel_rfl
theorem awake_spec (S : Store) (hL : Lt S) : Pure Tryz.prog 11 S [] (A := Unit) (fun _ => rB true) (fun _ _ => True) := by
  refine pure_vc agrees Tryz.func11 rfl rfl (fun S S' q hle h => h) ?_
  intro p c S1 hS1 hr1 hpf1
  refine ⟨⟨_, rfl, rfl, rfl⟩, .inl fun p2 c2 S2 hS2 hr2 hpf2 => ?_⟩
  have hcl := pform_le hpf1.1
  have hc0 : 1 ≤ c := hcl
  have hN : NsIs S2 (p, 1, c) [5] := ⟨rfl, hc0, hr1.le hS2, fun x hx => by simp at hx; subst hx; exact ⟨by decide, by decide⟩⟩
  have hA : AsIs S2 (p2, 5, c2) wActs := by
    refine ⟨[((0, 1, 3, (bs [109, 111, 118, 101], p, 1, c), 0, 0), ⟨0, 1, 3, [109, 111, 118, 101], [5], 0, 0⟩), ((2, 1, 0, (bs [], none, 0, 0), 0, 0), ⟨2, 1, 0, [], [], 0, 0⟩), ((3, 0, 0, (bs [], none, 0, 0), 0, 0), ⟨3, 0, 0, [], [], 0, 0⟩), ((0, 2, 1, (bs [116, 97, 107, 101], none, 0, 0), 0, 0), ⟨0, 2, 1, [116, 97, 107, 101], [], 0, 0⟩), ((1, 2, 0, (bs [], none, 0, 0), 8, 0), ⟨1, 2, 0, [], [], 8, 0⟩)], rfl, rfl, pform_le hpf2.1, hr2, ?_⟩
    intro z hz
    simp only [List.mem_cons, List.not_mem_nil, or_false] at hz
    rcases hz with rfl | rfl | rfl | rfl | rfl
    · exact ⟨rfl, rfl, rfl, rfl, hN, rfl, rfl, (show 4 ≤ 1000000000 by decide), (show 1 ≤ 1000000 by decide), (show (0 : Int) ≤ 0 by decide), (show (0 : Int) ≤ 255 by decide), (show inI64 1 from ⟨by decide, by decide⟩), (show inI64 3 from ⟨by decide, by decide⟩), (show inI64 0 from ⟨by decide, by decide⟩), (show inI64 0 from ⟨by decide, by decide⟩)⟩
    all_goals exact ⟨rfl, rfl, rfl, rfl, ns_nil _, rfl, rfl, by decide, by decide, by decide, by decide, ⟨by decide, by decide⟩, ⟨by decide, by decide⟩, ⟨by decide, by decide⟩, ⟨by decide, by decide⟩⟩
  refine ⟨_, _, _, made_spec S2 (p2, 5, c2) wActs hA (by decide), fun S3 z hS3 hz => ?_⟩
  obtain ⟨z1, z2, zb⟩ := z
  obtain ⟨hz1, hz2, hz3⟩ := hz
  have hz1 : HIs S3 z1 (madeR wActs) := hz1
  have hz3 : zb = true := hz3
  subst hz3
  refine onE rfl ⟨⟨_, rfl, rfl, rfl⟩, .inl ⟨_, _, _, text_spec S3 (hL.le (Store.le_trans hS1 (Store.le_trans hS2 hS3))) z1 _ hz1, fun S4 _ hS4 _ => ?_⟩⟩
  refine onE (isE (v := wText) w_text) ⟨⟨_, rfl, rfl, rfl⟩, .inl ⟨_, _, _, pending_spec S4 z1 _ (hz1.le hS4), fun S5 q5 hS5 hq5 => ?_⟩⟩
  rw [w_pend] at hq5
  refine ⟨⟨_, rfl, rfl, rfl⟩, .inl fun p6 c6 S6 hS6 hr6 hpf6 => ⟨_, _, _, equalP_spec S6 q5 (p6, 1, c6) [0] (hq5.le hS6) ⟨rfl, pform_le hpf6.1, hr6⟩ (by decide), fun S7 _ hS7 _ => ?_⟩⟩
  exact ⟨rfl, (), rfl, trivial⟩
end Go.Proofs.YtpeehenohdlfdaaGreatDoor
