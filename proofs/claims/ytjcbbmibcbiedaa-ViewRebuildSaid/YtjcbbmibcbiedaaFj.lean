/- law02: awake. -/
import Derived.Test.YtjcbbmibcbiedaaFi
namespace Go.Proofs.Ytjcbbmibcbiedaa
open Go Go.Vc Go.Sort Go.RowKit Go.Maps
set_option maxRecDepth 100000

theorem madeA : made [(3, 2), (1, 4), (3, 1)] = [(1, 4), (3, 2)] := by decide
theorem withB : rWith [] 3 3 = [(3, 3)] := by decide
theorem joinC : rJoin [(1, 4), (3, 2)] [(3, 3)] = [(1, 4), (3, 3)] := by decide

theorem onE {b : Bool} {p q : Prop} (hb : b = true) (h : p) : (b = true → p) ∧ (b = false → q) := ⟨fun _ => h, fun e => by rw [hb] at e; cases e⟩

set_option maxHeartbeats 1000000 in
theorem awake_spec (S : Store) : Pure Try.prog 11 S [] rB (fun _ x => x = true) := by
  refine pure_vc agrees Try.func11 rfl rfl (fun S S' q hle h => h) ?_
  refine ⟨⟨_, rfl, rfl, rfl⟩, .inl fun p1 c1 S1 hS1 hr1 f1 => ⟨_, _, _, made_spec S1 (p1, 3, c1) [(3, 2), (1, 4), (3, 1)] rfl hr1 (by decide), fun S2 z hS2 hz => ?_⟩⟩
  obtain ⟨a, z2⟩ := z
  have hA : VIs S2 a (made [(3, 2), (1, 4), (3, 1)]) := hz.1
  rw [madeA] at hA
  clear hz
  refine ⟨⟨_, rfl, rfl, rfl⟩, .inl ⟨_, _, _, with_spec S2 none [] 3 3 ⟨⟨[], rfl, .refl _⟩, sp_nil⟩, fun S3 b hS3 hB => ?_⟩⟩
  have hB : VIs S3 b (rWith [] 3 3) := hB
  rw [withB] at hB
  refine ⟨⟨_, rfl, rfl, rfl⟩, .inl ⟨_, _, _, join_spec S3 a b _ _ (hA.le hS3) hB, fun S4 c hS4 hC => ?_⟩⟩
  have hC : VIs S4 c (rJoin [(1, 4), (3, 2)] [(3, 3)]) := hC
  rw [joinC] at hC
  have hA4 := hA.le (Store.le_trans hS3 hS4)
  refine ⟨⟨_, rfl, rfl, rfl⟩, .inl ⟨_, _, _, locs_spec S4 a _ hA4 (by decide), fun S5 u hS5 hu => ?_⟩⟩
  obtain ⟨up, un, uc⟩ := u
  obtain ⟨hul, hur⟩ : un = [((1 : Int), (4 : Int)), (3, 2)].length ∧ RowRd S5 up shI [1, 3] := hu
  subst hul
  have hA5 := hA4.le hS5
  have hB5 := hB.le (Store.le_trans hS4 hS5)
  have hC5 := hC.le hS5
  refine ⟨⟨_, rfl, rfl, rfl⟩, .inl ⟨_, _, _, at_spec S5 a _ 3 hA5, fun S6 v hS6 hv => ?_⟩⟩
  have hv : v = 2 := hv
  subst hv
  obtain ⟨b2, o2, hp2, hok2, hrd2⟩ := row_at (hur.le hS6) (show ([1, 3] : List Int)[0]? = some 1 from rfl)
  obtain ⟨b3, o3, hp3, hok3, hrd3⟩ := row_at (hur.le hS6) (show ([1, 3] : List Int)[1]? = some 3 from rfl)
  refine onT ?_
  have hA6 := hA5.le hS6
  have hB6 := hB5.le hS6
  have hC6 := hC5.le hS6
  refine onE rfl ⟨by decide, (show (0 : Int) < 2 by decide), b2, o2, hp2, (1 : Int), trivial, hrd2, ?_⟩
  refine onE rfl ⟨by decide, (show (1 : Int) < 2 by decide), b3, o3, hp3, (3 : Int), trivial, hrd3, ?_⟩
  refine onE rfl ⟨⟨_, rfl, rfl, rfl⟩, .inl ⟨_, _, _, at_spec S6 c _ 1 hC6, fun S7 v hS7 hv => ?_⟩⟩
  have hv : v = 4 := hv
  subst hv
  have hC7 := hC6.le hS7
  refine onE rfl ⟨⟨_, rfl, rfl, rfl⟩, .inl ⟨_, _, _, at_spec S7 c _ 3 hC7, fun S8 v hS8 hv => ?_⟩⟩
  have hv : v = 3 := hv
  subst hv
  have hA8 := hA6.le (Store.le_trans hS7 hS8)
  have hB8 := hB6.le (Store.le_trans hS7 hS8)
  have hC8 := hC7.le hS8
  refine onE rfl ⟨⟨_, rfl, rfl, rfl⟩, .inl ⟨_, _, _, below_spec S8 a c _ _ hA8 hC8, fun S9 v hS9 hv => ?_⟩⟩
  have hv : v = true := hv
  subst hv
  refine onE rfl ⟨⟨_, rfl, rfl, rfl⟩, .inl ⟨_, _, _, below_spec S9 b c _ _ (hB8.le hS9) (hC8.le hS9), fun S10 v hS10 hv => ?_⟩⟩
  have hv : v = true := hv
  subst hv
  refine onE rfl ⟨⟨_, rfl, rfl, rfl⟩, .inl ⟨_, _, _, below_spec S10 c a _ _ ((hC8.le hS9).le hS10) ((hA8.le hS9).le hS10), fun S11 v hS11 hv => ?_⟩⟩
  have hv : v = false := hv
  subst hv
  exact ⟨rfl, true, rfl, rfl⟩
end Go.Proofs.Ytjcbbmibcbiedaa
