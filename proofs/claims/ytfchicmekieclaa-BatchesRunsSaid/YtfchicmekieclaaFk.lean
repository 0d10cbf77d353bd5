/- law54: the document's example. -/
import Derived.Test.YtfchicmekieclaaFj
namespace Go.Proofs.Ytfchicmekieclaa
open Go Go.Vc
set_option maxRecDepth 100000

def l0 : List O := [(0, 5, 1), (1, 5, 9), (0, 6, 2), (0, 5, 3), (3, 6, 4)]
theorem batch_l0 : batch l0 = [(0, 5, 1), (1, 5, 9), (0, 5, 3), (3, 6, 4)] := by decide
theorem runs_l0 : runs l0 = [[(0, 5, 1)], [(1, 5, 9), (0, 6, 2)], [(0, 5, 3), (3, 6, 4)]] := by decide

set_option maxHeartbeats 8000000 in
theorem awake_spec (S : Store) : Pure Try.prog 10 S [] rB (fun _ x => x = true) := by
  refine pure_vc agrees Try.func10 rfl rfl (fun _ _ _ _ h => h) ?_
  refine ⟨⟨_, rfl, rfl, rfl⟩, .inl fun p c S1 h1 hr1 => ⟨_, _, _, batch_spec S1 (p, 5, c) l0 rfl hr1 (by decide), fun S2 q hS2 hq => ?_⟩⟩
  obtain ⟨hq1, hq2⟩ := hq
  refine ⟨⟨_, rfl, rfl, rfl⟩, .inl ⟨_, _, _, runs_spec S2 (p, 5, c) l0 rfl (hr1.le hS2) (by decide), fun S3 r hS3 hr => ?_⟩⟩
  obtain ⟨hs, hr2, hr3, hr4⟩ := hr
  rw [runs_l0] at hr4
  rw [batch_l0] at hq1 hq2
  obtain ⟨h0, h1', h2, rfl⟩ : ∃ a b c, hs = [a, b, c] := by
    have := hr4.length
    match hs, this with
    | [a, b, c], _ => exact ⟨a, b, c, rfl⟩
  obtain ⟨⟨k0, -⟩, ⟨k1, -⟩, ⟨k2, -⟩, -⟩ := hr4
  refine ⟨⟨_, rfl, rfl, rfl⟩, .inl ⟨_, _, _, of_spec S3 q _ hq1.symm (hq2.le hS3) (by decide), fun S4 u hS4 hu => ?_⟩⟩
  refine ⟨⟨_, rfl, rfl, rfl⟩, .inl fun p' c' S5 h5 hr5 => ⟨_, _, _, alike_spec S5 u (p', 4, c') [(0, 5, 1), (1, 5, 9), (0, 5, 3), (3, 6, 4)] [(0, 5, 1), (1, 5, 9), (0, 5, 3), (3, 6, 4)] hu.1.symm (hu.2.le h5) rfl hr5 (by decide), fun S6 x hS6 hx => ?_⟩⟩
  have hx' : x = true := hx
  clear hx
  subst hx'
  obtain ⟨r, n, c2⟩ := r
  have hn : n = 3 := hr2
  subst hn
  obtain ⟨q0, n0, d0⟩ := h0
  obtain ⟨q1, n1, d1⟩ := h1'
  obtain ⟨q2, n2, d2⟩ := h2
  have k0' : n0 = 1 := k0
  have k1' : n1 = 2 := k1
  have k2' : n2 = 2 := k2
  subst k0' k1' k2'
  have hr7 := (((hr3.le hS4).le h5).le hS6)
  obtain ⟨b0, o0, hp0, -, hd0⟩ := row_at hr7 (i := 0) rfl
  obtain ⟨b1, o1, hp1, -, hd1⟩ := row_at hr7 (i := 1) rfl
  obtain ⟨b2, o2, hp2, -, hd2⟩ := row_at hr7 (i := 2) rfl
  exact onT (onT ⟨by decide, (by decide : (0 : Int) < 3), b0, o0, hp0, (q0, 1, d0), trivial, hd0, onT ⟨by decide, (by decide : (1 : Int) < 3), b1, o1, hp1, (q1, 2, d1), trivial, hd1, onT ⟨by decide, (by decide : (2 : Int) < 3), b2, o2, hp2, (q2, 2, d2), trivial, hd2, rfl, true, rfl, rfl⟩⟩⟩)
end Go.Proofs.Ytfchicmekieclaa
