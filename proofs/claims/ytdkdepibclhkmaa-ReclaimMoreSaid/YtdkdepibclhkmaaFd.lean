/- law15: Retire. -/
import Derived.Test.YtdkdepibclhkmaaFc
namespace Go.Proofs.Ytdkdepibclhkmaa
open Go Go.Vc
set_option maxRecDepth 100000

/-- The code of Retire's error. -/
def wrong (xs : List It) (x : It) : Int := if x.1 < 0 ∨ x.1 ≥ 64 then 3 else if x.2.1 < 0 ∨ x.2.1 > x.2.2 then 12 else if xs.any (fun o => o.1 == x.1) then 11 else 0
def retired (xs : List It) (x : It) : List It := if wrong xs x = 0 then xs ++ [x] else xs

theorem same_spec (S : Store) (x o : It) (b : Nat) (h : S.rd b 0 (shT.enc x)) : Pure Try.prog 21 S [vT o, .pointer (some ⟨b, 0, none⟩)] rB (fun _ r => r = (o.1 == x.1)) := by
  refine pure_vc agrees Try.func21 rfl rfl (fun S S' q hle h => h) ?_
  exact ⟨x.1, trivial, rd_field h rfl, rfl, _, rfl, rfl⟩

set_option maxHeartbeats 1000000 in
theorem retire_spec (S : Store) (p : Hd) (xs : List It) (x : It) (hl : xs.length = p.2.1) (hr : RowRd S p.1 shT xs) (hn : xs.length ≤ 1000) :
    Pure Try.prog 10 S [.agg #[slV p], vT x] (A := Hd × Int) (fun z => .tup [(true, [.v (slV z.1)]), (false, [.v (.int .i64 z.2)])]) (fun S' z => (z.1.2.1 = (retired xs x).length ∧ RowRd S' z.1.1 shT (retired xs x)) ∧ z.2 = wrong xs x) := by
  obtain ⟨p, k, c⟩ := p
  simp only at hl hr
  subst hl
  refine pure_vc agrees Try.func10 rfl rfl (fun S S' q hle h => ⟨⟨h.1.1, h.1.2.le hle⟩, h.2⟩) ?_
  have stay : ∀ w, wrong xs x = w → w ≠ 0 → (xs.length = (retired xs x).length ∧ RowRd S p shT (retired xs x)) ∧ w = wrong xs x := fun w h h0 => by
    rw [retired, if_neg (by rw [h]; exact h0)]
    exact ⟨⟨rfl, hr⟩, h.symm⟩
  refine And.intro (fun h0 => ?_) (fun h0 => ?_)
  · have h0 : x.1 < 0 := of_decide_eq_true h0
    exact onT ⟨rfl, ((p, _, c), _), rfl, stay 3 (by rw [wrong, if_pos (.inl h0)]) (by decide)⟩
  have h0 : ¬ x.1 < 0 := of_decide_eq_false h0
  refine And.intro (fun h1 => ?_) (fun h1 => ?_)
  · have h1 : x.1 ≥ 64 := of_decide_eq_true h1
    exact ⟨rfl, ((p, _, c), _), rfl, stay 3 (by rw [wrong, if_pos (.inr h1)]) (by decide)⟩
  have h1 : ¬ x.1 ≥ 64 := of_decide_eq_false h1
  refine And.intro (fun h2 => ?_) (fun h2 => ?_)
  · have h2 : x.2.1 < 0 := of_decide_eq_true h2
    exact onT ⟨rfl, ((p, _, c), _), rfl, stay 12 (by rw [wrong, if_neg (by omega), if_pos (.inl h2)]) (by decide)⟩
  have h2 : ¬ x.2.1 < 0 := of_decide_eq_false h2
  refine And.intro (fun h3 => ?_) (fun h3 => ?_)
  · have h3 : x.2.1 > x.2.2 := of_decide_eq_true h3
    exact ⟨rfl, ((p, _, c), _), rfl, stay 12 (by rw [wrong, if_neg (by omega), if_pos (.inr h3)]) (by decide)⟩
  have h3 : ¬ x.2.1 > x.2.2 := of_decide_eq_false h3
  refine ⟨⟨_, rfl, rfl, rfl⟩, .inl ?_⟩
  intro b S' hS' hrd
  refine ⟨_, _, _, has_spec S' (p, xs.length, c) xs 21 #[] #[.pointer (some ⟨b, 0, none⟩)] (fun o => o.1 == x.1) rfl (hr.le hS') (by omega) ⟨⟨_, rfl, rfl, rfl⟩, rfl, by simp [Value.oneCell'], fun o _ => same_spec S' x o b hrd⟩, fun S2 r hS2 hr2 => ?_⟩
  have stay' : ∀ w, wrong xs x = w → w ≠ 0 → (xs.length = (retired xs x).length ∧ RowRd S2 p shT (retired xs x)) ∧ w = wrong xs x := fun w h h0 => ⟨⟨(stay w h h0).1.1, (stay w h h0).1.2.le (Store.le_trans hS' hS2)⟩, (stay w h h0).2⟩
  have hr2 : r = xs.any (fun o => o.1 == x.1) := hr2
  refine And.intro (fun h4 => ?_) (fun h4 => ?_)
  · have h4 : r = true := h4
    exact ⟨rfl, ((p, _, c), _), rfl, stay' 11 (by rw [wrong, if_neg (by omega), if_neg (by omega), if_pos (by rw [← hr2, h4])]) (by decide)⟩
  have h4 : r = false := h4
  have hw : wrong xs x = 0 := by rw [wrong, if_neg (by omega), if_neg (by omega), if_neg (by rw [← hr2, h4]; simp)]
  refine ⟨or10_7, [2, 3, 4], oF10_7, by kernel_rfl, ?_⟩
  cases p with
  | none =>
    have hx0 := row_none hr
    subst hx0
    refine ⟨x, ⟨trivial, trivial, trivial⟩, Store.rd_le hS2 hrd, ?_, ?_, trivial⟩ <;>
      refine ⟨⟨_, rfl, rfl, rfl⟩, .inr (.inr (.inr (.inr ⟨_, _, _, _, clone_spec S2 (none, 0, c) [] rfl (hr.le (Store.le_trans hS' hS2)) (by decide), fun S3 _ hS3 _ => ?_⟩)))⟩
    all_goals
      refine .inl ⟨rfl, [x], ⟨rfl, rfl⟩, fun _ _ => ⟨trivial, trivial, trivial⟩, (show 1 * 24 ≤ 140737488355328 by decide), ?_⟩
      intro p1 c1 S4 h4 r4 _
      exact ⟨rfl, ((p1, _, c1), 0), rfl, ⟨by rw [retired, if_pos hw]; rfl, by rw [retired, if_pos hw]; exact r4⟩, hw.symm⟩
  | some a =>
    refine ⟨x, ⟨trivial, trivial, trivial⟩, Store.rd_le hS2 hrd, ?_, ?_, trivial⟩ <;>
      refine ⟨⟨_, rfl, rfl, rfl⟩, .inr (.inr (.inr (.inr ⟨_, _, _, _, clone_spec S2 (some a, xs.length, c) xs rfl (hr.le (Store.le_trans hS' hS2)) (by omega), fun S3 _ hS3 _ => ?_⟩)))⟩
    all_goals
      refine ⟨[x], ⟨rfl, rfl⟩, fun _ _ => ⟨trivial, trivial, trivial⟩, (show (xs.length + 1) * 24 ≤ 140737488355328 by omega), ?_⟩
      intro p1 c1 S4 h4 r4 _
      exact ⟨rfl, ((p1, _, c1), 0), rfl, ⟨by rw [retired, if_pos hw], by rw [retired, if_pos hw]; exact r4⟩, hw.symm⟩
end Go.Proofs.Ytdkdepibclhkmaa
