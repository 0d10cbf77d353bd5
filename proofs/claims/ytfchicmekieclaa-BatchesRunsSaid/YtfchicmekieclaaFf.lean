/- law54: Merge. -/
import Derived.Test.YtfchicmekieclaaFe
namespace Go.Proofs.Ytfchicmekieclaa
open Go Go.Vc
set_option maxRecDepth 100000

/-- Two operations in one. -/
def merge (a b : O) : O × Bool :=
  bif (bif (bif !(live a.1) then true else !(live b.1)) then true else a.2.1 != b.2.1) then ((0, 0, 0), false)
  else bif b.1 == 3 then (b, true)
  else bif (bif a.1 == 3 then true else a.1 == b.1) then ((a.1, a.2.1, eff b.1 a.2.2 b.2.2), true)
  else ((0, 0, 0), false)
@[reducible] def rOB (p : O × Bool) : SV := .tup [(true, shO.cs p.1), (false, [.v (.bool p.2)])]

theorem live_dec (k : Int) : live k = bif decide (k < 0) then false else !(decide (k > 3)) := by
  by_cases h : k < 0
  · have : ¬ 0 ≤ k := by omega
    simp [live, h, this]
  · have h0 : 0 ≤ k := by omega
    by_cases h3 : k > 3
    · have : ¬ k ≤ 3 := by omega
      simp [live, h, h3, this]
    · have : k ≤ 3 := by omega
      simp [live, h, h3, h0, this]
theorem live_of {k : Int} (e : isNilFunc (mk k) = false) : live k = true := by rw [mk_nil] at e; simpa using e

set_option maxHeartbeats 4000000 in
theorem merge_spec (S : Store) (a b : O) : Pure Try.prog 15 S [shO.val a, shO.val b] rOB (fun _ x => x = merge a b) := by
  obtain ⟨k, key, n⟩ := a
  obtain ⟨k', key', n'⟩ := b
  refine pure_vc agrees Try.func15 rfl rfl (fun _ _ _ _ h => h) ?_
  refine ⟨.of [0, 1, 3, 4, 2, 5, 6, 7], [], [], by kernel_rfl, ⟨_, rfl, rfl, rfl⟩, .inl ⟨_, _, _, makes_spec _ _, fun S1 _ hS1 _ => ⟨⟨_, rfl, rfl, rfl⟩, .inl ⟨_, _, _, makes_spec _ _, fun S2 _ hS2 _ => ?_⟩⟩⟩⟩
  repeat' (refine And.intro ?_ ?_ <;> first | exact ft | exact tf | refine fun _ => ?_ | exact mk_fn _ | exact rfl | refine ⟨((_, _, _), _), rfl, ?_⟩ | skip)
  all_goals first
    | (simp only [merge, ← mk_nil, *, cond_true, cond_false]; done)
    | (obtain ⟨g, hg, hent, hcall⟩ := mk_call (k := k') (live_of (by assumption))
       refine ⟨.of [0, 1, 2, 3, 4, 5, 6, 7, 8, 9, 10, 11, 12], [2], [], by kernel_rfl, g, #[], #[], hg, by simp, by simp, hent, .inl ⟨_, _, _, hcall _ _ _, fun S3 x hS3 hx3 => ?_⟩⟩
       refine ⟨rfl, ((k, key, x), true), rfl, ?_⟩
       have hx3' : x = eff k' n n' := hx3
       clear hg hent hcall hx3
       subst hx3'
       simp only [merge, ← mk_nil, *, cond_true, cond_false])
    | skip

set_option maxHeartbeats 4000000 in
theorem ref_merge_spec (S : Store) (a b : O) : Pure Try.prog 16 S [shO.val a, shO.val b] rOB (fun _ x => x = merge a b) := by
  obtain ⟨k, key, n⟩ := a
  obtain ⟨k', key', n'⟩ := b
  refine pure_vc agrees Try.func16 rfl rfl (fun _ _ _ _ h => h) ?_
  repeat' (refine And.intro ?_ ?_ <;> first | exact ft | exact tf | refine fun _ => ?_ | exact rfl | refine ⟨((_, _, _), _), rfl, ?_⟩ | skip)
  all_goals first
    | (refine ⟨.of [0, 1, 2, 3, 4, 5, 6, 7, 8, 9, 10], [2], [], by kernel_rfl, ⟨_, rfl, rfl, rfl⟩, .inl ⟨_, _, _, one_spec _ (k', key', n') _, fun S3 x hS3 hx3 => ?_⟩⟩
       refine ⟨rfl, ((k, key, x), true), rfl, ?_⟩)
    | skip
  all_goals simp only [merge, live_dec, *, cond_true, cond_false, Bool.not_true, Bool.not_false]
  all_goals (cases (decide (k < 0)) <;> cases (decide (k > 3)) <;> cases (decide (k' < 0)) <;> cases (decide (k' > 3)) <;> rfl)

set_option maxHeartbeats 1000000 in
theorem fits_spec (S : Store) (p : Option Addr × Nat × Nat) (l : List O) (hl : l.length = p.2.1) (hr : RowRd S p.1 shO l) (hn : l.length ≤ 1000000) (q : O) :
    Pure Try.prog 28 S [slV p, shO.val q] rB (fun _ x => x = l.all fun y => commute y q) := by
  obtain ⟨p, n, c⟩ := p
  simp only at hl hr
  subst hl
  obtain ⟨k, key, n⟩ := q
  refine pure_vc agrees Try.func28 rfl rfl (fun S S' q hle h => h) ?_
  refine ⟨[], [], Nat, [6, 10, 11, 12, 13, 14, 15, 16, 17], fun i => [(9, .c (.v (.int .i64 i)))], fun i => [.box [.v (.int .i64 k), .v (.int .i64 key), .v (.int .i64 n)]], fun _ => S, fun i => i ≤ l.length ∧ (l.take i).all (fun y => commute y (k, key, n)) = true, fun i => l.length - i, ?_⟩
  refine And.intro (Exists.intro 0 (And.intro (And.intro (And.intro ?_ rfl) (And.intro rfl (Store.le_refl _))) ⟨Nat.zero_le _, rfl⟩)) ?_
  · repeat' first | exact trivial | exact rfl | refine And.intro ?_ ?_
  rintro i ⟨hi, hall⟩
  refine And.intro (fun h => ?_) (fun h => ?_)
  · have hil : i < l.length := by simpa using h
    have hx : l[i]? = some l[i] := List.getElem?_eq_getElem hil
    obtain ⟨b, o, hp, hok, hrd⟩ := row_at hr hx
    refine ⟨Int.natCast_nonneg _, by simpa using h, b, o, hp, l[i], hok, hrd, ⟨_, rfl, rfl, rfl⟩, .inl ⟨_, _, _, commute_spec _ l[i] (k, key, n), fun S1 x hS1 hx1 => ?_⟩⟩
    have hx1' : x = commute l[i] (k, key, n) := hx1
    refine And.intro (fun e => ⟨rfl, false, rfl, ?_⟩) (fun e => ?_)
    · have e' : (!x) = true := e
      show false = l.all _
      symm
      rw [List.all_eq_false]
      exact ⟨l[i], List.getElem_mem _, by rw [← hx1']; simpa using e'⟩
    · have e' : (!x) = false := e
      have e2 : x = true := by simpa using e'
      refine ⟨((i + 1 : Nat) : Int), wrap_i64 (by omega) (by omega), i + 1, ⟨⟨?_, rfl⟩, rfl, hS1⟩, ⟨hil, ?_⟩, ?_⟩
      · repeat' first | exact trivial | exact rfl | refine And.intro ?_ ?_
      · rw [List.take_add_one, hx, List.all_append, hall]
        simp [← hx1', e2]
      · show l.length - (i + 1) < l.length - i
        omega
  · have hil : i = l.length := by have : ¬ i < l.length := by simpa using h
                                  omega
    subst hil
    rw [List.take_length] at hall
    exact ⟨rfl, true, rfl, hall.symm⟩
end Go.Proofs.Ytfchicmekieclaa
