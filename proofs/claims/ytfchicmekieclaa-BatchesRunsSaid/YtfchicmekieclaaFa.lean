/- law54: the small functions: what each computes. -/
import Derived.Test.YtfchicmekieclaaTt
import Derived.Test.YtfchicmekieclaaVcM
namespace Go.Proofs.Ytfchicmekieclaa
open Go Go.Vc
set_option maxRecDepth 100000

/-- An operation: kind, key, number. -/
@[reducible] def O := Int × Int × Int
@[reducible] def shO : Shape := .st (.pair (.int .i64) (.pair (.int .i64) (.int .i64)))
@[reducible] def rB (b : Bool) : SV := .c (.v (.bool b))
@[reducible] def rI (n : Int) : SV := .c (.v (.int .i64 n))

def mk (k : Int) : Value := if k = 0 then .func (.func 29) #[] #[] else if k = 1 then .func (.func 30) #[] #[] else if k = 2 then .func (.func 31) #[] #[] else if k = 3 then .func (.func 32) #[] #[] else .nilFunc

theorem mk_get (k : Int) : (mget (.int .i64) ([(0, Value.func (.func 29) #[] #[]), (1, .func (.func 30) #[] #[]), (2, .func (.func 31) #[] #[]), (3, .func (.func 32) #[] #[])] : List (Int × Value)) k).getD Value.nilFunc = mk k := by
  simp only [mget, Shape.eq, mk, beq_iff_eq]
  by_cases h0 : k = 0
  · simp [h0]
  by_cases h1 : k = 1
  · simp [h1]
  by_cases h2 : k = 2
  · simp [h2]
  by_cases h3 : k = 3
  · simp [h3]
  simp [h0, h1, h2, h3]

theorem makes_spec (S : Store) (k : Int) : Pure Try.prog 25 S [.int .i64 k] (A := Unit) (fun _ => .c (.v (mk k))) (fun _ _ => True) := by
  refine pure_vc agrees Try.func25 rfl rfl (fun _ _ _ _ h => h) ?_
  refine ⟨(0 : Int), _, rfl, rfl, rfl, (1 : Int), _, rfl, rfl, rfl, (2 : Int), _, rfl, rfl, rfl, (3 : Int), _, rfl, rfl, rfl, _, (Value.nilFunc : Value), rfl, rfl, rfl, (), ?_, trivial⟩
  exact congrArg (fun x => SV.c (.v x)) (mk_get k).symm

/-- A value behind an operation of a kind. -/
def eff (k v n : Int) : Int := if k = 0 then IntKind.i64.wrap (v + n) else if k = 1 then (if n > v then n else v) else if k = 2 then (if n < v then n else v) else if k = 3 then n else v

theorem mk0_spec (S : Store) (v n : Int) : Pure Try.prog 29 S [.int .i64 v, .int .i64 n] rI (fun _ x => x = eff 0 v n) := by
  refine pure_vc agrees Try.func29 rfl rfl (fun _ _ _ _ h => h) ?_
  exact ⟨_, rfl, rfl, _, rfl, rfl⟩
theorem mk1_spec (S : Store) (v n : Int) : Pure Try.prog 30 S [.int .i64 v, .int .i64 n] rI (fun _ x => x = eff 1 v n) := by
  refine pure_vc agrees Try.func30 rfl rfl (fun _ _ _ _ h => h) ?_
  exact ⟨rfl, _, rfl, rfl⟩
theorem mk2_spec (S : Store) (v n : Int) : Pure Try.prog 31 S [.int .i64 v, .int .i64 n] rI (fun _ x => x = eff 2 v n) := by
  refine pure_vc agrees Try.func31 rfl rfl (fun _ _ _ _ h => h) ?_
  exact ⟨rfl, _, rfl, rfl⟩
theorem mk3_spec (S : Store) (v n : Int) : Pure Try.prog 32 S [.int .i64 v, .int .i64 n] rI (fun _ x => x = eff 3 v n) := by
  refine pure_vc agrees Try.func32 rfl rfl (fun _ _ _ _ h => h) ?_
  exact ⟨rfl, _, rfl, rfl⟩

/-- The kinds that there are. -/
def live (k : Int) : Bool := decide (0 ≤ k) && decide (k ≤ 3)
theorem live_iff {k : Int} : live k = true ↔ 0 ≤ k ∧ k ≤ 3 := by simp [live]
theorem mk_nil (k : Int) : isNilFunc (mk k) = !(live k) := by
  unfold mk live
  by_cases h0 : k = 0
  · simp [h0, isNilFunc]
  by_cases h1 : k = 1
  · simp [h1, isNilFunc]
  by_cases h2 : k = 2
  · simp [h2, isNilFunc]
  by_cases h3 : k = 3
  · simp [h3, isNilFunc]
  simp only [h0, h1, h2, h3, if_false, isNilFunc]
  by_cases h : 0 ≤ k <;> simp [h] <;> omega
theorem mk_fn (k : Int) : mk k = .nilFunc ∨ ∃ g a c, mk k = .func g a c := by
  unfold mk
  repeat' split
  all_goals first | exact .inl rfl | exact .inr ⟨_, _, _, rfl⟩

/-- A function of 'makes' that is there, called. -/
theorem mk_call {k : Int} (h : live k = true) : ∃ g, mk k = .func (.func g) #[] #[] ∧ Enters Try.prog g ∧ ∀ (S : Store) (v n : Int), Pure Try.prog g S [.int .i64 v, .int .i64 n] rI (fun _ x => x = eff k v n) := by
  rw [live_iff] at h
  by_cases h0 : k = 0
  · subst h0; exact ⟨29, rfl, ⟨_, rfl, rfl, rfl⟩, mk0_spec⟩
  by_cases h1 : k = 1
  · subst h1; exact ⟨30, rfl, ⟨_, rfl, rfl, rfl⟩, mk1_spec⟩
  by_cases h2 : k = 2
  · subst h2; exact ⟨31, rfl, ⟨_, rfl, rfl, rfl⟩, mk2_spec⟩
  by_cases h3 : k = 3
  · subst h3; exact ⟨32, rfl, ⟨_, rfl, rfl, rfl⟩, mk3_spec⟩
  omega

def idle (o : O) : Bool := if o.1 = 0 then o.2.2 == 0 else if o.1 = 1 then o.2.2 == -9223372036854775808 else if o.1 = 2 then o.2.2 == 9223372036854775807 else !(live o.1)

theorem idle_spec (S : Store) (o : O) : Pure Try.prog 26 S [shO.val o] rB (fun _ b => b = idle o) := by
  obtain ⟨k, key, n⟩ := o
  refine pure_vc agrees Try.func26 rfl rfl (fun _ _ _ _ h => h) ?_
  refine ⟨fun h => ?_, fun h => ⟨fun h1 => ?_, fun h1 => ⟨fun h2 => ?_, fun h2 => ?_⟩⟩⟩
  · refine ⟨rfl, _, rfl, ?_⟩
    simp at h
    simp [idle, h]
  · refine ⟨rfl, _, rfl, ?_⟩
    simp at h h1
    simp [idle, h1]
  · refine ⟨rfl, _, rfl, ?_⟩
    simp at h h1 h2
    simp [idle, h2]
  · refine ⟨⟨_, rfl, rfl, rfl⟩, .inl ⟨Unit, _, _, makes_spec _ _, fun S' _ _ _ => ⟨mk_fn k, rfl, _, rfl, ?_⟩⟩⟩
    simp at h h1 h2
    simp [idle, h, h1, h2, mk_nil]

theorem ref_idle_spec (S : Store) (o : O) : Pure Try.prog 27 S [shO.val o] rB (fun _ b => b = idle o) := by
  obtain ⟨k, key, n⟩ := o
  refine pure_vc agrees Try.func27 rfl rfl (fun _ _ _ _ h => h) ?_
  repeat' (refine And.intro ?_ ?_ <;> first | exact ft | exact tf | refine fun _ => ?_ | exact rfl | refine ⟨_, rfl, ?_⟩ | fail)
  all_goals simp only [decide_eq_true_eq, decide_eq_false_iff_not, beq_iff_eq, beq_eq_false_iff_ne, ne_eq, gt_iff_lt] at *
  all_goals (unfold idle live; repeat' split) <;> simp_all
  all_goals omega

def com2 (p q : O) : Bool := bif p.1 == q.1 then (bif p.1 != 3 then true else p.2.2 == q.2.2) else bif (bif p.1 == 1 then q.1 == 2 else false) then decide (p.2.2 ≤ q.2.2)
  else bif (bif q.1 == 3 then p.1 == 1 else false) then decide (p.2.2 ≤ q.2.2) else bif (bif q.1 == 3 then p.1 == 2 else false) then decide (p.2.2 ≥ q.2.2) else false
def commute (a b : O) : Bool :=
  bif (bif (bif a.2.1 != b.2.1 then true else idle a) then true else idle b) then true else bif decide (a.1 > b.1) then com2 b a else com2 a b

set_option maxHeartbeats 4000000 in
theorem ref_commute_spec (S : Store) (a b : O) : Pure Try.prog 18 S [shO.val a, shO.val b] rB (fun _ x => x = commute a b) := by
  obtain ⟨k, key, n⟩ := a
  obtain ⟨k', key', n'⟩ := b
  refine pure_vc agrees Try.func18 rfl rfl (fun _ _ _ _ h => h) ?_
  repeat' (refine And.intro ?_ ?_ <;> first | exact ft | exact tf | refine fun _ => ?_ | exact ⟨_, rfl, rfl, rfl⟩ | exact rfl | refine .inl ⟨_, _, _, ref_idle_spec _ (_, _, _), fun S' x hS hx => ?_⟩ | refine ⟨_, rfl, ?_⟩ | fail)
  all_goals subst_vars
  all_goals first | (simp only [commute, com2, *, cond_true, cond_false]; done) | (exfalso; simp_all; done)

set_option maxHeartbeats 4000000 in
theorem commute_spec (S : Store) (a b : O) : Pure Try.prog 17 S [shO.val a, shO.val b] rB (fun _ x => x = commute a b) := by
  obtain ⟨k, key, n⟩ := a
  obtain ⟨k', key', n'⟩ := b
  refine pure_vc agrees Try.func17 rfl rfl (fun _ _ _ _ h => h) ?_
  repeat' (refine And.intro ?_ ?_ <;> first | exact ft | exact tf | refine fun _ => ?_ | exact ⟨_, rfl, rfl, rfl⟩ | exact rfl | refine .inl ⟨_, _, _, idle_spec _ (_, _, _), fun S' x hS hx => ?_⟩ | refine ⟨_, rfl, ?_⟩ | fail)
  all_goals subst_vars
  all_goals first | (simp only [commute, com2, *, cond_true, cond_false]; done) | (exfalso; simp_all; done) | (simp_all [commute, com2]; done) | (exfalso; simp_all; omega) | (simp_all [commute, com2]; intro h; omega)

theorem one_spec (S : Store) (o : O) (v : Int) : Pure Try.prog 23 S [shO.val o, .int .i64 v] rI (fun _ x => x = eff o.1 v o.2.2) := by
  obtain ⟨k, key, n⟩ := o
  refine pure_vc agrees Try.func23 rfl rfl (fun _ _ _ _ h => h) ?_
  refine ⟨fun h => ⟨_, rfl, rfl, _, rfl, ?_⟩, fun h => ⟨fun h1 => ⟨rfl, _, rfl, ?_⟩, fun h1 => ⟨fun h2 => ⟨rfl, _, rfl, ?_⟩, fun h2 => ⟨fun h3 => ⟨rfl, _, rfl, ?_⟩, fun h3 => ⟨rfl, _, rfl, ?_⟩⟩⟩⟩⟩
  · simp at h; simp [eff, h]
  · simp at h1; simp [eff, h1]
  · simp at h2; simp [eff, h2]
  · simp at h3; simp [eff, h3]
  · simp at h h1 h2 h3; simp [eff, h, h1, h2, h3]
end Go.Proofs.Ytfchicmekieclaa
