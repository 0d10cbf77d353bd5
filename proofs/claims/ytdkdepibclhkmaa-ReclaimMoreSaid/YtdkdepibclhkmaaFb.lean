/- law15: items: lives, named, way; Clone. -/
import Derived.Test.YtdkdepibclhkmaaFa
namespace Go.Proofs.Ytdkdepibclhkmaa
open Go Go.Vc
set_option maxRecDepth 100000

def lives (x : It) (e : Int) : Bool := e != 0 && decide (e ≥ x.2.1) && decide (e ≤ x.2.2)
def named (x : It) (v : Int) : Bool := v == IntKind.i64.wrap (x.1 + 1)
def way (x : It) (ann held : List Int) : Bool := ann.any (lives x) || held.any (named x)

theorem lives_spec (S : Store) (x : It) (e : Int) : Pure Try.prog 26 S [vT x, .int .i64 e] rB (fun _ b => b = lives x e) := by
  refine pure_vc agrees Try.func26 rfl rfl (fun S S' q hle h => h) ?_
  unfold lives
  refine And.intro (fun h0 => ?_) (fun h0 => ?_)
  · refine And.intro (fun h1 => ?_) (fun h1 => ?_)
    · exact ⟨rfl, _, rfl, by rw [show (e != 0) = true from h0, show decide (e ≥ x.2.1) = true from h1]; rfl⟩
    · exact ⟨rfl, _, rfl, by rw [show (e != 0) = true from h0, show decide (e ≥ x.2.1) = false from h1]; rfl⟩
  · exact onF ⟨rfl, _, rfl, by rw [show (e != 0) = false from h0]; rfl⟩

theorem named_spec (S : Store) (x : It) (v : Int) : Pure Try.prog 28 S [vT x, .int .i64 v] rB (fun _ b => b = named x v) := by
  refine pure_vc agrees Try.func28 rfl rfl (fun S S' q hle h => h) ?_
  exact ⟨_, rfl, rfl, _, rfl, rfl⟩

set_option maxHeartbeats 1000000 in
theorem way_spec (S : Store) (x : It) (p q : Hd) (ann held : List Int) (hl : ann.length = p.2.1) (hr : RowRd S p.1 shI ann) (hm : held.length = q.2.1) (hr' : RowRd S q.1 shI held) (hn : ann.length ≤ 1000000) (hn' : held.length ≤ 1000000) :
    Pure Try.prog 23 S [vT x, slV p, slV q] rB (fun _ b => b = way x ann held) := by
  refine pure_vc agrees Try.func23 rfl rfl (fun S S' q hle h => h) ?_
  refine ⟨⟨_, rfl, rfl, rfl⟩, .inl ⟨_, _, _, hasI_spec S p ann 26 #[vT x] #[] (lives x) hl hr hn ⟨⟨_, rfl, rfl, rfl⟩, rfl, by simp, fun e _ => lives_spec S x e⟩, fun S1 b hS1 hb => ?_⟩⟩
  have hb : b = ann.any (lives x) := hb
  refine And.intro (fun h0 => ?_) (fun h0 => ?_)
  · exact ⟨rfl, _, rfl, by rw [way, ← hb, show b = true from h0]; rfl⟩
  · refine ⟨⟨_, rfl, rfl, rfl⟩, .inl ⟨_, _, _, hasI_spec S1 q held 28 #[vT x] #[] (named x) hm (hr'.le hS1) hn' ⟨⟨_, rfl, rfl, rfl⟩, rfl, by simp, fun e _ => named_spec S1 x e⟩, fun S2 b2 hS2 hb2 => ?_⟩⟩
    have hb2 : b2 = held.any (named x) := hb2
    exact ⟨rfl, _, rfl, by rw [way, ← hb, ← hb2, show b = false from h0]; rfl⟩

@[reducible] def cOut : Option Addr → SV
  | none => .c (.v (.slice none 0 0))
  | some _ => .c (.ref 0)
@[reducible] def cNews (xs : List It) : Option Addr → List Res
  | none => []
  | some _ => [.row shT 29 xs]
theorem row_none {S : Store} {sh : Shape} {xs : List sh.T} (h : RowRd S none sh xs) : xs = [] := by
  rcases h.1 with h | ⟨_, _, h, _⟩
  · exact h
  · cases h

set_option maxHeartbeats 1000000 in
theorem clone_spec (S : Store) (p : Hd) (xs : List It) (hl : xs.length = p.2.1) (hr : RowRd S p.1 shT xs) (hn : xs.length ≤ 1000000) :
    SpecN Try.prog 22 S [slV p] (A := Unit) (fun _ => cOut p.1) (fun _ => cNews xs p.1) (fun _ _ => True) := by
  obtain ⟨p, k, c⟩ := p
  simp only at hl hr
  subst hl
  refine specN_vc agrees Try.func22 rfl rfl (fun _ _ _ _ h => h) ?_
  cases p with
  | none => exact onT ⟨[], (), rfl, rfl, rfl, trivial⟩
  | some a =>
    refine onF ⟨xs, src_of rfl hr, fun y hy => hr.2 y hy, by show ([].length + xs.length) * 24 ≤ 140737488355328; rw [List.length_nil]; omega, [0], (), rfl, rfl, rfl, trivial⟩

theorem items_spec (S : Store) (p : Hd) (xs : List It) (hl : xs.length = p.2.1) (hr : RowRd S p.1 shT xs) (hn : xs.length ≤ 1000000) :
    Pure Try.prog 16 S [.agg #[slV p]] (A := Hd) (fun q => .c (.v (slV q))) (fun S' q => q.2.1 = xs.length ∧ RowRd S' q.1 shT xs) := by
  refine pure_vc agrees Try.func16 rfl rfl (fun S S' q hle h => ⟨h.1, h.2.le hle⟩) ?_
  refine ⟨⟨_, rfl, rfl, rfl⟩, .inr (.inr (.inr (.inr ⟨_, _, _, _, clone_spec S p xs hl hr hn, fun S1 _ hS1 _ => ?_⟩)))⟩
  obtain ⟨p, k, c⟩ := p
  cases p with
  | none =>
    have := row_none hr
    subst this
    exact ⟨rfl, (none, 0, 0), rfl, rfl, .inl rfl, by simp⟩
  | some a => exact fun p' c' S' hle hr' hpf => ⟨rfl, (p', xs.length, c'), rfl, rfl, hr'⟩

theorem len_spec (S : Store) (p : Hd) : Pure Try.prog 17 S [.agg #[slV p]] rI (fun _ k => k = ((p.2.1 : Nat) : Int)) := by
  refine pure_vc agrees Try.func17 rfl rfl (fun S S' q hle h => h) ?_
  exact ⟨rfl, _, rfl, rfl⟩
end Go.Proofs.Ytdkdepibclhkmaa
