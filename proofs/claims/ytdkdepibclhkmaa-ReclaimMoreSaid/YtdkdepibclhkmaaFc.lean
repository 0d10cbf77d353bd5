/- law15: Sweep, Retire. -/
import Derived.Test.YtdkdepibclhkmaaFb
import Derived.Test.YtdkdepibclhkmaaLa
import Derived.Test.YtdkdepibclhkmaaSh
namespace Go.Proofs.Ytdkdepibclhkmaa
open Go Go.Vc
set_option maxRecDepth 100000

theorem sort_spec (S : Store) (xs : List Int) (hx : xs.length ≤ 1000000) : SpecK Try.prog 24 S [.row shI 3 xs] [.c (.ref 0)] (A := Unit) (fun _ => .tup []) (fun _ => [.row shI 3 (sorted xs)]) (fun _ _ => True) :=
  specK_sort (by omega) Try.slices_Sort_int Try.slices_Sort_int_none

def keptOf (xs : List It) (ann held : List Int) : List It := xs.filter fun x => way x ann held
def goneOf (xs : List It) (ann held : List Int) : List Int := (xs.filter fun x => !(way x ann held)).map (·.1)

set_option maxHeartbeats 1000000 in
theorem sweep_spec (S : Store) (p q o' : Hd) (xs : List It) (ann held : List Int) (hl : xs.length = p.2.1) (hr : RowRd S p.1 shT xs) (hm : ann.length = q.2.1) (hr' : RowRd S q.1 shI ann) (ho : held.length = o'.2.1) (hr2 : RowRd S o'.1 shI held)
    (hn : xs.length ≤ 1000) (hn' : ann.length ≤ 1000000) (hn2 : held.length ≤ 1000000) :
    Pure Try.prog 15 S [.agg #[slV p], slV q, slV o'] (A := Hd × Hd) (fun z => .tup [(true, [.v (slV z.1)]), (false, [.v (slV z.2)])]) (fun S' z => (z.1.2.1 = (keptOf xs ann held).length ∧ RowRd S' z.1.1 shT (keptOf xs ann held)) ∧ z.2.2.1 = (goneOf xs ann held).length ∧ RowRd S' z.2.1 shI (sorted (goneOf xs ann held))) := by
  obtain ⟨p, k, c⟩ := p
  simp only at hl hr
  subst hl
  refine pure_vc agrees Try.func15 rfl rfl (fun S S' q hle h => ⟨⟨h.1.1, h.1.2.le hle⟩, h.2.1, h.2.2.le hle⟩) ?_
  refine ⟨[], [(8, shT, 29), (9, shI, 3)], Nat, [11] ++ List.range' 16 60, fun i => [(15, rI i)], fun i => [.box [.v (slV (p, xs.length, c))], .box [.v (.slice none 0 0)], .row shT 29 (keptOf (xs.take i) ann held), .row shI 3 (goneOf (xs.take i) ann held)], fun _ => S, fun i => i ≤ xs.length, fun i => xs.length - i, ?_⟩
  refine And.intro (Exists.intro 0 (And.intro (And.intro (And.intro ?_ rfl) (And.intro rfl (Store.le_refl _))) (Nat.zero_le _))) ?_
  · repeat' first | exact trivial | exact rfl | refine And.intro ?_ ?_
  rintro i hi
  have i0 : (0 : Int) ≤ ((i : Nat) : Int) := Int.natCast_nonneg _
  refine And.intro (fun h => ?_) (fun h => ?_)
  · have hil : i < xs.length := by
      have : ((i : Nat) : Int) < ((xs.length : Nat) : Int) := of_decide_eq_true h
      omega
    have i1 : ((i : Nat) : Int) < ((xs.length : Nat) : Int) := by omega
    have hx : xs[i]? = some xs[i] := List.getElem?_eq_getElem hil
    obtain ⟨x, hxx⟩ : ∃ x, xs[i] = x := ⟨_, rfl⟩
    rw [hxx] at hx
    obtain ⟨b1, o, hp, hok, hrd⟩ := row_at hr hx
    have hk : (keptOf (xs.take i) ann held).length ≤ 1000 := by
      have := List.length_filter_le (fun x => way x ann held) (xs.take i)
      rw [List.length_take] at this
      show (List.filter _ _).length ≤ 1000
      omega
    have hg : (goneOf (xs.take i) ann held).length ≤ 1000 := by
      have := List.length_filter_le (fun x => !(way x ann held)) (xs.take i)
      rw [List.length_take] at this
      show (List.map _ (List.filter _ _)).length ≤ 1000
      rw [List.length_map]
      omega
    have hwi : IntKind.i64.wrap (((i : Nat) : Int) + 1) = ((i + 1 : Nat) : Int) := wrap_i64 (by omega) (by omega)
    have hwi : IntKind.i64.wrap (((i : Nat) : Int) + 1) = ((i + 1 : Nat) : Int) := wrap_i64 (by omega) (by omega)
    refine ⟨i0, i1, b1, o, hp, x, ⟨trivial, trivial, trivial⟩, hrd, ⟨_, rfl, rfl, rfl⟩, .inl ⟨_, _, _, way_spec S x q o' ann held hm hr' ho hr2 hn' hn2, fun S1 w hS1 hw => ?_⟩⟩
    have hw : w = way x ann held := hw
    refine And.intro (fun h0 => ?_) (fun h0 => ?_)
    · have h0 : w = true := h0
      rw [h0] at hw
      have e1 : keptOf (xs.take (i + 1)) ann held = keptOf (xs.take i) ann held ++ [x] := by
        unfold keptOf
        rw [List.take_add_one, hx, List.filter_append]
        simp [← hw]
      have e2 : goneOf (xs.take (i + 1)) ann held = goneOf (xs.take i) ann held := by
        unfold goneOf
        rw [List.take_add_one, hx, List.filter_append]
        simp [← hw]
      refine ⟨[x], ⟨rfl, rfl⟩, fun _ _ => ⟨trivial, trivial, trivial⟩, by show ((keptOf (xs.take i) ann held).length + 1) * 24 ≤ 140737488355328; omega, ((i + 1 : Nat) : Int), hwi, i + 1, ⟨⟨?_, rfl⟩, ?_, hS1⟩, hil, ?_⟩
      · repeat' first | exact trivial | exact rfl | refine And.intro ?_ ?_
      · show [_, _, _, _] = [_, _, _, _]
        rw [e1, e2]
      · show xs.length - (i + 1) < xs.length - i
        omega
    · have h0 : w = false := h0
      rw [h0] at hw
      have e1 : keptOf (xs.take (i + 1)) ann held = keptOf (xs.take i) ann held := by
        unfold keptOf
        rw [List.take_add_one, hx, List.filter_append]
        simp [← hw]
      have e2 : goneOf (xs.take (i + 1)) ann held = goneOf (xs.take i) ann held ++ [x.1] := by
        unfold goneOf
        rw [List.take_add_one, hx, List.filter_append]
        simp [← hw]
      refine ⟨[x.1], ⟨rfl, rfl⟩, fun _ _ => trivial, by show ((goneOf (xs.take i) ann held).length + 1) * 8 ≤ 140737488355328; omega, ((i + 1 : Nat) : Int), hwi, i + 1, ⟨⟨?_, rfl⟩, ?_, hS1⟩, hil, ?_⟩
      · repeat' first | exact trivial | exact rfl | refine And.intro ?_ ?_
      · show [_, _, _, _] = [_, _, _, _]
        rw [e1, e2]
      · show xs.length - (i + 1) < xs.length - i
        omega
  · have hil : i = xs.length := by
      have : ¬ ((i : Nat) : Int) < ((xs.length : Nat) : Int) := of_decide_eq_false h
      omega
    have ht : xs.take i = xs := by rw [hil, List.take_length]
    have hg : (goneOf (xs.take i) ann held).length ≤ 1000 := by
      have := List.length_filter_le (fun x => !(way x ann held)) xs
      rw [ht]
      show (List.map _ (List.filter _ _)).length ≤ 1000
      rw [List.length_map]
      omega
    refine ⟨⟨_, rfl, rfl, rfl⟩, .inr (.inr (.inr (.inl ⟨[3], _, _, _, _, rfl, sort_spec _ (goneOf (xs.take i) ann held) (by omega), fun S1 _ hS1 _ => ?_⟩)))⟩
    rw [ht]
    refine fun p1 c1 S2 h2 r2 _ p2 c2 S3 h3 r3 _ => ?_
    exact ⟨rfl, ((p1, _, c1), (p2, _, c2)), rfl, ⟨by rw [ht], ht ▸ r2.le h3⟩, sorted_length _, r3⟩
end Go.Proofs.Ytdkdepibclhkmaa
