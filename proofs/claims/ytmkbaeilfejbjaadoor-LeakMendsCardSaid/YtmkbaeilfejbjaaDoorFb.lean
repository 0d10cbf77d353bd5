/- law16: less. -/
import Derived.Test.YtmkbaeilfejbjaaDoorFa
import Derived.Test.YtmkbaeilfejbjaaDoorLa
import Derived.Test.YtmkbaeilfejbjaaDoorSh
namespace Go.Proofs.YtmkbaeilfejbjaaDoor
open Go Go.Vc
set_option maxRecDepth 100000

theorem sort_spec (S : Store) (xs : List Int) (hx : xs.length ≤ 1000000) : SpecK Tryd.prog 32 S [.row shI 3 xs] [.c (.ref 0)] (A := Unit) (fun _ => .tup []) (fun _ => [.row shI 3 (sorted xs)]) (fun _ _ => True) :=
  specK_sort (by omega) Tryd.slices_Sort_int Tryd.slices_Sort_int_none
theorem compact_spec (S : Store) (xs : List Int) : SpecR Tryd.prog 33 S [.row shI 3 xs] [.c (.ref 0)] (A := Hd) (fun q => .c (.v (slV q))) (fun _ => [.gone]) (fun S' q => q.2.1 = (Lib.compact xs).length ∧ RowRd S' q.1 shI (Lib.compact xs)) :=
  specR_compact Tryd.slices_Compact_int Tryd.slices_Compact_int_empty

def lessOf (a b : List Int) : List Int := Lib.compact (sorted (a.filter fun n => decide (n ∉ b)))

set_option maxHeartbeats 4000000 in
theorem less_spec (S : Store) (p q : Hd) (a b : List Int) (hl : a.length = p.2.1) (hr : RowRd S p.1 shI a) (hm : b.length = q.2.1) (hr' : RowRd S q.1 shI b) (hn : a.length ≤ 1000000) (hn' : b.length ≤ 1000000) :
    Pure Tryd.prog 26 S [slV p, slV q] (A := Hd) (fun q => .c (.v (slV q))) (fun S' q => q.2.1 = (lessOf a b).length ∧ RowRd S' q.1 shI (lessOf a b)) := by
  obtain ⟨p, n, c⟩ := p
  obtain ⟨q, n', c'⟩ := q
  simp only at hl hr hm hr'
  subst hl hm
  refine pure_vc agrees Tryd.func26 rfl rfl (fun S S' q hle h => ⟨h.1, h.2.le hle⟩) ?_
  refine ⟨[], [], Nat × List (Int × Bool), [6, 7, 8, 9, 10, 11] ++ List.range' 15 50, fun x => [(14, .c (.v (.int .i64 x.1)))], fun x => [.map shI .bool x.2], fun _ => S,
    fun x => x.1 ≤ b.length ∧ ∀ n, mget shI x.2 n = if n ∈ b.take x.1 then some true else none, fun x => b.length - x.1, ?_⟩
  refine And.intro (Exists.intro (0, []) (And.intro (And.intro (And.intro ?_ rfl) (And.intro rfl (Store.le_refl _))) ⟨Nat.zero_le _, fun n => by simp [mget]⟩)) ?_
  · repeat' first | exact trivial | exact rfl | refine And.intro ?_ ?_
  rintro ⟨i, m⟩ ⟨hi, hm⟩
  simp only at hi hm
  refine And.intro (fun h => ?_) (fun h => ?_)
  · have hil : i < b.length := by
      have : ((i : Nat) : Int) < ((b.length : Nat) : Int) := of_decide_eq_true h
      omega
    have hx : b[i]? = some b[i] := List.getElem?_eq_getElem hil
    obtain ⟨b1, o1, hp1, hk1, hd1⟩ := row_at hr' hx
    have i0 : (0 : Int) ≤ ((i : Nat) : Int) := Int.natCast_nonneg _
    have i1 : ((i : Nat) : Int) < ((b.length : Nat) : Int) := by omega
    refine ⟨i0, i1, b1, o1, hp1, b[i], hk1, hd1, b[i], true, rfl, rfl, trivial, ((i + 1 : Nat) : Int), wrap_i64 (by omega) (by omega), (i + 1, mset shI m b[i] true), ⟨⟨?_, rfl⟩, rfl, Store.le_refl _⟩, ⟨hil, fun n => ?_⟩, ?_⟩
    · repeat' first | exact trivial | exact rfl | refine And.intro ?_ ?_
    · have htk : b.take (i + 1) = b.take i ++ [b[i]] := by rw [List.take_add_one, hx]; rfl
      show mget shI (mset shI m b[i] true) n = if n ∈ b.take (i + 1) then some true else none
      rw [mget_mset (k := shI) rfl, hm, htk]
      by_cases hn : n = b[i]
      · rw [if_pos ((key_eq (k := shI) rfl n b[i]).2 hn), if_pos (List.mem_append.2 (.inr (List.mem_singleton.2 hn)))]
      · rw [if_neg (fun e => hn ((key_eq (k := shI) rfl n b[i]).1 e))]
        by_cases h2 : n ∈ b.take i
        · rw [if_pos h2, if_pos (List.mem_append.2 (.inl h2))]
        · rw [if_neg h2, if_neg fun h3 => (List.mem_append.1 h3).elim h2 fun h4 => hn (List.mem_singleton.1 h4)]
    · show b.length - (i + 1) < b.length - i
      omega
  · have hil : i = b.length := by
      have : ¬ ((i : Nat) : Int) < ((b.length : Nat) : Int) := of_decide_eq_false h
      omega
    rw [hil, List.take_length] at hm
    refine ⟨[], [(8, shI, 3)], Nat, [9, 10, 11] ++ List.range' 24 40, fun x => [(23, .c (.v (.int .i64 x))), (8, .c (.ref 1))], fun x => [.map shI .bool m, .row shI 3 ((a.take x).filter fun n => decide (n ∉ b))], fun _ => S,
      fun x => x ≤ a.length, fun x => a.length - x, ?_⟩
    refine And.intro (Exists.intro 0 (And.intro (And.intro (And.intro ?_ rfl) (And.intro rfl (Store.le_refl _))) (Nat.zero_le _))) ?_
    · repeat' first | exact trivial | exact rfl | refine And.intro ?_ ?_
    intro j hj
    have hj' : j ≤ a.length := hj
    refine And.intro (fun h => ?_) (fun h => ?_)
    · have hjl : j < a.length := by
        have : ((j : Nat) : Int) < ((a.length : Nat) : Int) := of_decide_eq_true h
        omega
      have hx : a[j]? = some a[j] := List.getElem?_eq_getElem hjl
      obtain ⟨b1, o1, hp1, hk1, hd1⟩ := row_at hr hx
      have j0 : (0 : Int) ≤ ((j : Nat) : Int) := Int.natCast_nonneg _
      have j1 : ((j : Nat) : Int) < ((a.length : Nat) : Int) := by omega
      obtain ⟨x, hxx⟩ : ∃ x, a[j] = x := ⟨_, rfl⟩
      rw [hxx] at hx hk1 hd1
      refine ⟨j0, j1, b1, o1, hp1, x, hk1, hd1, x, false, rfl, rfl, ?_⟩
      have hfil : (a.take (j + 1)).filter (fun n => decide (n ∉ b)) = (a.take j).filter (fun n => decide (n ∉ b)) ++ [x].filter fun n => decide (n ∉ b) := by
        rw [List.take_add_one, hx, List.filter_append]; rfl
      have hlen : ((a.take j).filter fun n => decide (n ∉ b)).length ≤ 1000000 := by
        have h1 := List.length_filter_le (fun n => decide (n ∉ b)) (a.take j)
        rw [List.length_take] at h1
        omega
      have hmx := hm x
      have hwj : IntKind.i64.wrap (((j : Nat) : Int) + 1) = ((j + 1 : Nat) : Int) := wrap_i64 (by omega) (by omega)
      refine And.intro (fun h1 => ?_) (fun h1 => ?_)
      · have hxb : x ∉ b := by
          intro hxb
          have h1' : (!(mget shI m x).getD false) = true := h1
          rw [hmx, if_pos hxb] at h1'
          simp at h1'
        refine ⟨[x], ⟨rfl, rfl⟩, fun _ _ => trivial, ?_, ((j + 1 : Nat) : Int), hwj, j + 1, ⟨⟨?_, rfl⟩, ?_, Store.le_refl _⟩, hjl, ?_⟩
        · show (((a.take j).filter fun n => decide (n ∉ b)).length + 1) * 8 ≤ 140737488355328
          omega
        · repeat' first | exact trivial | exact rfl | refine And.intro ?_ ?_
        · show [Res.map shI .bool m, Res.row shI 3 ((a.take j).filter (fun n => decide (n ∉ b)) ++ [x])] = [Res.map shI .bool m, Res.row shI 3 ((a.take (j + 1)).filter fun n => decide (n ∉ b))]
          rw [hfil]
          simp [hxb]
        · show a.length - (j + 1) < a.length - j
          omega
      · have hxb : x ∈ b := by
          have h1' : (!(mget shI m x).getD false) = false := h1
          rw [hmx] at h1'
          by_cases hxb : x ∈ b
          · exact hxb
          · rw [if_neg hxb] at h1'; simp at h1'
        refine ⟨((j + 1 : Nat) : Int), hwj, j + 1, ⟨⟨?_, rfl⟩, ?_, Store.le_refl _⟩, hjl, ?_⟩
        · repeat' first | exact trivial | exact rfl | refine And.intro ?_ ?_
        · show [Res.map shI .bool m, Res.row shI 3 ((a.take j).filter fun n => decide (n ∉ b))] = [Res.map shI .bool m, Res.row shI 3 ((a.take (j + 1)).filter fun n => decide (n ∉ b))]
          rw [hfil]
          simp [hxb]
        · show a.length - (j + 1) < a.length - j
          omega
    · have hjl : j = a.length := by
        have : ¬ ((j : Nat) : Int) < ((a.length : Nat) : Int) := of_decide_eq_false h
        omega
      have hlen : ((a.take j).filter fun n => decide (n ∉ b)).length ≤ 1000000 := by
        have h1 := List.length_filter_le (fun n => decide (n ∉ b)) (a.take j)
        rw [List.length_take] at h1
        omega
      refine ⟨⟨_, rfl, rfl, rfl⟩, .inr (.inr (.inr (.inl ⟨[1], _, _, _, _, rfl, sort_spec S _ hlen, fun S1 _ hS1 _ => ?_⟩)))⟩
      refine ⟨⟨_, rfl, rfl, rfl⟩, .inr (.inl ⟨[1], _, _, _, _, rfl, compact_spec S1 _, fun S2 q hS2 hq => ?_⟩)⟩
      refine ⟨rfl, q, rfl, ?_⟩
      rw [hjl, List.take_length] at hq
      exact hq

theorem lost_spec (S : Store) (p q : Hd) (a b : List Int) (hl : a.length = p.2.1) (hr : RowRd S p.1 shI a) (hm : b.length = q.2.1) (hr' : RowRd S q.1 shI b) (hn : a.length ≤ 1000000) (hn' : b.length ≤ 1000000) :
    Pure Tryd.prog 12 S [slV p, slV q] (A := Hd) (fun q => .c (.v (slV q))) (fun S' q => q.2.1 = (lessOf a b).length ∧ RowRd S' q.1 shI (lessOf a b)) := by
  refine pure_vc agrees Tryd.func12 rfl rfl (fun S S' q hle h => ⟨h.1, h.2.le hle⟩) ?_
  exact ⟨⟨_, rfl, rfl, rfl⟩, .inl ⟨_, _, _, less_spec S p q a b hl hr hm hr' hn hn', fun S' x hS hx => ⟨rfl, x, rfl, hx⟩⟩⟩
theorem wild_spec (S : Store) (p q : Hd) (a b : List Int) (hl : a.length = p.2.1) (hr : RowRd S p.1 shI a) (hm : b.length = q.2.1) (hr' : RowRd S q.1 shI b) (hn : a.length ≤ 1000000) (hn' : b.length ≤ 1000000) :
    Pure Tryd.prog 13 S [slV p, slV q] (A := Hd) (fun q => .c (.v (slV q))) (fun S' q => q.2.1 = (lessOf b a).length ∧ RowRd S' q.1 shI (lessOf b a)) := by
  refine pure_vc agrees Tryd.func13 rfl rfl (fun S S' q hle h => ⟨h.1, h.2.le hle⟩) ?_
  exact ⟨⟨_, rfl, rfl, rfl⟩, .inl ⟨_, _, _, less_spec S q p b a hm hr' hl hr hn' hn, fun S' x hS hx => ⟨rfl, x, rfl, hx⟩⟩⟩
end Go.Proofs.YtmkbaeilfejbjaaDoor
