/- law29: the law Calls says true. -/
import Derived.Test.YtjlkekebhgjlcaaDoorFh
namespace Go.Proofs.YtjlkekebhgjlcaaDoor
open Go Go.Vc
set_option maxRecDepth 100000

theorem find_pos {name : ByteArray} {k : Int} {f : Nat} (h : find name = some (k, f)) : 0 ≤ k := by
  rcases name_cases name with hn | hn
  · rcases hn with rfl | rfl | rfl | rfl | rfl | rfl | rfl | rfl <;> (obtain ⟨rfl, rfl⟩ := Prod.mk.inj (Option.some.inj h)) <;> decide
  · rw [find_none hn] at h; cases h
set_option maxHeartbeats 1000000 in
theorem law_calls (S : Store) (hT : Tab S) (name : ByteArray) (p : Hd) (l : List Int) (hl : l.length = p.2.1) (hr : RowRd S p.1 shI l) (hi : ∀ x ∈ l, inI64 x) :
    Pure Tryd.prog 6 S [.string name, slV p] rB (fun _ x => x = true) := by
  obtain ⟨p, n, c⟩ := p
  simp only at hl hr
  subst hl
  refine pure_vc agrees Tryd.func6 rfl rfl (fun S S' q hle h => h) ?_
  refine And.intro (fun h0 => ?_) (fun h0 => ?_)
  · exact ⟨⟨_, rfl, rfl, rfl⟩, .inl ⟨_, _, _, awake_spec S hT, fun S1 x hS1 hx => ⟨rfl, x, rfl, hx⟩⟩⟩
  have hn : l.length ≤ 20 := by have : ¬ ((l.length : Nat) : Int) > 20 := of_decide_eq_false h0; omega
  refine ⟨[], [], Nat × Store, List.range' 5 200, fun x => [(17, rI x.1)], fun x => [], fun x => x.2, fun x => x.1 ≤ 2 ∧ S.le x.2, fun x => 2 - x.1, ?_⟩
  refine And.intro (Exists.intro (0, S) (And.intro (And.intro (And.intro ?_ rfl) (And.intro rfl (Store.le_refl _))) ⟨Nat.zero_le _, Store.le_refl _⟩)) ?_
  · repeat' first | exact trivial | exact rfl | refine And.intro ?_ ?_
  rintro ⟨i, T⟩ ⟨hi2, hT1⟩
  simp only at hi2 hT1
  refine And.intro (fun h => ?_) (fun h => ?_)
  · have h : i < 2 := by have : ((i : Nat) : Int) < 2 := of_decide_eq_true h; omega
    refine ⟨⟨_, rfl, rfl, rfl⟩, .inl ⟨_, _, _, call_spec T (hT.le hT1) name (p, l.length, c) l rfl (hr.le hT1) hi (by omega), fun T1 x hS1 hx => ?_⟩⟩
    obtain rfl : x = callR name l := hx
    have hT2 := Store.le_trans hT1 hS1
    refine ⟨⟨_, rfl, rfl, rfl⟩, .inl ⟨_, _, _, refcall_spec T1 name (p, l.length, c) l rfl (hr.le hT2) hi, fun T2 x hS2 hx => ?_⟩⟩
    obtain rfl : x = callR name l := hx
    have hw1 : IntKind.i64.wrap ((i : Int) + 1) = ((i + 1 : Nat) : Int) := wrap_i64 (by omega) (by omega)
    refine offE (bne_self_eq_false _) (offE (bne_self_eq_false _) (offE (by rw [streq, decide_eq_true rfl]; rfl) ?_))
    refine ⟨_, hw1, (i + 1, T2), ⟨⟨?_, rfl⟩, rfl, Store.le_refl _⟩, ⟨h, Store.le_trans hT2 hS2⟩, by show 2 - (i + 1) < 2 - i; omega⟩
    repeat' first | exact trivial | exact rfl | refine And.intro ?_ ?_
  · refine ⟨⟨_, rfl, rfl, rfl⟩, .inl ⟨_, _, _, args_spec T name, fun T1 x hS1 hx => ?_⟩⟩
    rw [mget_host] at hx
    have hT2 := Store.le_trans hT1 hS1
    refine ⟨⟨_, rfl, rfl, rfl⟩, .inl ⟨_, _, _, awake_spec T1 (hT.le hT2), fun T2 y hS2 hy => ?_⟩⟩
    obtain rfl : y = true := hy
    refine onT ?_
    have hx2 : x.2 = decide (arity name ≥ 0) ∧ x.1 = if 0 > arity name then 0 else arity name := by
      rw [show x = _ from hx]
      unfold arity
      cases hf : find name with
      | none => exact ⟨rfl, rfl⟩
      | some y =>
        obtain ⟨k, f⟩ := y
        have hk := find_pos hf
        exact ⟨(decide_eq_true (by omega)).symm, by show k = if 0 > k then 0 else k; rw [if_neg (by omega)]⟩
    refine ⟨⟨_, rfl, rfl, rfl⟩, .inl ⟨_, _, _, arity_spec T2 name, fun T3 a hS3 ha => ?_⟩⟩
    obtain rfl : a = arity name := ha
    refine onE (by rw [hx2.1]; exact beq_self_eq_true _) ?_
    refine ⟨⟨_, rfl, rfl, rfl⟩, .inl ⟨_, _, _, arity_spec T3 name, fun T4 a hS4 ha => ?_⟩⟩
    obtain rfl : a = arity name := ha
    exact ⟨rfl, _, rfl, by rw [hx2.2]; exact beq_self_eq_true _⟩
end Go.Proofs.YtjlkekebhgjlcaaDoor
