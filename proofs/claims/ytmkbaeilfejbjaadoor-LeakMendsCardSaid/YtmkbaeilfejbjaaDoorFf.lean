/- law16: Reach: its closure. -/
import Derived.Test.YtmkbaeilfejbjaaDoorFe
namespace Go.Proofs.YtmkbaeilfejbjaaDoor
open Go Go.Vc
set_option maxRecDepth 100000

/-- One node more. -/
def addOf (s : List Bool × List Int) (n : Int) : List Bool × List Int := if 0 ≤ n ∧ n < s.1.length ∧ s.1[n.toNat]? = some false then (s.1.set n.toNat true, s.2 ++ [n]) else s

theorem add_spec (S : Store) (n : Int) (s : List Bool × List Int) (hn : s.2.length ≤ 1000000) :
    SpecR Tryd.prog 27 S [.box [.ref 2], .box [.ref 3], .row .bool 4 s.1, .row shI 3 s.2] [rI n, .c (.ptr 0 0), .c (.ptr 1 0)] (A := Unit) (fun _ => .tup [])
      (fun _ => [.box [.ref 2], .box [.ref 3], .row .bool 4 (addOf s n).1, .row shI 3 (addOf s n).2]) (fun _ _ => True) := by
  refine specR_of_vc agrees Tryd.func27 rfl (fun _ _ _ _ h => h) ?_
  obtain ⟨sn, li⟩ := s
  simp only at hn
  refine And.intro (fun h0 => ?_) (fun h0 => ?_)
  · have h0' : 0 ≤ n := of_decide_eq_true h0
    refine And.intro (fun h1 => ?_) (fun h1 => ?_)
    · have h1' : n < (sn.length : Int) := of_decide_eq_true h1
      have hnl : n.toNat < sn.length := by omega
      have hx : sn[n.toNat]? = some sn[n.toNat] := List.getElem?_eq_getElem hnl
      obtain ⟨x, hxx⟩ : ∃ x, sn[n.toNat] = x := ⟨_, rfl⟩
      rw [hxx] at hx
      refine ⟨h0', h1', x, hx, ?_⟩
      cases x
      · refine onT ⟨h0', h1', false, true, hx, trivial, rfl, by decide, ?_⟩
        refine ⟨[n], ⟨rfl, rfl⟩, fun _ _ => trivial, ?_, ?_⟩
        · show (li.length + 1) * 8 ≤ 140737488355328
          omega
        have e : addOf (sn, li) n = (sn.set n.toNat true, li ++ [n]) := by unfold addOf; rw [if_pos ⟨h0', h1', hx⟩]
        rw [e]
        exact ⟨rfl, (), rfl, rfl, rfl, trivial⟩
      · have e : addOf (sn, li) n = (sn, li) := by unfold addOf; rw [if_neg (fun h => by rw [hx] at h; cases h.2.2)]
        rw [e]
        exact onF ⟨rfl, (), rfl, rfl, rfl, trivial⟩
    · have h1' : ¬ n < (sn.length : Int) := of_decide_eq_false h1
      have e : addOf (sn, li) n = (sn, li) := by unfold addOf; rw [if_neg (fun h => h1' h.2.1)]
      rw [e]
      exact onF ⟨rfl, (), rfl, rfl, rfl, trivial⟩
  · have h0' : ¬ n ≥ 0 := of_decide_eq_false h0
    have e : addOf (sn, li) n = (sn, li) := by unfold addOf; rw [if_neg (fun h => h0' h.1)]
    rw [e]
    exact onF (onF ⟨rfl, (), rfl, rfl, rfl, trivial⟩)
end Go.Proofs.YtmkbaeilfejbjaaDoor
