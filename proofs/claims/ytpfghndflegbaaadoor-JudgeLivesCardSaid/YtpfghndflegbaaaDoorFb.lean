/- law58: the reference's Calls. -/
import Derived.Test.YtpfghndflegbaaaDoorFa
namespace Go.Proofs.YtpfghndflegbaaaDoor
open Go Go.Vc
set_option maxRecDepth 100000

/-- The places of the calls. -/
def callsR (l : List shE.T) : List Int := (l.zipIdx.filter fun q => decide (q.1.1 = 0)).map fun q => (q.2 : Int)
theorem callsR_snoc (l : List shE.T) (x : shE.T) : callsR (l ++ [x]) = callsR l ++ if x.1 = 0 then [(l.length : Int)] else [] := by
  unfold callsR
  rw [List.zipIdx_append, List.filter_append, List.map_append]
  congr 1
  by_cases h : x.1 = 0 <;> simp [h]
theorem callsR_len (l : List shE.T) : (callsR l).length ≤ l.length := by
  unfold callsR
  rw [List.length_map]
  exact Nat.le_trans (List.length_filter_le _ _) (by simp)
theorem calls_spec (S : Store) (p : Hd) (l : List shE.T) (hl : l.length = p.2.1) (hr : RowRd S p.1 shE l) (hn : l.length ≤ 1000000) :
    Pure Tryd.prog 12 S [slV p] (A := Hd) (fun q => .c (.v (slV q))) (fun S' q => q.2.1 = (callsR l).length ∧ RowRd S' q.1 shI (callsR l)) := by
  obtain ⟨p, n, c⟩ := p
  simp only at hl hr
  subst hl
  refine pure_vc agrees Tryd.func12 rfl rfl (fun S S' q hle h => ⟨h.1, h.2.le hle⟩) ?_
  refine ⟨[], [(3, .int .i64, 3)], Nat, List.range' 5 17, fun i => [(4, rI i)], fun i => [.row (.int .i64) 3 (callsR (l.take i))], fun _ => S, fun i => i ≤ l.length, fun i => l.length - i, ?_⟩
  refine And.intro (Exists.intro 0 (And.intro (And.intro (And.intro ?_ rfl) (And.intro rfl (Store.le_refl _))) (Nat.zero_le _))) ?_
  · repeat' first | exact trivial | exact rfl | refine And.intro ?_ ?_
  rintro i hi
  have i0 : (0 : Int) ≤ ((i : Nat) : Int) := Int.natCast_nonneg _
  refine And.intro (fun h => ?_) (fun h => ?_)
  · have hil : i < l.length := by
      have : ((i : Nat) : Int) < ((l.length : Nat) : Int) := of_decide_eq_true h
      omega
    obtain ⟨y, hy⟩ : ∃ y, l[i]? = some y := ⟨_, List.getElem?_eq_getElem hil⟩
    obtain ⟨b, o, hp, hok, hrd⟩ := row_at hr hy
    have htk : l.take (i + 1) = l.take i ++ [y] := by rw [List.take_add_one, hy]; rfl
    have hsn := callsR_snoc (l.take i) y
    rw [← htk, List.length_take, Nat.min_eq_left hi] at hsn
    have hcl := callsR_len (l.take i)
    rw [List.length_take] at hcl
    refine ⟨i0, by show ((i : Nat) : Int) < (l.length : Int); omega, b, o, hp, y.1, trivial, rd_field (f := 0) hrd rfl, ?_⟩
    by_cases e : y.1 = 0
    · rw [if_pos e] at hsn
      refine onE (beq_iff_eq.2 e) ⟨[((i : Nat) : Int)], ⟨rfl, rfl⟩, fun _ _ => trivial, by show ((callsR (l.take i)).length + 1) * 8 ≤ 140737488355328; omega, ((i + 1 : Nat) : Int), wrap_i64 (by omega) (by omega), i + 1, ⟨⟨?_, rfl⟩, ?_, Store.le_refl _⟩, hil, by show l.length - (i + 1) < l.length - i; omega⟩
      · repeat' first | exact trivial | exact rfl | refine And.intro ?_ ?_
      · show [Res.row (.int .i64) 3 (callsR (l.take i) ++ [((i : Nat) : Int)])] = [Res.row (.int .i64) 3 (callsR (l.take (i + 1)))]
        rw [hsn]
    · rw [if_neg e, List.append_nil] at hsn
      refine offE (beq_eq_false_iff_ne.2 e) ⟨((i + 1 : Nat) : Int), wrap_i64 (by omega) (by omega), i + 1, ⟨⟨?_, rfl⟩, ?_, Store.le_refl _⟩, hil, by show l.length - (i + 1) < l.length - i; omega⟩
      · repeat' first | exact trivial | exact rfl | refine And.intro ?_ ?_
      · show [Res.row (.int .i64) 3 (callsR (l.take i))] = [Res.row (.int .i64) 3 (callsR (l.take (i + 1)))]
        rw [hsn]
  · have hil : i = l.length := by
      have : ¬ ((i : Nat) : Int) < ((l.length : Nat) : Int) := of_decide_eq_false h
      omega
    subst hil
    intro p c S' hle hrd hpf
    have htk : List.take l.length l = l := List.take_length
    refine ⟨rfl, (p, (callsR (List.take l.length l)).length, c), rfl, ?_, ?_⟩
    · show (callsR (List.take l.length l)).length = _
      rw [htk]
    · rw [htk] at hrd; exact hrd
end Go.Proofs.YtpfghndflegbaaaDoor
