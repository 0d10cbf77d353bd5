/- law58: the register as a Spec. -/
import Derived.Test.YtpfghndflegbaaaDoorFl
namespace Go.Proofs.YtpfghndflegbaaaDoor
open Go Go.Vc Go.Sort
set_option maxRecDepth 100000

theorem doE_in {n : Int} (hn : inI64 n) (nm : ByteArray) {xs : List Int} (hx : ∀ x ∈ xs, inI64 x) : inI64 (doE n nm xs).1 := by
  have h0 : ∀ k, inI64 (xs.getD k 0) := fun k => by
    rw [List.getD_eq_getElem?_getD]
    cases h : xs[k]? with
    | none => exact ⟨by decide, by decide⟩
    | some x => exact hx x (List.mem_of_getElem? h)
  unfold doE
  split
  · exact h0 0
  split
  · exact hn
  split
  · exact wrap_i64_in _
  split
  · split
    · exact h0 1
    · exact hn
  · exact hn
theorem reg_spec (S : Store) (hL : Lw S) (n : Int) (hn : inI64 n) (nm : ByteArray) (p : Hd) (xs : List Int) (hx : ∀ x ∈ xs, inI64 x) (hl : xs.length = p.2.1) (hr : RowRd S p.1 shI xs) :
    Pure Tryd.prog 20 S [.agg #[], .string (bs (Lib.itoa n)), shCall.val (nm, p)] (A := Unit) (fun _ => .tup [(false, [.v (.string (bs (Lib.itoa (doE n nm xs).1)))]), (true, shAns.cs (doE n nm xs).2)]) (fun _ _ => True) := by
  refine pure_vc agrees Tryd.func20 rfl rfl (fun S S' q hle h => h) ?_
  refine ⟨⟨_, rfl, rfl, rfl⟩, .inl ⟨_, _, _, parse_spec S n hn, fun S1 _ hS1 _ => ?_⟩⟩
  refine ⟨⟨_, rfl, rfl, rfl⟩, .inl ⟨_, _, _, do_spec S1 n nm p xs hl (hr.le hS1), fun S2 _ hS2 _ => ?_⟩⟩
  refine ⟨or20_3, [1, 2, 3], oF20_3, by kernel_rfl, ?_⟩
  refine ⟨⟨_, rfl, rfl, rfl⟩, .inl ⟨_, _, _, format_spec S2 ((hL.le hS1).le hS2) _ (doE_in hn nm hx), fun S3 _ hS3 _ => ?_⟩⟩
  exact ⟨rfl, (), rfl, trivial⟩
theorem itoa_zero : bs (Lib.itoa 0) = bs [48] := by
  rw [Txt.itoa_pos (by decide)]
  show bs (Lib.decDigits 0) = _
  rw [Txt.dec_zero]
theorem first_spec (S : Store) : Pure Tryd.prog 19 S [.agg #[]] (A := Unit) (fun _ => rS (bs (Lib.itoa 0))) (fun _ _ => True) := by
  refine pure_vc agrees Tryd.func19 rfl rfl (fun S S' q hle h => h) ?_
  exact ⟨rfl, (), by rw [itoa_zero]; rfl, trivial⟩
end Go.Proofs.YtpfghndflegbaaaDoor
