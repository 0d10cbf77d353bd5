/- The statement BatchesCommute holds: called with any two operations and any value, the law says true and leaves them as they were. Conditions: none. -/
import Derived.Test.YtfchicmekieclaaBa
import Derived.Test.YtfchicmekieclaaFp
namespace Go.Proofs.Ytfchicmekieclaa
open Go Go.Vc Go.ChangeShapes Go.WideShapes Go.ChangeAt Go.RowKit
set_option maxRecDepth 100000

theorem batchesCommute_lifted (os : Os) (started : os.Started) (H : Type) (enc : TypeId × Value → H) :
    ReturnsInHanded {} Try.checked os 5 .any (Rows.batchesCommuteSpec.pre6 enc Try.prog Try.f5 Rows.batchesCommuteRow.domain false) (Rows.batchesCommuteSpec.post enc Try.prog Try.f5 false true false false) := by
  refine returnsInHanded_of_change (C := Try.checked) Try.own started (by kernel_rfl) Try.func5
    (ChangeSpec.witness6 (enc := enc) (C := Try.checked) false ⟨#[], #[.agg #[.int .i64 0, .int .i64 0, .int .i64 0], .agg #[.int .i64 0, .int .i64 0, .int .i64 0], .int .i64 0], []⟩ 8 (by kernel_rfl) (by kernel_rfl) (by kernel_rfl) (by kernel_rfl)) ?_
  intro W base args ds gs before hval0 hW _ _
  have hval : ∀ (j : Nat) t v, Try.f5.params[j]? = some t → args[j]? = some v → Value.okWide Try.prog W .any base t v := hval0
  have hW' := hW
  obtain ⟨p, q, hA0, _⟩ := hW
  have hA : DataW.TrodAll enc Try.prog W 0 (fun _ => true) true Try.f5.params.toList args.toList ds p := hA0
  rw [Try.params5] at hA hval
  obtain ⟨v0, v1, v2, d0, d1, d2, p0, p1, p2, rfl, rfl, _, h0, h1, h2⟩ := trodAll_three hA
  obtain ⟨a, rfl, -, ha⟩ := arg_of fit33 (hval 0 33 v0 rfl rfl) h0 reads33
  obtain ⟨b, rfl, -, hb⟩ := arg_of fit33 (hval 1 33 v1 rfl rfl) h1 reads33
  obtain ⟨v, rfl, -, hv⟩ := arg_of fit2 (hval 2 2 v2 rfl rfl) h2 reads2
  exact told_of_pure Try.kids Try.full (by rw [Try.params5]; decide) (tb := 4) (by kernel_rfl) Try.underlying4 rfl hW' rfl rfl rfl (law_commute _ a b v ha hb hv)

theorem batchesCommute_holds : Rows.BatchesCommuteSaid :=
  OpenClaim.holds_of_wide 5 Try.f5 rfl rfl rfl rfl rfl rfl rfl ⟨rfl, rfl, rfl, rfl, rfl⟩ rfl rfl rfl rfl rfl (by kernel_rfl) Try.func5 (by kernel_rfl)
    (of_decide_eq_true (by kernel_rfl)) (by unfold Func.isWrapper; first | (rw [if_pos (by decide +kernel)]; kernel_rfl) | (rw [if_neg (by decide +kernel)]; exact ⟨rfl, rfl⟩))
    (fun os started H enc _ => batchesCommute_lifted os started H enc)
end Go.Proofs.Ytfchicmekieclaa
