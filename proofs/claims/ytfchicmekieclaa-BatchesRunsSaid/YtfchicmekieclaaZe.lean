/- The statement BatchesRuns holds: called with any map and any slice of operations, the law says true and leaves them as they were. Conditions: none. -/
import Derived.Test.YtfchicmekieclaaBa
import Derived.Test.YtfchicmekieclaaFq
namespace Go.Proofs.Ytfchicmekieclaa
open Go Go.Vc Go.ChangeShapes Go.WideShapes Go.ChangeAt Go.RowKit
set_option maxRecDepth 100000

theorem batchesRuns_lifted (os : Os) (started : os.Started) (H : Type) (enc : TypeId × Value → H) :
    ReturnsInHanded {} Try.checked os 7 .any (Rows.batchesRunsSpec.pre6 enc Try.prog Try.f7 Rows.batchesRunsRow.domain false) (Rows.batchesRunsSpec.post enc Try.prog Try.f7 false true false false) := by
  refine returnsInHanded_of_change (C := Try.checked) Try.own started (by kernel_rfl) Try.func7
    (ChangeSpec.witness6 (enc := enc) (C := Try.checked) false ⟨#[], #[.map none, .slice none 0 0], []⟩ 8 (by kernel_rfl) (by kernel_rfl) (by kernel_rfl) (by kernel_rfl)) ?_
  intro W base args ds gs before hval0 hW _ _
  have hval : ∀ (j : Nat) t v, Try.f7.params[j]? = some t → args[j]? = some v → Value.okWide Try.prog W .any base t v := hval0
  have hW' := hW
  obtain ⟨p, q, hA0, _⟩ := hW
  have hA : DataW.TrodAll enc Try.prog W 0 (fun _ => true) true Try.f7.params.toList args.toList ds p := hA0
  rw [Try.params7] at hA hval
  obtain ⟨v0, v1, d0, d1, p0, p1, rfl, rfl, _, h0, h1⟩ := trodAll_two hA
  obtain ⟨b, rfl, -, es, hb1, hb2, hb3⟩ := arg_of fit22 (hval 0 22 v0 rfl rfl) h0 reads22
  obtain ⟨x, rfl, -, hx1, -, xs, hx3, hx4, hx5⟩ := arg_of fit23 (hval 1 23 v1 rfl rfl) h1 reads23
  exact told_of_pure Try.kids Try.full (by rw [Try.params7]; decide) (tb := 4) (by kernel_rfl) Try.underlying4 rfl hW' rfl rfl rfl (law_runs _ b es hb1 hb2 (fun p hp => (hb3 p hp).2.2) x xs hx3 hx4 hx5)

theorem batchesRuns_holds : Rows.BatchesRunsSaid :=
  OpenClaim.holds_of_wide 7 Try.f7 rfl rfl rfl rfl rfl rfl rfl ⟨rfl, rfl, rfl, rfl, rfl⟩ rfl rfl rfl rfl rfl (by kernel_rfl) Try.func7 (by kernel_rfl)
    (of_decide_eq_true (by kernel_rfl)) (by unfold Func.isWrapper; first | (rw [if_pos (by decide +kernel)]; kernel_rfl) | (rw [if_neg (by decide +kernel)]; exact ⟨rfl, rfl⟩))
    (fun os started H enc _ => batchesRuns_lifted os started H enc)
end Go.Proofs.Ytfchicmekieclaa
