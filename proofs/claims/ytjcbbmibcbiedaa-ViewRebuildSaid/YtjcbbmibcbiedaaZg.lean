/- The statement ViewRebuild holds: called with any sequence of calls, the law says true and leaves them as they were. Conditions: none. -/
import Derived.Test.YtjcbbmibcbiedaaBa
import Derived.Test.YtjcbbmibcbiedaaFp
namespace Go.Proofs.Ytjcbbmibcbiedaa
open Go Go.Vc Go.ChangeShapes Go.WideShapes Go.ChangeAt Go.RowKit
set_option maxRecDepth 100000

theorem viewRebuild_lifted (os : Os) (started : os.Started) (H : Type) (enc : TypeId × Value → H) :
    ReturnsInHanded {} Try.checked os 9 .any (Rows.viewRebuildSpec.pre6 enc Try.prog Try.f9 Rows.viewRebuildRow.domain false) (Rows.viewRebuildSpec.post enc Try.prog Try.f9 false true false false) := by
  refine returnsInHanded_of_change (C := Try.checked) Try.own started (by kernel_rfl) Try.func9
    (ChangeSpec.witness6 (enc := enc) (C := Try.checked) false ⟨#[], #[.slice none 0 0], []⟩ 8 (by kernel_rfl) (by kernel_rfl) (by kernel_rfl) (by kernel_rfl)) ?_
  intro W base args ds gs before hval0 hW _ _
  have hval : ∀ (j : Nat) t v, Try.f9.params[j]? = some t → args[j]? = some v → Value.okWide Try.prog W .any base t v := hval0
  have hW' := hW
  obtain ⟨p, q, hA0, _⟩ := hW
  have hA : DataW.TrodAll enc Try.prog W 0 (fun _ => true) true Try.f9.params.toList args.toList ds p := hA0
  rw [Try.params9] at hA hval
  obtain ⟨v0, d0, rfl, rfl, h0⟩ := trodAll_one hA
  obtain ⟨x0, rfl, -, -, -, xs0, hx0, hr0, -⟩ := arg_of fit22 (hval 0 22 v0 rfl rfl) h0 reads22
  exact told_of_pure Try.kids Try.full (by rw [Try.params9]; decide) (tb := 4) (by kernel_rfl) Try.underlying4 rfl hW' rfl rfl rfl (law_rebuild _ x0 xs0 hx0 hr0)

theorem viewRebuild_holds : Rows.ViewRebuildSaid :=
  OpenClaim.holds_of_wide 9 Try.f9 rfl rfl rfl rfl rfl rfl rfl ⟨rfl, rfl, rfl, rfl, rfl⟩ rfl rfl rfl rfl rfl (by kernel_rfl) Try.func9 (by kernel_rfl)
    (of_decide_eq_true (by kernel_rfl)) (by unfold Func.isWrapper; first | (rw [if_pos (by decide +kernel)]; kernel_rfl) | (rw [if_neg (by decide +kernel)]; exact ⟨rfl, rfl⟩))
    (fun os started H enc _ => viewRebuild_lifted os started H enc)
end Go.Proofs.Ytjcbbmibcbiedaa
