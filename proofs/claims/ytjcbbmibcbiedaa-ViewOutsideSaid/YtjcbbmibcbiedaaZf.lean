/- The statement ViewOutside holds: called with any two numbers and any sequence of calls, the law says true and leaves them as they were. Conditions: none. -/
import Derived.Test.YtjcbbmibcbiedaaBa
import Derived.Test.YtjcbbmibcbiedaaFo
namespace Go.Proofs.Ytjcbbmibcbiedaa
open Go Go.Vc Go.ChangeShapes Go.WideShapes Go.ChangeAt Go.RowKit
set_option maxRecDepth 100000

theorem viewOutside_lifted (os : Os) (started : os.Started) (H : Type) (enc : TypeId × Value → H) :
    ReturnsInHanded {} Try.checked os 8 .any (Rows.viewOutsideSpec.pre6 enc Try.prog Try.f8 Rows.viewOutsideRow.domain false) (Rows.viewOutsideSpec.post enc Try.prog Try.f8 false true false false) := by
  refine returnsInHanded_of_change (C := Try.checked) Try.own started (by kernel_rfl) Try.func8
    (ChangeSpec.witness6 (enc := enc) (C := Try.checked) false ⟨#[], #[.int .i64 0, .int .i64 0, .slice none 0 0], []⟩ 8 (by kernel_rfl) (by kernel_rfl) (by kernel_rfl) (by kernel_rfl)) ?_
  intro W base args ds gs before hval0 hW _ _
  have hval : ∀ (j : Nat) t v, Try.f8.params[j]? = some t → args[j]? = some v → Value.okWide Try.prog W .any base t v := hval0
  have hW' := hW
  obtain ⟨p, q, hA0, _⟩ := hW
  have hA : DataW.TrodAll enc Try.prog W 0 (fun _ => true) true Try.f8.params.toList args.toList ds p := hA0
  rw [Try.params8] at hA hval
  obtain ⟨v0, v1, v2, d0, d1, d2, p0, p1, p2, rfl, rfl, _, h0, h1, h2⟩ := trodAll_three hA
  obtain ⟨x0, rfl, -, -⟩ := arg_of fit3 (hval 0 3 v0 rfl rfl) h0 reads3
  obtain ⟨x1, rfl, -, -⟩ := arg_of fit3 (hval 1 3 v1 rfl rfl) h1 reads3
  obtain ⟨x2, rfl, -, -, -, xs2, hx2, hr2, -⟩ := arg_of fit22 (hval 2 22 v2 rfl rfl) h2 reads22
  exact told_of_pure Try.kids Try.full (by rw [Try.params8]; decide) (tb := 4) (by kernel_rfl) Try.underlying4 rfl hW' rfl rfl rfl (law_outside _ x0 x1 x2 xs2 hx2 hr2)

theorem viewOutside_holds : Rows.ViewOutsideSaid :=
  OpenClaim.holds_of_wide 8 Try.f8 rfl rfl rfl rfl rfl rfl rfl ⟨rfl, rfl, rfl, rfl, rfl⟩ rfl rfl rfl rfl rfl (by kernel_rfl) Try.func8 (by kernel_rfl)
    (of_decide_eq_true (by kernel_rfl)) (by unfold Func.isWrapper; first | (rw [if_pos (by decide +kernel)]; kernel_rfl) | (rw [if_neg (by decide +kernel)]; exact ⟨rfl, rfl⟩))
    (fun os started H enc _ => viewOutside_lifted os started H enc)
end Go.Proofs.Ytjcbbmibcbiedaa
