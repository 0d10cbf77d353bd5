/- The statement ReclaimMore holds: called with any items, eras and hazard values, the law says true and leaves them as they were. Conditions: none. -/
import Derived.Test.YtdkdepibclhkmaaBa
import Derived.Test.YtdkdepibclhkmaaFo
namespace Go.Proofs.Ytdkdepibclhkmaa
open Go Go.Vc Go.ChangeShapes Go.WideShapes Go.ChangeAt Go.RowKit
set_option maxRecDepth 100000

theorem reclaimMore_lifted (os : Os) (started : os.Started) (H : Type) (enc : TypeId × Value → H) :
    ReturnsInHanded {} Try.checked os 7 .any (Rows.reclaimMoreSpec.pre6 enc Try.prog Try.f7 Rows.reclaimMoreRow.domain false) (Rows.reclaimMoreSpec.post enc Try.prog Try.f7 false true false false) := by
  refine returnsInHanded_of_change (C := Try.checked) Try.own started (by kernel_rfl) Try.func7
    (ChangeSpec.witness6 (enc := enc) (C := Try.checked) false ⟨#[], #[.slice none 0 0, .slice none 0 0, .slice none 0 0], []⟩ 8 (by kernel_rfl) (by kernel_rfl) (by kernel_rfl) (by kernel_rfl)) ?_
  intro W base args ds gs before hval0 hW _ _
  have hval : ∀ (j : Nat) t v, Try.f7.params[j]? = some t → args[j]? = some v → Value.okWide Try.prog W .any base t v := hval0
  have hW' := hW
  obtain ⟨p, q, hA0, _⟩ := hW
  have hA : DataW.TrodAll enc Try.prog W 0 (fun _ => true) true Try.f7.params.toList args.toList ds p := hA0
  rw [Try.params7] at hA hval
  obtain ⟨v0, v1, v2, d0, d1, d2, p0, p1, p2, rfl, rfl, _, h0, h1, h2⟩ := trodAll_three hA
  obtain ⟨x0, rfl, -, -, -, xs0, hx0, hr0, -⟩ := arg_of fit22 (hval 0 22 v0 rfl rfl) h0 reads22
  obtain ⟨x1, rfl, -, hc1, -, xs1, hx1, hr1, -⟩ := arg_of fit37 (hval 1 37 v1 rfl rfl) h1 reads37
  obtain ⟨x2, rfl, -, hc2, -, xs2, hx2, hr2, -⟩ := arg_of fit37 (hval 2 37 v2 rfl rfl) h2 reads37
  exact told_of_pure Try.kids Try.full (by rw [Try.params7]; decide) (tb := 4) (by kernel_rfl) Try.underlying4 rfl hW' rfl rfl rfl (more_law _ x0 x1 x2 xs0 xs1 xs2 hx0 hr0 hx1 hr1 hx2 hr2 hc1 hc2)

theorem reclaimMore_holds : Rows.ReclaimMoreSaid :=
  OpenClaim.holds_of_wide 7 Try.f7 rfl rfl rfl rfl rfl rfl rfl ⟨rfl, rfl, rfl, rfl, rfl⟩ rfl rfl rfl rfl rfl (by kernel_rfl) Try.func7 (by kernel_rfl)
    (of_decide_eq_true (by kernel_rfl)) (by unfold Func.isWrapper; first | (rw [if_pos (by decide +kernel)]; kernel_rfl) | (rw [if_neg (by decide +kernel)]; exact ⟨rfl, rfl⟩))
    (fun os started H enc _ => reclaimMore_lifted os started H enc)
end Go.Proofs.Ytdkdepibclhkmaa
