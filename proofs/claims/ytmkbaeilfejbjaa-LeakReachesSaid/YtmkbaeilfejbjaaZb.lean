/- The statement LeakReaches holds: called with any roots and any graph, the law says true and leaves them as they were. Conditions: none. -/
import Derived.Test.YtmkbaeilfejbjaaBa
import Derived.Test.YtmkbaeilfejbjaaFl
namespace Go.Proofs.Ytmkbaeilfejbjaa
open Go Go.Vc Go.ChangeShapes Go.WideShapes Go.ChangeAt Go.RowKit
set_option maxRecDepth 100000

theorem leakReaches_lifted (os : Os) (started : os.Started) (H : Type) (enc : TypeId × Value → H) :
    ReturnsInHanded {} Try.checked os 3 .any (Rows.leakReachesSpec.pre6 enc Try.prog Try.f3 Rows.leakReachesRow.domain false) (Rows.leakReachesSpec.post enc Try.prog Try.f3 false true false false) := by
  refine returnsInHanded_of_change (C := Try.checked) Try.own started (by kernel_rfl) Try.func3
    (ChangeSpec.witness6 (enc := enc) (C := Try.checked) false ⟨#[], #[.slice none 0 0, .slice none 0 0], []⟩ 8 (by kernel_rfl) (by kernel_rfl) (by kernel_rfl) (by kernel_rfl)) ?_
  intro W base args ds gs before hval0 hW _ _
  have hval : ∀ (j : Nat) t v, Try.f3.params[j]? = some t → args[j]? = some v → Value.okWide Try.prog W .any base t v := hval0
  have hW' := hW
  obtain ⟨p, q, hA0, _⟩ := hW
  have hA : DataW.TrodAll enc Try.prog W 0 (fun _ => true) true Try.f3.params.toList args.toList ds p := hA0
  rw [Try.params3] at hA hval
  obtain ⟨v0, v1, d0, d1, p0, p1, rfl, rfl, _, h0, h1⟩ := trodAll_two hA
  obtain ⟨x, rfl, -, -, -, xs, hx3, hx4, -⟩ := arg_of fit22 (hval 0 22 v0 rfl rfl) h0 reads22
  obtain ⟨y, rfl, -, -, -, hs, hy3, hy4, hy5⟩ := arg_of fit23 (hval 1 23 v1 rfl rfl) h1 reads23
  obtain ⟨next, hn⟩ := rows_of hy5
  exact told_of_pure Try.kids Try.full (by rw [Try.params3]; decide) (tb := 4) (by kernel_rfl) Try.underlying4 rfl hW' rfl rfl rfl (law_reach _ x y xs hs next hx3 hx4 hy3 hy4 hn)

theorem leakReaches_holds : Rows.LeakReachesSaid :=
  OpenClaim.holds_of_wide 3 Try.f3 rfl rfl rfl rfl rfl rfl rfl ⟨rfl, rfl, rfl, rfl, rfl⟩ rfl rfl rfl rfl rfl (by kernel_rfl) Try.func3 (by kernel_rfl)
    (of_decide_eq_true (by kernel_rfl)) (by unfold Func.isWrapper; first | (rw [if_pos (by decide +kernel)]; kernel_rfl) | (rw [if_neg (by decide +kernel)]; exact ⟨rfl, rfl⟩))
    (fun os started H enc _ => leakReaches_lifted os started H enc)
end Go.Proofs.Ytmkbaeilfejbjaa
