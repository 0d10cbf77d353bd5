/- The card ScriptMany holds: called with any number, where the library's tables stand as the program's text lays them, the law says true and leaves its arguments as they were. Conditions: the card's own. -/
import Derived.Test.YtikpdgjdeikinaaDoorBa
import Derived.Test.YtikpdgjdeikinaaDoorFu
import Derived.Test.YtikpdgjdeikinaaDoorCards
import Derived.Test.YtikpdgjdeikinaaDoorTie
import Derived.SevenTiedAt
namespace Go.Proofs.YtikpdgjdeikinaaDoor
open Go Go.Vc Go.ChangeShapes Go.WideShapes Go.ChangeAt Go.RowKit
set_option maxRecDepth 100000

theorem scriptMany_lifted (os : Os) (started : os.Started) (H : Type) (enc : TypeId × Value → H) :
    ReturnsInHanded {} Tryd.checked os 7 .any (fun w args => (Rows.scriptManySpec.pre enc Tryd.prog Tryd.f7 Rows.scriptManyRow.domain false w args ∧ laidMetH Tryd.prog Rows.scriptManyRow.laid w) ∧ sizedMet enc Tryd.prog Tryd.f7 (OpenSpec.ofChange Rows.scriptManySpec) false w args)
      (Rows.scriptManySpec.post enc Tryd.prog Tryd.f7 false true false false) := by
  refine handed_shaped_and (C := Tryd.checked) (X := fun w _ => laidMetH Tryd.prog Rows.scriptManyRow.laid w) (fun _ _ _ hh h => h.of_heap hh) Tryd.own started (by kernel_rfl) Tryd.func7
    (ChangeSpec.witness_shaped (enc := enc) (C := Tryd.checked) (os := os) (X := fun w _ => laidMetH Tryd.prog Rows.scriptManyRow.laid w) false (startW os) #[.int .u8 0] 8 (World.laidAll_os _ _ _) (start_shaped os _) (by kernel_rfl) (by kernel_rfl) (by kernel_rfl) (start_met os _)) ?_
  intro W base args ds gs before hval0 hW hsz hL hsh
  have hLw := lw_of rfl hL hsh
  have hval : ∀ (j : Nat) t v, Tryd.f7.params[j]? = some t → args[j]? = some v → Value.okWide Tryd.prog W .any base t v := hval0
  have hW' := hW
  obtain ⟨p, q, hA0, _⟩ := hW
  have hA : DataW.TrodAll enc Tryd.prog W 0 (fun _ => true) true Tryd.f7.params.toList args.toList ds p := hA0
  rw [Tryd.params7] at hA hval hsz
  obtain ⟨v0, d0, rfl, rfl, h0⟩ := trodAll_one hA
  obtain ⟨x0, rfl, -, hb0⟩ := arg_of fit5 (hval 0 5 v0 rfl rfl) h0 reads5
  exact told_of_pure Tryd.kids Tryd.full (by rw [Tryd.params7]; decide) (tb := 4) (by kernel_rfl) Tryd.underlying4 rfl hW' rfl rfl rfl (law_many _ hLw x0 hb0)

theorem scriptMany_row : Rows.ScriptManySaid :=
  OpenClaim.holds_of_wide 7 Tryd.f7 rfl rfl rfl rfl rfl rfl rfl ⟨rfl, rfl, rfl, rfl, rfl⟩ rfl rfl rfl rfl rfl (by kernel_rfl) Tryd.func7 (by kernel_rfl)
    (of_decide_eq_true (by kernel_rfl)) (by unfold Func.isWrapper; first | (rw [if_pos (by decide +kernel)]; kernel_rfl) | (rw [if_neg (by decide +kernel)]; exact ⟨rfl, rfl⟩))
    (fun os started H enc _ => scriptMany_lifted os started H enc)

theorem scriptMany_holds : Rows.ScriptManyCardSaid :=
  Claim7.holds_tied_plain_at .later [] [.data, .data, .data, .data, .sentinel, .sentinel, .pinned] true (true, "5be0b002ed69b90a487afc38390c4113827fcb612cf6d376e696ff100f4ade80") true
    scriptMany_row (fun _ h => by cases h) (by kernel_rfl) (fun _ h => by cases h) scriptMany_row_tie rfl ⟨rfl, rfl⟩ (by kernel_rfl) rfl
    (fun f fn hf hfn => by
      obtain rfl : f = 7 := Option.some.inj ((show Tryd.prog.funcNamed "simulcast/simulcastlaw63.ScriptMany" = some 7 by kernel_rfl).symm.trans hf) |>.symm
      obtain rfl : fn = Tryd.f7 := (Option.some.inj (Tryd.func7.symm.trans hfn)).symm
      exact ⟨by kernel_rfl, fun j t ht => by
        rw [Tryd.params7] at ht
        have hm : t ∈ [5] := by simpa using Array.mem_of_getElem? ht
        have hall : ([5].all fun u => !Tryd.prog.wantsStandIn u) = true := by kernel_rfl
        exact (show Tryd.prog.wantsStandIn t = false by simpa using List.all_eq_true.1 hall t hm)⟩)
    (by kernel_rfl)
end Go.Proofs.YtikpdgjdeikinaaDoor
