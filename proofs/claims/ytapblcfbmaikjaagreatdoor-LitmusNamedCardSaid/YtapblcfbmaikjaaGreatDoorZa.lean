/- The card LitmusNamed holds: called with any name, where the library's tables stand as the program's text lays them, the law says true and leaves its arguments as they were. Conditions: the card's own. -/
import Derived.Test.YtapblcfbmaikjaaGreatDoorBa
import Derived.Test.YtapblcfbmaikjaaGreatDoorGg
import Derived.Test.YtapblcfbmaikjaaGreatDoorCards
import Derived.Test.YtapblcfbmaikjaaGreatDoorTie
import Derived.SevenTiedAt
namespace Go.Proofs.YtapblcfbmaikjaaGreatDoor
open Go Go.Vc Go.ChangeShapes Go.WideShapes Go.ChangeAt Go.RowKit
set_option maxRecDepth 100000

theorem litmusNamed_lifted (os : Os) (started : os.Started) (H : Type) (enc : TypeId × Value → H) :
    ReturnsInHanded {} Tryz.checked os 4 .any (fun w args => (Rows.litmusNamedSpec.pre enc Tryz.prog Tryz.f4 Rows.litmusNamedRow.domain false w args ∧ laidMetH Tryz.prog Rows.litmusNamedRow.laid w) ∧ sizedMet enc Tryz.prog Tryz.f4 (OpenSpec.ofChange Rows.litmusNamedSpec) false w args)
      (Rows.litmusNamedSpec.post enc Tryz.prog Tryz.f4 false true false false) := by
  refine handed_shaped_and (C := Tryz.checked) (X := fun w _ => laidMetH Tryz.prog Rows.litmusNamedRow.laid w) (fun _ _ _ hh h => h.of_heap hh) Tryz.own started (by kernel_rfl) Tryz.func4
    (ChangeSpec.witness_shaped (enc := enc) (C := Tryz.checked) (os := os) (X := fun w _ => laidMetH Tryz.prog Rows.litmusNamedRow.laid w) false (startT os) #[.string ByteArray.empty] 8 (World.laidAll_os _ _ _) (startT_shaped os _) (by kernel_rfl) (by kernel_rfl) (by kernel_rfl) (startT_met os _)) ?_
  intro W base args ds gs before hval0 hW hsz hL hsh
  have hLw := lt_of rfl hL
  have hval : ∀ (j : Nat) t v, Tryz.f4.params[j]? = some t → args[j]? = some v → Value.okWide Tryz.prog W .any base t v := hval0
  have hW' := hW
  obtain ⟨p, q, hA0, _⟩ := hW
  have hA : DataW.TrodAll enc Tryz.prog W 0 (fun _ => true) true Tryz.f4.params.toList args.toList ds p := hA0
  rw [Tryz.params4] at hA hval hsz
  obtain ⟨v0, d0, rfl, rfl, h0⟩ := trodAll_one hA
  obtain ⟨x0, rfl, rfl, -, _⟩ := Go.ChangeMaps.open_string Tryz.underlying9 (hval 0 9 v0 rfl rfl) h0
  exact told_of_pure Tryz.kids Tryz.full (by rw [Tryz.params4]; decide) (tb := 4) (by kernel_rfl) Tryz.underlying4 rfl hW' rfl rfl rfl (by have := law_named _ hLw x0.data.toList; rw [data_bs] at this; exact pure_true this)

theorem litmusNamed_row : Rows.LitmusNamedSaid :=
  OpenClaim.holds_of_wide 4 Tryz.f4 rfl rfl rfl rfl rfl rfl rfl ⟨rfl, rfl, rfl, rfl, rfl⟩ rfl rfl rfl rfl rfl (by kernel_rfl) Tryz.func4 (by kernel_rfl)
    (of_decide_eq_true (by kernel_rfl)) (by unfold Func.isWrapper; first | (rw [if_pos (by decide +kernel)]; kernel_rfl) | (rw [if_neg (by decide +kernel)]; exact ⟨rfl, rfl⟩))
    (fun os started H enc _ => litmusNamed_lifted os started H enc)

theorem litmusNamed_holds : Rows.LitmusNamedCardSaid :=
  Claim7.holds_tied_plain_at .later [] [.data, .data, .data] true (true, "3512bd29bc29c8638bd33a64d3eb67ad54230d5f2704f59c377931657cdf5a84") true
    litmusNamed_row (fun _ h => by cases h) (by kernel_rfl) (fun _ h => by cases h) litmusNamed_row_tie rfl ⟨rfl, rfl⟩ (by kernel_rfl) rfl
    (fun f fn hf hfn => by
      obtain rfl : f = 4 := Option.some.inj ((show Tryz.prog.funcNamed "simulcast/simulcastlaw09.LitmusNamed" = some 4 by kernel_rfl).symm.trans hf) |>.symm
      obtain rfl : fn = Tryz.f4 := (Option.some.inj (Tryz.func4.symm.trans hfn)).symm
      exact ⟨by kernel_rfl, fun j t ht => by
        rw [Tryz.params4] at ht
        have hm : t ∈ [9] := by simpa using Array.mem_of_getElem? ht
        have hall : ([9].all fun u => !Tryz.prog.wantsStandIn u) = true := by kernel_rfl
        exact (show Tryz.prog.wantsStandIn t = false by simpa using List.all_eq_true.1 hall t hm)⟩)
    (by kernel_rfl)
end Go.Proofs.YtapblcfbmaikjaaGreatDoor
