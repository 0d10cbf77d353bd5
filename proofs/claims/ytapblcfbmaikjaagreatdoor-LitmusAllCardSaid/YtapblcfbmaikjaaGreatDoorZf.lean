/- The card LitmusAll holds: called with any test and picks, where the library's tables stand as the program's text lays them, the law says true and leaves its arguments as they were. Conditions: the card's own. -/
import Derived.Test.YtapblcfbmaikjaaGreatDoorBa
import Derived.Test.YtapblcfbmaikjaaGreatDoorGq
import Derived.Test.YtapblcfbmaikjaaGreatDoorCards
import Derived.Test.YtapblcfbmaikjaaGreatDoorTie
import Derived.SevenTiedAt
namespace Go.Proofs.YtapblcfbmaikjaaGreatDoor
open Go Go.Vc Go.ChangeShapes Go.WideShapes Go.ChangeAt Go.RowKit
set_option maxRecDepth 100000

theorem litmusAll_lifted (os : Os) (started : os.Started) (H : Type) (enc : TypeId × Value → H) :
    ReturnsInHanded {} Tryz.checked os 6 .any (fun w args => (Rows.litmusAllSpec.pre enc Tryz.prog Tryz.f6 Rows.litmusAllRow.domain false w args ∧ laidMetH Tryz.prog Rows.litmusAllRow.laid w) ∧ sizedMet enc Tryz.prog Tryz.f6 (OpenSpec.ofChange Rows.litmusAllSpec) false w args)
      (Rows.litmusAllSpec.post enc Tryz.prog Tryz.f6 false true false false) := by
  refine handed_shaped_and (C := Tryz.checked) (X := fun w _ => laidMetH Tryz.prog Rows.litmusAllRow.laid w) (fun _ _ _ hh h => h.of_heap hh) Tryz.own started (by kernel_rfl) Tryz.func6
    (ChangeSpec.witness_shaped (enc := enc) (C := Tryz.checked) (os := os) (X := fun w _ => laidMetH Tryz.prog Rows.litmusAllRow.laid w) false (startT os) #[.agg #[.slice none 0 0, .slice none 0 0], .slice none 0 0] 8 (World.laidAll_os _ _ _) (startT_shaped os _) (by kernel_rfl) (by kernel_rfl) (by kernel_rfl) (startT_met os _)) ?_
  intro W base args ds gs before hval0 hW hsz hL hsh
  have hLw := lt_of rfl hL
  have hval : ∀ (j : Nat) t v, Tryz.f6.params[j]? = some t → args[j]? = some v → Value.okWide Tryz.prog W .any base t v := hval0
  have hW' := hW
  obtain ⟨p, q, hA0, _⟩ := hW
  have hA : DataW.TrodAll enc Tryz.prog W 0 (fun _ => true) true Tryz.f6.params.toList args.toList ds p := hA0
  rw [Tryz.params6] at hA hval hsz
  obtain ⟨v0, v1, d0, d1, p0, p1, rfl, rfl, _, h0, h1⟩ := trodAll_two hA
  obtain ⟨x0, rfl, -, hb0⟩ := arg_of fit25 (hval 0 25 v0 rfl rfl) h0 reads25
  obtain ⟨first, T, ht⟩ := test_in hb0
  obtain ⟨x1, rfl, -, hb1⟩ := arg_of fit50 (hval 1 50 v1 rfl rfl) h1 reads50
  obtain ⟨l, hl⟩ := pks_in hb1
  exact told_of_pure Tryz.kids Tryz.full (by rw [Tryz.params6]; decide) (tb := 4) (by kernel_rfl) Tryz.underlying4 rfl hW' rfl rfl rfl (pure_true (law_all _ hLw x0 first T ht x1 l hl))

theorem litmusAll_row : Rows.LitmusAllSaid :=
  OpenClaim.holds_of_wide 6 Tryz.f6 rfl rfl rfl rfl rfl rfl rfl ⟨rfl, rfl, rfl, rfl, rfl⟩ rfl rfl rfl rfl rfl (by kernel_rfl) Tryz.func6 (by kernel_rfl)
    (of_decide_eq_true (by kernel_rfl)) (by unfold Func.isWrapper; first | (rw [if_pos (by decide +kernel)]; kernel_rfl) | (rw [if_neg (by decide +kernel)]; exact ⟨rfl, rfl⟩))
    (fun os started H enc _ => litmusAll_lifted os started H enc)

theorem litmusAll_holds : Rows.LitmusAllCardSaid :=
  Claim7.holds_tied_plain_at .later [] [.data, .data, .data] true (true, "3512bd29bc29c8638bd33a64d3eb67ad54230d5f2704f59c377931657cdf5a84") true
    litmusAll_row (fun _ h => by cases h) (by kernel_rfl) (fun _ h => by cases h) litmusAll_row_tie rfl ⟨rfl, rfl⟩ (by kernel_rfl) rfl
    (fun f fn hf hfn => by
      obtain rfl : f = 6 := Option.some.inj ((show Tryz.prog.funcNamed "simulcast/simulcastlaw09.LitmusAll" = some 6 by kernel_rfl).symm.trans hf) |>.symm
      obtain rfl : fn = Tryz.f6 := (Option.some.inj (Tryz.func6.symm.trans hfn)).symm
      exact ⟨by kernel_rfl, fun j t ht => by
        rw [Tryz.params6] at ht
        have hm : t ∈ [25, 50] := by simpa using Array.mem_of_getElem? ht
        have hall : ([25, 50].all fun u => !Tryz.prog.wantsStandIn u) = true := by kernel_rfl
        exact (show Tryz.prog.wantsStandIn t = false by simpa using List.all_eq_true.1 hall t hm)⟩)
    (by kernel_rfl)
end Go.Proofs.YtapblcfbmaikjaaGreatDoor
