/- The card JudgeRights holds: called with any events and order, where the library's tables stand as the program's text lays them, the law says true and leaves its arguments as they were. Conditions: the card's own. -/
import Derived.Test.YtpfghndflegbaaaDoorBa
import Derived.Test.YtpfghndflegbaaaDoorGb
import Derived.Test.YtpfghndflegbaaaDoorCards
import Derived.Test.YtpfghndflegbaaaDoorTie
import Derived.SevenTiedAt
namespace Go.Proofs.YtpfghndflegbaaaDoor
open Go Go.Vc Go.ChangeShapes Go.WideShapes Go.ChangeAt Go.RowKit
set_option maxRecDepth 100000

theorem judgeRights_lifted (os : Os) (started : os.Started) (H : Type) (enc : TypeId × Value → H) :
    ReturnsInHanded {} Tryd.checked os 8 .any (fun w args => (Rows.judgeRightsSpec.pre enc Tryd.prog Tryd.f8 Rows.judgeRightsRow.domain false w args ∧ laidMetH Tryd.prog Rows.judgeRightsRow.laid w) ∧ sizedMet enc Tryd.prog Tryd.f8 (OpenSpec.ofChange Rows.judgeRightsSpec) false w args)
      (Rows.judgeRightsSpec.post enc Tryd.prog Tryd.f8 false true false false) := by
  refine returnsInHanded_of_change_and (C := Tryd.checked) (X := fun w _ => laidMetH Tryd.prog Rows.judgeRightsRow.laid w) (fun _ _ _ hh h => h.of_heap hh) Tryd.own started (by kernel_rfl) Tryd.func8
    (ChangeSpec.witness_shaped (enc := enc) (C := Tryd.checked) (os := os) (X := fun w _ => laidMetH Tryd.prog Rows.judgeRightsRow.laid w) false (World.doorLaid Tryd.prog 400 os) #[.slice none 0 0, .slice none 0 0] 8 rfl (World.shaped_of_RefB (by kernel_rfl) (by kernel_rfl)) (by kernel_rfl) (by kernel_rfl) (by kernel_rfl) (door_met os _)) ?_
  intro W base args ds gs before hval0 hW _ hsz hL _
  have hval : ∀ (j : Nat) t v, Tryd.f8.params[j]? = some t → args[j]? = some v → Value.okWide Tryd.prog W .any base t v := hval0
  have hW' := hW
  obtain ⟨p, q, hA0, _⟩ := hW
  have hA : DataW.TrodAll enc Tryd.prog W 0 (fun _ => true) true Tryd.f8.params.toList args.toList ds p := hA0
  rw [Tryd.params8] at hA hval hsz
  obtain ⟨v0, v1, d0, d1, p0, p1, rfl, rfl, _, h0, h1⟩ := trodAll_two hA
  obtain ⟨x0, rfl, -, hc0, -, xs0, hx0, hr0, hi0⟩ := arg_of fit22 (hval 0 22 v0 rfl rfl) h0 reads22
  have hb0 : xs0.length * 80 ≤ reachBytes := by rw [hx0, ← Tryd.b56]; exact slice_bytes Tryd.underlying22 h0 hsz (j := 0) rfl rfl
  obtain ⟨x1, rfl, -, hc1, -, xs1, hx1, hr1, hi1⟩ := arg_of fit24 (hval 1 24 v1 rfl rfl) h1 reads24
  exact told_of_pure Tryd.kids Tryd.full (by rw [Tryd.params8]; decide) (tb := 4) (by kernel_rfl) Tryd.underlying4 rfl hW' rfl rfl rfl (law_rights _ _ x0 xs0 (lx_of (tab_of (rest := []) (by kernel_rfl) hL) hc0 hx0 hr0 hi0 hb0) x1 xs1 hc1 hx1 hr1)

theorem judgeRights_row : Rows.JudgeRightsSaid :=
  OpenClaim.holds_of_wide 8 Tryd.f8 rfl rfl rfl rfl rfl rfl rfl ⟨rfl, rfl, rfl, rfl, rfl⟩ rfl rfl rfl rfl rfl (by kernel_rfl) Tryd.func8 (by kernel_rfl)
    (of_decide_eq_true (by kernel_rfl)) (by unfold Func.isWrapper; first | (rw [if_pos (by decide +kernel)]; kernel_rfl) | (rw [if_neg (by decide +kernel)]; exact ⟨rfl, rfl⟩))
    (fun os started H enc _ => judgeRights_lifted os started H enc)

theorem judgeRights_holds : Rows.JudgeRightsCardSaid :=
  Claim7.holds_tied_plain_at .later [] [.data, .data, .data] true (true, "eee4092f95b69951ee14c542e365e3b5dff54fe7f362dc8f7be52e5f5743c53f") true
    judgeRights_row (fun _ h => by cases h) (by kernel_rfl) (fun _ h => by cases h) judgeRights_row_tie rfl ⟨rfl, rfl⟩ (by kernel_rfl) rfl
    (fun f fn hf hfn => by
      obtain rfl : f = 8 := Option.some.inj ((show Tryd.prog.funcNamed "simulcast/simulcastlaw58.JudgeRights" = some 8 by kernel_rfl).symm.trans hf) |>.symm
      obtain rfl : fn = Tryd.f8 := (Option.some.inj (Tryd.func8.symm.trans hfn)).symm
      exact ⟨by kernel_rfl, fun j t ht => by
        rw [Tryd.params8] at ht
        have hm : t ∈ [22, 24] := by simpa using Array.mem_of_getElem? ht
        have hall : ([22, 24].all fun u => !Tryd.prog.wantsStandIn u) = true := by kernel_rfl
        exact (show Tryd.prog.wantsStandIn t = false by simpa using List.all_eq_true.1 hall t hm)⟩)
    (by kernel_rfl)
end Go.Proofs.YtpfghndflegbaaaDoor
