/- The card RecordParses holds: called with any text, where the library's tables stand as the program's text lays them, the law says true and leaves its arguments as they were. Conditions: the card's own. -/
import Derived.Test.YtpeehenohdlfdaaGreatDoorBa
import Derived.Test.YtpeehenohdlfdaaGreatDoorBb
import Derived.Test.YtpeehenohdlfdaaGreatDoorGa
import Derived.Test.YtpeehenohdlfdaaGreatDoorCards
import Derived.Test.YtpeehenohdlfdaaGreatDoorTie
import Derived.SevenTiedAt
namespace Go.Proofs.YtpeehenohdlfdaaGreatDoor
open Go Go.Vc Go.ChangeShapes Go.WideShapes Go.ChangeAt Go.RowKit
set_option maxRecDepth 100000

theorem recordParses_lifted (os : Os) (started : os.Started) (H : Type) (enc : TypeId × Value → H) :
    ReturnsInHanded {} Tryz.checked os 8 .any (fun w args => (Rows.recordParsesSpec.pre enc Tryz.prog Tryz.f8 Rows.recordParsesRow.domain false w args ∧ laidMetH Tryz.prog Rows.recordParsesRow.laid w) ∧ sizedMet enc Tryz.prog Tryz.f8 (OpenSpec.ofChange Rows.recordParsesSpec) false w args)
      (Rows.recordParsesSpec.post enc Tryz.prog Tryz.f8 false true false false) := by
  refine handed_shaped_and (C := Tryz.checked) (X := fun w _ => laidMetH Tryz.prog Rows.recordParsesRow.laid w) (fun _ _ _ hh h => h.of_heap hh) Tryz.own started (by kernel_rfl) Tryz.func8
    (ChangeSpec.witness_shaped (enc := enc) (C := Tryz.checked) (os := os) (X := fun w _ => laidMetH Tryz.prog Rows.recordParsesRow.laid w) false (startW os) #[.string ByteArray.empty] 8 (World.laidAll_os _ _ _) (start_shaped os _) (by kernel_rfl) (by kernel_rfl) (by kernel_rfl) (start_met os _)) ?_
  intro W base args ds gs before hval0 hW hsz hL hsh
  have hLw := lw_of rfl hL hsh
  have hval : ∀ (j : Nat) t v, Tryz.f8.params[j]? = some t → args[j]? = some v → Value.okWide Tryz.prog W .any base t v := hval0
  have hW' := hW
  obtain ⟨p, q, hA0, _⟩ := hW
  have hA : DataW.TrodAll enc Tryz.prog W 0 (fun _ => true) true Tryz.f8.params.toList args.toList ds p := hA0
  rw [Tryz.params8] at hA hval hsz
  obtain ⟨v0, d0, rfl, rfl, h0⟩ := trodAll_one hA
  obtain ⟨x0, rfl, rfl, -, _⟩ := Go.ChangeMaps.open_string Tryz.underlying9 (hval 0 9 v0 rfl rfl) h0
  have hs0 : x0.data.toList.length ≤ 140737488355328 := by have := sized_string hsz (j := 0) (t := 9) rfl rfl; have := reachBytes_lt; omega
  exact told_of_pure Tryz.kids Tryz.full (by rw [Tryz.params8]; decide) (tb := 4) (by kernel_rfl) Tryz.underlying4 rfl hW' rfl rfl rfl (by have := law_parses _ hLw x0.data.toList hs0; rw [data_bs] at this; exact pure_true this)

theorem recordParses_row : Rows.RecordParsesSaid :=
  OpenClaim.holds_of_wide 8 Tryz.f8 rfl rfl rfl rfl rfl rfl rfl ⟨rfl, rfl, rfl, rfl, rfl⟩ rfl rfl rfl rfl rfl (by kernel_rfl) Tryz.func8 (by kernel_rfl)
    (of_decide_eq_true (by kernel_rfl)) (by unfold Func.isWrapper; first | (rw [if_pos (by decide +kernel)]; kernel_rfl) | (rw [if_neg (by decide +kernel)]; exact ⟨rfl, rfl⟩))
    (fun os started H enc _ => recordParses_lifted os started H enc)

theorem recordParses_holds : Rows.RecordParsesCardSaid :=
  Claim7.holds_tied_plain_at .later [] [.data, .data, .data, .data, .sentinel, .sentinel, .pinned] true (true, "96e10983a8fecc86f5a794457313bd2a3839c077cf052336e1790ed09984dcf1") true
    recordParses_row (fun _ h => by cases h) (by kernel_rfl) (fun _ h => by cases h) recordParses_row_tie rfl ⟨rfl, rfl⟩ (by kernel_rfl) rfl
    (fun f fn hf hfn => by
      obtain rfl : f = 8 := Option.some.inj ((show Tryz.prog.funcNamed "simulcast/simulcastlaw57.RecordParses" = some 8 by kernel_rfl).symm.trans hf) |>.symm
      obtain rfl : fn = Tryz.f8 := (Option.some.inj (Tryz.func8.symm.trans hfn)).symm
      exact ⟨by kernel_rfl, fun j t ht => by
        rw [Tryz.params8] at ht
        have hm : t ∈ [9] := by simpa using Array.mem_of_getElem? ht
        have hall : ([9].all fun u => !Tryz.prog.wantsStandIn u) = true := by kernel_rfl
        exact (show Tryz.prog.wantsStandIn t = false by simpa using List.all_eq_true.1 hall t hm)⟩)
    (by kernel_rfl)
end Go.Proofs.YtpeehenohdlfdaaGreatDoor
