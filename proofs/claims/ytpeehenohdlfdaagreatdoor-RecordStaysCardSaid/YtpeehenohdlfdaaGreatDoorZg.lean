/- The card RecordStays holds: called with any acts and three numbers, where the library's tables stand as the program's text lays them, the law says true and leaves its arguments as they were. Conditions: the card's own. -/
import Derived.Test.YtpeehenohdlfdaaGreatDoorBa
import Derived.Test.YtpeehenohdlfdaaGreatDoorBb
import Derived.Test.YtpeehenohdlfdaaGreatDoorGf
import Derived.Test.YtpeehenohdlfdaaGreatDoorCards
import Derived.Test.YtpeehenohdlfdaaGreatDoorTie
import Derived.SevenTiedAt
namespace Go.Proofs.YtpeehenohdlfdaaGreatDoor
open Go Go.Vc Go.ChangeShapes Go.WideShapes Go.ChangeAt Go.RowKit
set_option maxRecDepth 100000

theorem recordStays_lifted (os : Os) (started : os.Started) (H : Type) (enc : TypeId × Value → H) :
    ReturnsInHanded {} Tryz.checked os 6 .any (fun w args => (Rows.recordStaysSpec.pre enc Tryz.prog Tryz.f6 Rows.recordStaysRow.domain false w args ∧ laidMetH Tryz.prog Rows.recordStaysRow.laid w) ∧ sizedMet enc Tryz.prog Tryz.f6 (OpenSpec.ofChange Rows.recordStaysSpec) false w args)
      (Rows.recordStaysSpec.post enc Tryz.prog Tryz.f6 false true false false) := by
  refine handed_shaped_and (C := Tryz.checked) (X := fun w _ => laidMetH Tryz.prog Rows.recordStaysRow.laid w) (fun _ _ _ hh h => h.of_heap hh) Tryz.own started (by kernel_rfl) Tryz.func6
    (ChangeSpec.witness_shaped (enc := enc) (C := Tryz.checked) (os := os) (X := fun w _ => laidMetH Tryz.prog Rows.recordStaysRow.laid w) false (startT os) #[.slice none 0 0, .agg #[.int .i64 0, .int .i64 0, .int .i64 0]] 8 (World.laidAll_os _ _ _) (startT_shaped os _) (by kernel_rfl) (by kernel_rfl) (by kernel_rfl) (startT_met os _)) ?_
  intro W base args ds gs before hval0 hW hsz hL hsh
  have hLw := lt_of rfl hL
  have hval : ∀ (j : Nat) t v, Tryz.f6.params[j]? = some t → args[j]? = some v → Value.okWide Tryz.prog W .any base t v := hval0
  have hW' := hW
  obtain ⟨p, q, hA0, _⟩ := hW
  have hA : DataW.TrodAll enc Tryz.prog W 0 (fun _ => true) true Tryz.f6.params.toList args.toList ds p := hA0
  rw [Tryz.params6] at hA hval hsz
  obtain ⟨v0, v1, d0, d1, p0, p1, rfl, rfl, _, h0, h1⟩ := trodAll_two hA
  obtain ⟨x0, rfl, -, hc0, -, xs0, hx0, hr0, hi0⟩ := arg_of fit22 (hval 0 22 v0 rfl rfl) h0 reads22
  have hb0 : x0.2.1 * 80 ≤ reachBytes := by rw [← Tryz.b64]; exact slice_bytes Tryz.underlying22 h0 hsz (j := 0) rfl rfl
  obtain ⟨y1, rfl, hok1, hy1⟩ := arg_of fit49 (hval 1 49 v1 rfl rfl) h1 reads49
  exact told_of_pure Tryz.kids Tryz.full (by rw [Tryz.params6]; decide) (tb := 4) (by kernel_rfl) Tryz.underlying4 rfl hW' rfl rfl rfl (pure_true (law_stays _ hLw x0 _ (acts_of hc0 hx0 hr0 hi0) (by rw [List.length_map]; exact few_of hx0 hb0) y1.1 y1.2.1 y1.2.2 (fun a ha => by simp only [List.mem_cons, List.not_mem_nil, or_false] at ha; rcases ha with rfl | rfl | rfl; exact hy1.1; exact hy1.2.1; exact hy1.2.2)))

theorem recordStays_row : Rows.RecordStaysSaid :=
  OpenClaim.holds_of_wide 6 Tryz.f6 rfl rfl rfl rfl rfl rfl rfl ⟨rfl, rfl, rfl, rfl, rfl⟩ rfl rfl rfl rfl rfl (by kernel_rfl) Tryz.func6 (by kernel_rfl)
    (of_decide_eq_true (by kernel_rfl)) (by unfold Func.isWrapper; first | (rw [if_pos (by decide +kernel)]; kernel_rfl) | (rw [if_neg (by decide +kernel)]; exact ⟨rfl, rfl⟩))
    (fun os started H enc _ => recordStays_lifted os started H enc)

theorem recordStays_holds : Rows.RecordStaysCardSaid :=
  Claim7.holds_tied_plain_at .later [] [.data, .data, .data, .data, .pinned] true (true, "96e10983a8fecc86f5a794457313bd2a3839c077cf052336e1790ed09984dcf1") true
    recordStays_row (fun _ h => by cases h) (by kernel_rfl) (fun _ h => by cases h) recordStays_row_tie rfl ⟨rfl, rfl⟩ (by kernel_rfl) rfl
    (fun f fn hf hfn => by
      obtain rfl : f = 6 := Option.some.inj ((show Tryz.prog.funcNamed "simulcast/simulcastlaw57.RecordStays" = some 6 by kernel_rfl).symm.trans hf) |>.symm
      obtain rfl : fn = Tryz.f6 := (Option.some.inj (Tryz.func6.symm.trans hfn)).symm
      exact ⟨by kernel_rfl, fun j t ht => by
        rw [Tryz.params6] at ht
        have hm : t ∈ [22, 49] := by simpa using Array.mem_of_getElem? ht
        have hall : ([22, 49].all fun u => !Tryz.prog.wantsStandIn u) = true := by kernel_rfl
        exact (show Tryz.prog.wantsStandIn t = false by simpa using List.all_eq_true.1 hall t hm)⟩)
    (by kernel_rfl)
end Go.Proofs.YtpeehenohdlfdaaGreatDoor
