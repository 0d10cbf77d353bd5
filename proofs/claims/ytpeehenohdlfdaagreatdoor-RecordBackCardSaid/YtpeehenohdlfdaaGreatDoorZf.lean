/- The card RecordBack holds: called with any acts, where the library's tables stand as the program's text lays them, the law says true and leaves its arguments as they were. Conditions: the card's own. -/
import Derived.Test.YtpeehenohdlfdaaGreatDoorBa
import Derived.Test.YtpeehenohdlfdaaGreatDoorBb
import Derived.Test.YtpeehenohdlfdaaGreatDoorGd
import Derived.Test.YtpeehenohdlfdaaGreatDoorCards
import Derived.Test.YtpeehenohdlfdaaGreatDoorTie
import Derived.SevenTiedAt
namespace Go.Proofs.YtpeehenohdlfdaaGreatDoor
open Go Go.Vc Go.ChangeShapes Go.WideShapes Go.ChangeAt Go.RowKit
set_option maxRecDepth 100000

theorem recordBack_lifted (os : Os) (started : os.Started) (H : Type) (enc : TypeId × Value → H) :
    ReturnsInHanded {} Tryz.checked os 9 .any (fun w args => (Rows.recordBackSpec.pre enc Tryz.prog Tryz.f9 Rows.recordBackRow.domain false w args ∧ laidMetH Tryz.prog Rows.recordBackRow.laid w) ∧ sizedMet enc Tryz.prog Tryz.f9 (OpenSpec.ofChange Rows.recordBackSpec) false w args)
      (Rows.recordBackSpec.post enc Tryz.prog Tryz.f9 false true false false) := by
  refine handed_shaped_and (C := Tryz.checked) (X := fun w _ => laidMetH Tryz.prog Rows.recordBackRow.laid w) (fun _ _ _ hh h => h.of_heap hh) Tryz.own started (by kernel_rfl) Tryz.func9
    (ChangeSpec.witness_shaped (enc := enc) (C := Tryz.checked) (os := os) (X := fun w _ => laidMetH Tryz.prog Rows.recordBackRow.laid w) false (startW os) #[.slice none 0 0, .agg #[.int .u8 0, .int .i64 0, .int .i64 0, .string ByteArray.empty, .slice none 0 0, .int .i64 0, .int .i64 0]] 8 (World.laidAll_os _ _ _) (start_shaped os _) (by kernel_rfl) (by kernel_rfl) (by kernel_rfl) (start_met os _)) ?_
  intro W base args ds gs before hval0 hW hsz hL hsh
  have hLw := lw_of rfl hL hsh
  have hval : ∀ (j : Nat) t v, Tryz.f9.params[j]? = some t → args[j]? = some v → Value.okWide Tryz.prog W .any base t v := hval0
  have hW' := hW
  obtain ⟨p, q, hA0, _⟩ := hW
  have hA : DataW.TrodAll enc Tryz.prog W 0 (fun _ => true) true Tryz.f9.params.toList args.toList ds p := hA0
  rw [Tryz.params9] at hA hval hsz
  obtain ⟨v0, v1, d0, d1, p0, p1, rfl, rfl, _, h0, h1⟩ := trodAll_two hA
  obtain ⟨x0, rfl, -, hc0, -, xs0, hx0, hr0, hi0⟩ := arg_of fit22 (hval 0 22 v0 rfl rfl) h0 reads22
  have hb0 : x0.2.1 * 80 ≤ reachBytes := by rw [← Tryz.b64]; exact slice_bytes Tryz.underlying22 h0 hsz (j := 0) rfl rfl
  obtain ⟨y1, rfl, hok1, hy1⟩ := arg_of fit64 (hval 1 64 v1 rfl rfl) h1 reads64
  exact told_of_pure Tryz.kids Tryz.full (by rw [Tryz.params9]; decide) (tb := 4) (by kernel_rfl) Tryz.underlying4 rfl hW' rfl rfl rfl (pure_true (law_back _ hLw x0 _ (acts_of hc0 hx0 hr0 hi0) (by rw [List.length_map]; exact bytes_of hx0 hb0) y1 (actOf _ y1) (act_of hy1)))

theorem recordBack_row : Rows.RecordBackSaid :=
  OpenClaim.holds_of_wide 9 Tryz.f9 rfl rfl rfl rfl rfl rfl rfl ⟨rfl, rfl, rfl, rfl, rfl⟩ rfl rfl rfl rfl rfl (by kernel_rfl) Tryz.func9 (by kernel_rfl)
    (of_decide_eq_true (by kernel_rfl)) (by unfold Func.isWrapper; first | (rw [if_pos (by decide +kernel)]; kernel_rfl) | (rw [if_neg (by decide +kernel)]; exact ⟨rfl, rfl⟩))
    (fun os started H enc _ => recordBack_lifted os started H enc)

theorem recordBack_holds : Rows.RecordBackCardSaid :=
  Claim7.holds_tied_plain_at .later [] [.data, .data, .data, .data, .sentinel, .sentinel, .pinned] true (true, "96e10983a8fecc86f5a794457313bd2a3839c077cf052336e1790ed09984dcf1") true
    recordBack_row (fun _ h => by cases h) (by kernel_rfl) (fun _ h => by cases h) recordBack_row_tie rfl ⟨rfl, rfl⟩ (by kernel_rfl) rfl
    (fun f fn hf hfn => by
      obtain rfl : f = 9 := Option.some.inj ((show Tryz.prog.funcNamed "simulcast/simulcastlaw57.RecordBack" = some 9 by kernel_rfl).symm.trans hf) |>.symm
      obtain rfl : fn = Tryz.f9 := (Option.some.inj (Tryz.func9.symm.trans hfn)).symm
      exact ⟨by kernel_rfl, fun j t ht => by
        rw [Tryz.params9] at ht
        have hm : t ∈ [22, 64] := by simpa using Array.mem_of_getElem? ht
        have hall : ([22, 64].all fun u => !Tryz.prog.wantsStandIn u) = true := by kernel_rfl
        exact (show Tryz.prog.wantsStandIn t = false by simpa using List.all_eq_true.1 hall t hm)⟩)
    (by kernel_rfl)
end Go.Proofs.YtpeehenohdlfdaaGreatDoor
