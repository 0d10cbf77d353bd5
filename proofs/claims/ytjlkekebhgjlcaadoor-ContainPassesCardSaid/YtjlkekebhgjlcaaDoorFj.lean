/- law29: the law Passes says true. -/
import Derived.Test.YtjlkekebhgjlcaaDoorFh
namespace Go.Proofs.YtjlkekebhgjlcaaDoor
open Go Go.Vc
set_option maxRecDepth 100000

theorem passR_shape (k : Int) (s : ByteArray) (n : Int) : ((passR k s n).2.2 = true ∧ (passR k s n).2.1 = ByteArray.empty) ∨ ((passR k s n).2.2 = false ∧ (passR k s n).1 = 0) := by
  unfold passR
  split
  · exact .inr ⟨rfl, rfl⟩
  split
  · exact .inr ⟨rfl, rfl⟩
  split
  · exact .inr ⟨rfl, rfl⟩
  · exact .inl ⟨rfl, rfl⟩
theorem passR_ok (k : Int) (s : ByteArray) (n : Int) : (passR k s n).2.2 = decide (k % 4 = 0) := by
  unfold passR
  split
  · rename_i h; exact (decide_eq_false (by omega)).symm
  split
  · rename_i h; exact (decide_eq_false (by omega)).symm
  split
  · rename_i h; exact (decide_eq_false (by omega)).symm
  · exact (decide_eq_true (by omega)).symm
set_option maxHeartbeats 1000000 in
theorem law_passes (S : Store) (hT : Tab S) (k : Int) (hk : 0 ≤ k) (s : ByteArray) (hs : s.size ≤ 1000000000000000) (n : Int) (hn : inI64 n) :
    Pure Tryd.prog 5 S [.int .u8 k, .string s, .int .i64 n] rB (fun _ x => x = true) := by
  refine pure_vc agrees Tryd.func5 rfl rfl (fun S S' q hle h => h) ?_
  refine ⟨⟨_, rfl, rfl, rfl⟩, .inl fun b1 S1 hS1 hb1 => fun b2 S2 hS2 hb2 => fun b3 S3 hS3 hb3 => ?_⟩
  have h3 := Store.le_trans hS1 (Store.le_trans hS2 hS3)
  have hk1 := Store.rd_le (Store.le_trans hS2 hS3) hb1
  have hk2 := Store.rd_le hS3 hb2
  refine ⟨_, _, _, pass_guard S3 (hT.le h3) b1 b2 b3 k s n hk hs hn hk1 hk2 hb3, fun S4 x hS4 hx => ?_⟩
  obtain rfl : x = passR k s n := hx
  refine ⟨⟨_, rfl, rfl, rfl⟩, .inl fun b4 S5 hS5 hb4 => ?_⟩
  have h35 := Store.le_trans hS4 hS5
  refine ⟨_, _, _, pass2_guard S5 b4 _ (passR k s n) (passR_shape k s n) hb4 (pass_guard S5 (hT.le (Store.le_trans h3 h35)) b1 b2 b3 k s n hk hs hn (Store.rd_le h35 hk1) (Store.rd_le h35 hk2) (Store.rd_le h35 hb3)), fun S6 y hS6 hy => ?_⟩
  obtain rfl : y = passR k s n := hy
  refine ⟨⟨_, rfl, rfl, rfl⟩, .inl ⟨_, _, _, awake_spec S6 (hT.le (Store.le_trans h3 (Store.le_trans h35 hS6))), fun S7 y hS7 hy => ?_⟩⟩
  obtain rfl : y = true := hy
  refine onT (onE (beq_self_eq_true _) (onE (by rw [streq]; exact decide_eq_true rfl) (onE (beq_self_eq_true _) ?_)))
  exact ⟨k, trivial, Store.rd_le (Store.le_trans h35 (Store.le_trans hS6 hS7)) hk1, by decide, k % 4, Int.tmod_eq_emod_of_nonneg hk, rfl, _, rfl, by rw [passR_ok k]; by_cases h : k % 4 = 0 <;> simp [h]⟩
end Go.Proofs.YtjlkekebhgjlcaaDoor
