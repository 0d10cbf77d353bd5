/- law57: names and numbers as plain data (as in law63). Conditions: none. -/
import Derived.Test.YtpeehenohdlfdaaGreatDoorLs
namespace Go.Proofs.YtpeehenohdlfdaaGreatDoor.Sc
open Go Go.Txt
set_option maxRecDepth 100000
abbrev Bs := List UInt8
def nameB (b : UInt8) : Bool := (decide (97 ≤ b.toNat) && decide (b.toNat ≤ 122)) || (decide (65 ≤ b.toNat) && decide (b.toNat ≤ 90)) || (decide (48 ≤ b.toNat) && decide (b.toNat ≤ 57)) || decide (b.toNat = 95)
def namedW (s : Bs) : Bool := decide (1 ≤ s.length) && (decide (s.length ≤ 24) && s.all nameB)
def in64 (n : Int) : Bool := decide (-9223372036854775808 ≤ n) && decide (n ≤ 9223372036854775807)
def okW (w : Bs) : Bool := canon w && in64 (valOf w)
theorem okW_itoa {n : Int} (h : in64 n = true) : okW (Lib.itoa n) = true := by unfold okW; rw [canon_itoa, val_itoa, h]; rfl
theorem itoa_okW {w : Bs} (h : okW w = true) : Lib.itoa (valOf w) = w := by unfold okW at h; rw [Bool.and_eq_true] at h; exact itoa_val h.1
theorem okW_in {w : Bs} (h : okW w = true) : in64 (valOf w) = true := by unfold okW at h; rw [Bool.and_eq_true] at h; exact h.2
theorem nameB_sep {b : UInt8} (h : nameB b = true) : b ≠ 32 ∧ b ≠ 10 := by
  refine ⟨?_, ?_⟩ <;> (rintro rfl; exact absurd h (by decide))
theorem named_sep {s : Bs} (h : namedW s = true) : (32 : UInt8) ∉ s ∧ (10 : UInt8) ∉ s ∧ s.length ≤ 24 ∧ 1 ≤ s.length := by
  unfold namedW at h
  simp only [Bool.and_eq_true, decide_eq_true_eq, List.all_eq_true] at h
  exact ⟨fun q => (nameB_sep (h.2.2 _ q)).1 rfl, fun q => (nameB_sep (h.2.2 _ q)).2 rfl, h.2.1, h.1⟩
end Go.Proofs.YtpeehenohdlfdaaGreatDoor.Sc
