/- law63: the reference's number. -/
import Derived.Test.YtikpdgjdeikinaaGreatDoorFh
namespace Go.Proofs.YtikpdgjdeikinaaGreatDoor
open Go Go.Vc Go.Sort
set_option maxRecDepth 100000
set_option maxHeartbeats 8000000

def valT (m : Sc.Bs) (j : Nat) : Nat := Txt.valFrom 0 (m.take j)
theorem val_step {m : Sc.Bs} {j : Nat} {x : UInt8} (h : m[j]? = some x) : valT m (j + 1) = valT m j * 10 + (x.toNat - 48) := by
  unfold valT
  rw [List.take_add_one, h, Txt.val_append]; rfl
theorem val_all (m : Sc.Bs) : valT m m.length = Txt.valFrom 0 m := by unfold valT; rw [List.take_length]
theorem val_mono (m : Sc.Bs) (j : Nat) : valT m j ≤ Txt.valFrom 0 m := by
  unfold valT
  conv => rhs; rw [← List.take_append_drop j m, Txt.val_append]
  exact Txt.val_le _ _
theorem ok_dig {s : Sc.Bs} (h : Sc.okW s = true) {j : Nat} {x : UInt8} (hx : (Txt.magOf s)[j]? = some x) : 48 ≤ x.toNat ∧ x.toNat ≤ 57 := by
  unfold Sc.okW at h
  rw [Bool.and_eq_true] at h
  exact Txt.isDig_iff.1 (List.all_eq_true.1 (Txt.canon_parts h.1).2.1 x (List.mem_of_getElem? hx))
theorem ok_val {s : Sc.Bs} (h : Sc.okW s = true) : Txt.valFrom 0 (Txt.magOf s) ≤ 9223372036854775808 ∧ (Txt.isNeg s = false → Txt.valFrom 0 (Txt.magOf s) ≤ 9223372036854775807) := by
  have h2 := in64_iff.1 (Sc.okW_in h)
  unfold Txt.valOf inI64 at h2
  cases hn : Txt.isNeg s with
  | true => rw [hn, if_pos rfl] at h2; exact ⟨by omega, fun q => by cases q⟩
  | false => rw [hn, if_neg (by simp)] at h2; exact ⟨by omega, fun _ => by omega⟩
theorem ok_mag {s : Sc.Bs} (h : Sc.okW s = true) : Txt.magOf s ≠ [] := by
  unfold Sc.okW at h
  rw [Bool.and_eq_true] at h
  exact (Txt.canon_parts h.1).1
theorem ok_iff {s : Sc.Bs} {n : Int} (hn : inI64 n) (hv : Txt.valOf s = n) : Sc.okW s = decide (Lib.itoa n = s) := by
  cases h : Sc.okW s with
  | true => rw [← hv, Sc.itoa_okW h, decide_eq_true rfl]
  | false =>
    symm
    refine decide_eq_false fun q => ?_
    rw [← q, Sc.okW_itoa (in64_iff.2 hn)] at h; cases h
@[reducible] def rIB (x : Int × Bool) : SV := .tup [(false, [.v (.int .i64 x.1)]), (false, [.v (.bool x.2)])]
theorem b45 {b : UInt8} (h : b ≠ 45) : ((b.toNat : Int) == 45) = false := beq_eq_false_iff_ne.2 fun q => h (by
  have : b.toNat = 45 := by omega
  exact UInt8.toNat_inj.1 this)
def NPost (s : Sc.Bs) (x : Int × Bool) : Prop := x.2 = Sc.okW s ∧ (x.2 = true → x.1 = Txt.valOf s)
theorem n_bad {s : Sc.Bs} (h : Sc.okW s = false) : NPost s (0, false) := ⟨h.symm, fun q => by cases q⟩
theorem numeq (n : Int) (s : Sc.Bs) : ((bs (32 :: Lib.itoa n)).toList == (bs [32] ++ bs s).toList) = decide (Lib.itoa n = s) := by
  rw [bs_app, eqv]
  exact decide_eq_decide.2 (by show 32 :: Lib.itoa n = 32 :: s ↔ _; simp)
end Go.Proofs.YtikpdgjdeikinaaGreatDoor
