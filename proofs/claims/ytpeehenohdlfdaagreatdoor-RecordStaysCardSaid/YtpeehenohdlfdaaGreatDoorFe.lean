/- law63: the reference's number. -/
import Derived.Test.YtpeehenohdlfdaaGreatDoorFd
namespace Go.Proofs.YtpeehenohdlfdaaGreatDoor
open Go Go.Vc Go.Sort
set_option maxRecDepth 100000
set_option maxHeartbeats 8000000

def valT (m : Sc.Bs) (j : Nat) : Nat := Txt.valFrom 0 (m.take j)
theorem val_step {m : Sc.Bs} {j : Nat} {x : UInt8} (h : m[j]? = some x) : valT m (j + 1) = valT m j * 10 + (x.toNat - 48) := by
  unfold valT
  rw [List.take_add_one, h, Txt.val_append]; rfl
theorem val_all (m : Sc.Bs) : valT m m.length = Txt.valFrom 0 m := by unfold valT; rw [List.take_length]
theorem val_mono (m : Sc.Bs) (j : Nat) : valT m j ≤ Txt.valFrom 0 m := by
  unfold valT
  conv => rhs; rw [← List.take_append_drop j m, Txt.val_append]
  exact Txt.val_le _ _
theorem ok_dig {s : Sc.Bs} (h : Sc.okW s = true) {j : Nat} {x : UInt8} (hx : (Txt.magOf s)[j]? = some x) : 48 ≤ x.toNat ∧ x.toNat ≤ 57 := by
  unfold Sc.okW at h
  rw [Bool.and_eq_true] at h
  exact Txt.isDig_iff.1 (List.all_eq_true.1 (Txt.canon_parts h.1).2.1 x (List.mem_of_getElem? hx))
theorem ok_val {s : Sc.Bs} (h : Sc.okW s = true) : Txt.valFrom 0 (Txt.magOf s) ≤ 9223372036854775808 ∧ (Txt.isNeg s = false → Txt.valFrom 0 (Txt.magOf s) ≤ 9223372036854775807) := by
  have h2 := in64_iff.1 (Sc.okW_in h)
  unfold Txt.valOf inI64 at h2
  cases hn : Txt.isNeg s with
  | true => rw [hn, if_pos rfl] at h2; exact ⟨by omega, fun q => by cases q⟩
  | false => rw [hn, if_neg (by simp)] at h2; exact ⟨by omega, fun _ => by omega⟩
theorem ok_mag {s : Sc.Bs} (h : Sc.okW s = true) : Txt.magOf s ≠ [] := by
  unfold Sc.okW at h
  rw [Bool.and_eq_true] at h
  exact (Txt.canon_parts h.1).1
theorem ok_iff {s : Sc.Bs} {n : Int} (hn : inI64 n) (hv : Txt.valOf s = n) : Sc.okW s = decide (Lib.itoa n = s) := by
  cases h : Sc.okW s with
  | true => rw [← hv, Sc.itoa_okW h, decide_eq_true rfl]
  | false =>
    symm
    refine decide_eq_false fun q => ?_
    rw [← q, Sc.okW_itoa (in64_iff.2 hn)] at h; cases h
@[reducible] def rIB (x : Int × Bool) : SV := .tup [(false, [.v (.int .i64 x.1)]), (false, [.v (.bool x.2)])]
theorem b45 {b : UInt8} (h : b ≠ 45) : ((b.toNat : Int) == 45) = false := beq_eq_false_iff_ne.2 fun q => h (by
  have : b.toNat = 45 := by omega
  exact UInt8.toNat_inj.1 this)
def NPost (s : Sc.Bs) (x : Int × Bool) : Prop := x.2 = Sc.okW s ∧ (x.2 = true → x.1 = Txt.valOf s)
theorem n_bad {s : Sc.Bs} (h : Sc.okW s = false) : NPost s (0, false) := ⟨h.symm, fun q => by cases q⟩
theorem numeq (n : Int) (s : Sc.Bs) : ((bs (32 :: Lib.itoa n)).toList == (bs [32] ++ bs s).toList) = decide (Lib.itoa n = s) := by
  rw [bs_app, eqv]
  exact decide_eq_decide.2 (by show 32 :: Lib.itoa n = 32 :: s ↔ _; simp)
theorem number_spec (S : Store) (s : Sc.Bs) (hs : s.length ≤ 1000000) : Pure Tryz.prog 71 S [.string (bs s)] rIB (fun _ x => NPost s x) := by
  have hsz := bs_size s
  refine pure_vc agrees Tryz.func71 rfl rfl (fun S S' q hle h => h) ?_
  cases s with
  | nil =>
    refine offE rfl (onF (onT ⟨rfl, (0, false), rfl, n_bad rfl⟩))
  | cons c r =>
    refine onE (decide_eq_true (by show ((bs (c :: r)).size : Int) > 0; rw [hsz]; simp only [List.length_cons]; omega)) ⟨Int.le_refl _, c, by rw [bs_get]; rfl, ?_⟩
    by_cases hc : c = 45
    · subst hc
      have hneg : Txt.isNeg (45 :: r) = true := rfl
      refine onE rfl ?_
      by_cases hr : r = []
      · subst hr
        exact onE (beq_iff_eq.2 rfl) ⟨rfl, (0, false), rfl, n_bad rfl⟩
      have hr1 : 0 < r.length := by cases r with | nil => exact absurd rfl hr | cons _ _ => simp
      refine offE (beq_eq_false_iff_ne.2 (by show ¬ (1 : Int) = ((bs (45 :: r)).size : Int); rw [hsz]; simp only [List.length_cons]; omega)) ?_
      have hmag : Txt.magOf (45 :: r) = r := Txt.magOf_neg
      refine ⟨[], [], Nat, [8] ++ List.range' 23 33, fun j => [(7, rI ((j + 1 : Nat) : Int)), (4, rI (-((valT r j : Nat) : Int)))], fun _ => [], fun _ => S, fun j => j ≤ (r : Sc.Bs).length ∧ valT r j ≤ 9223372036854775808, fun j => (r : Sc.Bs).length - j, ?_⟩
      refine And.intro (Exists.intro 0 (And.intro (And.intro (And.intro ?_ rfl) (And.intro rfl (Store.le_refl _))) ⟨Nat.zero_le _, Nat.zero_le _⟩)) ?_
      · repeat' first | exact trivial | exact rfl | refine And.intro ?_ ?_
      rintro j ⟨hj, hv⟩
      have hv : valT r j ≤ 9223372036854775808 := hv
      have hj : j ≤ (r : Sc.Bs).length := hj
      have hlen : ((bs (45 :: r)).size : Int) = ((r : Sc.Bs).length : Int) + 1 := by rw [hsz]; simp only [List.length_cons]; omega
      have hlm : (r : Sc.Bs).length ≤ 1000000 := by simp only [List.length_cons] at hs; omega
      have j0 : (0 : Int) ≤ ((j + 1 : Nat) : Int) := Int.natCast_nonneg _
      refine And.intro (fun h => ?_) (fun h => ?_)
      · have hjl : j < (r : Sc.Bs).length := by
          have h : ((j + 1 : Nat) : Int) < ((bs (45 :: r)).size : Int) := of_decide_eq_true h
          omega
        obtain ⟨x, hx⟩ : ∃ x, (r : Sc.Bs)[j]? = some x := ⟨_, List.getElem?_eq_getElem hjl⟩
        have hst := val_step hx
        have hx8 := x.toNat_lt
        have hmn := val_mono r (j + 1)
        have bad : (48 ≤ x.toNat → x.toNat ≤ 57 → 9223372036854775808 < valT r (j + 1)) → Sc.okW (45 :: r) = false := fun q => by
          cases hk : Sc.okW (45 :: r) with
          | false => rfl
          | true =>
            have d := ok_dig hk (j := j) (x := x) (by rw [hmag]; exact hx)
            have e := (ok_val hk).1
            rw [hmag] at e
            have := q d.1 d.2
            omega
        refine ⟨j0, x, by rw [bs_get]; exact hx, (x.toNat : Int), wrap_i64 (by omega) (by omega), (x.toNat : Int) - 48, wrap_i64 (by omega) (by omega), ?_⟩
        by_cases h1 : (x.toNat : Int) - 48 < 0
        · exact onE (decide_eq_true h1) (onT (onT (onT ⟨rfl, (0, false), rfl, n_bad (bad fun a _ => by omega)⟩)))
        refine offE (decide_eq_false h1) ?_
        by_cases h2 : (x.toNat : Int) - 48 > 9
        · exact onE (decide_eq_true h2) (onT (onT ⟨rfl, (0, false), rfl, n_bad (bad fun _ a => by omega)⟩))
        refine offE (decide_eq_false h2) ?_
        by_cases h3 : (-((valT r j : Nat) : Int)) < -922337203685477580
        · exact onE (decide_eq_true h3) (onT ⟨rfl, (0, false), rfl, n_bad (bad fun _ _ => by omega)⟩)
        refine offE (decide_eq_false h3) ?_
        by_cases h4 : (-((valT r j : Nat) : Int)) = -922337203685477580
        · refine onE (beq_iff_eq.2 h4) ?_
          by_cases h5 : (x.toNat : Int) - 48 > 8
          · exact onE (decide_eq_true h5) ⟨rfl, (0, false), rfl, n_bad (bad fun _ _ => by omega)⟩
          · have hv2 : valT r (j + 1) ≤ 9223372036854775808 := by omega
            refine offE (decide_eq_false h5) ⟨10 * (-((valT r j : Nat) : Int)), wrap_i64 (by omega) (by omega), -((valT r (j + 1) : Nat) : Int), (by rw [wrap_i64 (by omega) (by omega)]; omega), ((j + 1 + 1 : Nat) : Int), wrap_i64 (by omega) (by omega), j + 1, ⟨⟨?_, rfl⟩, rfl, Store.le_refl _⟩, ⟨hjl, hv2⟩, by show (r : Sc.Bs).length - (j + 1) < (r : Sc.Bs).length - j; omega⟩
            repeat' first | exact trivial | exact rfl | refine And.intro ?_ ?_
        · have hv2 : valT r (j + 1) ≤ 9223372036854775808 := by omega
          refine offE (beq_eq_false_iff_ne.2 h4) (onF ⟨10 * (-((valT r j : Nat) : Int)), wrap_i64 (by omega) (by omega), -((valT r (j + 1) : Nat) : Int), (by rw [wrap_i64 (by omega) (by omega)]; omega), ((j + 1 + 1 : Nat) : Int), wrap_i64 (by omega) (by omega), j + 1, ⟨⟨?_, rfl⟩, rfl, Store.le_refl _⟩, ⟨hjl, hv2⟩, by show (r : Sc.Bs).length - (j + 1) < (r : Sc.Bs).length - j; omega⟩)
          repeat' first | exact trivial | exact rfl | refine And.intro ?_ ?_
      · have hjl : j = (r : Sc.Bs).length := by
          have h : ¬ ((j + 1 : Nat) : Int) < ((bs (45 :: r)).size : Int) := of_decide_eq_false h
          omega
        subst hjl
        rw [val_all] at hv ⊢
        have hvv : Txt.valOf (45 :: r) = -((Txt.valFrom 0 r : Nat) : Int) := by unfold Txt.valOf; rw [hneg, if_pos rfl, hmag]
        have hin : inI64 (-((Txt.valFrom 0 r : Nat) : Int)) := ⟨by omega, by omega⟩
        refine onF ⟨⟨_, rfl, rfl, rfl⟩, .inl ⟨_, _, _, Tens_spec S _ hin, fun S1 _ hS1 _ => ⟨by show 1 + (bs (45 :: r)).size ≤ _; rw [hsz]; omega, rfl, (-((Txt.valFrom 0 r : Nat) : Int), Sc.okW (45 :: r)), ?_, rfl, fun _ => hvv.symm⟩⟩⟩
        rw [ok_iff hin hvv]
        exact congrArg (fun b => SV.tup [(false, [C.v (.int .i64 (-((Txt.valFrom 0 r : Nat) : Int)))]), (false, [C.v (.bool b)])]) (numeq _ _).symm
    · have hneg : Txt.isNeg (c :: r) = false := by unfold Txt.isNeg; exact beq_eq_false_iff_ne.2 fun q => hc (Option.some.inj q)
      refine offE (b45 hc) (offE (beq_eq_false_iff_ne.2 (by show ¬ (0 : Int) = ((bs (c :: r)).size : Int); rw [hsz]; simp only [List.length_cons]; omega)) ?_)
      have hmag : Txt.magOf (c :: r) = (c :: r) := Txt.magOf_pos hneg
      refine ⟨[], [], Nat, [8] ++ List.range' 23 33, fun j => [(7, rI ((j : Nat) : Int)), (4, rI (-((valT (c :: r) j : Nat) : Int)))], fun _ => [], fun _ => S, fun j => j ≤ ((c :: r) : Sc.Bs).length ∧ valT (c :: r) j ≤ 9223372036854775808, fun j => ((c :: r) : Sc.Bs).length - j, ?_⟩
      refine And.intro (Exists.intro 0 (And.intro (And.intro (And.intro ?_ rfl) (And.intro rfl (Store.le_refl _))) ⟨Nat.zero_le _, Nat.zero_le _⟩)) ?_
      · repeat' first | exact trivial | exact rfl | refine And.intro ?_ ?_
      rintro j ⟨hj, hv⟩
      have hv : valT (c :: r) j ≤ 9223372036854775808 := hv
      have hj : j ≤ ((c :: r) : Sc.Bs).length := hj
      have hlen : ((bs (c :: r)).size : Int) = (((c :: r) : Sc.Bs).length : Int) := by rw [hsz]
      have hlm : ((c :: r) : Sc.Bs).length ≤ 1000000 := by exact hs
      have j0 : (0 : Int) ≤ ((j : Nat) : Int) := Int.natCast_nonneg _
      refine And.intro (fun h => ?_) (fun h => ?_)
      · have hjl : j < ((c :: r) : Sc.Bs).length := by
          have h : ((j : Nat) : Int) < ((bs (c :: r)).size : Int) := of_decide_eq_true h
          omega
        obtain ⟨x, hx⟩ : ∃ x, ((c :: r) : Sc.Bs)[j]? = some x := ⟨_, List.getElem?_eq_getElem hjl⟩
        have hst := val_step hx
        have hx8 := x.toNat_lt
        have hmn := val_mono (c :: r) (j + 1)
        have bad : (48 ≤ x.toNat → x.toNat ≤ 57 → 9223372036854775808 < valT (c :: r) (j + 1)) → Sc.okW (c :: r) = false := fun q => by
          cases hk : Sc.okW (c :: r) with
          | false => rfl
          | true =>
            have d := ok_dig hk (j := j) (x := x) (by rw [hmag]; exact hx)
            have e := (ok_val hk).1
            rw [hmag] at e
            have := q d.1 d.2
            omega
        refine ⟨j0, x, by rw [bs_get]; exact hx, (x.toNat : Int), wrap_i64 (by omega) (by omega), (x.toNat : Int) - 48, wrap_i64 (by omega) (by omega), ?_⟩
        by_cases h1 : (x.toNat : Int) - 48 < 0
        · exact onE (decide_eq_true h1) (onT (onT (onT ⟨rfl, (0, false), rfl, n_bad (bad fun a _ => by omega)⟩)))
        refine offE (decide_eq_false h1) ?_
        by_cases h2 : (x.toNat : Int) - 48 > 9
        · exact onE (decide_eq_true h2) (onT (onT ⟨rfl, (0, false), rfl, n_bad (bad fun _ a => by omega)⟩))
        refine offE (decide_eq_false h2) ?_
        by_cases h3 : (-((valT (c :: r) j : Nat) : Int)) < -922337203685477580
        · exact onE (decide_eq_true h3) (onT ⟨rfl, (0, false), rfl, n_bad (bad fun _ _ => by omega)⟩)
        refine offE (decide_eq_false h3) ?_
        by_cases h4 : (-((valT (c :: r) j : Nat) : Int)) = -922337203685477580
        · refine onE (beq_iff_eq.2 h4) ?_
          by_cases h5 : (x.toNat : Int) - 48 > 8
          · exact onE (decide_eq_true h5) ⟨rfl, (0, false), rfl, n_bad (bad fun _ _ => by omega)⟩
          · have hv2 : valT (c :: r) (j + 1) ≤ 9223372036854775808 := by omega
            refine offE (decide_eq_false h5) ⟨10 * (-((valT (c :: r) j : Nat) : Int)), wrap_i64 (by omega) (by omega), -((valT (c :: r) (j + 1) : Nat) : Int), (by rw [wrap_i64 (by omega) (by omega)]; omega), ((j + 1 : Nat) : Int), wrap_i64 (by omega) (by omega), j + 1, ⟨⟨?_, rfl⟩, rfl, Store.le_refl _⟩, ⟨hjl, hv2⟩, by show ((c :: r) : Sc.Bs).length - (j + 1) < ((c :: r) : Sc.Bs).length - j; omega⟩
            repeat' first | exact trivial | exact rfl | refine And.intro ?_ ?_
        · have hv2 : valT (c :: r) (j + 1) ≤ 9223372036854775808 := by omega
          refine offE (beq_eq_false_iff_ne.2 h4) (onF ⟨10 * (-((valT (c :: r) j : Nat) : Int)), wrap_i64 (by omega) (by omega), -((valT (c :: r) (j + 1) : Nat) : Int), (by rw [wrap_i64 (by omega) (by omega)]; omega), ((j + 1 : Nat) : Int), wrap_i64 (by omega) (by omega), j + 1, ⟨⟨?_, rfl⟩, rfl, Store.le_refl _⟩, ⟨hjl, hv2⟩, by show ((c :: r) : Sc.Bs).length - (j + 1) < ((c :: r) : Sc.Bs).length - j; omega⟩)
          repeat' first | exact trivial | exact rfl | refine And.intro ?_ ?_
      · have hjl : j = ((c :: r) : Sc.Bs).length := by
          have h : ¬ ((j : Nat) : Int) < ((bs (c :: r)).size : Int) := of_decide_eq_false h
          omega
        subst hjl
        rw [val_all] at hv ⊢
        refine onE (ntF (b45 hc)) ?_
        by_cases h6 : (-((Txt.valFrom 0 (c :: r) : Nat) : Int)) = -9223372036854775808
        · refine onE (beq_iff_eq.2 h6) ⟨rfl, (0, false), rfl, n_bad ?_⟩
          cases hk : Sc.okW (c :: r) with
          | false => rfl
          | true =>
            have e := (ok_val hk).2 hneg
            rw [hmag] at e
            omega
        · have hvv : Txt.valOf (c :: r) = ((Txt.valFrom 0 (c :: r) : Nat) : Int) := by unfold Txt.valOf; rw [hneg, if_neg (by simp), hmag]
          have hin : inI64 ((Txt.valFrom 0 (c :: r) : Nat) : Int) := ⟨by omega, by omega⟩
          refine offE (beq_eq_false_iff_ne.2 h6) ⟨((Txt.valFrom 0 (c :: r) : Nat) : Int), (by rw [wrap_i64 (by omega) (by omega)]; omega), ⟨_, rfl, rfl, rfl⟩, .inl ⟨_, _, _, Tens_spec S _ hin, fun S1 _ hS1 _ => ⟨by show 1 + (bs (c :: r)).size ≤ _; rw [hsz]; omega, rfl, (((Txt.valFrom 0 (c :: r) : Nat) : Int), Sc.okW (c :: r)), ?_, rfl, fun _ => hvv.symm⟩⟩⟩
          rw [ok_iff hin hvv]
          exact congrArg (fun b => SV.tup [(false, [C.v (.int .i64 ((Txt.valFrom 0 (c :: r) : Nat) : Int))]), (false, [C.v (.bool b)])]) (numeq _ _).symm
end Go.Proofs.YtpeehenohdlfdaaGreatDoor
