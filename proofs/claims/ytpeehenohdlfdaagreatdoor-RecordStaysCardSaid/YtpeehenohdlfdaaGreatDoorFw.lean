/- law57: maps.Values, slices.Sort, slices.Equal, Pending. -/
import Derived.Test.YtpeehenohdlfdaaGreatDoorFv
import Derived.Test.YtpeehenohdlfdaaGreatDoorFj
import Derived.Test.YtpeehenohdlfdaaGreatDoorLa
import Derived.Test.YtpeehenohdlfdaaGreatDoorSh
namespace Go.Proofs.YtpeehenohdlfdaaGreatDoor
open Go Go.Vc
set_option maxRecDepth 100000
set_option maxHeartbeats 8000000

theorem values_spec (S : Store) (mb : Nat) : Pure Tryz.prog 29 S [.map (some mb)] (A := Nat) (fun b => .c (.v (.func (.func 53) #[] #[ptrV b]))) (fun S' b => S'.rd b 0 [.map (some mb)]) := by
  refine pure_vc agrees Tryz.func29 rfl rfl (fun S S' q hle h => Store.rd_le hle h) ?_
  intro b S' hle hrd
  exact ⟨rfl, b, rfl, hrd.1⟩
theorem sort_spec (S : Store) (xs : List Int) (hx : xs.length ≤ 1000000) : SpecK Tryz.prog 30 S [.row shI 3 xs] [.c (.ref 0)] (A := Unit) (fun _ => .tup []) (fun _ => [.row shI 3 (sorted xs)]) (fun _ _ => True) :=
  specK_sort (by omega) Tryz.slices_Sort_int Tryz.slices_Sort_int_none
/-- A row of numbers. -/
structure PIs (S : Store) (q : Hd) (xs : List Int) : Prop where
  len : q.2.1 = xs.length
  cap : q.2.1 ≤ q.2.2
  row : RowRd S q.1 shI xs
theorem PIs.le {S S' : Store} (h : S.le S') {q xs} (hv : PIs S q xs) : PIs S' q xs := ⟨hv.len, hv.cap, hv.row.le h⟩
theorem hist_take {l : List Rc.Ev} (h : Rc.Hist l) (i : Nat) : Rc.Hist (l.take i) := fun j e he => by
  have hj : j < i := by
    have := (List.getElem?_eq_some_iff.1 he).1
    rw [List.length_take] at this; omega
  rw [List.getElem?_take_of_lt hj] at he
  rw [List.take_take, Nat.min_eq_left (by omega)]
  exact h j e he
abbrev pendI (l : List Rc.Ev) : List Int := (Rc.refPend l).map fun i : Nat => ((i : Nat) : Int)
theorem pending_spec (S : Store) (x : Hx) (l : List Rc.Ev) (hx : HIs S x l) : Pure Tryz.prog 14 S [vH x] (A := Hd) (fun q => .c (.v (slV q))) (fun S' q => PIs S' q (pendI l)) := by
  have hl := hx.ls
  have hh := hx.hs
  have hq := li_len hl
  have hll := Rc.hist_len hh
  obtain ⟨⟨p, n, c⟩, ob, lb⟩ := x
  have hl : LIs S (p, n, c) l := hl
  have hq : n = l.length := hq
  subst hq
  refine pure_vc agrees Tryz.func14 rfl rfl (fun S S' q hle h => h.le hle) ?_
  refine ⟨[], [(4, shI, 3), (400001, shI, 0)], ?_⟩
  intro mb
  refine ⟨Nat × List Int × List (Int × Int) × Store, [5, 6] ++ List.range' 12 25, fun a => [(11, rI a.1)], fun a => [.box [.v (slV (p, l.length, c)), .v (.map ob), .v (.map lb)], .ext (MapN shI shI mb a.2.2.1), .row shI 3 a.2.1], fun a => a.2.2.2,
    fun a => a.1 ≤ l.length ∧ S.le a.2.2.2 ∧ Rc.PInv (l.take a.1) a.2.1 a.2.2.1, fun a => l.length - a.1, ?_⟩
  refine And.intro (Exists.intro (0, [], [], S) (And.intro (And.intro (And.intro ?_ rfl) (And.intro rfl (Store.le_refl _))) ⟨Nat.zero_le _, Store.le_refl _, Rc.pinv_nil⟩)) ?_
  · repeat' first | exact trivial | exact rfl | refine And.intro ?_ ?_
  rintro ⟨i, out, m, Sa⟩ ⟨hi, hSa, hP⟩
  have hi : i ≤ l.length := hi
  have hSa : S.le Sa := hSa
  have hP : Rc.PInv (l.take i) out m := hP
  have i0 : (0 : Int) ≤ ((i : Nat) : Int) := Int.natCast_nonneg _
  refine And.intro (fun h => ?_) (fun h => ?_)
  · have hil : i < l.length := by
      have : ((i : Nat) : Int) < ((l.length : Nat) : Int) := of_decide_eq_true h
      omega
    clear h
    obtain ⟨x, e, b, o, he, hx, hp, hrd⟩ := ev_at (hl.le hSa) hil
    have hv := hh i e he
    have htk : l.take (i + 1) = l.take i ++ [e] := by rw [List.take_add_one, he]; rfl
    have htl : (l.take i).length = i := by rw [List.length_take]; omega
    have wi : IntKind.i64.wrap (((i : Nat) : Int) + 1) = ((i + 1 : Nat) : Int) := wrap_i64 (by omega) (by omega)
    have hmu : l.length - (i + 1) < l.length - i := by omega
    have hpl : out.length + m.length ≤ 1000000 := by
      have h1 := hP.perm.length_eq
      have h2 := Rc.pend_len (l.take i)
      rw [List.length_append, List.length_map, List.length_map] at h1
      omega
    have hhl : Rc.Hist (l.take i) := hist_take hh i
    refine ⟨i0, by show ((i : Nat) : Int) < ((l.length : Nat) : Int); omega, b, o, hp, .inr ⟨x, okE [x] x (by simp), hrd, ?_⟩⟩
    obtain ⟨xk, xt, xn, xr⟩ := x
    by_cases h0 : e.k = 0
    · refine onE (beq_iff_eq.2 (hx.k.trans h0)) ?_
      refine ⟨1, shI, shI, m, xt, ((i : Nat) : Int), rfl, ⟨rfl, rfl⟩, rfl, rfl, trivial, ((i + 1 : Nat) : Int), wi, (i + 1, out, mset shI m xt ((i : Nat) : Int), Sa), ⟨⟨?_, rfl⟩, rfl, Store.le_refl _⟩, ⟨hil, hSa, ?_⟩, hmu⟩
      · repeat' first | exact trivial | exact rfl | refine And.intro ?_ ?_
      · have := Rc.pinv_call hP hv h0
        rw [htl, ← hx.t] at this
        rw [htk]; exact this
    refine offE (beq_eq_false_iff_ne.2 (fun q => h0 (hx.k.symm.trans q))) ?_
    by_cases h1 : e.k = 1
    · refine onE (beq_iff_eq.2 (hx.k.trans h1)) ?_
      refine ⟨1, shI, shI, m, xt, rfl, ⟨rfl, rfl⟩, rfl, ((i + 1 : Nat) : Int), wi, (i + 1, out, mdel shI m xt, Sa), ⟨⟨?_, rfl⟩, rfl, Store.le_refl _⟩, ⟨hil, hSa, ?_⟩, hmu⟩
      · repeat' first | exact trivial | exact rfl | refine And.intro ?_ ?_
      · have := Rc.pinv_answer hhl hP hv h1
        rw [← hx.t] at this
        rw [htk]; exact this
    refine offE (beq_eq_false_iff_ne.2 (fun q => h1 (hx.k.symm.trans q))) ?_
    by_cases h3 : e.k = 3
    · refine onE (beq_iff_eq.2 (hx.k.trans h3)) ?_
      refine ⟨⟨_, rfl, rfl, rfl⟩, .inl ⟨_, _, _, values_spec Sa mb, fun S2 bv hS2 hbv => ?_⟩⟩
      refine ⟨⟨_, rfl, rfl, rfl⟩, .inr (.inl ⟨[1, 2], _, _, _, _, rfl, appendSeq_spec S2 out mb bv m hbv hpl, fun S3 vs hS3 hvs => ?_⟩)⟩
      refine ⟨1, shI, shI, m, rfl, rfl, ((i + 1 : Nat) : Int), wi, (i + 1, out ++ vs, [], S3), ⟨⟨?_, rfl⟩, rfl, Store.le_refl _⟩, ⟨hil, Store.le_trans hSa (Store.le_trans hS2 hS3), ?_⟩, hmu⟩
      · repeat' first | exact trivial | exact rfl | refine And.intro ?_ ?_
      · rw [htk]; exact Rc.pinv_crash hP h3 hvs
    refine offE (beq_eq_false_iff_ne.2 (fun q => h3 (hx.k.symm.trans q))) ?_
    have h2 : e.k = 2 := by
      obtain ⟨-, hv⟩ := hv
      rcases hv with ⟨h4, -⟩ | ⟨h4, -⟩ | ⟨h4, -⟩ | h4
      · exact absurd h4 h0
      · exact absurd h4 h1
      · exact h4
      · exact absurd (by rw [h4]; rfl) h3
    refine ⟨((i + 1 : Nat) : Int), wi, (i + 1, out, m, Sa), ⟨⟨?_, rfl⟩, rfl, Store.le_refl _⟩, ⟨hil, hSa, ?_⟩, hmu⟩
    · repeat' first | exact trivial | exact rfl | refine And.intro ?_ ?_
    · rw [htk]; exact Rc.pinv_commit hP h2
  · have hil : i = l.length := by
      have : ¬ ((i : Nat) : Int) < ((l.length : Nat) : Int) := of_decide_eq_false h
      omega
    subst hil
    rw [List.take_length] at hP
    have hpl : out.length + m.length ≤ 1024 := by
      have h1 := hP.perm.length_eq
      have h2 := Rc.pend_len l
      rw [List.length_append, List.length_map, List.length_map] at h1
      omega
    refine ⟨⟨_, rfl, rfl, rfl⟩, .inl ⟨_, _, _, values_spec Sa mb, fun S2 bv hS2 hbv => ?_⟩⟩
    refine ⟨⟨_, rfl, rfl, rfl⟩, .inr (.inl ⟨[1, 2], _, _, _, _, rfl, appendSeq_spec S2 out mb bv m hbv (by omega), fun S3 vs hS3 hvs => ?_⟩)⟩
    have hvl := hvs.length_eq
    rw [List.length_map] at hvl
    have hres : sorted (out ++ vs) = pendI l := by
      have hp1 : (sorted (out ++ vs)).Perm (pendI l) := (List.mergeSort_perm _ _).trans ((hvs.append_left out).trans hP.perm)
      have hs1 : (sorted (out ++ vs)).Pairwise (· ≤ ·) := by
        have := List.pairwise_mergeSort (le := fun x y : Int => decide (x ≤ y)) (fun a b c h1 h2 => by simp at *; omega) (fun a b => by simp; omega) (out ++ vs)
        exact this.imp (fun h => by simpa using h)
      exact List.Perm.eq_of_pairwise (fun a b _ _ h1 h2 => Int.le_antisymm h1 h2) hs1 (Rc.pend_sorted l) hp1
    refine ⟨⟨_, rfl, rfl, rfl⟩, .inr (.inr (.inr (.inl ⟨[2], _, _, _, _, rfl, sort_spec S3 (out ++ vs) (by rw [List.length_append]; omega), fun S4 _ hS4 _ => ?_⟩)))⟩
    intro p5 c5 S5 hS5 hr5 hpf5
    refine ⟨rfl, (p5, (sorted (out ++ vs)).length, c5), rfl, ?_⟩
    rw [← hres]
    exact ⟨rfl, pform_le hpf5.1, hr5⟩
end Go.Proofs.YtpeehenohdlfdaaGreatDoor
