/- law02: the law Rebuild says true. -/
import Derived.Test.YtjcbbmibcbiedaaFo
namespace Go.Proofs.Ytjcbbmibcbiedaa
open Go Go.Vc Go.Sort Go.RowKit Go.Maps
set_option maxRecDepth 100000

/-- What has been laid in: in reverse order, twice. -/
def back (m : List (Int × Int)) (k : Nat) : List (Int × Int) := (List.range k).filterMap fun j => m[(2 * m.length - 1 - j) % m.length]?
theorem back_succ {m : List (Int × Int)} {k : Nat} {x : Int × Int} (h : m[(2 * m.length - 1 - k) % m.length]? = some x) : back m (k + 1) = back m k ++ [x] := by
  simp [back, List.range_succ, List.filterMap_append, h]
theorem back_mem {m : List (Int × Int)} {p : Int × Int} : p ∈ back m (2 * m.length) ↔ p ∈ m := by
  unfold back
  rw [List.mem_filterMap]
  constructor
  · rintro ⟨i, _, h⟩; exact List.mem_of_getElem? h
  · intro h
    obtain ⟨j, hj⟩ := List.getElem?_of_mem h
    have hjl := (List.getElem?_eq_some_iff.1 hj).1
    refine ⟨2 * m.length - 1 - j, by simp; omega, ?_⟩
    rw [show 2 * m.length - 1 - (2 * m.length - 1 - j) = j by omega, Nat.mod_eq_of_lt hjl]
    exact hj

set_option maxHeartbeats 1000000 in
theorem law_rebuild (S : Store) (p : Hd) (l : List (Int × Int)) (hl : l.length = p.2.1) (hr : RowRd S p.1 shP l) :
    Pure Try.prog 9 S [slV p] rB (fun _ x => x = true) := by
  refine pure_vc agrees Try.func9 rfl rfl (fun S S' q hle h => h) ?_
  refine ⟨⟨_, rfl, rfl, rfl⟩, .inl ⟨_, _, _, great_spec S p, fun S1 g hS1 hg => ?_⟩⟩
  refine And.intro (fun h0 => ?_) (fun h0 => ?_)
  · exact ⟨⟨_, rfl, rfl, rfl⟩, .inl ⟨_, _, _, awake_spec S1, fun S1 x hS1 hx => ⟨rfl, x, rfl, hx⟩⟩⟩
  have hg : g = decide (((p.2.1 : Nat) : Int) > 100) := hg
  rw [h0] at hg
  have hn : ¬ ((p.2.1 : Nat) : Int) > 100 := of_decide_eq_false hg.symm
  have hl1 : l.length ≤ 100 := by omega
  have hml := made_length l
  refine ⟨⟨_, rfl, rfl, rfl⟩, .inl ⟨_, _, _, made_spec S1 p l hl (hr.le hS1) (by omega), fun S2 z hS2 hz => ?_⟩⟩
  obtain ⟨v, m⟩ := z
  have hv : VIs S2 v (made l) := hz.1
  clear hz
  have sa := made_sp l
  generalize made l = A at *
  refine ⟨⟨_, rfl, rfl, rfl⟩, .inl ⟨_, _, _, locs_spec S2 v A hv (by omega), fun S3 u hS3 hu => ?_⟩⟩
  obtain ⟨up, un, uc⟩ := u
  obtain ⟨hul, hur⟩ : un = A.length ∧ RowRd S3 up shI (A.map (·.1)) := hu
  subst hul
  have hv := hv.le hS3
  have hL : A.length ≤ 100 := by omega
  refine ⟨((2 * A.length : Nat) : Int), by show IntKind.i64.wrap (2 * ((A.length : Nat) : Int)) = _; rw [wrap_i64 (by omega) (by omega)]; omega, ((2 * A.length : Nat) : Int) - 1 - ((0 : Nat) : Int), by rw [wrap_i64 (by omega) (by omega)]; omega, ?_⟩
  refine ⟨[], [], Nat × Option Nat × Store, [8] ++ List.range' 24 100, fun z => [(7, rI (((2 * A.length : Nat) : Int) - 1 - z.1))], fun z => [.box [.v (.map v)], .box [.v (.map z.2.1)]], fun z => z.2.2,
    fun z => z.1 ≤ 2 * A.length ∧ S3.le z.2.2 ∧ VIs z.2.2 z.2.1 (made (back A z.1)), fun z => 2 * A.length - z.1, ?_⟩
  refine And.intro (Exists.intro (0, none, S3) (And.intro (And.intro (And.intro ?_ rfl) (And.intro rfl (Store.le_refl _))) ⟨Nat.zero_le _, Store.le_refl _, vis_nil S3⟩)) ?_
  · repeat' first | exact trivial | exact rfl | refine And.intro ?_ ?_
  rintro ⟨k, b, T⟩ ⟨hk, hT, hb⟩
  simp only at hk hT hb
  refine And.intro (fun h => ?_) (fun h => ?_)
  · have hkl : k < 2 * A.length := by
      have : ((2 * A.length : Nat) : Int) - 1 - ((k : Nat) : Int) ≥ 0 := of_decide_eq_true h
      omega
    obtain ⟨t, ht⟩ : ∃ t : Nat, t = 2 * A.length - 1 - k := ⟨_, rfl⟩
    have ht2 : ((2 * A.length : Nat) : Int) - 1 - ((k : Nat) : Int) = ((t : Nat) : Int) := by omega
    have hjl : t % A.length < A.length := Nat.mod_lt _ (by omega)
    obtain ⟨j, hj⟩ : ∃ j, t % A.length = j := ⟨_, rfl⟩
    rw [hj] at hjl
    have hx : A[j]? = some A[j] := List.getElem?_eq_getElem hjl
    obtain ⟨x, hxx⟩ : ∃ x, A[j] = x := ⟨_, rfl⟩
    rw [hxx] at hx
    have hxm := List.mem_of_getElem? hx
    have hsucc := back_succ (m := A) (k := k) (x := x) (by rw [← ht, hj]; exact hx)
    have hmade : made (back A (k + 1)) = rWith (made (back A k)) x.1 x.2 := by rw [hsucc, made, rJoin, List.foldl_append]; rfl
    have hat := rAt_of_mem sa.nodup hxm
    obtain ⟨b1, o, hp, hok, hrd⟩ := row_at (hur.le hT) (show (A.map (·.1))[j]? = some x.1 by rw [List.getElem?_map, hx]; rfl)
    have hmod : Int.tmod (((2 * A.length : Nat) : Int) - 1 - ((k : Nat) : Int)) ((A.length : Nat) : Int) = ((j : Nat) : Int) := by
      rw [ht2, ← hj]; exact (Int.ofNat_tmod _ _).symm
    refine ⟨by show ((A.length : Nat) : Int) ≠ 0; omega, ((j : Nat) : Int), hmod, Int.natCast_nonneg _, (show ((j : Nat) : Int) < ((A.length : Nat) : Int) by omega), b1, o, hp, x.1, trivial, hrd, ?_⟩
    refine ⟨or9_10, [1], oF9_10, by kernel_rfl, ?_⟩
    refine ⟨⟨_, rfl, rfl, rfl⟩, .inl ⟨_, _, _, at_spec T v A x.1 (hv.le hT), fun T1 r hT1 hr1 => ?_⟩⟩
    have hr1 : r = x.2 := by rw [show r = rAt A x.1 from hr1, hat]
    subst hr1
    refine ⟨⟨_, rfl, rfl, rfl⟩, .inl ⟨_, _, _, with_spec T1 b _ x.1 x.2 (hb.le hT1), fun T2 w hT2 hw => ?_⟩⟩
    have hw : VIs T2 w (rWith (made (back A k)) x.1 x.2) := hw
    rw [← hmade] at hw
    refine ⟨((2 * A.length : Nat) : Int) - 1 - ((k + 1 : Nat) : Int), by
      show IntKind.i64.wrap (((2 * A.length : Nat) : Int) - 1 - ((k : Nat) : Int) - 1) = _
      rw [wrap_i64 (by omega) (by omega)]; omega, (k + 1, w, T2), ⟨⟨?_, rfl⟩, rfl, Store.le_refl _⟩, ⟨hkl, Store.le_trans hT (Store.le_trans hT1 hT2), hw⟩, ?_⟩
    · repeat' first | exact trivial | exact rfl | refine And.intro ?_ ?_
    · show 2 * A.length - (k + 1) < 2 * A.length - k
      omega
  · have hkl : k = 2 * A.length := by
      have : ¬ ((2 * A.length : Nat) : Int) - 1 - ((k : Nat) : Int) ≥ 0 := of_decide_eq_false h
      omega
    have hbA : VIs T b A := by
      have h1 : made (back A k) = A := by
        rw [hkl, made_set (fun p => back_mem (m := A) (p := p))]
        exact rJoin_nil sa
      rw [h1] at hb; exact hb
    clear hb h
    refine ⟨[], [], Nat, List.range' 24 100, fun i => [(9, rI i)], fun _ => [.box [.v (.map v)], .box [.v (.map b)]], fun _ => T, fun i => 1 ≤ i ∧ i ≤ max 1 A.length, fun i => A.length - i, ?_⟩
    refine And.intro (Exists.intro 1 (And.intro (And.intro (And.intro ?_ rfl) (And.intro rfl (Store.le_refl _))) ⟨Nat.le_refl _, by omega⟩)) ?_
    · repeat' first | exact trivial | exact rfl | refine And.intro ?_ ?_
    rintro i ⟨hi1, hi2⟩
    have hurT := hur.le hT
    refine And.intro (fun h => ?_) (fun h => ?_)
    · have hil : i < A.length := by
        have : ((i : Nat) : Int) < ((A.length : Nat) : Int) := of_decide_eq_true h
        omega
      have hx : A[i - 1]? = some A[i - 1] := List.getElem?_eq_getElem (by omega)
      have hy : A[i]? = some A[i] := List.getElem?_eq_getElem hil
      have hlt : A[i - 1].1 < A[i].1 := List.pairwise_iff_getElem.1 sa.1 (i - 1) i (by omega) hil (by omega)
      obtain ⟨x, hxx⟩ : ∃ x, A[i - 1] = x := ⟨_, rfl⟩
      obtain ⟨y, hyy⟩ : ∃ y, A[i] = y := ⟨_, rfl⟩
      rw [hxx] at hx hlt
      rw [hyy] at hy hlt
      obtain ⟨b1, o1, hp1, hok1, hrd1⟩ := row_at hurT (show (A.map (·.1))[i - 1]? = some x.1 by rw [List.getElem?_map, hx]; rfl)
      obtain ⟨b2, o2, hp2, hok2, hrd2⟩ := row_at hurT (show (A.map (·.1))[i]? = some y.1 by rw [List.getElem?_map, hy]; rfl)
      refine ⟨or9_14, [], oF9_14, by kernel_rfl, ?_⟩
      refine ⟨((i - 1 : Nat) : Int), by show IntKind.i64.wrap (((i : Nat) : Int) - 1) = _; rw [wrap_i64 (by omega) (by omega)]; omega, Int.natCast_nonneg _, (show ((i - 1 : Nat) : Int) < ((A.length : Nat) : Int) by omega), b1, o1, hp1, x.1, trivial, hrd1, Int.natCast_nonneg _, (show ((i : Nat) : Int) < ((A.length : Nat) : Int) by omega), b2, o2, hp2, y.1, trivial, hrd2, ?_⟩
      refine And.intro (fun h => absurd (of_decide_eq_true h) (by omega)) (fun _ => ?_)
      refine ⟨((i + 1 : Nat) : Int), wrap_i64 (by omega) (by omega), i + 1, ⟨⟨?_, rfl⟩, rfl, Store.le_refl _⟩, ⟨by omega, by omega⟩, ?_⟩
      · repeat' first | exact trivial | exact rfl | refine And.intro ?_ ?_
      · show A.length - (i + 1) < A.length - i
        omega
    · have hvT := hv.le hT
      have hself : rBelow A A = true := (below_iff sa sa).2 fun _ => Int.le_refl _
      refine ⟨⟨_, rfl, rfl, rfl⟩, .inl ⟨_, _, _, same_spec T v b _ _ hvT hbA, fun T1 r hT1 hr1 => ?_⟩⟩
      have hr1 : r = true := by rw [show r = decide _ from hr1]; exact decide_eq_true rfl
      subst hr1
      have hv1 := hvT.le hT1
      have hb1 := hbA.le hT1
      refine onT ⟨⟨_, rfl, rfl, rfl⟩, .inl ⟨_, _, _, below_spec T1 v b _ _ hv1 hb1, fun T2 r hT2 hr2 => ?_⟩⟩
      have hr2 : r = true := by rw [show r = rBelow _ _ from hr2, hself]
      subst hr2
      refine onT ⟨⟨_, rfl, rfl, rfl⟩, .inl ⟨_, _, _, below_spec T2 b v _ _ (hb1.le hT2) (hv1.le hT2), fun T3 r hT3 hr3 => ?_⟩⟩
      have hr3 : r = true := by rw [show r = rBelow _ _ from hr3, hself]
      subst hr3
      exact onT ⟨⟨_, rfl, rfl, rfl⟩, .inl ⟨_, _, _, awake_spec T3, fun S1 x hS1 hx => ⟨rfl, x, rfl, hx⟩⟩⟩
end Go.Proofs.Ytjcbbmibcbiedaa
