/- law02: Is, Made, great. -/
import Derived.Test.YtjcbbmibcbiedaaFh
namespace Go.Proofs.Ytjcbbmibcbiedaa
open Go Go.Vc Go.Sort Go.RowKit Go.Maps
set_option maxRecDepth 100000

/-- What the calls make. -/
@[reducible] def made (l : List (Int × Int)) : List (Int × Int) := rJoin [] l
theorem made_sp (l : List (Int × Int)) : SP (made l) := rJoin_sp sp_nil l
theorem made_length (l : List (Int × Int)) : (made l).length ≤ l.length := by
  have := rJoin_length [] l
  simpa using this

theorem great_spec (S : Store) (p : Hd) : Pure Try.prog 10 S [slV p] rB (fun _ x => x = decide (((p.2.1 : Nat) : Int) > 100)) := by
  refine pure_vc agrees Try.func10 rfl rfl (fun S S' q hle h => h) ?_
  exact ⟨rfl, _, rfl, rfl⟩

set_option maxHeartbeats 1000000 in
theorem made_spec (S : Store) (p : Hd) (l : List (Int × Int)) (hl : l.length = p.2.1) (hr : RowRd S p.1 shP l) (hn : l.length ≤ 1000) :
    Pure Try.prog 12 S [slV p] (A := Option Nat × Hd) (fun z => .tup [(true, [.v (.map z.1)]), (false, [.v (slV z.2)])]) (fun S' z => VIs S' z.1 (made l) ∧ z.2.2.1 = (made l).length ∧ RowRd S' z.2.1 shP (made l)) := by
  obtain ⟨p, k, c⟩ := p
  simp only at hl hr
  subst hl
  refine pure_vc agrees Try.func12 rfl rfl (fun S S' q hle h => ⟨h.1.le hle, h.2.1, h.2.2.le hle⟩) ?_
  refine ⟨[], [], Nat × Option Nat × Hd × Store, [6, 7] ++ List.range' 11 40, fun z => [(10, rI z.1), (5, .c (.v (slV z.2.2.1)))], fun z => [.box [.v (.map none)], .box [.v (.map z.2.1)]], fun z => z.2.2.2,
    fun z => z.1 ≤ l.length ∧ S.le z.2.2.2 ∧ VIs z.2.2.2 z.2.1 (made (l.take z.1)) ∧ z.2.2.1.2.1 = (made (l.take z.1)).length ∧ RowRd z.2.2.2 z.2.2.1.1 shP (made (l.take z.1)), fun z => l.length - z.1, ?_⟩
  refine And.intro (Exists.intro (0, none, (none, 0, 0), S) (And.intro (And.intro (And.intro ?_ rfl) (And.intro rfl (Store.le_refl _))) ⟨Nat.zero_le _, Store.le_refl _, ⟨⟨[], rfl, .refl _⟩, sp_nil⟩, rfl, .inl rfl, by simp [rJoin]⟩)) ?_
  · repeat' first | exact trivial | exact rfl | refine And.intro ?_ ?_
  rintro ⟨i, b, u, T⟩ ⟨hi, hT, hvi, hul, hur⟩
  simp only at hi hT hvi hul hur
  have htl : (l.take i).length ≤ l.length := by rw [List.length_take]; omega
  have hml := made_length (l.take i)
  have i0 : (0 : Int) ≤ ((i : Nat) : Int) := Int.natCast_nonneg _
  refine And.intro (fun h => ?_) (fun h => ?_)
  · have hil : i < l.length := by
      have : ((i : Nat) : Int) < ((l.length : Nat) : Int) := of_decide_eq_true h
      omega
    have i1 : ((i : Nat) : Int) < ((l.length : Nat) : Int) := by omega
    have hx : l[i]? = some l[i] := List.getElem?_eq_getElem hil
    obtain ⟨x, hxx⟩ : ∃ x, l[i] = x := ⟨_, rfl⟩
    rw [hxx] at hx
    have hst : made (l.take (i + 1)) = rWith (made (l.take i)) x.1 x.2 := by
      rw [made, rJoin, List.take_add_one, hx, List.foldl_append]; rfl
    obtain ⟨b1, o, hp, hok, hrd⟩ := row_at (hr.le hT) hx
    refine ⟨i0, i1, b1, o, hp, x, ⟨trivial, trivial⟩, hrd, ?_⟩
    refine ⟨or12_6, [1], oF12_6, by kernel_rfl, ?_⟩
    refine ⟨⟨_, rfl, rfl, rfl⟩, .inl ⟨_, _, _, with_spec T b (made (l.take i)) x.1 x.2 hvi, fun T1 v hT1 hv1 => ?_⟩⟩
    have hv1 : VIs T1 v (rWith (made (l.take i)) x.1 x.2) := hv1
    refine ⟨⟨_, rfl, rfl, rfl⟩, .inl ⟨_, _, _, ref_with_spec T1 u (made (l.take i)) x.1 x.2 hul.symm (hur.le hT1) (by omega), fun T2 v2 hT2 hv2 => ?_⟩⟩
    have hv2 : v2.2.1 = (rWith (made (l.take i)) x.1 x.2).length ∧ RowRd T2 v2.1 shP (rWith (made (l.take i)) x.1 x.2) := hv2
    rw [← hst] at hv1 hv2
    refine ⟨((i + 1 : Nat) : Int), wrap_i64 (by omega) (by omega), (i + 1, v, v2, T2), ⟨⟨?_, rfl⟩, rfl, Store.le_refl _⟩, ⟨hil, Store.le_trans hT (Store.le_trans hT1 hT2), hv1.le hT2, hv2.1, hv2.2⟩, ?_⟩
    · repeat' first | exact trivial | exact rfl | refine And.intro ?_ ?_
    · show l.length - (i + 1) < l.length - i
      omega
  · have hil : i = l.length := by
      have : ¬ ((i : Nat) : Int) < ((l.length : Nat) : Int) := of_decide_eq_false h
      omega
    rw [hil, List.take_length] at hvi hul hur
    exact ⟨rfl, (b, u), rfl, hvi, hul, hur⟩

set_option maxHeartbeats 1000000 in
theorem is_spec (S : Store) (b : Option Nat) (m : List (Int × Int)) (q : Hd) (k : List (Int × Int)) (hv : VIs S b m) (hn : m.length ≤ 10000) (hl : k.length = q.2.1) (hr : RowRd S q.1 shP k) :
    Pure Try.prog 13 S [vV b, slV q] rB (fun _ x => x = decide (m = k)) := by
  obtain ⟨q, n', c⟩ := q
  simp only at hl hr
  subst hl
  refine pure_vc agrees Try.func13 rfl rfl (fun S S' q hle h => h) ?_
  refine ⟨⟨_, rfl, rfl, rfl⟩, .inl ⟨_, _, _, locs_spec S b m hv hn, fun S1 u hS1 hu => ?_⟩⟩
  obtain ⟨up, un, uc⟩ := u
  obtain ⟨hul, hur⟩ : un = m.length ∧ RowRd S1 up shI (m.map (·.1)) := hu
  subst hul
  have hr1 := hr.le hS1
  refine And.intro (fun h0 => ?_) (fun h0 => ?_)
  · refine ⟨rfl, false, rfl, ?_⟩
    show false = decide (m = k)
    symm
    rw [decide_eq_false_iff_not]
    rintro rfl
    have h0' : (((m.length : Nat) : Int) != ((m.length : Nat) : Int)) = true := h0
    simp at h0'
  have hlen : m.length = k.length := by
    have h0' : (((m.length : Nat) : Int) != ((k.length : Nat) : Int)) = false := h0
    rw [bne_eq_false_iff_eq] at h0'
    omega
  refine ⟨[], [], Nat, [6, 7] ++ List.range' 18 60, fun i => [(17, rI i)], fun _ => [.box [.v (.map b)]], fun _ => S1, fun i => i ≤ m.length ∧ m.take i = k.take i, fun i => m.length - i, ?_⟩
  refine And.intro (Exists.intro 0 (And.intro (And.intro (And.intro ?_ rfl) (And.intro rfl (Store.le_refl _))) (And.intro (Nat.zero_le _) rfl))) ?_
  · repeat' first | exact trivial | exact rfl | refine And.intro ?_ ?_
  rintro i ⟨hi, htk⟩
  have i0 : (0 : Int) ≤ ((i : Nat) : Int) := Int.natCast_nonneg _
  refine And.intro (fun h => ?_) (fun h => ?_)
  · have hil : i < k.length := by
      have : ((i : Nat) : Int) < ((k.length : Nat) : Int) := of_decide_eq_true h
      omega
    have i1 : ((i : Nat) : Int) < ((k.length : Nat) : Int) := by omega
    have i2 : ((i : Nat) : Int) < ((m.length : Nat) : Int) := by omega
    have hx : k[i]? = some k[i] := List.getElem?_eq_getElem hil
    have hy : m[i]? = some m[i] := List.getElem?_eq_getElem (by omega)
    have hym : m[i] ∈ m := List.getElem_mem _
    obtain ⟨x, hxx⟩ : ∃ x, k[i] = x := ⟨_, rfl⟩
    obtain ⟨y, hyy⟩ : ∃ y, m[i] = y := ⟨_, rfl⟩
    rw [hxx] at hx
    rw [hyy] at hy hym
    have hy1 : (m.map (·.1))[i]? = some y.1 := by rw [List.getElem?_map, hy]; rfl
    obtain ⟨b1, o, hp, hok, hrd⟩ := row_at hr1 hx
    obtain ⟨b2, o2, hp2, hok2, hrd2⟩ := row_at hur hy1
    have hat := rAt_of_mem hv.2.nodup hym
    refine ⟨i0, i1, b1, o, hp, x, ⟨trivial, trivial⟩, hrd, ?_⟩
    refine ⟨or13_7, [], oF13_7, by kernel_rfl, ?_⟩
    have bad : y ≠ x → false = decide (m = k) := fun hne => by
      symm
      rw [decide_eq_false_iff_not]
      rintro rfl
      rw [hx] at hy
      exact hne (Option.some.inj hy).symm
    refine ⟨i0, i2, b2, o2, hp2, y.1, trivial, hrd2, ?_⟩
    refine And.intro (fun h1 => ?_) (fun h1 => ?_)
    · have h1' : (y.1 != x.1) = true := h1
      refine onT ⟨rfl, false, rfl, bad fun e => ?_⟩
      rw [bne_iff_ne] at h1'
      exact h1' (by rw [e])
    have h1' : (y.1 != x.1) = false := h1
    rw [bne_eq_false_iff_eq] at h1'
    refine ⟨i0, i2, b2, o2, hp2, y.1, trivial, hrd2, ⟨_, rfl, rfl, rfl⟩, .inl ⟨_, _, _, at_spec S1 b m y.1 (hv.le hS1), fun S2 v hS2 hv2 => ?_⟩⟩
    have hv2 : v = rAt m y.1 := hv2
    rw [hat] at hv2
    subst hv2
    refine And.intro (fun h2 => ?_) (fun h2 => ?_)
    · have h2' : (y.2 != x.2) = true := h2
      refine ⟨rfl, false, rfl, bad fun e => ?_⟩
      rw [bne_iff_ne] at h2'
      exact h2' (by rw [e])
    have h2' : (y.2 != x.2) = false := h2
    rw [bne_eq_false_iff_eq] at h2'
    have hyx : y = x := Prod.ext h1' h2'
    refine ⟨((i + 1 : Nat) : Int), wrap_i64 (by omega) (by omega), i + 1, ⟨⟨?_, rfl⟩, rfl, hS2⟩, ⟨by show i + 1 ≤ m.length; omega, ?_⟩, ?_⟩
    · repeat' first | exact trivial | exact rfl | refine And.intro ?_ ?_
    · rw [List.take_add_one, List.take_add_one, hx, hy, htk, hyx]
    · show m.length - (i + 1) < m.length - i
      omega
  · have hil : i = k.length := by
      have : ¬ ((i : Nat) : Int) < ((k.length : Nat) : Int) := of_decide_eq_false h
      omega
    rw [hil, List.take_length, ← hlen, List.take_length] at htk
    exact ⟨rfl, true, rfl, by rw [htk]; exact (decide_eq_true rfl).symm⟩
end Go.Proofs.Ytjcbbmibcbiedaa
