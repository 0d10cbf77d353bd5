/- law16: Reach. -/
import Derived.Test.YtmkbaeilfejbjaaDoorFh
namespace Go.Proofs.YtmkbaeilfejbjaaDoor
open Go Go.Vc
set_option maxRecDepth 100000

set_option maxHeartbeats 4000000 in
theorem reach_spec (S : Store) (p q : Hd) (roots : List Int) (hs : List Hd) (next : List (List Int)) (hl : roots.length = p.2.1) (hr : RowRd S p.1 shI roots) (hm : hs.length = q.2.1) (hr' : RowRd S q.1 .slice hs) (hrs : RowsRd S shI hs next)
    (hn : roots.length ≤ 1000000) (hn' : next.length ≤ 1000) (hn2 : ∀ l ∈ next, l.length ≤ 1000000) :
    Pure Tryd.prog 14 S [slV p, slV q] (A := Hd × List Int) (fun q => .c (.v (slV q.1))) (fun S' q => q.1.2.1 = q.2.length ∧ RowRd S' q.1.1 shI q.2 ∧ IsReach roots next q.2) := by
  obtain ⟨p, n, c⟩ := p
  obtain ⟨q, n', c'⟩ := q
  simp only at hl hr hm hr'
  subst hl hm
  have hsn := hrs.length
  refine pure_vc agrees Tryd.func14 rfl rfl (fun S S' q hle h => ⟨h.1, h.2.1.le hle, h.2.2⟩) ?_
  refine ⟨Int.natCast_nonneg _, Int.le_refl _, ?_, ?_, ?_⟩
  · show ((1 : Nat) : Int) * ((hs.length : Nat) : Int) ≤ 140737488355328
    omega
  · show ((hs.length : Nat) : Int) ≤ 140737488355328
    omega
  have e0 : ((((hs.length : Nat) : Int)).toNat) = next.length := by rw [Int.toNat_natCast, hsn]
  refine ⟨[], [(300002, shI, 3)], Nat × (List Bool × List Int) × Store, [9] ++ List.range' 15 4 ++ List.range' 22 100, fun x => [(21, rI x.1)], fun x => [.row .bool 4 x.2.1.1, .box [.ref 0], .box [.ref 3], .row shI 3 x.2.1.2], fun x => x.2.2,
    fun x => x.1 ≤ roots.length ∧ S.le x.2.2 ∧ Good next.length x.2.1 ∧ (∀ y ∈ x.2.1.2, Rch roots next y) ∧ ∀ y ∈ roots.take x.1, isNode next y → y ∈ x.2.1.2, fun x => roots.length - x.1, ?_⟩
  refine And.intro (Exists.intro (0, (List.replicate next.length false, []), S) (And.intro (And.intro (And.intro ?_ rfl) (And.intro ?_ (Store.le_refl _))) ⟨Nat.zero_le _, Store.le_refl _, good_start _, by simp, by simp⟩)) ?_
  · repeat' first | exact trivial | exact rfl | refine And.intro ?_ ?_
  · show [Res.row .bool 4 (List.replicate (((hs.length : Nat) : Int)).toNat false), _, _, _] = _
    rw [e0]
  rintro ⟨i, s, T⟩ ⟨hi, hT, hg, hso, hro⟩
  simp only at hi hT hg hso hro
  have hsl := good_length hg
  refine And.intro (fun h => ?_) (fun h => ?_)
  · have hil : i < roots.length := by
      have : ((i : Nat) : Int) < ((roots.length : Nat) : Int) := of_decide_eq_true h
      omega
    have hx : roots[i]? = some roots[i] := List.getElem?_eq_getElem hil
    have htk : roots.take (i + 1) = roots.take i ++ [roots[i]] := by rw [List.take_add_one, hx]; rfl
    have hxm : roots[i] ∈ roots := List.getElem_mem hil
    obtain ⟨x, hxx⟩ : ∃ x, roots[i] = x := ⟨_, rfl⟩
    rw [hxx] at hx htk hxm
    obtain ⟨b1, o1, hp1, hk1, hd1⟩ := row_at (hr.le hT) hx
    refine ⟨Int.natCast_nonneg _, by show ((i : Nat) : Int) < ((roots.length : Nat) : Int); omega, b1, o1, hp1, x, hk1, hd1, ⟨_, rfl, rfl, rfl⟩, .inr (.inl ⟨[1, 2, 0, 3], _, _, _, _, rfl, add_spec T x s (by omega), fun T1 u hT1 _ => ?_⟩)⟩
    refine ⟨((i + 1 : Nat) : Int), wrap_i64 (by omega) (by omega), (i + 1, addOf s x, T1), ⟨⟨?_, rfl⟩, rfl, Store.le_refl _⟩, ⟨hil, Store.le_trans hT hT1, add_good hg x, ?_, ?_⟩, ?_⟩
    · repeat' first | exact trivial | exact rfl | refine And.intro ?_ ?_
    · intro y hy
      rcases add_from hy with hy | ⟨rfl, h1, h2⟩
      · exact hso y hy
      · exact .root y hxm ⟨h1, by rw [← hg.len]; exact h2⟩
    · intro y hy hv
      rw [htk] at hy
      rcases List.mem_append.1 hy with hy | hy
      · exact add_keeps (hro y hy hv)
      · have : y = x := by simpa using hy
        subst this
        exact add_has hg hv.1 hv.2
    · show roots.length - (i + 1) < roots.length - i
      omega
  have hil : i = roots.length := by
    have : ¬ ((i : Nat) : Int) < ((roots.length : Nat) : Int) := of_decide_eq_false h
    omega
  rw [hil, List.take_length] at hro
  clear h
  refine ⟨[], [], Nat × (List Bool × List Int) × Store, [9, 12, 21] ++ List.range' 22 100, fun x => [(10, rI x.1)], fun x => [.row .bool 4 x.2.1.1, .box [.ref 0], .box [.ref 3], .row shI 3 x.2.1.2], fun x => x.2.2,
    fun x => x.1 ≤ x.2.1.2.length ∧ S.le x.2.2 ∧ Good next.length x.2.1 ∧ (∀ y ∈ x.2.1.2, Rch roots next y) ∧ (∀ y ∈ roots, isNode next y → y ∈ x.2.1.2) ∧ ∀ y ∈ x.2.1.2.take x.1, closedAt next x.2.1.2 y, fun x => next.length - x.1, ?_⟩
  refine And.intro (Exists.intro (0, s, T) (And.intro (And.intro (And.intro ?_ rfl) (And.intro rfl (Store.le_refl _))) ⟨Nat.zero_le _, hT, hg, hso, hro, by simp⟩)) ?_
  · repeat' first | exact trivial | exact rfl | refine And.intro ?_ ?_
  clear hT hg hso hro hsl
  clear hil hi
  rintro ⟨i2, s2, T2⟩ ⟨hi, hT, hg, hso, hro, hcl⟩
  simp only at hi hT hg hso hro hcl
  have hsl := good_length hg
  refine And.intro (fun h => ?_) (fun h => ?_)
  · have hil : i2 < s2.2.length := by
      have : ((i2 : Nat) : Int) < ((s2.2.length : Nat) : Int) := of_decide_eq_true h
      omega
    have hx : s2.2[i2]? = some s2.2[i2] := List.getElem?_eq_getElem hil
    have htk : s2.2.take (i2 + 1) = s2.2.take i2 ++ [s2.2[i2]] := by rw [List.take_add_one, hx]; rfl
    have hxm : s2.2[i2] ∈ s2.2 := List.getElem_mem hil
    obtain ⟨x, hxx⟩ : ∃ x, s2.2[i2] = x := ⟨_, rfl⟩
    rw [hxx] at hx htk hxm
    obtain ⟨hx0, hx1, -⟩ := hg.seen x hxm
    have hxl : x.toNat < next.length := by omega
    obtain ⟨d1, d3, hhd, hdr⟩ := hrs.at hxl
    obtain ⟨b1, o1, hp1, hk1, hd1⟩ := row_at (hr'.le hT) hhd
    have hlm : next[x.toNat] ∈ next := List.getElem_mem hxl
    have hlx : next[x.toNat]? = some next[x.toNat] := List.getElem?_eq_getElem hxl
    obtain ⟨l, hll⟩ : ∃ l, next[x.toNat] = l := ⟨_, rfl⟩
    rw [hll] at hhd hdr hlm hlx hd1 hk1
    have hl2 := hn2 l hlm
    refine ⟨Int.natCast_nonneg _, by show ((i2 : Nat) : Int) < ((s2.2.length : Nat) : Int); omega, x, hx, hx0, by show x < ((hs.length : Nat) : Int); omega, b1, o1, hp1, (d1, l.length, d3), hk1, hd1, ?_⟩
    refine ⟨[], [], Nat × (List Bool × List Int) × Store, [12] ++ List.range' 29 12 ++ List.range' 44 100, fun x => [(43, rI x.1)], fun x => [.row .bool 4 x.2.1.1, .box [.ref 0], .box [.ref 3], .row shI 3 x.2.1.2], fun x => x.2.2,
      fun z => z.1 ≤ l.length ∧ T2.le z.2.2 ∧ Good next.length z.2.1 ∧ (∀ y ∈ z.2.1.2, Rch roots next y) ∧ (∃ t, z.2.1.2 = s2.2 ++ t) ∧ ∀ y ∈ l.take z.1, isNode next y → y ∈ z.2.1.2, fun x => l.length - x.1, ?_⟩
    refine And.intro (Exists.intro (0, s2, T2) (And.intro (And.intro (And.intro ?_ rfl) (And.intro rfl (Store.le_refl _))) ⟨Nat.zero_le _, Store.le_refl _, hg, hso, ⟨[], by simp⟩, by simp⟩)) ?_
    · repeat' first | exact trivial | exact rfl | refine And.intro ?_ ?_
    rintro ⟨k, s3, T3⟩ ⟨hk, hT3, hg3, hso3, ⟨t3, ht3⟩, hlk⟩
    simp only at hk hT3 hg3 hso3 ht3 hlk
    have hsl3 := good_length hg3
    refine And.intro (fun h => ?_) (fun h => ?_)
    · have hkl : k < l.length := by
        have : ((k : Nat) : Int) < ((l.length : Nat) : Int) := of_decide_eq_true h
        omega
      have hy : l[k]? = some l[k] := List.getElem?_eq_getElem hkl
      have htk2 : l.take (k + 1) = l.take k ++ [l[k]] := by rw [List.take_add_one, hy]; rfl
      have hym : l[k] ∈ l := List.getElem_mem hkl
      obtain ⟨y, hyy⟩ : ∃ y, l[k] = y := ⟨_, rfl⟩
      rw [hyy] at hy htk2 hym
      obtain ⟨b2, o2, hp2, hk2, hd2⟩ := row_at (hdr.le (Store.le_trans hT hT3)) hy
      refine ⟨Int.natCast_nonneg _, by show ((k : Nat) : Int) < ((l.length : Nat) : Int); omega, b2, o2, hp2, y, hk2, hd2, ⟨_, rfl, rfl, rfl⟩, .inr (.inl ⟨[1, 2, 0, 3], _, _, _, _, rfl, add_spec T3 y s3 (by omega), fun T4 u hT4 _ => ?_⟩)⟩
      refine ⟨((k + 1 : Nat) : Int), wrap_i64 (by omega) (by omega), (k + 1, addOf s3 y, T4), ⟨⟨?_, rfl⟩, rfl, Store.le_refl _⟩, ⟨hkl, Store.le_trans hT3 hT4, add_good hg3 y, ?_, ?_, ?_⟩, ?_⟩
      · repeat' first | exact trivial | exact rfl | refine And.intro ?_ ?_
      · intro w hw
        rcases add_from hw with hw | ⟨rfl, h1, h2⟩
        · exact hso3 w hw
        · exact .step x w l (hso x hxm) hlx hym ⟨h1, by rw [← hg3.len]; exact h2⟩
      · obtain ⟨t4, ht4⟩ := add_more s3 y
        exact ⟨t3 ++ t4, by show (addOf s3 y).2 = _; rw [ht4, ht3, List.append_assoc]⟩
      · intro w hw hv
        rw [htk2] at hw
        rcases List.mem_append.1 hw with hw | hw
        · exact add_keeps (hlk w hw hv)
        · have : w = y := by simpa using hw
          subst this
          exact add_has hg3 hv.1 hv.2
      · show l.length - (k + 1) < l.length - k
        omega
    have hkl : k = l.length := by
      have : ¬ ((k : Nat) : Int) < ((l.length : Nat) : Int) := of_decide_eq_false h
      omega
    rw [hkl, List.take_length] at hlk
    have hle3 : s2.2.length ≤ s3.2.length := by rw [ht3]; simp
    refine ⟨((i2 + 1 : Nat) : Int), wrap_i64 (by omega) (by omega), (i2 + 1, s3, T3), ⟨⟨?_, rfl⟩, rfl, Store.le_refl _⟩, ⟨by show i2 + 1 ≤ s3.2.length; omega, Store.le_trans hT hT3, hg3, hso3, ?_, ?_⟩, ?_⟩
    · repeat' first | exact trivial | exact rfl | refine And.intro ?_ ?_
    · intro y hy hv
      show y ∈ s3.2
      rw [ht3]; exact List.mem_append_left _ (hro y hy hv)
    · intro y hy
      show closedAt next s3.2 y
      have hy' : y ∈ s2.2.take (i2 + 1) := by
        have : y ∈ s3.2.take (i2 + 1) := hy
        rwa [ht3, List.take_append_of_le_length (by omega)] at this
      rw [htk] at hy'
      rcases List.mem_append.1 hy' with hy' | hy'
      · intro l' hl' z hz hv
        rw [ht3]; exact List.mem_append_left _ (hcl y hy' l' hl' z hz hv)
      · have : y = x := by simpa using hy'
        subst this
        intro l' hl' z hz hv
        rw [hlx] at hl'
        cases hl'
        exact hlk z hz hv
    · show next.length - (i2 + 1) < next.length - i2
      omega
  have hil : i2 = s2.2.length := by
    have : ¬ ((i2 : Nat) : Int) < ((s2.2.length : Nat) : Int) := of_decide_eq_false h
    omega
  rw [hil, List.take_length] at hcl
  have hfin := isReach_of hg hso hro hcl
  clear h hil
  have hsl2 := hg.len
  refine ⟨[], [(13, shI, 3)], Nat, [14] ++ List.range' 54 100, fun x => [(53, rI x)], fun k => [.row .bool 4 s2.1, .box [.ref 0], .box [.ref 3], .row shI 3 s2.2, .row shI 3 (seenUpto s2.1 k)], fun _ => T2,
    fun k => k ≤ next.length, fun x => next.length - x, ?_⟩
  refine And.intro (Exists.intro 0 (And.intro (And.intro (And.intro ?_ rfl) (And.intro rfl (Store.le_refl _))) (Nat.zero_le _))) ?_
  · repeat' first | exact trivial | exact rfl | refine And.intro ?_ ?_
  intro k hk
  have hul := seenUpto_length s2.1 k
  refine And.intro (fun h => ?_) (fun h => ?_)
  · have hkl : k < next.length := by
      have : ((k : Nat) : Int) < ((s2.1.length : Nat) : Int) := of_decide_eq_true h
      omega
    have hkl2 : k < s2.1.length := by omega
    have hx : s2.1[k]? = some s2.1[k] := List.getElem?_eq_getElem hkl2
    obtain ⟨x, hxx⟩ : ∃ x, s2.1[k] = x := ⟨_, rfl⟩
    rw [hxx] at hx
    have hwk : IntKind.i64.wrap (((k : Nat) : Int) + 1) = ((k + 1 : Nat) : Int) := wrap_i64 (by omega) (by omega)
    refine ⟨Int.natCast_nonneg _, by show ((k : Nat) : Int) < ((s2.1.length : Nat) : Int); omega, x, hx, ?_⟩
    cases x
    · have e1 : seenUpto s2.1 (k + 1) = seenUpto s2.1 k := by rw [seenUpto, if_neg (by rw [hx]; simp)]
      refine onF ⟨((k + 1 : Nat) : Int), hwk, k + 1, ⟨⟨?_, rfl⟩, ?_, Store.le_refl _⟩, hkl, ?_⟩
      · repeat' first | exact trivial | exact rfl | refine And.intro ?_ ?_
      · simp only [e1]; rfl
      · show next.length - (k + 1) < next.length - k
        omega
    · have e1 : seenUpto s2.1 (k + 1) = seenUpto s2.1 k ++ [(k : Int)] := by rw [seenUpto, if_pos hx]
      refine onT ⟨[(k : Int)], ⟨rfl, rfl⟩, fun _ _ => trivial, by show ((seenUpto s2.1 k).length + 1) * 8 ≤ 140737488355328; omega, ((k + 1 : Nat) : Int), hwk, k + 1, ⟨⟨?_, rfl⟩, ?_, Store.le_refl _⟩, hkl, ?_⟩
      · repeat' first | exact trivial | exact rfl | refine And.intro ?_ ?_
      · simp only [e1]; rfl
      · show next.length - (k + 1) < next.length - k
        omega
  have hkl : k = next.length := by
    have : ¬ ((k : Nat) : Int) < ((s2.1.length : Nat) : Int) := of_decide_eq_false h
    omega
  rw [hkl]
  exact fun p' c1 T3 hT3 hr3 _ => ⟨rfl, ((p', (seenUpto s2.1 next.length).length, c1), seenUpto s2.1 next.length), rfl, rfl, hr3, hfin⟩
end Go.Proofs.YtmkbaeilfejbjaaDoor
