/- law15: few, is, bag. -/
import Derived.Test.YtdkdepibclhkmaaFg
namespace Go.Proofs.Ytdkdepibclhkmaa
open Go Go.Vc
set_option maxRecDepth 100000

theorem few_spec (S : Store) (p q o : Hd) : Pure Try.prog 8 S [slV p, slV q, slV o] rB (fun _ b => b = (decide (p.2.1 ≤ 100) && decide (q.2.1 ≤ 40) && decide (o.2.1 ≤ 40))) := by
  refine pure_vc agrees Try.func8 rfl rfl (fun S S' q hle h => h) ?_
  have e : ∀ (n k : Nat), decide (((n : Nat) : Int) ≤ ((k : Nat) : Int)) = decide (n ≤ k) := fun n k => by simp
  rw [← e p.2.1 100, ← e q.2.1 40, ← e o.2.1 40]
  refine And.intro (fun h0 => ?_) (fun h0 => ?_)
  · refine And.intro (fun h1 => ?_) (fun h1 => ?_)
    · exact ⟨rfl, _, rfl, by rw [show decide (((p.2.1 : Nat) : Int) ≤ ((100 : Nat) : Int)) = true from h0, show decide (((q.2.1 : Nat) : Int) ≤ ((40 : Nat) : Int)) = true from h1]; rfl⟩
    · exact ⟨rfl, _, rfl, by rw [show decide (((p.2.1 : Nat) : Int) ≤ ((100 : Nat) : Int)) = true from h0, show decide (((q.2.1 : Nat) : Int) ≤ ((40 : Nat) : Int)) = false from h1]; rfl⟩
  · exact onF ⟨rfl, _, rfl, by rw [show decide (((p.2.1 : Nat) : Int) ≤ ((100 : Nat) : Int)) = false from h0]; rfl⟩

set_option maxHeartbeats 1000000 in
theorem is_spec (S : Store) (p q : Hd) (xs ys : List It) (hl : xs.length = p.2.1) (hr : RowRd S p.1 shT xs) (hm : ys.length = q.2.1) (hr' : RowRd S q.1 shT ys) (hn : xs.length ≤ 1000) :
    Pure Try.prog 12 S [.agg #[slV p], slV q] rB (fun _ b => b = decide (xs = ys)) := by
  refine pure_vc agrees Try.func12 rfl rfl (fun S S' q hle h => h) ?_
  refine ⟨⟨_, rfl, rfl, rfl⟩, .inl ⟨_, _, _, items_spec S p xs hl hr (by omega), fun S1 u hS1 hu => ?_⟩⟩
  have hu : u.2.1 = xs.length ∧ RowRd S1 u.1 shT xs := hu
  have nope : xs.length ≠ ys.length → false = decide (xs = ys) := fun h => (decide_eq_false fun e => h (by rw [e])).symm
  refine And.intro (fun h0 => ?_) (fun h0 => ?_)
  · have h0 : (((u.2.1 : Nat) : Int) != ((q.2.1 : Nat) : Int)) = true := h0
    rw [bne_iff_ne] at h0
    exact onT ⟨rfl, _, rfl, nope (by omega)⟩
  have h0 : (((u.2.1 : Nat) : Int) != ((q.2.1 : Nat) : Int)) = false := h0
  rw [bne_eq_false_iff_eq] at h0
  refine ⟨⟨_, rfl, rfl, rfl⟩, .inl ⟨_, _, _, len_spec S1 p, fun S2 n hS2 hn2 => ?_⟩⟩
  have hn2 : n = ((p.2.1 : Nat) : Int) := hn2
  refine And.intro (fun h1 => ?_) (fun h1 => ?_)
  · have h1 : (n != ((q.2.1 : Nat) : Int)) = true := h1
    rw [bne_iff_ne] at h1
    exact ⟨rfl, _, rfl, nope (by omega)⟩
  have hlen : xs.length = ys.length := by omega
  refine ⟨[], [], Nat, [6] ++ List.range' 24 60, fun i => [(23, rI i)], fun _ => [.box [.v (slV p)]], fun _ => S2, fun i => i ≤ ys.length ∧ xs.take i = ys.take i, fun i => ys.length - i, ?_⟩
  refine And.intro (Exists.intro 0 (And.intro (And.intro (And.intro ?_ rfl) (And.intro rfl (Store.le_refl _))) ⟨Nat.zero_le _, by simp⟩)) ?_
  · repeat' first | exact trivial | exact rfl | refine And.intro ?_ ?_
  rintro i ⟨hi, hdone⟩
  have i0 : (0 : Int) ≤ ((i : Nat) : Int) := Int.natCast_nonneg _
  refine And.intro (fun h => ?_) (fun h => ?_)
  · have hil : i < ys.length := by
      have : ((i : Nat) : Int) < ((q.2.1 : Nat) : Int) := of_decide_eq_true h
      omega
    have i1 : ((i : Nat) : Int) < ((q.2.1 : Nat) : Int) := by omega
    have i2 : ((i : Nat) : Int) < ((u.2.1 : Nat) : Int) := by omega
    have hwi : IntKind.i64.wrap (((i : Nat) : Int) + 1) = ((i + 1 : Nat) : Int) := wrap_i64 (by omega) (by omega)
    have hx : ys[i]? = some ys[i] := List.getElem?_eq_getElem hil
    obtain ⟨y, hyy⟩ : ∃ y, ys[i] = y := ⟨_, rfl⟩
    rw [hyy] at hx
    have hx2 : xs[i]? = some xs[i] := List.getElem?_eq_getElem (by omega)
    obtain ⟨x, hxx⟩ : ∃ x, xs[i]'(by omega) = x := ⟨_, rfl⟩
    rw [hxx] at hx2
    obtain ⟨b1, o, hp, hok, hrd⟩ := row_at (hr'.le (Store.le_trans hS1 hS2)) hx
    obtain ⟨b2, o2, hp2, hok2, hrd2⟩ := row_at (hu.2.le hS2) hx2
    refine ⟨or12_7, [], oF12_7, by kernel_rfl, ?_⟩
    refine ⟨i0, i2, b2, o2, hp2, x, ⟨trivial, trivial, trivial⟩, hrd2, i0, i1, b1, o, hp, y, ⟨trivial, trivial, trivial⟩, hrd, ?_⟩
    have hcmp : (x.1 == y.1 && (x.2.1 == y.2.1 && (x.2.2 == y.2.2 && true))) = decide (x = y) := by
      obtain ⟨a, b, c⟩ := x
      obtain ⟨a', b', c'⟩ := y
      rw [Bool.eq_iff_iff]
      simp
    refine And.intro (fun h5 => ?_) (fun h5 => ?_)
    · have h5 : (!(x.1 == y.1 && (x.2.1 == y.2.1 && (x.2.2 == y.2.2 && true)))) = true := h5
      rw [hcmp] at h5
      have h5 : x ≠ y := by simpa using h5
      refine ⟨rfl, _, rfl, (decide_eq_false fun e => h5 ?_).symm⟩
      rw [e] at hx2
      rw [hx2] at hx
      exact Option.some.inj hx
    have h5 : (!(x.1 == y.1 && (x.2.1 == y.2.1 && (x.2.2 == y.2.2 && true)))) = false := h5
    rw [hcmp] at h5
    have h5 : x = y := by simpa using h5
    refine ⟨((i + 1 : Nat) : Int), hwi, i + 1, ⟨⟨?_, rfl⟩, rfl, Store.le_refl _⟩, ⟨hil, ?_⟩, ?_⟩
    · repeat' first | exact trivial | exact rfl | refine And.intro ?_ ?_
    · rw [List.take_add_one, List.take_add_one, hx, hx2, hdone, h5]
    · show ys.length - (i + 1) < ys.length - i
      omega
  · have hil : i = ys.length := by
      have : ¬ ((i : Nat) : Int) < ((q.2.1 : Nat) : Int) := of_decide_eq_false h
      omega
    rw [hil, List.take_length, List.take_of_length_le (by omega)] at hdone
    exact ⟨rfl, _, rfl, (decide_eq_true hdone).symm⟩

def bagOf (xs : List It) : List It := xs.foldl retired []
def codesOf : List It → List Int := fun xs => (xs.foldl (fun (z : List It × List Int) x => (retired z.1 x, z.2 ++ [wrong z.1 x])) ([], [])).2
theorem bagOf_step {xs : List It} {i : Nat} {x : It} (h : xs[i]? = some x) : bagOf (xs.take (i + 1)) = retired (bagOf (xs.take i)) x := by
  unfold bagOf
  rw [List.take_add_one, h, List.foldl_append]
  rfl
theorem codesOf_fst (xs : List It) : ∀ (l : List It) (c : List Int), (xs.foldl (fun (z : List It × List Int) x => (retired z.1 x, z.2 ++ [wrong z.1 x])) (l, c)).1 = xs.foldl retired l := by
  induction xs with
  | nil => intro l c; rfl
  | cons x xs ih => intro l c; exact ih _ _
theorem codesOf_step {xs : List It} {i : Nat} {x : It} (h : xs[i]? = some x) : codesOf (xs.take (i + 1)) = codesOf (xs.take i) ++ [wrong (bagOf (xs.take i)) x] := by
  unfold codesOf bagOf
  rw [List.take_add_one, h, List.foldl_append, ← codesOf_fst _ [] []]
  rfl
theorem codesOf_length : ∀ (xs : List It), (codesOf xs).length = xs.length := by
  have key : ∀ (xs : List It) (z : List It × List Int), (xs.foldl (fun (z : List It × List Int) x => (retired z.1 x, z.2 ++ [wrong z.1 x])) z).2.length = z.2.length + xs.length := by
    intro xs
    induction xs with
    | nil => intro z; rfl
    | cons x xs ih => intro z; rw [List.foldl_cons, ih]; simp; omega
  intro xs
  rw [codesOf, key]
  simp
theorem retired_length (l : List It) (x : It) : (retired l x).length ≤ l.length + 1 := by unfold retired; split <;> simp
theorem bagOf_length (xs : List It) : (bagOf xs).length ≤ xs.length := by
  have key : ∀ (xs l : List It), (xs.foldl retired l).length ≤ l.length + xs.length := by
    intro xs
    induction xs with
    | nil => intro l; simp
    | cons x xs ih =>
      intro l
      have h1 := ih (retired l x)
      have h2 := retired_length l x
      simp only [List.foldl_cons, List.length_cons]
      omega
  simpa [bagOf] using key xs []

set_option maxHeartbeats 1000000 in
theorem bag_spec (S : Store) (p : Hd) (xs : List It) (hl : xs.length = p.2.1) (hr : RowRd S p.1 shT xs) (hn : xs.length ≤ 1000) :
    Pure Try.prog 13 S [slV p] (A := Hd × Hd × Hd) (fun z => .tup [(true, [.v (slV z.1)]), (false, [.v (slV z.2.1)]), (false, [.v (slV z.2.2)])]) (fun S' z => (z.1.2.1 = (bagOf xs).length ∧ RowRd S' z.1.1 shT (bagOf xs)) ∧ z.2.1.2.1 = (bagOf xs).length ∧ RowRd S' z.2.1.1 shT (bagOf xs)) := by
  refine pure_vc agrees Try.func13 rfl rfl (fun S S' q hle h => ⟨⟨h.1.1, h.1.2.le hle⟩, h.2.1, h.2.2.le hle⟩) ?_
  refine ⟨[], [(6, shT, 34), (7, shI, 30)], Nat × Hd × Store, [8, 9, 10, 11] ++ List.range' 15 60, fun z => [(14, rI z.1)], fun z => [.box [.v (.slice none 0 0)], .box [.v (slV z.2.1)], .row shT 34 (bagOf (xs.take z.1)), .row shI 30 (codesOf (xs.take z.1))], fun z => z.2.2, fun z => z.1 ≤ xs.length ∧ S.le z.2.2 ∧ z.2.1.2.1 = (bagOf (xs.take z.1)).length ∧ RowRd z.2.2 z.2.1.1 shT (bagOf (xs.take z.1)), fun z => xs.length - z.1, ?_⟩
  refine And.intro (Exists.intro (0, (none, 0, 0), S) (And.intro (And.intro (And.intro ?_ rfl) (And.intro rfl (Store.le_refl _))) ⟨Nat.zero_le _, Store.le_refl _, rfl, .inl rfl, by simp [bagOf]⟩)) ?_
  · repeat' first | exact trivial | exact rfl | refine And.intro ?_ ?_
  rintro ⟨i, q, T⟩ ⟨hi, hT, hql, hqr⟩
  simp only at hi hT hql hqr
  have i0 : (0 : Int) ≤ ((i : Nat) : Int) := Int.natCast_nonneg _
  refine And.intro (fun h => ?_) (fun h => ?_)
  · have hil : i < xs.length := by
      have : ((i : Nat) : Int) < ((p.2.1 : Nat) : Int) := of_decide_eq_true h
      omega
    have i1 : ((i : Nat) : Int) < ((p.2.1 : Nat) : Int) := by omega
    have hwi : IntKind.i64.wrap (((i : Nat) : Int) + 1) = ((i + 1 : Nat) : Int) := wrap_i64 (by omega) (by omega)
    have hx : xs[i]? = some xs[i] := List.getElem?_eq_getElem hil
    obtain ⟨x, hxx⟩ : ∃ x, xs[i] = x := ⟨_, rfl⟩
    rw [hxx] at hx
    obtain ⟨b1, o, hp, hok, hrd⟩ := row_at (hr.le hT) hx
    have hbl := bagOf_length (xs.take i)
    rw [List.length_take] at hbl
    have hbl' : (bagOf (xs.take i)).length ≤ 1000 := by omega
    have hst := bagOf_step hx
    have hcl : (codesOf (xs.take i)).length ≤ 1000 := by rw [codesOf_length, List.length_take]; omega
    refine ⟨i0, i1, b1, o, hp, x, ⟨trivial, trivial, trivial⟩, hrd, ⟨_, rfl, rfl, rfl⟩, .inl ⟨_, _, _, retire_spec T q (bagOf (xs.take i)) x hql.symm hqr (by omega), fun S1 z hS1 hz => ?_⟩⟩
    obtain ⟨z, e⟩ := z
    have hz : (z.2.1 = (retired (bagOf (xs.take i)) x).length ∧ RowRd S1 z.1 shT (retired (bagOf (xs.take i)) x)) ∧ e = wrong (bagOf (xs.take i)) x := hz
    refine ⟨⟨_, rfl, rfl, rfl⟩, .inr (.inr (.inl fun p' c' S2 hS2 hr2 _ => ⟨_, _, _, ref_wrong_spec S2 (p', _, c') _ x rfl hr2 hbl', fun S3 w hS3 hw => ?_⟩))⟩
    have hw : w = wrong (bagOf (xs.take i)) x := hw
    refine And.intro (fun h0 => ?_) (fun h0 => ?_)
    · have h0 : (w == 0) = true := h0
      have hw0 : wrong (bagOf (xs.take i)) x = 0 := by rw [← hw]; simpa using h0
      have hb1 : bagOf (xs.take (i + 1)) = bagOf (xs.take i) ++ [x] := by rw [bagOf_step hx, retired, if_pos hw0]
      refine ⟨[x], ⟨rfl, rfl⟩, fun _ _ => ⟨trivial, trivial, trivial⟩, by show ((bagOf (xs.take i)).length + 1) * 24 ≤ 140737488355328; omega, ?_⟩
      refine ⟨or13_10, [1, 3, 6, 7], oF13_10, by kernel_rfl, ?_⟩
      repeat' first | exact trivial | refine And.intro ?_ ?_
      all_goals
        refine ⟨[e], ⟨rfl, rfl⟩, fun _ _ => trivial, by show ((codesOf (xs.take i)).length + 1) * 8 ≤ 140737488355328; omega, ?_⟩
        refine ⟨((i + 1 : Nat) : Int), hwi, (i + 1, z, S1), ⟨⟨?_, rfl⟩, ?_, Store.le_refl _⟩, ⟨hil, ?_, ?_, ?_⟩, ?_⟩
        · repeat' first | exact trivial | exact rfl | refine And.intro ?_ ?_
        · show [_, _, _, _] = [_, _, _, _]
          simp only
          rw [hb1, codesOf_step hx, hz.2]
        · exact Store.le_trans hT hS1
        · rw [hst]; exact hz.1.1
        · rw [hst]; exact hz.1.2
        · show xs.length - (i + 1) < xs.length - i
          omega
    · have h0 : (w == 0) = false := h0
      have hw0 : ¬ wrong (bagOf (xs.take i)) x = 0 := by rw [← hw]; simpa using h0
      have hb1 : bagOf (xs.take (i + 1)) = bagOf (xs.take i) := by rw [bagOf_step hx, retired, if_neg hw0]
      refine ⟨or13_10, [1, 3, 6, 7], oF13_10, by kernel_rfl, ?_⟩
      repeat' first | exact trivial | refine And.intro ?_ ?_
      all_goals
        refine ⟨[e], ⟨rfl, rfl⟩, fun _ _ => trivial, by show ((codesOf (xs.take i)).length + 1) * 8 ≤ 140737488355328; omega, ?_⟩
        refine ⟨((i + 1 : Nat) : Int), hwi, (i + 1, z, S1), ⟨⟨?_, rfl⟩, ?_, Store.le_refl _⟩, ⟨hil, ?_, ?_, ?_⟩, ?_⟩
        · repeat' first | exact trivial | exact rfl | refine And.intro ?_ ?_
        · show [_, _, _, _] = [_, _, _, _]
          simp only
          rw [hb1, codesOf_step hx, hz.2]
        · exact Store.le_trans hT hS1
        · rw [hst]; exact hz.1.1
        · rw [hst]; exact hz.1.2
        · show xs.length - (i + 1) < xs.length - i
          omega
  · have hil : i = xs.length := by
      have : ¬ ((i : Nat) : Int) < ((p.2.1 : Nat) : Int) := of_decide_eq_false h
      omega
    have ht : xs.take i = xs := by rw [hil, List.take_length]
    exact fun p1 c1 S1 h1 r1 _ p2 c2 S2 h2 r2 _ => ⟨rfl, (q, (p1, _, c1), (p2, _, c2)), rfl, ⟨by rw [hql, ht], ht ▸ hqr.le (Store.le_trans h1 h2)⟩, by rw [ht], ht ▸ r1.le h2⟩
end Go.Proofs.Ytdkdepibclhkmaa
