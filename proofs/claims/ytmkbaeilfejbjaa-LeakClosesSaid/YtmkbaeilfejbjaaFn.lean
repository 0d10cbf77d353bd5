/- law16: the law Closes says true. -/
import Derived.Test.YtmkbaeilfejbjaaFm
namespace Go.Proofs.Ytmkbaeilfejbjaa
open Go Go.Vc
set_option maxRecDepth 100000

theorem reach_again {roots : List Int} {next : List (List Int)} {a : List Int} (h : IsReach roots next a) : IsReach a next a := by
  refine ⟨h.1, fun x => ⟨fun hx => .root x hx ((h.2 x).1 hx).node, fun hx => ?_⟩⟩
  induction hx with
  | root x h1 _ => exact h1
  | step x y l _ h2 h3 h4 ih => exact (h.2 y).2 (.step x y l ((h.2 x).1 ih) h2 h3 h4)

theorem reach_from {roots : List Int} {next : List (List Int)} {a : List Int} (h : IsReach roots next a) {x : Int} (hx : x ∈ a) : x ∈ roots ∨ ∃ y ∈ a, ∃ l, next[y.toNat]? = some l ∧ x ∈ l := by
  cases (h.2 x).1 hx with
  | root _ h1 _ => exact .inl h1
  | step y _ l h1 h2 h3 _ => exact .inr ⟨y, (h.2 y).2 h1, l, h2, h3⟩

/-- Named by a root or by one of the first k nodes. -/
def fromK (roots : List Int) (next : List (List Int)) (a : List Int) (x : Int) (k : Nat) : Prop := x ∈ roots ∨ ∃ y ∈ a.take k, ∃ l, next[y.toNat]? = some l ∧ x ∈ l
theorem fromK_zero {roots : List Int} {next : List (List Int)} {a : List Int} {x : Int} : fromK roots next a x 0 ↔ x ∈ roots := by simp [fromK]
theorem fromK_succ {roots : List Int} {next : List (List Int)} {a : List Int} {x y : Int} {k : Nat} {l : List Int} (hy : a[k]? = some y) (hl : next[y.toNat]? = some l) : fromK roots next a x (k + 1) ↔ fromK roots next a x k ∨ x ∈ l := by
  unfold fromK
  rw [List.take_add_one, hy]
  constructor
  · rintro (h | ⟨z, hz, l', hl', hx⟩)
    · exact .inl (.inl h)
    · rcases List.mem_append.1 hz with hz | hz
      · exact .inl (.inr ⟨z, hz, l', hl', hx⟩)
      · have : z = y := by simpa using hz
        subst this
        rw [hl] at hl'
        cases hl'
        exact .inr hx
  · rintro ((h | ⟨z, hz, l', hl', hx⟩) | h)
    · exact .inl h
    · exact .inr ⟨z, List.mem_append_left _ hz, l', hl', hx⟩
    · exact .inr ⟨y, List.mem_append_right _ (by simp), l, hl, h⟩
theorem fromK_all {roots : List Int} {next : List (List Int)} {a : List Int} (h : IsReach roots next a) {x : Int} (hx : x ∈ a) : fromK roots next a x a.length := by
  unfold fromK
  rw [List.take_length]
  exact reach_from h hx

set_option maxHeartbeats 1000000 in
theorem law_close (S : Store) (p p2 q : Hd) (roots more : List Int) (hs : List Hd) (next : List (List Int)) (hl : roots.length = p.2.1) (hr : RowRd S p.1 shI roots) (hl2 : more.length = p2.2.1) (hr2 : RowRd S p2.1 shI more) (hm : hs.length = q.2.1) (hr' : RowRd S q.1 .slice hs) (hrs : RowsRd S shI hs next) :
    Pure Try.prog 4 S [slV p, slV p2, slV q] rB (fun _ x => x = true) := by
  have hsn := hrs.length
  refine pure_vc agrees Try.func4 rfl rfl (fun S S' q hle h => h) ?_
  refine ⟨⟨_, rfl, rfl, rfl⟩, .inl ⟨_, _, _, great_spec S p q roots hs next hl hm hr' hrs, fun S1 x hS1 hx => ?_⟩⟩
  refine And.intro (fun h0 => ?_) (fun h0 => ?_)
  · subst h0
    exact onT ⟨⟨_, rfl, rfl, rfl⟩, .inl ⟨_, _, _, awake_spec S1, fun S1 x hS1 hx => ⟨rfl, x, rfl, hx⟩⟩⟩
  subst h0
  obtain ⟨g1, g2, g3⟩ := hx rfl
  have g4 : ∀ l ∈ next, l.length ≤ 1000000 := fun l hl => Nat.le_trans (g3 l hl) (by omega)
  refine And.intro (fun h1 => ?_) (fun h1 => ?_)
  · exact ⟨⟨_, rfl, rfl, rfl⟩, .inl ⟨_, _, _, awake_spec S1, fun S1 x hS1 hx => ⟨rfl, x, rfl, hx⟩⟩⟩
  have h1' : ¬ ((p2.2.1 : Nat) : Int) > 24 := of_decide_eq_false h1
  have g5 : more.length ≤ 24 := by omega
  refine ⟨⟨_, rfl, rfl, rfl⟩, .inl ⟨_, _, _, reach_spec S1 p q roots hs next hl (hr.le hS1) hm (hr'.le hS1) (hrs.le hS1) (by omega) (by omega) g4, fun S2 u hS2 hu => ?_⟩⟩
  have hu : u.1.2.1 = u.2.length ∧ RowRd S2 u.1.1 shI u.2 ∧ IsReach roots next u.2 := hu
  have h12 := Store.le_trans hS1 hS2
  refine ⟨roots, src_of hl.symm (hr.le h12), fun _ _ => trivial, by show ([].length + roots.length) * 8 ≤ 140737488355328; rw [List.length_nil]; omega, ?_⟩
  refine ⟨more, src_of hl2.symm (hr2.le h12), fun _ _ => trivial, by show (([] ++ roots).length + more.length) * 8 ≤ 140737488355328; rw [List.nil_append]; omega, ?_⟩
  refine ⟨⟨_, rfl, rfl, rfl⟩, .inl fun p4 c4 S4 hS4 hr4 f4 => ⟨_, _, _, reach_spec S4 (p4, _, c4) q _ hs next rfl hr4 hm (hr'.le (Store.le_trans h12 hS4)) (hrs.le (Store.le_trans h12 hS4)) (show (roots ++ more).length ≤ 1000000 by rw [List.length_append]; omega) (by omega) g4, fun S5 w hS5 hw => ?_⟩⟩
  have hw : w.1.2.1 = w.2.length ∧ RowRd S5 w.1.1 shI w.2 ∧ IsReach (roots ++ more) next w.2 := hw
  have h25 := Store.le_trans hS4 hS5
  have h15 := Store.le_trans h12 h25
  have hul := reach_length hu.2.2
  have hwl := reach_length hw.2.2
  have hur := hu.2.1.le h25
  refine ⟨⟨_, rfl, rfl, rfl⟩, .inl ⟨_, _, _, reach_spec S5 u.1 q u.2 hs next hu.1.symm hur hm (hr'.le h15) (hrs.le h15) (by omega) (by omega) g4, fun S6 v hS6 hv => ?_⟩⟩
  have hv : v.1.2.1 = v.2.length ∧ RowRd S6 v.1.1 shI v.2 ∧ IsReach u.2 next v.2 := hv
  have e : v.2 = u.2 := isReach_unique hv.2.2 (reach_again hu.2.2)
  refine ⟨⟨_, rfl, rfl, rfl⟩, .inl ⟨_, _, _, same_spec S6 v.1 u.1 v.2 u.2 hv.1.symm hv.2.1 hu.1.symm (hur.le hS6) (by rw [e]; omega), fun S7 x hS7 hx => ?_⟩⟩
  have hx : x = true := by rw [show x = decide _ from hx]; exact decide_eq_true e
  subst hx
  refine onF ?_
  have h57 := Store.le_trans hS6 hS7
  refine ⟨⟨_, rfl, rfl, rfl⟩, .inl ⟨_, _, _, wild_spec S7 w.1 u.1 w.2 u.2 hw.1.symm (hw.2.1.le h57) hu.1.symm (hur.le h57) (by omega) (by omega), fun S8 z hS8 hz => ?_⟩⟩
  rw [less_none fun x hx => (hw.2.2.2 x).2 (rch_join.2 (.inl ((hu.2.2.2 x).1 hx)))] at hz
  have e9 : z.2.1 = 0 := hz.1
  refine And.intro (fun h => absurd h (by rw [show ((z.2.1 : Nat) : Int) = 0 by rw [e9]; rfl]; decide)) (fun _ => ?_)
  have hur8 : RowRd S8 u.1.1 shI u.2 := hur.le (Store.le_trans h57 hS8)
  have h18 := Store.le_trans h15 (Store.le_trans h57 hS8)
  have hr8 := hr.le h18
  have hr8' := hr'.le h18
  have hrs8 := hrs.le h18
  obtain ⟨⟨⟨ap, an, ac⟩, a⟩, hau⟩ : ∃ y, y = u := ⟨u, rfl⟩
  subst hau
  simp only at hu hur8 hul
  obtain ⟨han, -, hA⟩ := hu
  subst han
  have hnode : ∀ x ∈ a, isNode next x := fun x hx => ((hA.2 x).1 hx).node
  refine ⟨[], [], Nat, List.range' 10 140, fun x => [(9, rI x)], fun _ => [], fun _ => S8, fun i => i ≤ a.length, fun i => a.length - i, ?_⟩
  refine And.intro (Exists.intro 0 (And.intro (And.intro (And.intro ?_ rfl) (And.intro rfl (Store.le_refl _))) (Nat.zero_le _))) ?_
  · repeat' first | exact trivial | exact rfl | refine And.intro ?_ ?_
  intro i hi
  have i0 : (0 : Int) ≤ ((i : Nat) : Int) := Int.natCast_nonneg _
  refine And.intro (fun h => ?_) (fun h => ?_)
  · have hil : i < a.length := by
      have : ((i : Nat) : Int) < ((a.length : Nat) : Int) := of_decide_eq_true h
      omega
    have i1 : ((i : Nat) : Int) < ((a.length : Nat) : Int) := by omega
    have hx : a[i]? = some a[i] := List.getElem?_eq_getElem hil
    have hxm : a[i] ∈ a := List.getElem_mem hil
    have hlt : ∀ j (hj : j < i), a[j] < a[i] := fun j hj => List.pairwise_iff_getElem.1 hA.1 j i (by omega) hil hj
    obtain ⟨x, hxx⟩ : ∃ x, a[i] = x := ⟨_, rfl⟩
    rw [hxx] at hx hxm
    obtain ⟨b1, o1, hp1, hk1, hd1⟩ := row_at hur8 hx
    obtain ⟨hx0, hx1⟩ := hnode x hxm
    refine ⟨i0, i1, b1, o1, hp1, x, hk1, hd1, ?_⟩
    refine And.intro (fun h => absurd (of_decide_eq_true h) (by omega)) (fun _ => ?_)
    refine And.intro (fun h => absurd (of_decide_eq_true h) (by omega)) (fun _ => ?_)
    have hwi : IntKind.i64.wrap (((i : Nat) : Int) + 1) = ((i + 1 : Nat) : Int) := wrap_i64 (by omega) (by omega)
    refine And.intro (fun h2 => ?ga) (fun h2 => onF ?gb)
    case' ga =>
      have h2' : 0 < i := by
        have : ((i : Nat) : Int) > 0 := of_decide_eq_true h2
        omega
      have hy : a[i - 1]? = some a[i - 1] := List.getElem?_eq_getElem (by omega)
      have hyx : a[i - 1] < x := hxx ▸ hlt (i - 1) (by omega)
      obtain ⟨y, hyy⟩ : ∃ y, a[i - 1] = y := ⟨_, rfl⟩
      rw [hyy] at hy hyx
      obtain ⟨b2, o2, hp2, hk2, hd2⟩ := row_at hur8 hy
      have j0 : (0 : Int) ≤ ((i - 1 : Nat) : Int) := Int.natCast_nonneg _
      refine ⟨((i - 1 : Nat) : Int), by rw [wrap_i64 (by omega) (by omega)]; omega, j0, by show ((i - 1 : Nat) : Int) < ((a.length : Nat) : Int); omega, b2, o2, hp2, y, hk2, hd2, ?_⟩
      refine And.intro (fun h => absurd (of_decide_eq_true h) (by omega)) (fun _ => ?_)
    all_goals
      refine ⟨⟨_, rfl, rfl, rfl⟩, .inl ⟨_, _, _, in_spec S8 p roots x hl hr8 (by omega), fun S9 y hS9 hy => ?_⟩⟩
      have hy : y = decide (x ∈ roots) := hy
      refine ⟨[], [], Nat × Bool, List.range' 13 140, fun z => [(12, rI z.1), (11, rB z.2)], fun _ => [], fun _ => S8, fun z => z.1 ≤ a.length ∧ (z.2 = true ↔ fromK roots next a x z.1), fun z => a.length - z.1, ?_⟩
      refine And.intro (Exists.intro (0, y) (And.intro (And.intro (And.intro ?_ rfl) (And.intro rfl hS9)) ⟨Nat.zero_le _, by rw [hy, fromK_zero]; exact decide_eq_true_iff⟩)) ?_
      · repeat' first | exact trivial | exact rfl | refine And.intro ?_ ?_
      rintro ⟨k, fr⟩ ⟨hk, hfr⟩
      simp only at hk hfr
      have k0 : (0 : Int) ≤ ((k : Nat) : Int) := Int.natCast_nonneg _
      refine And.intro (fun h => ?_) (fun h => ?_)
      · have hkl : k < a.length := by
          have : ((k : Nat) : Int) < ((a.length : Nat) : Int) := of_decide_eq_true h
          omega
        have k1 : ((k : Nat) : Int) < ((a.length : Nat) : Int) := by omega
        have hwk : IntKind.i64.wrap (((k : Nat) : Int) + 1) = ((k + 1 : Nat) : Int) := wrap_i64 (by omega) (by omega)
        have hu : a[k]? = some a[k] := List.getElem?_eq_getElem hkl
        have hum : a[k] ∈ a := List.getElem_mem hkl
        obtain ⟨u, huu⟩ : ∃ u, a[k] = u := ⟨_, rfl⟩
        rw [huu] at hu hum
        obtain ⟨hu0, hu1⟩ := hnode u hum
        have hul2 : u.toNat < next.length := by omega
        obtain ⟨d1, d3, hhd, hdr⟩ := hrs8.at hul2
        have hlx : next[u.toNat]? = some next[u.toNat] := List.getElem?_eq_getElem hul2
        have hlm : next[u.toNat] ∈ next := List.getElem_mem hul2
        obtain ⟨l, hll⟩ : ∃ l, next[u.toNat] = l := ⟨_, rfl⟩
        rw [hll] at hhd hdr hlx hlm
        have hl2' := g4 l hlm
        obtain ⟨b3, o3, hp3, hk3, hd3⟩ := row_at hur8 hu
        obtain ⟨b4, o4, hp4, hk4, hd4⟩ := row_at hr8' hhd
        refine And.intro (fun hf => ?_) (fun hf => ?_)
        · refine ⟨((k + 1 : Nat) : Int), hwk, (k + 1, true), ⟨⟨?_, rfl⟩, rfl, Store.le_refl _⟩, ⟨hkl, ?_⟩, ?_⟩
          · repeat' first | exact trivial | exact rfl | refine And.intro ?_ ?_
          · show true = true ↔ _
            rw [fromK_succ hu hlx]
            exact ⟨fun _ => .inl (hfr.1 hf), fun _ => rfl⟩
          · show a.length - (k + 1) < a.length - k
            omega
        · refine ⟨k0, k1, b3, o3, hp3, u, hk3, hd3, hu0, by show u < ((q.2.1 : Nat) : Int); omega, b4, o4, hp4, (d1, l.length, d3), hk4, hd4, ⟨_, rfl, rfl, rfl⟩, .inl ⟨_, _, _, in_spec S8 (d1, l.length, d3) l x rfl hdr (by omega), fun S10 y2 hS10 hy2 => ?_⟩⟩
          have hy2 : y2 = decide (x ∈ l) := hy2
          refine ⟨((k + 1 : Nat) : Int), hwk, (k + 1, y2), ⟨⟨?_, rfl⟩, rfl, hS10⟩, ⟨hkl, ?_⟩, ?_⟩
          · repeat' first | exact trivial | exact rfl | refine And.intro ?_ ?_
          · show y2 = true ↔ _
            rw [fromK_succ hu hlx, hy2, decide_eq_true_iff]
            exact ⟨.inr, fun h => h.resolve_left fun h => by rw [hfr.2 h] at hf; cases hf⟩
          · show a.length - (k + 1) < a.length - k
            omega
      · have hkl : k = a.length := by
          have : ¬ ((k : Nat) : Int) < ((a.length : Nat) : Int) := of_decide_eq_false h
          omega
        rw [hkl] at hfr
        have hft : fr = true := hfr.2 (fromK_all hA hxm)
        subst hft
        refine onF ⟨((i + 1 : Nat) : Int), hwi, i + 1, ⟨⟨?_, rfl⟩, rfl, Store.le_refl _⟩, hil, ?_⟩
        · repeat' first | exact trivial | exact rfl | refine And.intro ?_ ?_
        · show a.length - (i + 1) < a.length - i
          omega
  refine ⟨[], [], Nat, List.range' 14 140, fun x => [(13, rI x)], fun _ => [], fun _ => S8, fun i => i ≤ roots.length, fun i => roots.length - i, ?_⟩
  refine And.intro (Exists.intro 0 (And.intro (And.intro (And.intro ?_ rfl) (And.intro rfl (Store.le_refl _))) (Nat.zero_le _))) ?_
  · repeat' first | exact trivial | exact rfl | refine And.intro ?_ ?_
  intro j hj
  have j0 : (0 : Int) ≤ ((j : Nat) : Int) := Int.natCast_nonneg _
  refine And.intro (fun h => ?_) (fun h => ?_)
  · have hjl : j < roots.length := by
      have : ((j : Nat) : Int) < ((p.2.1 : Nat) : Int) := of_decide_eq_true h
      omega
    have j1 : ((j : Nat) : Int) < ((p.2.1 : Nat) : Int) := by omega
    have hwj : IntKind.i64.wrap (((j : Nat) : Int) + 1) = ((j + 1 : Nat) : Int) := wrap_i64 (by omega) (by omega)
    have hx : roots[j]? = some roots[j] := List.getElem?_eq_getElem hjl
    have hxm : roots[j] ∈ roots := List.getElem_mem hjl
    obtain ⟨x, hxx⟩ : ∃ x, roots[j] = x := ⟨_, rfl⟩
    rw [hxx] at hx hxm
    obtain ⟨b1, o1, hp1, hk1, hd1⟩ := row_at hr8 hx
    refine ⟨j0, j1, b1, o1, hp1, x, hk1, hd1, ?_⟩
    refine And.intro (fun h0 => ?_) (fun h0 => ?_)
    · have h0' : x ≥ 0 := of_decide_eq_true h0
      refine ⟨j0, j1, b1, o1, hp1, x, hk1, hd1, ?_⟩
      refine And.intro (fun h1 => ?_) (fun h1 => ?_)
      · have h1' : x < ((q.2.1 : Nat) : Int) := of_decide_eq_true h1
        refine ⟨j0, j1, b1, o1, hp1, x, hk1, hd1, ⟨_, rfl, rfl, rfl⟩, .inl ⟨_, _, _, in_spec S8 (ap, a.length, ac) a x rfl hur8 (by omega), fun S10 y2 hS10 hy2 => ?_⟩⟩
        have hy2 : y2 = true := by
          rw [show y2 = decide (x ∈ a) from hy2]
          exact decide_eq_true ((hA.2 x).2 (.root x hxm ⟨h0', by omega⟩))
        subst hy2
        refine onF ⟨((j + 1 : Nat) : Int), hwj, j + 1, ⟨⟨?_, rfl⟩, rfl, hS10⟩, hjl, ?_⟩
        · repeat' first | exact trivial | exact rfl | refine And.intro ?_ ?_
        · show roots.length - (j + 1) < roots.length - j
          omega
      · refine onF ⟨((j + 1 : Nat) : Int), hwj, j + 1, ⟨⟨?_, rfl⟩, rfl, Store.le_refl _⟩, hjl, ?_⟩
        · repeat' first | exact trivial | exact rfl | refine And.intro ?_ ?_
        · show roots.length - (j + 1) < roots.length - j
          omega
    · refine onF (onF ⟨((j + 1 : Nat) : Int), hwj, j + 1, ⟨⟨?_, rfl⟩, rfl, Store.le_refl _⟩, hjl, ?_⟩)
      · repeat' first | exact trivial | exact rfl | refine And.intro ?_ ?_
      · show roots.length - (j + 1) < roots.length - j
        omega
  · exact ⟨⟨_, rfl, rfl, rfl⟩, .inl ⟨_, _, _, awake_spec S8, fun S1 x hS1 hx => ⟨rfl, x, rfl, hx⟩⟩⟩
end Go.Proofs.Ytmkbaeilfejbjaa
