/- law09: law Named. -/
import Derived.Test.YtapblcfbmaikjaaGreatDoorGf
namespace Go.Proofs.YtapblcfbmaikjaaGreatDoor
open Go Go.Vc Go.Sort Go.RowKit Go.Maps
set_option maxRecDepth 100000
set_option maxHeartbeats 8000000

theorem same_true (S : Store) (p q : Hd) (xs : List Li.Bs) (hp : SsIs S p xs) (hq : SsIs S q xs) (hn : xs.length ≤ 1000000000000) : Pure Tryz.prog 15 S [slV p, slV q] (A := Unit) (fun _ => rB true) (fun _ _ => True) := by
  have := same_spec S p q xs xs hp hq hn
  rw [decide_eq_true rfl] at this; exact this
theorem find_iff (s : Li.Bs) : ∀ l : List (Li.Bs × List (List Li.Act)), (findN s l).isSome = decide (s ∈ l.map (·.1))
  | [] => rfl
  | t :: l => by
    unfold findN
    by_cases h : t.1 = s
    · rw [if_pos h, decide_eq_true]
      · rfl
      · rw [List.map_cons, h]; exact List.mem_cons_self ..
    · rw [if_neg h, find_iff s l]
      apply decide_eq_decide.2
      rw [List.map_cons, List.mem_cons]
      constructor
      · exact .inr
      · rintro (q | q)
        · exact absurd q.symm h
        · exact q
theorem law_named (S : Store) (hLt : Lt S) (s : Li.Bs) : Pure Tryz.prog 4 S [.string (bs s)] (A := Unit) (fun _ => rB true) (fun _ _ => True) := by
  refine pure_vc agrees Tryz.func4 rfl rfl (fun S S' q hle h => h) ?_
  refine ⟨⟨_, rfl, rfl, rfl⟩, .inl ⟨_, _, _, awake_spec S hLt, fun S1 _ hS1 _ => onF ?_⟩⟩
  by_cases h100 : ((bs s).size : Int) > 100
  · refine onE (decide_eq_true h100) (onT ⟨rfl, (), ?_, trivial⟩)
    show rB true = rB (decide (((bs s).size : Int) > 100))
    rw [decide_eq_true h100]
  refine offE (decide_eq_false h100) ?_
  refine ⟨⟨_, rfl, rfl, rfl⟩, .inl ⟨_, _, _, names_spec S1, fun S2 p hS2 hp => ?_⟩⟩
  refine ⟨⟨_, rfl, rfl, rfl⟩, .inl ⟨_, _, _, rnames_spec S2, fun S3 q hS3 hq => ?_⟩⟩
  obtain ⟨p1, p2, p3⟩ := p
  obtain ⟨q1, q2, q3⟩ := q
  refine ⟨⟨_, rfl, rfl, rfl⟩, .inl ⟨_, _, _, same_true S3 _ _ _ (hp.le hS3) hq (by decide), fun S4 _ hS4 _ => onF ?_⟩⟩
  refine ⟨⟨_, rfl, rfl, rfl⟩, .inl ⟨_, _, _, named_spec S4 s, fun S5 x hS5 hx => ?_⟩⟩
  refine ⟨⟨_, rfl, rfl, rfl⟩, .inl ⟨_, _, _, rnamed_spec S5 s, fun S6 y hS6 hy => ?_⟩⟩
  refine ⟨⟨_, rfl, rfl, rfl⟩, .inl ⟨_, _, _, rnames_spec S6, fun S7 z hS7 hz => ?_⟩⟩
  obtain ⟨z1, z2, z3⟩ := z
  refine ⟨⟨_, rfl, rfl, rfl⟩, .inl ⟨_, _, _, in_spec S7 _ _ s hz (by decide), fun S8 _ hS8 _ => ?_⟩⟩
  have hx8 := hx.le (Store.le_trans hS6 (Store.le_trans hS7 hS8))
  have hy8 := hy.le (Store.le_trans hS7 hS8)
  have hfew : (namedT s).1.length ≤ 1000 ∧ (namedT s).2.length ≤ 1000 := by
    unfold namedT
    split
    · rename_i T hT
      have : ∀ l : List (Li.Bs × List (List Li.Act)), findN s l = some T → ∃ t ∈ l, t.2 = T := fun l => by
        induction l with
        | nil => intro h; cases h
        | cons t l ih =>
          intro h
          unfold findN at h
          split at h
          · exact ⟨t, List.mem_cons_self .., Option.some.inj h⟩
          · obtain ⟨t', ht, e⟩ := ih h
            exact ⟨t', List.mem_cons_of_mem _ ht, e⟩
      obtain ⟨t, ht, rfl⟩ := this _ hT
      refine ⟨by show Li.two.length ≤ 1000; decide, ?_⟩
      simp only [tableL, List.mem_cons, List.not_mem_nil, or_false] at ht
      rcases ht with rfl | rfl | rfl | rfl | rfl | rfl | rfl | rfl | rfl | rfl <;> decide
    · exact ⟨by decide, by decide⟩
  have h8 : ∀ l ∈ (namedT s).2, l.length ≤ 1000 := by
    unfold namedT
    split
    · rename_i T hT
      have : ∀ l : List (Li.Bs × List (List Li.Act)), findN s l = some T → ∃ t ∈ l, t.2 = T := fun l => by
        induction l with
        | nil => intro h; cases h
        | cons t l ih =>
          intro h
          unfold findN at h
          split at h
          · exact ⟨t, List.mem_cons_self .., Option.some.inj h⟩
          · obtain ⟨t', ht, e⟩ := ih h
            exact ⟨t', List.mem_cons_of_mem _ ht, e⟩
      obtain ⟨t, ht, rfl⟩ := this _ hT
      have : ∀ t ∈ tableL, ∀ l ∈ t.2, l.length ≤ 1000 := by decide
      exact this t ht
    · exact fun l hl => by cases hl
  obtain ⟨first, hfirst⟩ : ∃ f, f = (namedT s).1 := ⟨_, rfl⟩
  obtain ⟨T, hT⟩ : ∃ T, T = (namedT s).2 := ⟨_, rfl⟩
  rw [← hfirst, ← hT] at hx8 hy8
  rw [← hfirst, ← hT] at hfew
  rw [← hT] at h8
  obtain ⟨xf, xt⟩ := hx8
  obtain ⟨yf, yt⟩ := hy8
  obtain ⟨wx1, wx2, wx3, wx4⟩ := ws_row xf
  obtain ⟨wy1, wy2, wy3, wy4⟩ := ws_row yf
  have tx1 := xt.len
  have ty1 := yt.len
  obtain ⟨⟨xa, xn, xc⟩, ⟨xb, xm, xd⟩⟩ := x
  obtain ⟨⟨ya, yn, yc⟩, ⟨yb, ym, yd⟩⟩ := y
  have wx1 : xn = first.length := wx1
  have wy1 : yn = first.length := wy1
  have tx1 : xm = T.length := tx1
  have ty1 : ym = T.length := ty1
  subst wx1 wy1 tx1 ty1
  refine offE (by rw [find_iff]; simp) ?_
  refine offE (bne_eq_false_iff_eq.2 rfl) ?_
  refine offE (bne_eq_false_iff_eq.2 rfl) ?_
  refine ⟨[], [], Nat, List.range' 53 18, fun i => [(6, rI i)], fun _ => [.box [.v (.slice xa first.length xc), .v (.slice xb T.length xd)], .box [.v (.slice ya first.length yc), .v (.slice yb T.length yd)]], fun _ => S8, fun i => i ≤ first.length, fun i => first.length - i, ?_⟩
  refine And.intro (Exists.intro 0 (And.intro (And.intro (And.intro ?_ rfl) (And.intro rfl (Store.le_refl _))) (Nat.zero_le _))) ?_
  · repeat' first | exact trivial | exact rfl | refine And.intro ?_ ?_
  intro i hi
  have hi : i ≤ first.length := hi
  refine And.intro (fun h1 => ?_) (fun h1 => ?_)
  · have h1 : (i : Int) < ((first.length : Nat) : Int) := of_decide_eq_true h1
    obtain ⟨w, hw⟩ : ∃ w, first[i]? = some w := ⟨_, List.getElem?_eq_getElem (by omega)⟩
    obtain ⟨b1, o1, e1, ok1, hr1⟩ := row_at wx3 hw
    obtain ⟨b2, o2, e2, ok2, hr2⟩ := row_at wy3 hw
    obtain ⟨w1, w2, w3⟩ := w
    refine ⟨or4_12, [], oF4_12, by kernel_rfl, ?_⟩
    refine ⟨Int.natCast_nonneg _, h1, b1, o1, e1, ((w1, w2, w3) : Li.Wd), ok1, hr1, Int.natCast_nonneg _, h1, b2, o2, e2, ((w1, w2, w3) : Li.Wd), ok2, hr2, ?_⟩
    refine offE (by simp) ?_
    refine ⟨((i + 1 : Nat) : Int), wrap_i64 (by omega) (by omega), i + 1, ⟨⟨?_, rfl⟩, rfl, Store.le_refl _⟩, by show i + 1 ≤ _; omega, by show first.length - (i + 1) < first.length - i; omega⟩
    repeat' first | exact trivial | exact rfl | refine And.intro ?_ ?_
  refine ⟨[], [], Nat, [8] ++ List.range' 71 47, fun i => [(7, rI i)], fun _ => [.box [.v (.slice xa first.length xc), .v (.slice xb T.length xd)], .box [.v (.slice ya first.length yc), .v (.slice yb T.length yd)]], fun _ => S8, fun i => i ≤ T.length, fun i => T.length - i, ?_⟩
  refine And.intro (Exists.intro 0 (And.intro (And.intro (And.intro ?_ rfl) (And.intro rfl (Store.le_refl _))) (Nat.zero_le _))) ?_
  · repeat' first | exact trivial | exact rfl | refine And.intro ?_ ?_
  intro k hk
  have hk : k ≤ T.length := hk
  refine And.intro (fun h2 => ?_) (fun h2 => ⟨rfl, (), rfl, trivial⟩)
  have h2 : (k : Int) < ((T.length : Nat) : Int) := of_decide_eq_true h2
  obtain ⟨qx, l1, b1, o1, hl1, ha1, e1, ok1, hr1⟩ := xt.at (i := k) (by omega)
  obtain ⟨qy, l2, b2, o2, hl2, ha2, e2, ok2, hr2⟩ := yt.at (i := k) (by omega)
  have hl : l1 = l2 := Option.some.inj (hl1.symm.trans hl2)
  subst hl
  have hlb := h8 l1 (List.mem_of_getElem? hl1)
  obtain ⟨ax1, ax2, ax3, ax4⟩ := acts_row ha1
  obtain ⟨ay1, ay2, ay3, ay4⟩ := acts_row ha2
  obtain ⟨qxp, qxn, qxc⟩ := qx
  obtain ⟨qyp, qyn, qyc⟩ := qy
  have ax1 : qxn = l1.length := ax1
  have ay1 : qyn = l1.length := ay1
  subst ax1 ay1
  refine ⟨or4_17, [], oF4_17, by kernel_rfl, ?_⟩
  refine ⟨Int.natCast_nonneg _, h2, b1, o1, e1, ((qxp, l1.length, qxc) : Hd), ok1, hr1, Int.natCast_nonneg _, h2, b2, o2, e2, ((qyp, l1.length, qyc) : Hd), ok2, hr2, ?_⟩
  refine offE (bne_eq_false_iff_eq.2 rfl) ?_
  refine ⟨[], [], Nat, List.range' 91 27, fun i => [(8, rI i)], fun _ => [.box [.v (.slice xa first.length xc), .v (.slice xb T.length xd)], .box [.v (.slice ya first.length yc), .v (.slice yb T.length yd)]], fun _ => S8, fun i => i ≤ l1.length, fun i => l1.length - i, ?_⟩
  refine And.intro (Exists.intro 0 (And.intro (And.intro (And.intro ?_ rfl) (And.intro rfl (Store.le_refl _))) (Nat.zero_le _))) ?_
  · repeat' first | exact trivial | exact rfl | refine And.intro ?_ ?_
  intro j hj
  have hj : j ≤ l1.length := hj
  refine ⟨Int.natCast_nonneg _, h2, b2, o2, e2, ((qyp, l1.length, qyc) : Hd), ok2, hr2, ?_⟩
  refine And.intro (fun h3 => ?_) (fun h3 => ?_)
  · have h3 : (j : Int) < ((l1.length : Nat) : Int) := of_decide_eq_true h3
    obtain ⟨a, ha⟩ : ∃ a, l1[j]? = some a := ⟨_, List.getElem?_eq_getElem (by omega)⟩
    obtain ⟨b3, o3, e3, ok3, hr3⟩ := row_at ax3 (i := j) (x := axOf a) (by rw [List.getElem?_map, ha]; rfl)
    obtain ⟨b4, o4, e4, ok4, hr4⟩ := row_at ay3 (i := j) (x := axOf a) (by rw [List.getElem?_map, ha]; rfl)
    obtain ⟨ao, al, ⟨a1, a2, a3⟩, a4, a5, a6⟩ := a
    refine ⟨or4_22, [], oF4_22, by kernel_rfl, ?_⟩
    refine ⟨Int.natCast_nonneg _, h2, b1, o1, e1, ((qxp, l1.length, qxc) : Hd), ok1, hr1, Int.natCast_nonneg _, h3, b3, o3, e3, ((ao, al, (a1, a2, a3), a4, a5, a6) : Ax), ok3, hr3, Int.natCast_nonneg _, h2, b2, o2, e2, ((qyp, l1.length, qyc) : Hd), ok2, hr2, Int.natCast_nonneg _, h3, b4, o4, e4, ((ao, al, (a1, a2, a3), a4, a5, a6) : Ax), ok4, hr4, ?_⟩
    refine offE (by simp) ?_
    refine ⟨((j + 1 : Nat) : Int), wrap_i64 (by omega) (by omega), j + 1, ⟨⟨?_, rfl⟩, rfl, Store.le_refl _⟩, by show j + 1 ≤ _; omega, by show l1.length - (j + 1) < l1.length - j; omega⟩
    repeat' first | exact trivial | exact rfl | refine And.intro ?_ ?_
  · refine ⟨((k + 1 : Nat) : Int), wrap_i64 (by omega) (by omega), k + 1, ⟨⟨?_, rfl⟩, rfl, Store.le_refl _⟩, by show k + 1 ≤ _; omega, by show T.length - (k + 1) < T.length - k; omega⟩
    repeat' first | exact trivial | exact rfl | refine And.intro ?_ ?_
end Go.Proofs.YtapblcfbmaikjaaGreatDoor
