/- law07: the law of Split. -/
import Derived.Test.YtlecojgodkidkaaDoorFl
namespace Go.Proofs.YtlecojgodkidkaaDoor
open Go Go.Vc
set_option maxRecDepth 100000

/-- Where the outer loop stands: before part i. -/
def Before (l : List Pk) (xss : List (List Pk)) (i atp : Nat) : Prop :=
  (i = xss.length ∧ atp = l.length ∧ 0 < i) ∨ (i = 0 ∧ atp = 0 ∧ splitS l = xss) ∨ (0 < i ∧ i < xss.length ∧ ∃ c s, l.drop atp = c :: s ∧ c.1 = 2 ∧ splitS s = xss.drop i)
set_option maxHeartbeats 2000000 in
theorem law_splits (S : Store) (hL : Lw S) (q : Hd) (l : List Pk) (hl : l.length = q.2.1) (hr : RowRd S q.1 shP l) :
    Pure Tryd.prog 4 S [slV q] rB (fun _ k => k = true) := by
  obtain ⟨p, n, c⟩ := q
  simp only at hl hr
  subst hl
  refine pure_vc agrees Tryd.func4 rfl rfl (fun S S' q hle h => h) ?_
  by_cases hbig : l.length > 300
  · refine onE (decide_eq_true (by show ((l.length : Nat) : Int) > 300; omega)) ⟨⟨_, rfl, rfl, rfl⟩, .inl ⟨_, _, _, awake_spec S hL, fun S1 b hS1 hb => ?_⟩⟩
    exact ⟨rfl, _, rfl, hb⟩
  refine offE (decide_eq_false (by show ¬ ((l.length : Nat) : Int) > 300; omega)) ⟨⟨_, rfl, rfl, rfl⟩, .inl ⟨_, _, _, split_sched_spec S (p, l.length, c) l rfl hr (by omega), fun S1 q hS1 hq => ?_⟩⟩
  obtain ⟨ph, nh, ch⟩ := q
  obtain ⟨hs, hh, hrh, hrows⟩ := hq
  simp only at hh hrh
  have hlen : hs.length = (splitS l).length := hrows.length
  have hr1 := hr.le hS1
  have hsl := splitS_len l
  obtain ⟨xss, hxss⟩ : ∃ xss, xss = splitS l := ⟨_, rfl⟩
  rw [← hxss] at hlen hrows hsl
  have hne : 0 < xss.length := by
    rw [hxss]
    exact List.length_pos_iff.2 (splitS_ne l)
  subst hh
  refine ⟨[], [], Nat × Nat, [5, 6, 7, 8] ++ List.range' 18 47, fun a => [(4, rI a.2), (17, rI a.1)], fun _ => [], fun _ => S1, fun a => a.1 ≤ hs.length ∧ a.2 ≤ l.length ∧ Before l xss a.1 a.2, fun a => hs.length - a.1, ?_⟩
  refine And.intro (Exists.intro (0, 0) (And.intro (And.intro (And.intro ?_ rfl) (And.intro rfl (Store.le_refl _))) ⟨Nat.zero_le _, Nat.zero_le _, .inr (.inl ⟨rfl, rfl, hxss.symm⟩)⟩)) ?_
  · repeat' first | exact trivial | exact rfl | refine And.intro ?_ ?_
  rintro ⟨i, atp⟩ ⟨hi, hat, hbef⟩
  simp only at hi hat hbef
  have i0 : (0 : Int) ≤ ((i : Nat) : Int) := Int.natCast_nonneg _
  refine And.intro (fun h => ?_) (fun h => ?_)
  · have hil : i < hs.length := by
      have : ((i : Nat) : Int) < ((hs.length : Nat) : Int) := of_decide_eq_true h
      omega
    obtain ⟨gp, gc, hg, hgr⟩ := hrows.at (i := i) (by omega)
    obtain ⟨w, hw⟩ : ∃ w, w = xss[i]'(by omega) := ⟨_, rfl⟩
    rw [← hw] at hg hgr
    obtain ⟨b, o, hp, hok, hrd⟩ := row_at hrh hg
    have hdr : xss.drop i = w :: xss.drop (i + 1) := by rw [List.drop_eq_getElem_cons (by omega), hw]
    have hwl : w.length ≤ l.length := splitS_mem (l := l) (by rw [← hxss, hw]; exact List.getElem_mem _)
    have hmu : hs.length - (i + 1) < hs.length - i := by omega
    refine ⟨i0, by show ((i : Nat) : Int) < (hs.length : Int); omega, b, o, hp, (gp, w.length, gc), hok, hrd, ?_⟩
    by_cases hz : i = 0
    · subst hz
      have hin : splitS (l.drop atp) = w :: xss.drop (0 + 1) := by
        rcases hbef with ⟨_, _, h2⟩ | ⟨_, h, h2⟩ | ⟨h, _⟩
        · omega
        · rw [h, List.drop_zero, h2, ← hdr]; rfl
        · omega
      refine offE (decide_eq_false (by show ¬ ((0 : Nat) : Int) > 0; omega)) ?_
      refine ⟨[], [], Nat, [8] ++ List.range' 41 23, fun j => [(4, rI ((atp + j : Nat) : Int)), (40, rI j)], fun _ => [], fun _ => S1, fun j => j ≤ w.length ∧ atp + j ≤ l.length ∧ splitS (l.drop (atp + j)) = w.drop j :: xss.drop (0 + 1), fun j => w.length - j, ?_⟩
      refine And.intro (Exists.intro 0 (And.intro (And.intro (And.intro ?_ rfl) (And.intro rfl (Store.le_refl _))) ⟨Nat.zero_le _, hat, hin⟩)) ?_
      · repeat' first | exact trivial | exact rfl | refine And.intro ?_ ?_
      rintro j ⟨hj, hjl, hspl⟩
      refine And.intro (fun hc => ?_) (fun hc => ?_)
      · have hjl2 : j < w.length := by
          have : ((j : Nat) : Int) < ((w.length : Nat) : Int) := of_decide_eq_true hc
          omega
        obtain ⟨y, hy⟩ : ∃ y, w[j]? = some y := ⟨_, List.getElem?_eq_getElem hjl2⟩
        have hwd : w.drop j = y :: w.drop (j + 1) := by
          rw [List.drop_eq_getElem_cons hjl2]
          congr 1
          rw [List.getElem?_eq_getElem hjl2] at hy
          exact Option.some.inj hy
        rw [hwd] at hspl
        obtain ⟨s', hs1, hy2, hs2⟩ := splitS_cons hspl
        have hatl : atp + j < l.length := by
          rcases Nat.lt_or_ge (atp + j) l.length with h | h
          · exact h
          · rw [List.drop_eq_nil_of_le h] at hs1; cases hs1
        rw [List.drop_eq_getElem_cons hatl] at hs1
        have hx : l[atp + j]? = some y := by
          rw [List.getElem?_eq_getElem hatl]
          exact congrArg some (List.cons.inj hs1).1
        have hnext : splitS (l.drop (atp + (j + 1))) = w.drop (j + 1) :: xss.drop (0 + 1) := by
          rw [show atp + (j + 1) = atp + j + 1 by omega, (List.cons.inj hs1).2]; exact hs2
        obtain ⟨b3, o3, hp3, hok3, hrd3⟩ := row_at hgr hy
        obtain ⟨b4, o4, hp4, hok4, hrd4⟩ := row_at hr1 hx
        refine ⟨by omega, by show ((j : Nat) : Int) < (w.length : Int); omega, b3, o3, hp3, y, hok3, hrd3, ?_⟩
        refine ⟨or4_15, [], oF4_15, by kernel_rfl, ?_⟩
        refine offE (beq_eq_false_iff_ne.2 hy2) ?_
        refine offE (decide_eq_false (by show ¬ ((atp + j : Nat) : Int) ≥ (l.length : Int); omega)) ⟨by omega, by show ((atp + j : Nat) : Int) < (l.length : Int); omega, b4, o4, hp4, y, hok4, hrd4, ?_⟩
        refine offE (by
          have := pk_eq y y
          rw [decide_eq_true rfl] at this
          exact congrArg (!·) this) ⟨((atp + (j + 1) : Nat) : Int), wrap_i64 (by omega) (by omega), ((j + 1 : Nat) : Int), wrap_i64 (by omega) (by omega), j + 1, ⟨⟨?_, rfl⟩, rfl, Store.le_refl _⟩, ⟨hjl2, hatl, hnext⟩, by show w.length - (j + 1) < w.length - j; omega⟩
        repeat' first | exact trivial | exact rfl | refine And.intro ?_ ?_
      · have hje : j = w.length := by
          have : ¬ ((j : Nat) : Int) < ((w.length : Nat) : Int) := of_decide_eq_false hc
          omega
        subst hje
        rw [List.drop_length] at hspl
        refine ⟨((0 + 1 : Nat) : Int), wrap_i64 (by omega) (by omega), (0 + 1, atp + w.length), ⟨⟨?_, rfl⟩, rfl, Store.le_refl _⟩, ⟨hil, hjl, ?_⟩, hmu⟩
        · repeat' first | exact trivial | exact rfl | refine And.intro ?_ ?_
        · rcases splitS_end hspl with ⟨e1, e2⟩ | ⟨cc, ss, e1, e2, e3⟩
          · refine .inl ⟨?_, ?_, Nat.succ_pos _⟩
            · have := congrArg List.length e2
              rw [List.length_drop, List.length_nil] at this
              show 0 + 1 = xss.length
              omega
            · have := congrArg List.length e1
              rw [List.length_drop, List.length_nil] at this
              show atp + w.length = l.length
              omega
          · refine .inr (.inr ⟨Nat.succ_pos _, ?_, cc, ss, e1, e2, e3⟩)
            show 0 + 1 < xss.length
            rcases Nat.lt_or_ge (0 + 1) xss.length with h | h
            · exact h
            · rw [List.drop_eq_nil_of_le h] at e3
              exact absurd e3 (splitS_ne _)
    · obtain ⟨c0, s0, hds, hc0, hin0⟩ : ∃ c s, l.drop atp = c :: s ∧ c.1 = 2 ∧ splitS s = xss.drop i := by
        rcases hbef with ⟨h, _, _⟩ | ⟨h, _⟩ | ⟨_, _, h⟩
        · omega
        · omega
        · exact h
      have hatl : atp < l.length := by
        rcases Nat.lt_or_ge atp l.length with h | h
        · exact h
        · rw [List.drop_eq_nil_of_le h] at hds; cases hds
      have hx : l[atp]? = some c0 := by
        rw [List.drop_eq_getElem_cons hatl] at hds
        rw [List.getElem?_eq_getElem hatl]
        exact congrArg some (List.cons.inj hds).1
      have hin : splitS (l.drop (atp + 1)) = w :: xss.drop (i + 1) := by
        rw [List.drop_eq_getElem_cons hatl] at hds
        rw [(List.cons.inj hds).2, hin0, hdr]
      have hat' : atp + 1 ≤ l.length := hatl
      obtain ⟨b2, o2, hp2, hok2, hrd2⟩ := row_at hr1 hx
      refine onE (decide_eq_true (by show ((i : Nat) : Int) > 0; omega)) ?_
      refine offE (decide_eq_false (by show ¬ ((atp : Nat) : Int) ≥ (l.length : Int); omega)) ⟨by omega, by show ((atp : Nat) : Int) < (l.length : Int); omega, b2, o2, hp2, c0.1, trivial, rd_field (f := 0) hrd2 rfl, ?_⟩
      refine offE (by rw [hc0]; rfl) ⟨((atp + 1 : Nat) : Int), wrap_i64 (by omega) (by omega), ?_⟩
      refine ⟨[], [], Nat, [8] ++ List.range' 41 23, fun j => [(4, rI (((atp + 1) + j : Nat) : Int)), (40, rI j)], fun _ => [], fun _ => S1, fun j => j ≤ w.length ∧ (atp + 1) + j ≤ l.length ∧ splitS (l.drop ((atp + 1) + j)) = w.drop j :: xss.drop (i + 1), fun j => w.length - j, ?_⟩
      refine And.intro (Exists.intro 0 (And.intro (And.intro (And.intro ?_ rfl) (And.intro rfl (Store.le_refl _))) ⟨Nat.zero_le _, hat', hin⟩)) ?_
      · repeat' first | exact trivial | exact rfl | refine And.intro ?_ ?_
      rintro j ⟨hj, hjl, hspl⟩
      refine And.intro (fun hc => ?_) (fun hc => ?_)
      · have hjl2 : j < w.length := by
          have : ((j : Nat) : Int) < ((w.length : Nat) : Int) := of_decide_eq_true hc
          omega
        obtain ⟨y, hy⟩ : ∃ y, w[j]? = some y := ⟨_, List.getElem?_eq_getElem hjl2⟩
        have hwd : w.drop j = y :: w.drop (j + 1) := by
          rw [List.drop_eq_getElem_cons hjl2]
          congr 1
          rw [List.getElem?_eq_getElem hjl2] at hy
          exact Option.some.inj hy
        rw [hwd] at hspl
        obtain ⟨s', hs1, hy2, hs2⟩ := splitS_cons hspl
        have hatl : (atp + 1) + j < l.length := by
          rcases Nat.lt_or_ge ((atp + 1) + j) l.length with h | h
          · exact h
          · rw [List.drop_eq_nil_of_le h] at hs1; cases hs1
        rw [List.drop_eq_getElem_cons hatl] at hs1
        have hx : l[(atp + 1) + j]? = some y := by
          rw [List.getElem?_eq_getElem hatl]
          exact congrArg some (List.cons.inj hs1).1
        have hnext : splitS (l.drop ((atp + 1) + (j + 1))) = w.drop (j + 1) :: xss.drop (i + 1) := by
          rw [show (atp + 1) + (j + 1) = (atp + 1) + j + 1 by omega, (List.cons.inj hs1).2]; exact hs2
        obtain ⟨b3, o3, hp3, hok3, hrd3⟩ := row_at hgr hy
        obtain ⟨b4, o4, hp4, hok4, hrd4⟩ := row_at hr1 hx
        refine ⟨by omega, by show ((j : Nat) : Int) < (w.length : Int); omega, b3, o3, hp3, y, hok3, hrd3, ?_⟩
        refine ⟨or4_15, [], oF4_15, by kernel_rfl, ?_⟩
        refine offE (beq_eq_false_iff_ne.2 hy2) ?_
        refine offE (decide_eq_false (by show ¬ (((atp + 1) + j : Nat) : Int) ≥ (l.length : Int); omega)) ⟨by omega, by show (((atp + 1) + j : Nat) : Int) < (l.length : Int); omega, b4, o4, hp4, y, hok4, hrd4, ?_⟩
        refine offE (by
          have := pk_eq y y
          rw [decide_eq_true rfl] at this
          exact congrArg (!·) this) ⟨(((atp + 1) + (j + 1) : Nat) : Int), wrap_i64 (by omega) (by omega), ((j + 1 : Nat) : Int), wrap_i64 (by omega) (by omega), j + 1, ⟨⟨?_, rfl⟩, rfl, Store.le_refl _⟩, ⟨hjl2, hatl, hnext⟩, by show w.length - (j + 1) < w.length - j; omega⟩
        repeat' first | exact trivial | exact rfl | refine And.intro ?_ ?_
      · have hje : j = w.length := by
          have : ¬ ((j : Nat) : Int) < ((w.length : Nat) : Int) := of_decide_eq_false hc
          omega
        subst hje
        rw [List.drop_length] at hspl
        refine ⟨((i + 1 : Nat) : Int), wrap_i64 (by omega) (by omega), (i + 1, (atp + 1) + w.length), ⟨⟨?_, rfl⟩, rfl, Store.le_refl _⟩, ⟨hil, hjl, ?_⟩, hmu⟩
        · repeat' first | exact trivial | exact rfl | refine And.intro ?_ ?_
        · rcases splitS_end hspl with ⟨e1, e2⟩ | ⟨cc, ss, e1, e2, e3⟩
          · refine .inl ⟨?_, ?_, Nat.succ_pos _⟩
            · have := congrArg List.length e2
              rw [List.length_drop, List.length_nil] at this
              show i + 1 = xss.length
              omega
            · have := congrArg List.length e1
              rw [List.length_drop, List.length_nil] at this
              show (atp + 1) + w.length = l.length
              omega
          · refine .inr (.inr ⟨Nat.succ_pos _, ?_, cc, ss, e1, e2, e3⟩)
            show i + 1 < xss.length
            rcases Nat.lt_or_ge (i + 1) xss.length with h | h
            · exact h
            · rw [List.drop_eq_nil_of_le h] at e3
              exact absurd e3 (splitS_ne _)
  · have hil : i = hs.length := by
      have : ¬ ((i : Nat) : Int) < ((hs.length : Nat) : Int) := of_decide_eq_false h
      omega
    subst hil
    have hfin : atp = l.length := by
      rcases hbef with ⟨_, h, _⟩ | ⟨h, _⟩ | ⟨_, h, _⟩
      · exact h
      · omega
      · omega
    refine onE (decide_eq_true (by show ((hs.length : Nat) : Int) > 0; omega)) ?_
    refine onE (by rw [hfin]; show ((l.length : Int) == (l.length : Int)) = true; simp) ⟨⟨_, rfl, rfl, rfl⟩, .inl ⟨_, _, _, awake_spec S1 (hL.le hS1), fun S2 b hS2 hb => ?_⟩⟩
    exact ⟨rfl, _, rfl, hb⟩
end Go.Proofs.YtlecojgodkidkaaDoor
