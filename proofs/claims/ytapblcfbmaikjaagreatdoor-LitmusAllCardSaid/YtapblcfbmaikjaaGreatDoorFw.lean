/- law09: a run of a test: end, pick, begin, choices. a run of a test: begin, choices, text. a run of a test: the text of its outcome. -/
import Derived.Test.YtapblcfbmaikjaaGreatDoorFv
import Derived.Lib.Join
namespace Go.Proofs.YtapblcfbmaikjaaGreatDoor
open Go Go.Vc Go.Sort Go.RowKit Go.Maps
set_option maxRecDepth 100000
set_option maxHeartbeats 8000000

def endI (e : List Bool) (t : Int) : List Bool := if 1 ≤ t then e.set (t - 1).toNat true else e
theorem endI_len (e : List Bool) (t : Int) : (endI e t).length = e.length := by unfold endI; split <;> simp
theorem RunIs.withEnds {S : Store} {x T r b} (h : RunIs S x T r b) (q : Hd) (e : List Bool) (he : BsIs S q e) : RunIs S (x.1, x.2.1, x.2.2.1, q, x.2.2.2.2) T { r with ends := e } b := by
  obtain ⟨h1, ⟨d, h2, h3, h4⟩, h5, h6, h7, h8, h9, h10, h11⟩ := h
  exact ⟨h1, ⟨d, h2, h3, h4⟩, h5, h6, he, h8, h9, h10, h11⟩
theorem end_spec (S : Store) (x : Rx) (T : List (List Li.Act)) (r : Li.Rn) (b : Nat) (hx : RunIs S x T r b) (hel : r.ends.length = T.length) (hT1 : 0 < T.length) (hT4 : T.length ≤ 8) (t : Int) (ht : inI64 t) (q : Hd) (hq : q.2.1 = 1) (hr : RowRd S q.1 shI [t]) :
    Pure Tryz.prog 57 S [vR x, slV q] (A := Rx) rR (fun S' y => RunIs S' y T { r with ends := endI r.ends t } b) := by
  obtain ⟨e1, e2, e3⟩ := hx.ends
  have hx0 := hx
  obtain ⟨⟨⟨z1, z2, z3⟩, ⟨tq, tn, tc⟩⟩, ⟨⟨⟨p, np, c1⟩, ⟨p2, n2, c2⟩⟩, ⟨⟨⟨fp, fn, fc⟩, ⟨p3, n3, c3⟩, b3⟩, ⟨⟨sp, sn, sc⟩, ei⟩⟩⟩, ⟨dp, dn, dc⟩, ⟨ep, en, ec⟩, ⟨op, on', oc⟩⟩ := x
  have e1 : en = r.ends.length := e1
  subst e1
  obtain ⟨qp, qn, qc⟩ := q
  have hq : qn = 1 := hq
  subst hq
  refine pure_vc agrees Tryz.func57 rfl rfl (fun S S' q hle h => h.le hle) ?_
  refine ⟨⟨_, rfl, rfl, rfl⟩, .inr (.inr (.inr (.inr (.inl ⟨_, _, _, _, eclone_spec S (ep, r.ends.length, ec) r.ends rfl (by omega) e3 (by omega), fun S1 _ hS1 _ => ?_⟩))))⟩
  refine ⟨[], [], Nat × List Bool, [6] ++ List.range' 14 20, fun z => [(13, rI z.1)], fun z => [.box [.v (.slice z1 z2 z3), .v (.slice tq tn tc), .v (.slice p np c1), .v (.slice p2 n2 c2), .v (.slice fp fn fc), .v (.slice p3 n3 c3), .v (.map b3), .v (.slice sp sn sc), .v (.int .i64 ei), .v (.slice dp dn dc), .ref 2, .v (.slice op on' oc)],
      .box [.v (.slice none 0 0), .v (.slice none 0 0), .v (.slice none 0 0), .v (.slice none 0 0), .v (.slice none 0 0), .v (.slice none 0 0), .v (.map none), .v (.slice none 0 0), .v (.int .i64 0), .v (.slice none 0 0), .v (.slice none 0 0), .v (.slice none 0 0)], .row shB 4 z.2], fun _ => S1,
    fun z => (z.1 = 0 ∧ z.2 = r.ends) ∨ (z.1 = 1 ∧ z.2 = endI r.ends t), fun z => 1 - z.1, ?_⟩
  refine And.intro (Exists.intro (0, r.ends) (And.intro (And.intro (And.intro ?_ rfl) (And.intro rfl (Store.le_refl _))) (.inl ⟨rfl, rfl⟩))) ?_
  · repeat' first | exact trivial | exact rfl | refine And.intro ?_ ?_
  rintro ⟨i, e⟩ hi
  simp only at hi
  rcases hi with ⟨rfl, rfl⟩ | ⟨rfl, rfl⟩
  · refine onE (decide_eq_true (show ((0 : Nat) : Int) < ((1 : Nat) : Int) by decide)) ?_
    obtain ⟨b1, o1, hp, hok2, hrd⟩ := row_at (hr.le hS1) (i := 0) (x := t) rfl
    refine ⟨Int.le_refl _, (show ((0 : Nat) : Int) < ((1 : Nat) : Int) by decide), b1, o1, hp, t, hok2, hrd, ?_⟩
    have skip : endI r.ends t = r.ends → ∀ w : Nat × List Bool, w = (1, r.ends) → (w.1 = 0 ∧ w.2 = r.ends) ∨ (w.1 = 1 ∧ w.2 = endI r.ends t) := fun h w hw => by subst hw; exact .inr ⟨rfl, h.symm⟩
    by_cases h1 : t ≥ 1
    · refine onE (decide_eq_true h1) ?_
      by_cases h2 : t ≤ ((r.ends.length : Nat) : Int)
      · refine onE (decide_eq_true h2) ?_
        have wt : IntKind.i64.wrap (t - 1) = t - 1 := wrap_i64 (by omega) (by have := ht.2; omega)
        refine ⟨t - 1, wt, by omega, by show t - 1 < ((r.ends.length : Nat) : Int); omega, ?_⟩
        refine ⟨_, true, List.getElem?_eq_getElem (show (t - 1).toNat < r.ends.length by omega), trivial, rfl, by show 0 + 1 ≤ 1; decide, ?_⟩
        refine ⟨((1 : Nat) : Int), rfl, (1, r.ends.set (t - 1).toNat true), ⟨⟨?_, rfl⟩, rfl, Store.le_refl _⟩, .inr ⟨rfl, by show _ = endI r.ends t; unfold endI; rw [if_pos h1]⟩, Nat.lt_succ_self 0⟩
        repeat' first | exact trivial | exact rfl | refine And.intro ?_ ?_
      · refine offE (decide_eq_false h2) ?_
        refine ⟨((1 : Nat) : Int), rfl, (1, r.ends), ⟨⟨?_, rfl⟩, rfl, Store.le_refl _⟩, skip (by unfold endI; rw [if_pos h1, List.set_eq_of_length_le (by omega)]) _ rfl, Nat.lt_succ_self 0⟩
        repeat' first | exact trivial | exact rfl | refine And.intro ?_ ?_
    · refine offE (decide_eq_false h1) ?_
      refine onF ⟨((1 : Nat) : Int), rfl, (1, r.ends), ⟨⟨?_, rfl⟩, rfl, Store.le_refl _⟩, skip (by unfold endI; rw [if_neg h1]) _ rfl, Nat.lt_succ_self 0⟩
      repeat' first | exact trivial | exact rfl | refine And.intro ?_ ?_
  · refine offE (decide_eq_false (show ¬ ((1 : Nat) : Int) < ((1 : Nat) : Int) by decide)) ?_
    intro p5 c5 S5 hS5 hr5 hpf5
    refine ⟨rfl, (((z1, z2, z3), (tq, tn, tc)), (((p, np, c1), (p2, n2, c2)), (((fp, fn, fc), (p3, n3, c3), b3), ((sp, sn, sc), ei))), (dp, dn, dc), (p5, (endI r.ends t).length, c5), (op, on', oc)), rfl, ?_⟩
    exact (hx0.le (Store.le_trans hS1 hS5)).withEnds (p5, (endI r.ends t).length, c5) (endI r.ends t) ⟨rfl, pform_le hpf5.1, hr5⟩
abbrev Px := Int × Int × Int
@[reducible] def vP (x : Px) : Value := .agg #[.int .i64 x.1, .int .i64 x.2.1, .int .i64 x.2.2]
theorem stop_end (r : Li.Rn) (t : Int) : (if 1 ≤ t then Li.stopR r (t - 1).toNat else r) = { r with ends := endI r.ends t } := by
  unfold endI Li.stopR
  split <;> rfl
/-- The first i threads stopped. -/
def stopped (e : List Bool) (i : Nat) : List Bool := (e.take i).map (fun _ => true) ++ e.drop i
theorem stopped_succ {e : List Bool} {i : Nat} (h : i < e.length) : endI (stopped e i) ((i : Int) + 1) = stopped e (i + 1) := by
  unfold endI
  rw [if_pos (by omega), show ((i : Int) + 1 - 1).toNat = i by omega]
  unfold stopped
  have h1 : ((e.take i).map fun _ => true).length = i := by rw [List.length_map, List.length_take]; omega
  rw [List.set_append_right _ _ (by omega), h1, Nat.sub_self, List.drop_eq_getElem_cons h]
  rw [List.set_cons_zero, List.take_add_one, List.getElem?_eq_getElem h, List.map_append]
  simp
theorem stopped_len (e : List Bool) (i : Nat) : (stopped e i).length = e.length := by
  unfold stopped; rw [List.length_append, List.length_map, List.length_take, List.length_drop]; omega
theorem stopped_all (e : List Bool) : stopped e e.length = e.map fun _ => true := by unfold stopped; simp
theorem pick_spec (S : Store) (hLt : Lt S) (x : Rx) (T : List (List Li.Act)) (r : Li.Rn) (b n : Nat) (hx : RunIs S x T r b) (ho : Li.okR n T r) (hoT : Li.okT n T) (hn0 : 0 < n) (hn : n ≤ 8) (hT1 : 0 < T.length) (hT4 : T.length ≤ 8) (h8 : ∀ l ∈ T, l.length ≤ 8) (hb : b ≤ 10000) (p : Px) (h1 : inI64 p.2.1) (h2 : inI64 p.2.2) :
    Pure Tryz.prog 34 S [vR x, vP p] (A := Rx) rR (fun S' y => RunIs S' y T (Li.pickR T r p) (b + 1)) := by
  have hst := step_spec S hLt x T r b n hx ho hoT hn hT4 h8 hb p.2.1 h1 p.2.2 h2
  have hend := fun (S' : Store) (hS : S.le S') => end_spec S' x T r b (hx.le hS) ho.e hT1 hT4 p.2.1 h1
  have hf : fewM n r.s.m := ⟨ho.s.m, by omega, by rw [ho.s.vl]; omega, fun h hh => by have := hx.hs h hh; omega⟩
  have hcl := Li.crash_len ho.l p.2.2
  obtain ⟨d, hM, hdl, hdb⟩ := hx.m
  have hcr := fun (S' : Store) (hS : S.le S') => zcrash_spec S' x.2.1 n r.s.m r.l d (hM.le hS) hf ho.l hn0 hn (by rw [ho.s.vl]; exact hT1) (by rw [ho.s.vl]; exact hT4) (by rw [hdl, ho.s.vl]) (by have := hx.st; omega) ⟨hx.cr.1, by have := hx.cr.2; omega⟩ p.2.2 h2
  have hx0 := hx
  have hel := ho.e
  obtain ⟨kd, pt, pc⟩ := p
  obtain ⟨⟨⟨z1, z2, z3⟩, ⟨tq, tn, tc⟩⟩, ⟨⟨⟨p, np, c1⟩, ⟨p2, n2, c2⟩⟩, ⟨⟨⟨fp, fn, fc⟩, ⟨p3, n3, c3⟩, b3⟩, ⟨⟨sp, sn, sc⟩, ei⟩⟩⟩, ⟨dp, dn, dc⟩, ⟨ep, en, ec⟩, ⟨op, on', oc⟩⟩ := x
  have hee : en = r.ends.length := hx.ends.1
  subst hee
  refine pure_vc agrees Tryz.func34 rfl rfl (fun S S' q hle h => h.le hle) ?_
  by_cases k0 : kd = 0
  · refine onE (beq_iff_eq.2 k0) ⟨⟨_, rfl, rfl, rfl⟩, .inl ⟨_, _, _, hst, fun S1 y hS1 hy => ⟨rfl, y, rfl, ?_⟩⟩⟩
    have : Li.pickR T r (kd, pt, pc) = stepI T r pt pc := by unfold Li.pickR stepI; rw [if_pos k0]
    rw [this]; exact hy
  refine offE (beq_eq_false_iff_ne.2 k0) ?_
  by_cases k1 : kd = 1
  · refine onE (beq_iff_eq.2 k1) ⟨⟨_, rfl, rfl, rfl⟩, .inl fun p5 c5 S1 hS1 hr1 hpf1 => ⟨_, _, _, hend S1 hS1 (p5, 1, c5) rfl hr1, fun S2 y hS2 hy => ⟨rfl, y, rfl, ?_⟩⟩⟩
    have : Li.pickR T r (kd, pt, pc) = { r with ends := endI r.ends pt } := by
      unfold Li.pickR
      rw [if_neg k0, if_pos k1]; exact stop_end r pt
    rw [this]; exact hy.up (Nat.le_succ _)
  refine offE (beq_eq_false_iff_ne.2 k1) ?_
  by_cases k2 : kd = 2
  · refine onE (beq_iff_eq.2 k2) ⟨⟨_, rfl, rfl, rfl⟩, .inl ⟨_, _, _, hcr S (Store.le_refl _), fun S1 y hS1 hy => ?_⟩⟩
    obtain ⟨⟨⟨y1, y2, y3⟩, ⟨y4, y5, y6⟩⟩, ⟨⟨⟨u1, u2, u3⟩, ⟨u4, u5, u6⟩, ub⟩, ⟨⟨v1, v2, v3⟩, vi⟩⟩⟩ := y
    obtain ⟨hy1, hy2⟩ := hy
    have hy2 : vi = ei + 1 := hy2
    have hpk : Li.pickR T r (kd, pt, pc) = ⟨{ r.s with m := Li.initM (Li.crashL r.l pc) T.length }, Li.newL (Li.crashL r.l pc), stopped r.ends r.ends.length⟩ := by
      unfold Li.pickR
      rw [if_neg k0, if_neg k1, if_pos k2, stopped_all]; rfl
    rw [hpk]
    have hvl := ho.s.vl
    rw [hvl] at hy1
    obtain ⟨R, hR⟩ : ∃ R : Nat → Li.Rn, R = fun i => ⟨{ r.s with m := Li.initM (Li.crashL r.l pc) T.length }, Li.newL (Li.crashL r.l pc), stopped r.ends i⟩ := ⟨_, rfl⟩
    have hel' : ∀ i, (R i).ends.length = T.length := fun i => by rw [hR]; exact (stopped_len _ _).trans hel
    refine ⟨[], [], Nat × Rx × Store, [5] ++ List.range' 35 8, fun z => [(34, rI z.1)], fun z => [.box (cR z.2.1), .box [.v (.int .i64 kd), .v (.int .i64 pt), .v (.int .i64 pc)], .box [.v (.slice none 0 0), .v (.slice none 0 0), .v (.slice none 0 0), .v (.slice none 0 0), .v (.slice none 0 0), .v (.slice none 0 0), .v (.map none), .v (.slice none 0 0), .v (.int .i64 0), .v (.slice none 0 0), .v (.slice none 0 0), .v (.slice none 0 0)]], fun z => z.2.2,
      fun z => z.1 ≤ r.ends.length ∧ S1.le z.2.2 ∧ RunIs z.2.2 z.2.1 T (R z.1) (b + 1), fun z => r.ends.length - z.1, ?_⟩
    refine And.intro (Exists.intro (0, (((z1, z2, z3), (tq, tn, tc)), (((y1, y2, y3), (y4, y5, y6)), (((u1, u2, u3), (u4, u5, u6), ub), ((v1, v2, v3), vi))), (dp, dn, dc), (ep, r.ends.length, ec), (op, on', oc)), S1) (And.intro (And.intro (And.intro ?_ rfl) (And.intro rfl (Store.le_refl _))) ⟨Nat.zero_le _, Store.le_refl _, ?_⟩)) ?_
    · repeat' first | exact trivial | exact rfl | refine And.intro ?_ ?_
    · have h0 := hx0.le hS1
      rw [hR]
      refine ⟨h0.th, ⟨d, hy1, hdl, fun i hi => Nat.le_succ_of_le (hdb i hi)⟩, ?_, h0.did, ?_, h0.told, fun h hh => ?_, Nat.zero_le _, fun ws hw => Nat.le_succ_of_le (hx0.tl ws hw)⟩
      · have h1 : 0 ≤ ei := hx0.cr.1
        have h2 : ei ≤ (b : Int) := hx0.cr.2
        show 0 ≤ vi ∧ vi ≤ ((b + 1 : Nat) : Int)
        omega
      · have : stopped r.ends 0 = r.ends := by unfold stopped; simp
        show BsIs S1 (ep, r.ends.length, ec) (stopped r.ends 0)
        rw [this]; exact h0.ends
      · obtain ⟨w, -, rfl⟩ := List.mem_map.1 hh
        show 1 ≤ b + 1 + 1; omega
    rintro ⟨i, z, Sz⟩ ⟨hi, hSz, hz⟩
    simp only at hi hSz hz
    refine And.intro (fun h1 => ?_) (fun h1 => ?_)
    · have h1 : (i : Int) < ((r.ends.length : Nat) : Int) := of_decide_eq_true h1
      refine ⟨(i : Int) + 1, wrap_i64 (by omega) (by omega), ⟨_, rfl, rfl, rfl⟩, .inl fun p5 c5 S2 hS2 hr2 hpf2 => ⟨_, _, _, end_spec S2 z T (R i) (b + 1) (hz.le hS2) (hel' i) hT1 hT4 ((i : Int) + 1) ⟨by omega, by omega⟩ (p5, 1, c5) rfl hr2, fun S3 y hS3 hy => ?_⟩⟩
      have hn1 : ({ R i with ends := endI (R i).ends ((i : Int) + 1) } : Li.Rn) = R (i + 1) := by
        rw [hR]
        show Li.Rn.mk _ _ (endI (stopped r.ends i) _) = Li.Rn.mk _ _ _
        rw [stopped_succ (by omega)]
      rw [hn1] at hy
      refine ⟨((i + 1 : Nat) : Int), wrap_i64 (by omega) (by omega), (i + 1, y, S3), ⟨⟨?_, rfl⟩, rfl, Store.le_refl _⟩, ⟨by show i + 1 ≤ r.ends.length; omega, Store.le_trans hSz (Store.le_trans hS2 hS3), hy⟩, by show r.ends.length - (i + 1) < r.ends.length - i; omega⟩
      repeat' first | exact trivial | exact rfl | refine And.intro ?_ ?_
    · have h1 : ¬ (i : Int) < ((r.ends.length : Nat) : Int) := of_decide_eq_false h1
      have : i = r.ends.length := by omega
      subst this
      refine ⟨rfl, z, rfl, ?_⟩
      rw [hR] at hz; exact hz
  refine offE (beq_eq_false_iff_ne.2 k2) ⟨rfl, _, rfl, ?_⟩
  have : Li.pickR T r (kd, pt, pc) = r := by
    unfold Li.pickR
    rw [if_neg k0, if_neg k1, if_neg k2]
  rw [this]; exact hx0.up (Nat.le_succ _)
end Go.Proofs.YtapblcfbmaikjaaGreatDoor
namespace Go.Proofs.YtapblcfbmaikjaaGreatDoor
open Go Go.Vc Go.Sort Go.RowKit Go.Maps
set_option maxRecDepth 100000
set_option maxHeartbeats 8000000

structure TestIs (S : Store) (x : Tz) (first : List Li.Wd) (T : List (List Li.Act)) : Prop where
  f : WsIs S x.1 first
  t : ThIs S x.2 T
theorem TestIs.le {S S' : Store} (h : S.le S') {x f t} (hx : TestIs S x f t) : TestIs S' x f t := ⟨hx.f.le h, hx.t.le h⟩
theorem begin_spec (S : Store) (x : Tz) (first : List Li.Wd) (T : List (List Li.Act)) (hx : TestIs S x first T) (hn0 : 0 < first.length) (hn : first.length ≤ 8) (hT1 : 0 < T.length) (hT4 : T.length ≤ 8) :
    Pure Tryz.prog 27 S [vT x] (A := Rx) rR (fun S' y => RunIs S' y T (Li.beginR first T) 0) := by
  have htl := hx.t.len
  have hx0 := hx
  have hz := znew_spec S T.length hT1 hT4 x.1 first hx.f hn0 hn
  obtain ⟨⟨fp, fn, fc⟩, ⟨tp, tn, tc⟩⟩ := x
  have htl : tn = T.length := htl
  subst htl
  refine pure_vc agrees Tryz.func27 rfl rfl (fun S S' q hle h => h.le hle) ?_
  refine ⟨⟨_, rfl, rfl, rfl⟩, .inl ⟨_, _, _, hz, fun S1 y hS1 hy => ?_⟩⟩
  obtain ⟨⟨⟨y1, y2, y3⟩, ⟨y4, y5, y6⟩⟩, ⟨⟨⟨u1, u2, u3⟩, ⟨u4, u5, u6⟩, ub⟩, ⟨⟨v1, v2, v3⟩, vi⟩⟩⟩ := y
  refine ⟨or27_3, [1], oF27_3, by kernel_rfl, ?_⟩
  repeat' (first
    | exact trivial
    | refine ⟨Int.natCast_nonneg _, Int.le_refl _, (by first | (show (8 : Int) * (T.length : Int) ≤ 140737488355328; omega) | (show (1 : Int) * (T.length : Int) ≤ 140737488355328; omega) | (show (24 : Int) * (T.length : Int) ≤ 140737488355328; omega)), (by show (T.length : Int) ≤ 140737488355328; omega), ?_⟩
    | refine And.intro ?_ ?_)
  all_goals
    intro p5 c5 S5 hS5 hr5 hpf5 p6 c6 S6 hS6 hr6 hpf6 p7 c7 S7 hS7 hr7 hpf7
    have h56 := Store.le_trans hS5 hS6
    have h57 := Store.le_trans h56 hS7
    refine ⟨rfl, (((fp, fn, fc), (tp, T.length, tc)), (((y1, y2, y3), (y4, y5, y6)), (((u1, u2, u3), (u4, u5, u6), ub), ((v1, v2, v3), vi))), (p5, (List.replicate T.length (0 : Int)).length, c5), (p6, (List.replicate T.length false).length, c6), (p7, (List.replicate T.length ((none, 0, 0) : Hd)).length, c7)), rfl, (hx0.le (Store.le_trans hS1 h57)).t, ⟨List.replicate T.length 0, hy.1.le h57, List.length_replicate .., fun i hi => by rw [(List.mem_replicate.1 hi).2]; exact Nat.le_refl _⟩, ?_, ?_, ?_, ?_, fun h hh => ?_, Nat.zero_le _, fun ws hw => ?_⟩
    · have : vi = 0 := hy.2
      show 0 ≤ vi ∧ vi ≤ ((0 : Nat) : Int)
      omega
    · refine ⟨?_, ?_, ?_⟩
      · show (List.replicate T.length (0 : Int)).length = (List.replicate T.length 0).length
        rw [List.length_replicate, List.length_replicate]
      · have : (List.replicate T.length (0 : Int)).length ≤ c5 := pform_le hpf5.1
        show (List.replicate T.length 0).length ≤ c5
        rw [List.length_replicate] at this ⊢; exact this
      · show RowRd S7 p5 shI ((List.replicate T.length 0).map fun i : Nat => (i : Int))
        rw [List.map_replicate]; exact hr5.le (Store.le_trans hS6 hS7)
    · refine ⟨?_, ?_, ?_⟩
      · rfl
      · exact pform_le hpf6.1
      · exact hr6.le hS7
    · refine ⟨List.replicate T.length (((none, 0, 0) : Hd), ([] : List Li.Wd)), ?_, ?_, pform_le hpf7.1, ?_, fun z hz => ?_⟩
      · rw [List.map_replicate]; rfl
      · show (List.replicate T.length ((none, 0, 0) : Hd)).length = _
        rw [List.length_replicate, List.length_replicate]
      · rw [List.map_replicate]; exact hr7
      · rw [(List.mem_replicate.1 hz).2]
        exact ⟨⟨rfl, Nat.le_refl _, .inl rfl, fun x hx => by cases hx⟩, fun w hw => by cases hw⟩
    · obtain ⟨w, -, rfl⟩ := List.mem_map.1 hh
      exact Nat.le_refl _
    · rw [(List.mem_replicate.1 hw).2]; exact Nat.le_refl _
theorem choices_spec (S : Store) (x : Rx) (T : List (List Li.Act)) (r : Li.Rn) (b n : Nat) (hx : RunIs S x T r b) (ho : Li.okR n T r) (hoT : Li.okT n T) (hn : n ≤ 8) (hT4 : T.length ≤ 8) (hb : b ≤ 10000) (k : Nat) (a : Li.Act) (ha : Li.actAt T r.s k = some a) :
    Pure Tryz.prog 47 S [vR x, .int .i64 ((k : Int) + 1), vAct a] (A := Unit) (fun _ => rI (Li.choicesS T r.s k : Nat)) (fun _ _ => True) := by
  have hk := (Li.act_some ha).1
  have hokA := Li.okA_of hoT ha
  have hf : fewM n r.s.m := ⟨ho.s.m, by omega, by rw [ho.s.vl]; omega, fun h hh => by have := hx.hs h hh; omega⟩
  have hch : Li.choicesS T r.s k = if a.op = 1 ∨ a.op = 2 then (Li.hist r.s.m a.loc.toNat).length - (Li.seen r.s.m k).getD a.loc.toNat 0 else 1 := by
    unfold Li.choicesS; rw [ha]
  rw [hch]
  obtain ⟨d, hM, -, -⟩ := hx.m
  have hmm := hM.m
  obtain ⟨ao, al, ⟨a1, a2, a3⟩, a4, a5, a6⟩ := a
  have hzm := fun (S' : Store) => zmem_spec S' x.2.1
  obtain ⟨⟨⟨z1, z2, z3⟩, ⟨tq, tn, tc⟩⟩, ⟨⟨⟨p, np, c1⟩, ⟨p2, n2, c2⟩⟩, ⟨⟨⟨fp, fn, fc⟩, ⟨p3, n3, c3⟩, b3⟩, ⟨⟨sp, sn, sc⟩, ei⟩⟩⟩, ⟨dp, dn, dc⟩, ⟨ep, en, ec⟩, ⟨op, on', oc⟩⟩ := x
  refine pure_vc agrees Tryz.func47 rfl rfl (fun S S' q hle h => h) ?_
  have one : ao ≠ 1 → ao ≠ 2 → rI (((if ao = 1 ∨ ao = 2 then (Li.hist r.s.m al.toNat).length - (Li.seen r.s.m k).getD al.toNat 0 else 1) : Nat) : Int) = rI 1 := fun q1 q2 => by rw [if_neg (by omega)]; rfl
  have main : ao = 1 ∨ ao = 2 → ∃ loc : Nat, al = (loc : Int) ∧ loc < n ∧ (Li.seen r.s.m k).getD loc 0 < (Li.hist r.s.m loc).length ∧ (Li.hist r.s.m loc).length ≤ 100000 := fun q => by
    have := hokA.2.2 (show ao ≠ 0 by omega) (show ao ≠ 8 by omega)
    have hl : 0 ≤ al ∧ al < (n : Int) := this
    refine ⟨al.toNat, by omega, by omega, ?_, ?_⟩
    · exact (Li.seen_ok ho.s.m (by rw [ho.s.vl]; exact hk)).2 _ (by rw [ho.s.m.len]; omega)
    · exact hf.hist (by omega)
  by_cases h12 : ao = 1 ∨ ao = 2
  · obtain ⟨loc, rfl, hl, hlt, hh⟩ := main h12
    have hml := ho.s.m.len
    have hvl := ho.s.vl
    have tl : (if ao = 1 ∨ ao = 2 then (Li.hist r.s.m ((loc : Int).toNat)).length - (Li.seen r.s.m k).getD ((loc : Int).toNat) 0 else 1) = (Li.hist r.s.m loc).length - (Li.seen r.s.m k).getD loc 0 := by rw [if_pos h12, Int.toNat_natCast]
    have ws : IntKind.i64.wrap (((Li.hist r.s.m loc).length : Int) - (((Li.seen r.s.m k).getD loc 0 : Nat) : Int)) = (((Li.hist r.s.m loc).length - (Li.seen r.s.m k).getD loc 0 : Nat) : Int) := by rw [wrap_i64 (by omega) (by omega)]; omega
    rcases h12 with rfl | rfl
    · refine offE rfl (onF ⟨⟨_, rfl, rfl, rfl⟩, .inl ⟨_, _, _, hzm S, fun S1 _ hS1 _ => ⟨⟨_, rfl, rfl, rfl⟩, .inl ⟨_, _, _, history_spec S1 _ r.s.m (hmm.le hS1) loc (by rw [hml]; exact hl), fun S2 h hS2 hh2 => ?_⟩⟩⟩⟩)
      refine ⟨or47_5, [], oF47_5, by kernel_rfl, ⟨_, rfl, rfl, rfl⟩, .inl ⟨_, _, _, hlen_spec S2 h.1 (Li.hist r.s.m loc) hh2, fun S3 _ hS3 _ => ?_⟩⟩
      refine ⟨⟨_, rfl, rfl, rfl⟩, .inl ⟨_, _, _, seen_spec S3 _ n r.s.m (hmm.le (Store.le_trans hS1 (Store.le_trans hS2 hS3))) hf k (by rw [hvl]; exact hk), fun S4 u hS4 hu => ?_⟩⟩
      refine ⟨⟨_, rfl, rfl, rfl⟩, .inl ⟨_, _, _, vatn_spec S4 u (Li.seen r.s.m k) loc hu, fun S5 _ hS5 _ => ⟨_, ws, rfl, (), congrArg (fun n : Nat => rI (n : Int)) tl, trivial⟩⟩⟩
    · refine onE rfl (offE rfl ⟨⟨_, rfl, rfl, rfl⟩, .inl ⟨_, _, _, hzm S, fun S1 _ hS1 _ => ⟨⟨_, rfl, rfl, rfl⟩, .inl ⟨_, _, _, history_spec S1 _ r.s.m (hmm.le hS1) loc (by rw [hml]; exact hl), fun S2 h hS2 hh2 => ?_⟩⟩⟩⟩)
      refine ⟨or47_5, [], oF47_5, by kernel_rfl, ⟨_, rfl, rfl, rfl⟩, .inl ⟨_, _, _, hlen_spec S2 h.1 (Li.hist r.s.m loc) hh2, fun S3 _ hS3 _ => ?_⟩⟩
      refine ⟨⟨_, rfl, rfl, rfl⟩, .inl ⟨_, _, _, seen_spec S3 _ n r.s.m (hmm.le (Store.le_trans hS1 (Store.le_trans hS2 hS3))) hf k (by rw [hvl]; exact hk), fun S4 u hS4 hu => ?_⟩⟩
      refine ⟨⟨_, rfl, rfl, rfl⟩, .inl ⟨_, _, _, vatn_spec S4 u (Li.seen r.s.m k) loc hu, fun S5 _ hS5 _ => ⟨_, ws, rfl, (), congrArg (fun n : Nat => rI (n : Int)) tl, trivial⟩⟩⟩
  · refine onE (bne_iff_ne.2 (show ao ≠ 1 by omega)) (onE (bne_iff_ne.2 (show ao ≠ 2 by omega)) ⟨rfl, (), one (by omega) (by omega), trivial⟩)
end Go.Proofs.YtapblcfbmaikjaaGreatDoor
namespace Go.Proofs.YtapblcfbmaikjaaGreatDoor
open Go Go.Vc Go.Sort Go.RowKit Go.Maps
set_option maxRecDepth 100000
set_option maxHeartbeats 8000000

theorem tail_le (sep : List UInt8) (B : Nat) : ∀ ws : List (List UInt8), (∀ w ∈ ws, w.length ≤ B) → (Lib.joinTail sep ws).length ≤ ws.length * (B + sep.length)
  | [], _ => by simp [Lib.joinTail]
  | w :: ws, h => by
    have ih := tail_le sep B ws fun v hv => h v (List.mem_cons_of_mem _ hv)
    have h0 := h w (List.mem_cons_self ..)
    unfold Lib.joinTail at ih ⊢
    rw [List.map_cons, List.flatten_cons, List.length_append, List.length_append, List.length_cons, Nat.succ_mul]
    omega
theorem join_le (sep : List UInt8) (B : Nat) (ws : List (List UInt8)) (h : ∀ w ∈ ws, w.length ≤ B) : (Lib.join ws sep).length ≤ ws.length * (B + sep.length) := by
  cases ws with
  | nil => rw [Lib.join_nil]; exact Nat.zero_le _
  | cons w ws =>
    have := tail_le sep B ws fun v hv => h v (List.mem_cons_of_mem _ hv)
    have h0 := h w (List.mem_cons_self ..)
    rw [Lib.join_cons, List.length_append, List.length_cons, Nat.succ_mul]
    omega
theorem cell_le {b : Nat} {ws : List Li.Wd} (hw : ∀ w ∈ ws, okW w) (hl : ws.length ≤ b) : (Li.cellT ws).length ≤ b * 91 + 1 := by
  unfold Li.cellT
  split
  · show 1 ≤ _; omega
  · have := join_le [32] 90 (ws.map Li.textW) fun v hv => by
      obtain ⟨w, hw', rfl⟩ := List.mem_map.1 hv
      exact text_len (hw w hw')
    rw [List.length_map] at this
    have h2 := Nat.mul_le_mul_right 91 hl
    have : (Lib.join (ws.map Li.textW) [32]).length ≤ ws.length * 91 := this
    omega
theorem join_sp : ∀ ws : List Li.Wd, ws ≠ [] → [32, 58] ++ (ws.flatMap fun w => 32 :: Li.textW w) = [32, 58, 32] ++ Lib.join (ws.map Li.textW) [32]
  | [], h => absurd rfl h
  | w :: ws, _ => by
    rw [List.map_cons, Lib.join_cons, List.flatMap_cons]
    have : ∀ l : List Li.Wd, (l.flatMap fun w => 32 :: Li.textW w) = Lib.joinTail [32] (l.map Li.textW) := fun l => by
      unfold Lib.joinTail
      induction l with
      | nil => rfl
      | cons a l ih => rw [List.flatMap_cons, List.map_cons, List.map_cons, List.flatten_cons, ih]; rfl
    rw [this]; simp
theorem otext_spec (S : Store) (hLt : Lt S) (x : Rx) (T : List (List Li.Act)) (r : Li.Rn) (b n : Nat) (hx : RunIs S x T r b) (ho : Li.okR n T r) (hn0 : 0 < n) (hn : n ≤ 8) (hT1 : 0 < T.length) (hT4 : T.length ≤ 8) (hb : b ≤ 10000) :
    Pure Tryz.prog 36 S [vR x] (A := Unit) (fun _ => rS (bs (Li.textR r))) (fun _ _ => (Li.textR r).length ≤ 10000000) := by
  have hf : fewM n r.s.m := ⟨ho.s.m, by omega, by rw [ho.s.vl]; omega, fun h hh => by have := hx.hs h hh; omega⟩
  obtain ⟨d, hM, -, -⟩ := hx.m
  have hwd := words_spec S x.2.1 n r.s.m hM.m hf hn
  have htold := hx.told
  have htl := ho.s.tl
  have hlen := htold.len
  have hll : (Li.lasts r.s.m).length = n := by unfold Li.lasts; rw [List.length_map]; exact hf.ok.len
  have htb := hx.tl
  obtain ⟨⟨⟨z1, z2, z3⟩, ⟨tq, tn, tc⟩⟩, ⟨⟨⟨p, np, c1⟩, ⟨p2, n2, c2⟩⟩, ⟨⟨⟨fp, fn, fc⟩, ⟨p3, n3, c3⟩, b3⟩, ⟨⟨sp, sn, sc⟩, ei⟩⟩⟩, ⟨dp, dn, dc⟩, ⟨ep, en, ec⟩, ⟨op, on', oc⟩⟩ := x
  have hlen : on' = r.s.told.length := hlen
  subst hlen
  refine pure_vc agrees Tryz.func36 rfl rfl (fun S S' q hle h => h) ?_
  obtain ⟨cs, hcs⟩ : ∃ cs : List C, cs = cR (((z1, z2, z3), (tq, tn, tc)), (((p, np, c1), (p2, n2, c2)), (((fp, fn, fc), (p3, n3, c3), b3), ((sp, sn, sc), ei))), (dp, dn, dc), (ep, en, ec), (op, r.s.told.length, oc)) := ⟨_, rfl⟩
  refine ⟨[], [(3, .str, 9)], Nat, [5] ++ List.range' 13 13, fun i => [(12, rI i)], fun i => [.box (cR (((z1, z2, z3), (tq, tn, tc)), (((p, np, c1), (p2, n2, c2)), (((fp, fn, fc), (p3, n3, c3), b3), ((sp, sn, sc), ei))), (dp, dn, dc), (ep, en, ec), (op, r.s.told.length, oc))), .row .str 9 (((r.s.told.take i).map Li.cellT).map bs)], fun _ => S, fun i => i ≤ r.s.told.length, fun i => r.s.told.length - i, ?_⟩
  refine And.intro (Exists.intro 0 (And.intro (And.intro (And.intro ?_ rfl) (And.intro rfl (Store.le_refl _))) (Nat.zero_le _))) ?_
  · repeat' first | exact trivial | exact rfl | refine And.intro ?_ ?_
  intro i hi
  have hi : i ≤ r.s.told.length := hi
  refine And.intro (fun h1 => ?_) (fun h1 => ?_)
  · have h1 : (i : Int) < ((r.s.told.length : Nat) : Int) := of_decide_eq_true h1
    obtain ⟨⟨qp, qn, qc⟩, ws, b1, o1, hws, ⟨hss, hwo⟩, hp1, ok1, hrd1⟩ := htold.at (i := i) (by omega)
    have hwb := htb ws (List.mem_of_getElem? hws)
    have hss1 : qn = (ws.map Li.textW).length := hss.1
    have hss1 : qn = ws.length := by rw [hss1, List.length_map]
    have hss2 := hss.2.1
    have hss3 := hss.2.2
    subst hss1
    have hcl := cell_le hwo hwb
    have hst : ((r.s.told.take (i + 1)).map Li.cellT).map bs = ((r.s.told.take i).map Li.cellT).map bs ++ [bs (Li.cellT ws)] := by
      rw [List.take_add_one, hws, List.map_append, List.map_append]; rfl
    have hbytes : ((((r.s.told.take i).map Li.cellT).map bs).length + 1) * 16 ≤ 140737488355328 := by
      rw [List.length_map, List.length_map, List.length_take]; omega
    refine ⟨Int.natCast_nonneg _, h1, b1, o1, hp1, ((qp, ws.length, qc) : Hd), ok1, hrd1, ?_⟩
    by_cases h0 : ws.length = 0
    · refine onE (beq_iff_eq.2 (show (ws.length : Int) = 0 by omega)) ?_
      have hw0 : ws = [] := List.eq_nil_of_length_eq_zero h0
      have ec : Li.cellT ws = Lib.join [[45]] [32] := by rw [hw0, Lib.join_one]; rfl
      refine ⟨⟨_, rfl, rfl, rfl⟩, .inl fun p5 c5 S5 hS5 hr5 hpf5 => ⟨_, _, _, join_spec S5 (p5, 1, c5) [32] [[45]] (by simp) rfl (pform_le hpf5.1) hr5 (by rw [Lib.join_one]; decide) (by decide), fun S6 _ hS6 _ => ?_⟩⟩
      rw [← ec]
      refine ⟨[bs (Li.cellT ws)], ⟨rfl, rfl⟩, fun _ _ => trivial, hbytes, ((i + 1 : Nat) : Int), wrap_i64 (by omega) (by omega), i + 1, ⟨⟨?_, rfl⟩, ?_, Store.le_trans hS5 hS6⟩, by show i + 1 ≤ _; omega, by show r.s.told.length - (i + 1) < r.s.told.length - i; omega⟩
      · repeat' first | exact trivial | exact rfl | refine And.intro ?_ ?_
      · show [_, Res.row .str 9 _] = [_, Res.row .str 9 (((r.s.told.take (i + 1)).map Li.cellT).map bs)]
        rw [hst]
    · refine offE (beq_eq_false_iff_ne.2 (show ¬ (ws.length : Int) = 0 by omega)) ?_
      have hne : ws ≠ [] := fun e => h0 (by rw [e]; rfl)
      have ec : Li.cellT ws = Lib.join (ws.map Li.textW) [32] := by unfold Li.cellT; rw [if_neg hne]
      refine ⟨⟨_, rfl, rfl, rfl⟩, .inl ⟨_, _, _, join_spec S (qp, ws.length, qc) [32] (ws.map Li.textW) (by simp [hne]) (List.length_map ..).symm (by have : (ws.map Li.textW).length ≤ qc := hss2; rw [List.length_map] at this; exact this) hss3 (by rw [← ec]; omega) (by rw [List.length_map]; omega), fun S6 _ hS6 _ => ?_⟩⟩
      rw [← ec]
      refine ⟨[bs (Li.cellT ws)], ⟨rfl, rfl⟩, fun _ _ => trivial, hbytes, ((i + 1 : Nat) : Int), wrap_i64 (by omega) (by omega), i + 1, ⟨⟨?_, rfl⟩, ?_, hS6⟩, by show i + 1 ≤ _; omega, by show r.s.told.length - (i + 1) < r.s.told.length - i; omega⟩
      · repeat' first | exact trivial | exact rfl | refine And.intro ?_ ?_
      · show [_, Res.row .str 9 _] = [_, Res.row .str 9 (((r.s.told.take (i + 1)).map Li.cellT).map bs)]
        rw [hst]
  · have h1 : ¬ (i : Int) < ((r.s.told.length : Nat) : Int) := of_decide_eq_false h1
    have hil : i = r.s.told.length := by omega
    subst hil
    have htk : r.s.told.take r.s.told.length = r.s.told := List.take_length
    have htk2 : (Li.lasts r.s.m).take (Li.lasts r.s.m).length = Li.lasts r.s.m := List.take_length
    refine ⟨⟨_, rfl, rfl, rfl⟩, .inl ⟨_, _, _, hwd, fun S1 q hS1 hq => ?_⟩⟩
    obtain ⟨q1, q2, q3, q4⟩ := ws_row hq
    obtain ⟨qp, qn, qc⟩ := q
    have q1 : qn = (Li.lasts r.s.m).length := q1
    subst q1
    have q3 : RowRd S1 qp shW (Li.lasts r.s.m) := q3
    refine ⟨[], [(6, .str, 9)], Nat, [8] ++ List.range' 31 9, fun i => [(30, rI i)], fun i => [.box (cR (((z1, z2, z3), (tq, tn, tc)), (((p, np, c1), (p2, n2, c2)), (((fp, fn, fc), (p3, n3, c3), b3), ((sp, sn, sc), ei))), (dp, dn, dc), (ep, en, ec), (op, r.s.told.length, oc))), .row .str 9 (((r.s.told.take r.s.told.length).map Li.cellT).map bs), .row .str 9 ((((Li.lasts r.s.m).take i).map Li.textW).map bs)], fun _ => S1, fun i => i ≤ (Li.lasts r.s.m).length, fun i => (Li.lasts r.s.m).length - i, ?_⟩
    refine And.intro (Exists.intro 0 (And.intro (And.intro (And.intro ?_ rfl) (And.intro rfl (Store.le_refl _))) (Nat.zero_le _))) ?_
    · repeat' first | exact trivial | exact rfl | refine And.intro ?_ ?_
    intro j hj
    have hj : j ≤ (Li.lasts r.s.m).length := hj
    refine And.intro (fun h1 => ?_) (fun h1 => ?_)
    · have h1 : (j : Int) < (((Li.lasts r.s.m).length : Nat) : Int) := of_decide_eq_true h1
      obtain ⟨w, hw⟩ : ∃ w, (Li.lasts r.s.m)[j]? = some w := ⟨_, List.getElem?_eq_getElem (by omega)⟩
      obtain ⟨b1, o1, hp1, ok1, hrd1⟩ := row_at q3 hw
      have hwok := q4 w (List.mem_of_getElem? hw)
      have hst : (((Li.lasts r.s.m).take (j + 1)).map Li.textW).map bs = (((Li.lasts r.s.m).take j).map Li.textW).map bs ++ [bs (Li.textW w)] := by
        rw [List.take_add_one, hw, List.map_append, List.map_append]; rfl
      obtain ⟨w1, w2, w3⟩ := w
      refine ⟨Int.natCast_nonneg _, h1, b1, o1, hp1, ((w1, w2, w3) : Li.Wd), ok1, hrd1, ?_⟩
      refine ⟨⟨_, rfl, rfl, rfl⟩, .inl ⟨_, _, _, text_spec S1 (hLt.le hS1) (w1, w2, w3) hwok, fun S6 _ hS6 _ => ?_⟩⟩
      refine ⟨[bs (Li.textW (w1, w2, w3))], ⟨rfl, rfl⟩, fun _ _ => trivial, by rw [List.length_map, List.length_map, List.length_take]; show (min j _ + 1) * 16 ≤ _; omega, ((j + 1 : Nat) : Int), wrap_i64 (by omega) (by omega), j + 1, ⟨⟨?_, rfl⟩, ?_, hS6⟩, by show j + 1 ≤ _; omega, by show (Li.lasts r.s.m).length - (j + 1) < (Li.lasts r.s.m).length - j; omega⟩
      · repeat' first | exact trivial | exact rfl | refine And.intro ?_ ?_
      · show [_, _, Res.row .str 9 _] = [_, _, Res.row .str 9 ((((Li.lasts r.s.m).take (j + 1)).map Li.textW).map bs)]
        rw [hst]
    · have h1 : ¬ (j : Int) < (((Li.lasts r.s.m).length : Nat) : Int) := of_decide_eq_false h1
      have hjl : j = (Li.lasts r.s.m).length := by omega
      subst hjl
      have hA : (Lib.join (r.s.told.map Li.cellT) [32, 124, 32]).length ≤ r.s.told.length * ((b * 91 + 1) + 3) := by
        have := join_le [32, 124, 32] (b * 91 + 1) (r.s.told.map Li.cellT) fun v hv => by
          obtain ⟨ws, hws, rfl⟩ := List.mem_map.1 hv
          obtain ⟨L, hL1, -, -, -, hL5⟩ := htold
          rw [← hL1] at hws
          obtain ⟨z, hz, rfl⟩ := List.mem_map.1 hws
          exact cell_le (hL5 z hz).2 (htb _ (by rw [← hL1]; exact List.mem_map_of_mem hz))
        rw [List.length_map] at this; exact this
      have hA2 : r.s.told.length * ((b * 91 + 1) + 3) ≤ 8 * (10000 * 91 + 4) := Nat.mul_le_mul (by omega) (by omega)
      have hB : (Lib.join ((Li.lasts r.s.m).map Li.textW) [32]).length ≤ (Li.lasts r.s.m).length * (90 + 1) := by
        have := join_le [32] 90 ((Li.lasts r.s.m).map Li.textW) fun v hv => by
          obtain ⟨w, hw, rfl⟩ := List.mem_map.1 hv
          exact text_len (q4 w hw)
        rw [List.length_map] at this; exact this
      have l5 : (((r.s.told.take r.s.told.length).map Li.cellT).map bs).length = (r.s.told.map Li.cellT).length := by rw [htk, List.length_map]
      have l7 : ((((Li.lasts r.s.m).take (Li.lasts r.s.m).length).map Li.textW).map bs).length = ((Li.lasts r.s.m).map Li.textW).length := by rw [htk2, List.length_map]
      refine ⟨⟨_, rfl, rfl, rfl⟩, .inl fun p5 c5 S5 hS5 hr5 hpf5 => ⟨_, _, _, join_spec S5 (p5, _, c5) [32, 124, 32] (r.s.told.map Li.cellT) (fun e => by have := congrArg List.length e; rw [List.length_map] at this; simp only [List.length_nil] at this; omega) l5 (pform_le hpf5.1) (by rw [htk] at hr5; exact hr5) (by omega) (by rw [List.length_map]; omega), fun S6 _ hS6 _ => ?_⟩⟩
      refine ⟨by rw [bs_size]; show _ + 3 ≤ _; omega, ⟨_, rfl, rfl, rfl⟩, .inl fun p7 c7 S7 hS7 hr7 hpf7 => ⟨_, _, _, join_spec S7 (p7, _, c7) [32] ((Li.lasts r.s.m).map Li.textW) (fun e => by have := congrArg List.length e; rw [List.length_map] at this; simp only [List.length_nil] at this; omega) l7 (pform_le hpf7.1) (by rw [htk2] at hr7; exact hr7) (by omega) (by rw [List.length_map]; omega), fun S8 _ hS8 _ => ?_⟩⟩
      refine ⟨?_, rfl, (), ?_, ?_⟩
      · rw [ByteArray.size_append, bs_size, bs_size]; show _ + 3 + _ ≤ _; omega
      · show rS (bs (Li.textR r)) = rS (bs (Lib.join (r.s.told.map Li.cellT) [32, 124, 32]) ++ bs [32, 58, 32] ++ bs (Lib.join ((Li.lasts r.s.m).map Li.textW) [32]))
        rw [bs_app, bs_app, List.append_assoc, ← join_sp (Li.lasts r.s.m) (fun e => by rw [e] at hll; simp at hll; omega)]
        show rS (bs (Li.textO r.s.told (Li.lasts r.s.m))) = _
        unfold Li.textO
        rw [List.append_assoc]
      · show (Li.textO r.s.told (Li.lasts r.s.m)).length ≤ _
        unfold Li.textO
        rw [List.append_assoc, join_sp (Li.lasts r.s.m) (fun e => by rw [e] at hll; simp at hll; omega), List.length_append, List.length_append]
        show _ + (3 + _) ≤ _
        omega
end Go.Proofs.YtapblcfbmaikjaaGreatDoor
