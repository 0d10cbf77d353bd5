/- law58: the judge's list of calls. -/
import Derived.Test.YtpfghndflegbaaaDoorFi
namespace Go.Proofs.YtpfghndflegbaaaDoor
open Go Go.Vc
set_option maxRecDepth 100000

abbrev evs (l : List shE.T) : List (Jd.Ev Cd Ad) := l.map evOf
def recsAt (N : Nat) (l : List shE.T) : Recs := Jd.recs N 0 (l.map evOf)
theorem recs_take {l : List shE.T} {i : Nat} {y : shE.T} (hy : l[i]? = some y) (N : Nat) : recsAt N (l.take (i + 1)) = (recsAt N (l.take i)).map (Jd.hit i (evOf y)) ++ Jd.news N i (evOf y) := by
  have hil := (List.getElem?_eq_some_iff.1 hy).1
  unfold recsAt
  rw [List.take_add_one, hy, Option.toList_some, List.map_append]
  have := Jd.recs_snoc N (evOf y) ((l.take i).map evOf) 0
  rw [Nat.zero_add, List.length_map, List.length_take, Nat.min_eq_left (by omega)] at this
  exact this
/-- The judge's calls of a history. -/
def callsJ (l : List shE.T) : List shC.T := outOf (recsAt l.length l)
theorem recs_len (N : Nat) : ∀ (l : List (Jd.Ev Cd Ad)) (i : Nat), (Jd.recs N i l).length ≤ l.length
  | [], _ => Nat.le_refl _
  | e :: l, i => by
    rw [Jd.recs]
    have := recs_len N l (i + 1)
    split <;> simp <;> omega
theorem calls_len (l : List shE.T) : (callsJ l).length ≤ l.length := by
  unfold callsJ outOf recsAt
  rw [List.length_map]
  exact Nat.le_trans (recs_len _ _ _) (by simp)
theorem outOf_len (N : Nat) (l : List shE.T) (i : Nat) : (outOf (recsAt N (l.take i))).length ≤ l.length := by
  unfold outOf recsAt
  rw [List.length_map]
  refine Nat.le_trans (recs_len _ _ _) ?_
  simp; omega
theorem outOf_lt (N : Nat) {l : List shE.T} {i : Nat} (hi : i < l.length) : (outOf (recsAt N (l.take i))).length + 1 ≤ l.length := by
  unfold outOf recsAt
  rw [List.length_map]
  have h := recs_len N ((l.take i).map evOf) 0
  rw [List.length_map, List.length_take, Nat.min_eq_left (by omega)] at h
  omega
/-- What holds in the midst. -/
structure Mid (l : List shE.T) (i : Nat) (es : List (Int × Int)) : Prop where
  le : i ≤ l.length
  ex : ∃ f, Jd.Links f (recsAt l.length (l.take i)) ∧ Jd.formJ f ((l.drop i).map evOf) = 0
  op : OpenIs es (recsAt l.length (l.take i))
theorem mid_zero (l : List shE.T) (h : formE l = 0) : Mid l 0 [] := ⟨Nat.zero_le _, ⟨Jd.th0, ⟨fun t => ⟨(fun q => by cases q), fun ⟨r, hr, _⟩ => by cases hr⟩, fun i j r s hr => by simp [recsAt, Jd.recs] at hr⟩, h⟩, open_nil⟩

theorem evJ_pass {f : Int → Jd.Th} {e : Jd.Ev Cd Ad} (h : (Jd.evJ f e).1 = 0) : (e.kind = 0 ∨ e.kind = 1 ∨ e.kind = 2 ∨ e.kind = 3) ∧ (e.kind = 0 → (f e.thread).op = false) ∧ (e.kind = 1 ∨ e.kind = 2 → (f e.thread).op = true) := by
  unfold Jd.evJ at h
  by_cases c1 : e.kind < 0 ∨ e.kind > 3
  · rw [if_pos c1] at h; cases h
  rw [if_neg c1] at h
  refine ⟨by omega, ?_⟩
  by_cases c2 : e.kind = 3
  · exact ⟨fun q => by omega, fun q => by omega⟩
  rw [if_neg c2] at h
  by_cases c3 : e.thread < 1 ∨ e.thread > 8
  · rw [if_pos c3] at h; cases h
  rw [if_neg c3] at h
  by_cases c4 : (f e.thread).op = decide (e.kind = 0)
  · rw [if_pos c4] at h; cases h
  constructor
  · intro q
    rw [decide_eq_true q] at c4
    simpa using c4
  · intro q
    rw [decide_eq_false (by omega)] at c4
    simpa using c4

theorem calls2_spec (S : Store) (p : Hd) (l : List shE.T) (hl : l.length = p.2.1) (hr : RowRd S p.1 shE l) (hn : l.length * 80 ≤ 140737488355328) (hf : formE l = 0) :
    Pure Tryd.prog 32 S [slV p] (A := Hd) (fun q => .c (.v (slV q))) (fun S' q => q.2.1 = (callsJ l).length ∧ q.2.1 ≤ q.2.2 ∧ RowRd S' q.1 shC (callsJ l)) := by
  obtain ⟨p, n, c⟩ := p
  simp only at hl hr
  subst hl
  refine pure_vc agrees Tryd.func32 rfl rfl (fun S S' q hle h => ⟨h.1, h.2.1, h.2.2.le hle⟩) ?_
  refine ⟨[], [(3, shC, 92)], Nat × List (Int × Int), [5, 6, 7, 8, 9] ++ List.range' 14 63, fun a => [(13, rI a.1)], fun a => [.map shI shI a.2, .row shC 92 (outOf (recsAt l.length (l.take a.1)))], fun _ => S, fun a => Mid l a.1 a.2, fun a => l.length - a.1, ?_⟩
  refine And.intro (Exists.intro (0, []) (And.intro (And.intro (And.intro ?_ rfl) (And.intro rfl (Store.le_refl _))) (mid_zero l hf))) ?_
  · repeat' first | exact trivial | exact rfl | refine And.intro ?_ ?_
  rintro ⟨i, es⟩ hM
  have hi : i ≤ l.length := hM.le
  have i0 : (0 : Int) ≤ ((i : Nat) : Int) := Int.natCast_nonneg _
  refine And.intro (fun h => ?_) (fun h => ?_)
  · have hil : i < l.length := by
      have : ((i : Nat) : Int) < ((l.length : Nat) : Int) := of_decide_eq_true h
      omega
    obtain ⟨y, hy⟩ : ∃ y, l[i]? = some y := ⟨_, List.getElem?_eq_getElem hil⟩
    obtain ⟨b, o, hp, hok, hrd⟩ := row_at hr hy
    refine ⟨i0, by show ((i : Nat) : Int) < (l.length : Int); omega, b, o, hp, y, hok, hrd, ?_⟩
    have hdr : l.drop i = y :: l.drop (i + 1) := by
      rw [← List.getElem_cons_drop hil]
      congr 1
      rw [List.getElem?_eq_getElem hil] at hy
      exact Option.some.inj hy
    obtain ⟨_, ⟨f, hlk, hfm⟩, hop⟩ := hM
    have hlk : Jd.Links f (recsAt l.length (l.take i)) := hlk
    have hfm : Jd.formJ f ((l.drop i).map evOf) = 0 := hfm
    have hop : OpenIs es (recsAt l.length (l.take i)) := hop
    rw [hdr, form_step] at hfm
    have he : (Jd.evJ f (evOf y)).1 = 0 := by
      by_cases q : (Jd.evJ f (evOf y)).1 = 0
      · exact q
      · rw [if_pos q] at hfm; exact absurd hfm q
    rw [if_neg (fun q => q he)] at hfm
    have hst := recs_take hy l.length
    have hlk2 := Jd.links_step hlk he l.length i
    rw [← hst] at hlk2
    have hol := outOf_len l.length l i
    have hopn : ∀ r ∈ recsAt l.length (l.take i), r.ended = false → r.cl.ans = none := fun r hr ho => ((Jd.recs_ok l.length _ 0 r hr).opn ho).2
    have next : ∀ es', OpenIs es' ((recsAt l.length (l.take i)).map (Jd.hit i (evOf y)) ++ Jd.news l.length i (evOf y)) → Mid l (i + 1) es' := fun es' ho => ⟨hil, ⟨_, hlk2, hfm⟩, by rw [hst]; exact ho⟩
    have hmu : l.length - (i + 1) < l.length - i := by omega
    obtain ⟨kall, kcall, kans⟩ := evJ_pass he
    have kall : y.1 = 0 ∨ y.1 = 1 ∨ y.1 = 2 ∨ y.1 = 3 := kall
    have fin : ∀ (es' : List (Int × Int)) (out' : List shC.T), OpenIs es' ((recsAt l.length (l.take i)).map (Jd.hit i (evOf y)) ++ Jd.news l.length i (evOf y)) → outOf ((recsAt l.length (l.take i)).map (Jd.hit i (evOf y)) ++ Jd.news l.length i (evOf y)) = out' →
        [Res.map shI shI es', Res.row shC 92 out'] = [Res.map shI shI es', Res.row shC 92 (outOf (recsAt l.length (l.take (i + 1))))] := fun es' out' _ h => by rw [hst, h]
    by_cases k0 : y.1 = 0
    · have hno : ¬ ∃ r ∈ recsAt l.length (l.take i), r.ended = false ∧ r.thread = (evOf y).thread := by
        intro q
        have q1 := (hlk.1 _).2 q
        rw [kcall k0] at q1
        cases q1
      obtain ⟨ho1, ho2⟩ := open_call hop (i := i) (N := l.length) (e := evOf y) k0 hno
      have hol2 : ((outOf (recsAt l.length (l.take i))).length : Int) = (recsAt l.length (l.take i)).length := by unfold outOf; rw [List.length_map]
      refine onE (beq_iff_eq.2 k0) ⟨y.2.1, ((outOf (recsAt l.length (l.take i))).length : Int), rfl, rfl, trivial, [((i : Int), (l.length : Int), y.2.2.2.1, false, (0, 0))], ⟨rfl, rfl⟩, fun _ hz => ?_, ?_, ((i + 1 : Nat) : Int), wrap_i64 (by omega) (by omega), (i + 1, mset shI es y.2.1 ((outOf (recsAt l.length (l.take i))).length : Int)), ⟨⟨?_, rfl⟩, ?_, Store.le_refl _⟩, ?_, hmu⟩
      · exact ⟨trivial, trivial, ⟨trivial, trivial⟩, trivial, trivial, trivial⟩
      · show ((outOf (recsAt l.length (l.take i))).length + 1) * 80 ≤ 140737488355328
        have := outOf_lt l.length hil
        omega
      · repeat' first | exact trivial | exact rfl | refine And.intro ?_ ?_
      · rw [hol2]
        exact fin _ _ ho1 ho2
      · rw [hol2]
        exact next _ ho1
    refine offE (beq_eq_false_iff_ne.2 k0) ?_
    by_cases k1 : y.1 = 1
    · obtain ⟨r, hr1, hr2, hr3⟩ := (hlk.1 _).1 (kans (.inl k1))
      obtain ⟨j, hj⟩ := List.getElem?_of_mem hr1
      obtain ⟨ho1, ho2⟩ := open_answer hop hlk.2 (i := i) (N := l.length) (e := evOf y) k1 hj hr2 hr3
      have hg : mget shI es y.2.1 = some (j : Int) := (hop.2 _ _).2 ⟨j, r, rfl, hj, hr2, hr3⟩
      have hoj : (outOf (recsAt l.length (l.take i)))[j]? = some (clC r.cl) := by unfold outOf; rw [List.getElem?_map, hj]; rfl
      have hjl := (List.getElem?_eq_some_iff.1 hoj).1
      refine onE (beq_iff_eq.2 k1) ⟨y.2.1, 0, rfl, rfl, ?_⟩
      have hg2 : (mget shI (i, es).2 y.2.1).getD 0 = (j : Int) := by show (mget shI es y.2.1).getD 0 = _; rw [hg]; rfl
      rw [hg2]
      refine ⟨Int.natCast_nonneg _, by show ((j : Nat) : Int) < ((outOf (recsAt l.length (l.take i))).length : Nat); omega, ?_⟩
      have hok1 : ∀ z : shC.T, shC.ok z := fun z => ⟨trivial, trivial, ⟨trivial, trivial⟩, trivial, trivial, trivial⟩
      have hset : ∀ (xs : List shC.T) (z : shC.T), j < xs.length → (xs.set j z)[j]? = some z := fun xs z h => by rw [List.getElem?_set_self h]
      have hlen : ∀ (z : shC.T), j < ((outOf (recsAt l.length (l.take i))).set j z).length := fun z => by rw [List.length_set]; exact hjl
      have hlen2 : ∀ (z z' : shC.T), j < (((outOf (recsAt l.length (l.take i))).set j z).set j z').length := fun z z' => by rw [List.length_set]; exact hlen z
      have hend : (((outOf (recsAt l.length (l.take i))).set j ((r.cl.place : Int), (i : Int), r.cl.call, r.cl.ans.isSome, r.cl.ans.getD (0, 0))).set j ((r.cl.place : Int), (i : Int), r.cl.call, true, r.cl.ans.getD (0, 0))).set j ((r.cl.place : Int), (i : Int), r.cl.call, true, y.2.2.2.2) = (outOf (recsAt l.length (l.take i))).set j ((r.cl.place : Int), (i : Int), r.cl.call, true, (evOf y).ans) := by
        rw [List.set_set, List.set_set]; rfl
      refine ⟨or32_12, [1], oF32_12, by kernel_rfl, ?_⟩
      refine And.intro ?_ (And.intro ?_ trivial)
      · refine ⟨clC r.cl, ((r.cl.place : Int), (i : Int), r.cl.call, r.cl.ans.isSome, r.cl.ans.getD (0, 0)), hoj, hok1 _, rfl, by show 2 ≤ 7; decide, ?_⟩
        refine ⟨((r.cl.place : Int), (i : Int), r.cl.call, r.cl.ans.isSome, r.cl.ans.getD (0, 0)), ((r.cl.place : Int), (i : Int), r.cl.call, true, r.cl.ans.getD (0, 0)), hset _ _ hjl, hok1 _, rfl, by show 5 ≤ 7; decide, ?_⟩
        refine ⟨((r.cl.place : Int), (i : Int), r.cl.call, true, r.cl.ans.getD (0, 0)), ((r.cl.place : Int), (i : Int), r.cl.call, true, y.2.2.2.2), hset _ _ (hlen _), hok1 _, rfl, by show 7 ≤ 7; decide, ?_⟩
        refine ⟨y.2.1, rfl, ((i + 1 : Nat) : Int), wrap_i64 (by omega) (by omega), (i + 1, mdel shI es y.2.1), ⟨⟨?_, rfl⟩, ?_, Store.le_refl _⟩, next _ ho1, hmu⟩
        · repeat' first | exact trivial | exact rfl | refine And.intro ?_ ?_
        · refine Eq.trans ?_ (fin _ _ ho1 ho2)
          rw [← hend]
          rfl
      · refine ⟨clC r.cl, ((r.cl.place : Int), (i : Int), r.cl.call, r.cl.ans.isSome, r.cl.ans.getD (0, 0)), hoj, hok1 _, rfl, by show 2 ≤ 7; decide, ?_⟩
        refine And.intro ?_ (And.intro ?_ trivial)
        all_goals
          refine ⟨((r.cl.place : Int), (i : Int), r.cl.call, r.cl.ans.isSome, r.cl.ans.getD (0, 0)), ((r.cl.place : Int), (i : Int), r.cl.call, true, r.cl.ans.getD (0, 0)), hset _ _ hjl, hok1 _, rfl, by show 5 ≤ 7; decide, ?_⟩
          refine ⟨((r.cl.place : Int), (i : Int), r.cl.call, true, r.cl.ans.getD (0, 0)), ((r.cl.place : Int), (i : Int), r.cl.call, true, y.2.2.2.2), hset _ _ (hlen _), hok1 _, rfl, by show 7 ≤ 7; decide, ?_⟩
          refine ⟨y.2.1, rfl, ((i + 1 : Nat) : Int), wrap_i64 (by omega) (by omega), (i + 1, mdel shI es y.2.1), ⟨⟨?_, rfl⟩, ?_, Store.le_refl _⟩, next _ ho1, hmu⟩
          · repeat' first | exact trivial | exact rfl | refine And.intro ?_ ?_
          · refine Eq.trans ?_ (fin _ _ ho1 ho2)
            rw [← hend]
            rfl
    refine offE (beq_eq_false_iff_ne.2 k1) ?_
    by_cases k3 : y.1 = 3
    · refine onE (beq_iff_eq.2 k3) ?_
      intro mb clock ls hls hnd
      have hls : ls.map (·.2) = es := hls
      have hkd : (ls.map (·.2.1)).Nodup := by
        have : ls.map (·.2.1) = es.map (·.1) := by rw [← hls, List.map_map]; rfl
        rw [this]; exact hop.1
      refine ⟨[], [], List Nat, [8, 9] ++ List.range' 63 12, fun _ => [], fun s => [.ext (MapAt shI shI mb clock (rest ls s)), .row shC 92 (crashed i ls s (outOf (recsAt l.length (l.take i)))), .box (shE.cs y), .ext (IterAt mb clock s)], fun _ => S, fun s => True, fun s => (rest ls s).length, ?_⟩
      refine And.intro (Exists.intro [] (And.intro (And.intro (And.intro ?_ rfl) (And.intro ?_ (Store.le_refl _))) trivial)) ?_
      · repeat' first | exact trivial | exact rfl | refine And.intro ?_ ?_
      · have h1 : rest ls [] = ls := by unfold rest; exact List.filter_eq_self.2 fun p _ => by simp
        show [_, _, _, _] = [_, _, _, _]
        rw [h1, crashed_nil]
        rfl
      intro s _
      refine ⟨0, shI, shI, mb, clock, rest ls s, s, rfl, rfl, rfl, fun _ _ => trivial, fun hall => ?_, fun q hq hs => ?_⟩
      · obtain ⟨hr0, hall2⟩ := rest_nil hall
        obtain ⟨ho1, ho2⟩ := open_crash hop hopn hls hall2 (i := i) (N := l.length) (e := evOf y) k3
        refine onF ⟨((i + 1 : Nat) : Int), wrap_i64 (by omega) (by omega), (i + 1, []), ⟨⟨?_, rfl⟩, ?_, Store.le_refl _⟩, next _ ho1, hmu⟩
        · repeat' first | exact trivial | exact rfl | refine And.intro ?_ ?_
        · rw [hr0]
          exact fin _ _ ho1 ho2
      · obtain ⟨hq1, -⟩ := List.mem_filter.1 hq
        obtain ⟨qb, qt, qk⟩ := q
        have hmem : (qt, qk) ∈ es := by rw [← hls]; exact List.mem_map_of_mem (f := (·.2)) hq1
        obtain ⟨j, r, hqk, hj, ho, _⟩ := (hop.2 _ _).1 ((mget_some (k := shI) rfl hop.1).2 hmem)
        subst hqk
        have hoj : (outOf (recsAt l.length (l.take i)))[j]? = some (clC r.cl) := by unfold outOf; rw [List.getElem?_map, hj]; rfl
        have hjl := (List.getElem?_eq_some_iff.1 hoj).1
        have hcj := crashed_at (i := i) (l := ls) (s := s) hoj
        generalize (if touched ls s j = true then overC i (clC r.cl) else clC r.cl) = z at hcj
        refine onT ⟨0, shI, shI, mb, clock, rest ls s, s, (qb, qt, (j : Int)), rfl, rfl, hq, trivial, Int.natCast_nonneg _, ?_, z, overC i z, hcj, ⟨trivial, trivial, ⟨trivial, trivial⟩, trivial, trivial, trivial⟩, rfl, by show 2 ≤ 7; decide, ?_⟩
        · rw [crashed_length]
          show ((j : Nat) : Int) < (((outOf (recsAt l.length (l.take i))).length : Nat) : Int)
          omega
        refine ⟨shI, shI, mb, clock, rest ls s, qt, rfl, ⟨rfl, rfl⟩, rfl, s ++ [qb], ⟨⟨?_, rfl⟩, ?_, Store.le_refl _⟩, trivial, rest_less hq⟩
        · repeat' first | exact trivial | exact rfl | refine And.intro ?_ ?_
        · have h1 := rest_step hnd hkd hq1 hs
          have h2 := crashed_step (i := i) hnd hq1 (j := j) rfl hcj
          have h1 : mdelB shI (rest ls s) qt = rest ls (s ++ [qb]) := h1
          have h2 : (crashed i ls s (outOf (recsAt l.length (l.take i)))).set j (overC i z) = crashed i ls (s ++ [qb]) (outOf (recsAt l.length (l.take i))) := h2
          show [Res.ext (MapAt shI shI mb clock (mdelB shI (rest ls s) qt)), Res.row shC 92 ((crashed i ls s (outOf (recsAt l.length (l.take i)))).set j (overC i z)), _, _] = _
          rw [h1, h2]
    refine offE (beq_eq_false_iff_ne.2 k3) ?_
    have k2 : y.1 = 2 := by
      rcases kall with h | h | h | h
      · exact absurd h k0
      · exact absurd h k1
      · exact h
      · exact absurd h k3
    obtain ⟨ho1, ho2⟩ := open_commit hop (i := i) (N := l.length) (e := evOf y) k2
    refine ⟨((i + 1 : Nat) : Int), wrap_i64 (by omega) (by omega), (i + 1, es), ⟨⟨?_, rfl⟩, fin _ _ ho1 ho2, Store.le_refl _⟩, next _ ho1, hmu⟩
    repeat' first | exact trivial | exact rfl | refine And.intro ?_ ?_
  · have hil : i = l.length := by
      have : ¬ ((i : Nat) : Int) < ((l.length : Nat) : Int) := of_decide_eq_false h
      omega
    subst hil
    intro p c S' hle hrd hpf
    have htk : List.take l.length l = l := List.take_length
    have hM2 : recsAt l.length (List.take l.length l) = recsAt l.length l := by rw [htk]
    refine ⟨rfl, (p, (outOf (recsAt l.length (List.take l.length l))).length, c), rfl, ?_, ?_, ?_⟩
    · show (outOf (recsAt l.length (List.take l.length l))).length = _
      rw [hM2]; rfl
    · rcases hpf.1 with ⟨_, h1, h2⟩ | ⟨g, _, h2⟩
      · show (outOf (recsAt l.length (List.take l.length l))).length ≤ c
        exact Nat.le_of_eq (h1.trans h2.symm)
      · exact h2
    · have hrd : RowRd S' p shC (outOf (recsAt l.length (List.take l.length l))) := hrd
      rw [hM2] at hrd; exact hrd
end Go.Proofs.YtpfghndflegbaaaDoor
