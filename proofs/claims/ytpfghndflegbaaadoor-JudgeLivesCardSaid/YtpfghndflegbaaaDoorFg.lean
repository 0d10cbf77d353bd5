/- law58: the judge's event. -/
import Derived.Test.YtpfghndflegbaaaDoorFf
import Derived.Test.YtpfghndflegbaaaDoorPi
namespace Go.Proofs.YtpfghndflegbaaaDoor
open Go Go.Vc
set_option maxRecDepth 100000

/-! Maps that turn while they are gone through. -/
theorem mget_map {k : Shape} {V U : Type} (f : V → U) : ∀ (es : List (k.T × V)) (y : k.T), mget k (es.map fun q => (q.1, f q.2)) y = (mget k es y).map f
  | [], _ => rfl
  | q :: es, y => by
    simp only [List.map_cons, mget]
    split
    · rfl
    · exact mget_map f es y
theorem msetB_once {k : Shape} (hk : k.keyed = true) {V : Type} : ∀ {l : List (Nat × k.T × V)} (_ : (l.map (·.1)).Nodup) (_ : (l.map (·.2.1)).Nodup) {p : Nat × k.T × V} (_ : p ∈ l) (v : V),
    msetB k l p.2.1 v = l.map (fun q => if q.1 = p.1 then (q.1, q.2.1, v) else q)
  | [], _, _, _, h, _ => by cases h
  | q :: l, h1, h2, p, h, v => by
    simp only [List.map_cons, List.nodup_cons] at h1 h2
    simp only [msetB, List.map_cons]
    by_cases e : k.eq p.2.1 q.2.1 = true
    · have e' := (key_eq hk _ _).1 e
      rw [if_pos e]
      have hpq : p = q := by
        rcases List.mem_cons.1 h with h | h
        · exact h
        · exact absurd (e' ▸ List.mem_map_of_mem (f := (·.2.1)) h) h2.1
      subst hpq
      rw [if_pos rfl]
      congr 1
      have : ∀ z ∈ l, (if z.1 = p.1 then (z.1, z.2.1, v) else z) = z := by
        intro z hz
        rw [if_neg]
        intro e2
        exact h1.1 (e2 ▸ List.mem_map_of_mem (f := (·.1)) hz)
      rw [List.map_congr_left this, List.map_id']
    · rw [if_neg e]
      have hp : p ∈ l := by
        rcases List.mem_cons.1 h with h | h
        · subst h; exact absurd ((key_eq hk _ _).2 rfl) e
        · exact h
      rw [msetB_once hk h1.2 h2.2 hp v]
      congr 1
      rw [if_neg]
      intro e2
      exact h1.1 (e2 ▸ List.mem_map_of_mem (f := (·.1)) hp)

/-- A thread's state: open, committed, last. -/
@[reducible] def shTh : Shape := .st (.pair .bool (.pair .bool (.int .i64)))
abbrev Ths := List (Int × Bool × Bool × Int)
def thOf (v : Bool × Bool × Int) : Jd.Th := ⟨v.1, v.2.1, v.2.2⟩
def fOf (es : Ths) (t : Int) : Jd.Th := thOf ((mget shI es t).getD (false, false, 0))
/-- An event as data. -/
abbrev Cd := ByteArray × Hd
abbrev Ad := Int × Int
def evOf (x : shE.T) : Jd.Ev Cd Ad := ⟨x.1, x.2.1, x.2.2.1, x.2.2.2.1, x.2.2.2.2⟩

def crashV (v : Bool × Bool × Int) : Bool × Bool × Int := (false, false, v.2.2)
def crashL (l : List (Nat × Int × Bool × Bool × Int)) (seen : List Nat) : List (Nat × Int × Bool × Bool × Int) := l.map fun p => if p.1 ∈ seen then (p.1, p.2.1, crashV p.2.2) else p
theorem crash_births (l seen) : (crashL l seen).map (·.1) = l.map (·.1) := by
  unfold crashL
  rw [List.map_map]
  refine List.map_congr_left fun p _ => ?_
  simp only [Function.comp]; split <;> rfl
theorem crash_keys (l seen) : (crashL l seen).map (·.2.1) = l.map (·.2.1) := by
  unfold crashL
  rw [List.map_map]
  refine List.map_congr_left fun p _ => ?_
  simp only [Function.comp]; split <;> rfl
theorem crash_step {l : List (Nat × Int × Bool × Bool × Int)} {seen : List Nat} (h1 : (l.map (·.1)).Nodup) (h2 : (l.map (·.2.1)).Nodup) {p : Nat × Int × Bool × Bool × Int} (hp : p ∈ crashL l seen) (hs : p.1 ∉ seen) :
    msetB shI (crashL l seen) p.2.1 (crashV p.2.2) = crashL l (seen ++ [p.1]) := by
  rw [msetB_once (k := shI) rfl (by rw [crash_births]; exact h1) (by rw [crash_keys]; exact h2) hp]
  unfold crashL at hp ⊢
  obtain ⟨z, hz, hzp⟩ := List.mem_map.1 hp
  have hzs : z = p := by
    by_cases e : z.1 ∈ seen
    · rw [if_pos e] at hzp; subst hzp; exact absurd e hs
    · rw [if_neg e] at hzp; exact hzp
  subst hzs
  rw [List.map_map]
  refine List.map_congr_left fun q hq => ?_
  simp only [Function.comp, List.mem_append, List.mem_singleton]
  by_cases e : q.1 ∈ seen
  · have hne : q.1 ≠ z.1 := fun e2 => hs (e2 ▸ e)
    rw [if_pos e, if_neg hne, if_pos (.inl e)]
  · rw [if_neg e]
    by_cases e2 : q.1 = z.1
    · rw [if_pos e2, if_pos (.inr e2)]
      have : q = z := by
        rw [List.nodup_iff_pairwise_ne, List.pairwise_map] at h1
        have hinj : ∀ (m : List (Nat × Int × Bool × Bool × Int)) (q z : Nat × Int × Bool × Bool × Int), m.Pairwise (fun a b => a.1 ≠ b.1) → q ∈ m → z ∈ m → q.1 = z.1 → q = z := by
          intro m q z hm
          induction hm with
          | nil => intro h; cases h
          | cons ha _ ih =>
            intro hq hz he
            rcases List.mem_cons.1 hq with hq | hq <;> rcases List.mem_cons.1 hz with hz | hz
            · rw [hq, hz]
            · rw [hq] at he; exact absurd he (ha _ hz)
            · rw [hz] at he; exact absurd he.symm (ha _ hq)
            · exact ih hq hz he
        exact hinj l q z h1 hq hz e2
      rw [this]
    · rw [if_neg e2, if_neg]
      rintro (h | h)
      · exact e h
      · exact e2 h
theorem crash_all {l : List (Nat × Int × Bool × Bool × Int)} {seen : List Nat} (h : ∀ p ∈ crashL l seen, p.1 ∈ seen) : (crashL l seen).map (·.2) = (l.map (·.2)).map fun q => (q.1, crashV q.2) := by
  unfold crashL at h ⊢
  rw [List.map_map, List.map_map]
  refine List.map_congr_left fun p hp => ?_
  simp only [Function.comp]
  have := h _ (List.mem_map_of_mem hp)
  by_cases e : p.1 ∈ seen
  · rw [if_pos e]
  · rw [if_neg e] at this; exact absurd this e

theorem left_less {l : List (Nat × Int × Bool × Bool × Int)} {s : List Nat} {p : Nat × Int × Bool × Bool × Int} (hp : p ∈ crashL l s) (hs : p.1 ∉ s) :
    (l.filter fun q => decide (q.1 ∉ s ++ [p.1])).length < (l.filter fun q => decide (q.1 ∉ s)).length := by
  have hb : p.1 ∈ l.map (·.1) := by rw [← crash_births l s]; exact List.mem_map_of_mem (f := (·.1)) hp
  obtain ⟨z, hz, hzp⟩ := List.mem_map.1 hb
  have h1 : (l.filter fun q => decide (q.1 ∉ s ++ [p.1])) = (l.filter fun q => decide (q.1 ∉ s)).filter fun q => decide (q.1 ≠ p.1) := by
    rw [List.filter_filter]
    congr 1
    funext q
    simp [Bool.and_comm]
  rw [h1]
  have hzf : z ∈ l.filter fun q => decide (q.1 ∉ s) := List.mem_filter.2 ⟨hz, by simpa [hzp] using hs⟩
  exact List.length_filter_lt_length_iff_exists.2 ⟨z, hzf, by simp [hzp]⟩

theorem f_crash (es : Ths) : fOf (es.map fun q => (q.1, crashV q.2)) = fun t => ⟨false, false, (fOf es t).last⟩ := by
  funext t
  unfold fOf
  rw [mget_map (k := shI) crashV es t]
  cases mget shI es t <;> rfl
theorem f_set (es : Ths) (t : Int) (v : Bool × Bool × Int) : fOf (mset shI es t v) = Jd.upd (fOf es) t (thOf v) := by
  funext s
  unfold fOf Jd.upd
  rw [mget_mset (k := shI) rfl]
  by_cases e : s = t
  · have : shI.eq s t = true := by subst e; exact (key_eq (k := shI) rfl _ _).2 rfl
    rw [if_pos this, if_pos e]; rfl
  · have : ¬ shI.eq s t = true := fun h => e ((key_eq (k := shI) rfl _ _).1 h)
    rw [if_neg this, if_neg e]

theorem evJ_at (f : Int → Jd.Th) (kd th nu : Int) (c : Cd) (a : Ad) : Jd.evJ f (evOf (kd, th, nu, c, a)) =
    if kd < 0 ∨ kd > 3 then (2, f) else if kd = 3 then (0, fun t => ⟨false, false, (f t).last⟩) else if th < 1 ∨ th > 8 then (3, f)
      else if (f th).op = decide (kd = 0) then (13, f) else if kd = 0 ∧ nu ≤ (f th).last then (12, f) else if kd ≠ 0 ∧ nu ≠ (f th).last then (14, f) else if kd = 2 ∧ (f th).com = true then (11, f)
      else if kd = 0 then (0, Jd.upd f th ⟨true, false, nu⟩) else if kd = 1 then (0, Jd.upd f th ⟨false, (f th).com, (f th).last⟩) else (0, Jd.upd f th ⟨(f th).op, true, (f th).last⟩) := rfl
theorem bad {e : Int} {es es' : Ths} {f g : Int → Jd.Th} (he : e ≠ 0) : e = (e, f).1 ∧ ((e, es).1 = 0 → keysOnce (k := shI) es' ∧ fOf es' = g) := ⟨rfl, fun h => absurd h he⟩
theorem event_at (S : Store) (es : Ths) (hes : keysOnce (k := shI) es) (kd th nu : Int) (c : Cd) (a : Ad) :
    SpecR Tryd.prog 28 S [.map shI shTh es] [.c (.ref 0), shE.sv (kd, th, nu, c, a)] (A := Int × Ths) (fun q => rI q.1) (fun q => [.map shI shTh q.2])
      (fun _ q => q.1 = (Jd.evJ (fOf es) (evOf (kd, th, nu, c, a))).1 ∧ (q.1 = 0 → keysOnce (k := shI) q.2 ∧ fOf q.2 = (Jd.evJ (fOf es) (evOf (kd, th, nu, c, a))).2)) := by
  rw [evJ_at]
  refine specR_of_vc agrees Tryd.func28 rfl (fun S S' q hle h => h) ?_
  obtain ⟨nm, ah⟩ := c
  obtain ⟨av, ae⟩ := a
  have kk0 : shI.keyed = true := rfl
  by_cases c1 : kd < 0 ∨ kd > 3
  · rw [if_pos c1]
    by_cases c0 : kd < 0
    · exact onE (decide_eq_true c0) (onT ⟨rfl, (2, es), rfl, rfl, rfl, rfl, fun h => absurd h (fun e => by cases e)⟩)
    · exact offE (decide_eq_false c0) (onE (decide_eq_true (show kd > 3 by omega)) ⟨rfl, (2, es), rfl, rfl, rfl, rfl, fun h => absurd h (fun e => by cases e)⟩)
  have c1' : ¬ kd < 0 := fun h => c1 (.inl h)
  have c1'' : ¬ kd > 3 := fun h => c1 (.inr h)
  refine offE (decide_eq_false c1') (offE (decide_eq_false c1'') ?_)
  by_cases c2 : kd = 3
  · refine onE (beq_iff_eq.2 c2) ?_
    intro mb clock l hl hnd
    have hkd : (l.map (·.2.1)).Nodup := by
      have : l.map (·.2.1) = es.map (·.1) := by rw [← hl, List.map_map]; rfl
      rw [this]; exact hes
    rw [if_neg c1, if_pos c2]
    refine ⟨[], [], List Nat, [5, 6] ++ List.range' 23 10, fun _ => [], fun s => [.ext (MapAt shI shTh mb clock (crashL l s)), .box (shE.cs (kd, th, nu, (nm, ah), av, ae)), .ext (IterAt mb clock s)], fun _ => S, fun s => True, fun s => (l.filter fun p => decide (p.1 ∉ s)).length, ?_⟩
    refine And.intro (Exists.intro [] (And.intro (And.intro (And.intro ?_ rfl) (And.intro ?_ (Store.le_refl _))) trivial)) ?_
    · repeat' first | exact trivial | exact rfl | refine And.intro ?_ ?_
    · have : crashL l [] = l := by unfold crashL; simp
      show [_, _, _] = [_, _, _]
      rw [this]
      rfl
    intro s _
    refine ⟨0, shI, shTh, mb, clock, crashL l s, s, rfl, rfl, rfl, fun _ _ => trivial, fun hall => ?_, fun p hp hs => ?_⟩
    · refine onF ⟨rfl, (0, (crashL l s).map (·.2)), rfl, rfl, rfl, rfl, fun _ => ?_⟩
      · rw [crash_all hall, hl]
        refine ⟨?_, f_crash es⟩
        show ((es.map fun q => (q.1, crashV q.2)).map (·.1)).Nodup
        rw [List.map_map]
        exact hes
    · refine onT ⟨0, shI, shTh, mb, clock, crashL l s, s, p, rfl, rfl, hp, trivial, ?_⟩
      refine ⟨shI, shTh, mb, clock, crashL l s, p.2.1, crashV p.2.2, rfl, ⟨rfl, rfl⟩, rfl, rfl, ⟨trivial, trivial, trivial⟩, ?_, ?_⟩
      · rw [Option.isSome_iff_ne_none]
        intro e
        have := (mget_none (k := shI) rfl).1 e
        exact this (List.mem_map.2 ⟨p.2, List.mem_map_of_mem hp, rfl⟩)
      · rw [crash_step hnd hkd hp hs]
        refine ⟨s ++ [p.1], ⟨⟨?_, rfl⟩, rfl, Store.le_refl _⟩, trivial, left_less hp hs⟩
        repeat' first | exact trivial | exact rfl | refine And.intro ?_ ?_
  refine offE (beq_eq_false_iff_ne.2 c2) ?_
  by_cases c3 : th < 1 ∨ th > 8
  · rw [if_neg c1, if_neg c2, if_pos c3]
    by_cases c0 : th < 1
    · exact onE (decide_eq_true c0) (onT ⟨rfl, (3, es), rfl, rfl, rfl, rfl, fun h => absurd h (fun e => by cases e)⟩)
    · exact offE (decide_eq_false c0) (onE (decide_eq_true (show th > 8 by omega)) ⟨rfl, (3, es), rfl, rfl, rfl, rfl, fun h => absurd h (fun e => by cases e)⟩)
  have c3' : ¬ th < 1 := fun h => c3 (.inl h)
  have c3'' : ¬ th > 8 := fun h => c3 (.inr h)
  refine offE (decide_eq_false c3') (offE (decide_eq_false c3'') ?_)
  rw [if_neg c1, if_neg c2, if_neg c3]
  have hf : fOf es th = thOf ((mget shI es th).getD (false, false, 0)) := rfl
  refine ⟨th, (false, false, 0), rfl, rfl, ?_⟩
  generalize (mget shI es th).getD (false, false, 0) = v at hf
  obtain ⟨o, cm, la⟩ := v
  rw [hf]
  by_cases c4 : o = decide (kd = 0)
  · rw [if_pos (show (thOf (o, cm, la)).op = decide (kd = 0) from c4)]
    refine onE (beq_iff_eq.2 (c4.trans (by by_cases h : kd = 0 <;> simp [h]))) ⟨rfl, (13, es), rfl, rfl, rfl, rfl, fun h => absurd h (fun e => by cases e)⟩
  rw [if_neg (show ¬ (thOf (o, cm, la)).op = decide (kd = 0) from c4)]
  refine offE (beq_eq_false_iff_ne.2 fun e => c4 (e.trans (by by_cases h : kd = 0 <;> simp [h]))) ?_
  have fin : ∀ v : Bool × Bool × Int, (0 : Int) = (0, Jd.upd (fOf es) th (thOf v)).1 ∧ ((0 : Int) = 0 → keysOnce (k := shI) (mset shI es th v) ∧ fOf (mset shI es th v) = (0, Jd.upd (fOf es) th (thOf v)).2) :=
    fun v => ⟨rfl, fun _ => ⟨once_mset (k := shI) rfl hes th v, f_set es th v⟩⟩
  by_cases c5 : kd = 0
  · refine onE (beq_iff_eq.2 c5) ?_
    by_cases c6 : nu ≤ la
    · rw [if_pos (show kd = 0 ∧ nu ≤ (thOf (o, cm, la)).last from ⟨c5, c6⟩)]
      exact onE (decide_eq_true c6) ⟨rfl, (12, es), rfl, rfl, rfl, rfl, fun h => absurd h (fun e => by cases e)⟩
    · rw [if_neg (show ¬ (kd = 0 ∧ nu ≤ (thOf (o, cm, la)).last) from fun e => c6 e.2), if_neg (fun e => e.1 c5), if_neg (fun e => by omega), if_pos c5]
      refine offE (decide_eq_false c6) (offE (bne_eq_false_iff_eq.2 c5) (onF (offE (beq_eq_false_iff_ne.2 (show kd ≠ 2 by omega)) (onF (onE (beq_iff_eq.2 c5) ?_)))))
      exact ⟨th, (true, false, nu), rfl, rfl, ⟨trivial, trivial, trivial⟩, rfl, (0, mset shI es th (true, false, nu)), rfl, rfl, rfl, fin (true, false, nu)⟩
  · refine offE (beq_eq_false_iff_ne.2 c5) (onF (onE (bne_iff_ne.2 c5) ?_))
    rw [if_neg (fun e => c5 e.1)]
    by_cases c6 : nu ≠ la
    · rw [if_pos (show kd ≠ 0 ∧ nu ≠ (thOf (o, cm, la)).last from ⟨c5, c6⟩)]
      exact onE (bne_iff_ne.2 c6) ⟨rfl, (14, es), rfl, rfl, rfl, rfl, fun h => absurd h (fun e => by cases e)⟩
    rw [if_neg (show ¬ (kd ≠ 0 ∧ nu ≠ (thOf (o, cm, la)).last) from fun e => c6 e.2)]
    refine offE (bne_eq_false_iff_eq.2 (Decidable.not_not.1 c6)) ?_
    by_cases c7 : kd = 2
    · refine onE (beq_iff_eq.2 c7) ?_
      cases cm with
      | true =>
        rw [if_pos (show kd = 2 ∧ (thOf (o, true, la)).com = true from ⟨c7, rfl⟩)]
        exact onT ⟨rfl, (11, es), rfl, rfl, rfl, rfl, fun h => absurd h (fun e => by cases e)⟩
      | false =>
        rw [if_neg (show ¬ (kd = 2 ∧ (thOf (o, false, la)).com = true) from fun e => by cases e.2), if_neg c5, if_neg (show ¬ kd = 1 by omega)]
        refine onF (offE (beq_eq_false_iff_ne.2 c5) (offE (beq_eq_false_iff_ne.2 (show kd ≠ 1 by omega)) (onE (beq_iff_eq.2 c7) ?_)))
        exact ⟨th, (o, true, la), rfl, rfl, ⟨trivial, trivial, trivial⟩, rfl, (0, mset shI es th (o, true, la)), rfl, rfl, rfl, fin (o, true, la)⟩
    · have c8 : kd = 1 := by omega
      rw [if_neg (fun e => c7 e.1), if_neg c5, if_pos c8]
      refine offE (beq_eq_false_iff_ne.2 c7) (onF (offE (beq_eq_false_iff_ne.2 c5) (onE (beq_iff_eq.2 c8) ?_)))
      exact ⟨th, (false, cm, la), rfl, rfl, ⟨trivial, trivial, trivial⟩, rfl, (0, mset shI es th (false, cm, la)), rfl, rfl, rfl, fin (false, cm, la)⟩
theorem event_spec (S : Store) (es : Ths) (hes : keysOnce (k := shI) es) (x : shE.T) :
    SpecR Tryd.prog 28 S [.map shI shTh es] [.c (.ref 0), shE.sv x] (A := Int × Ths) (fun q => rI q.1) (fun q => [.map shI shTh q.2])
      (fun _ q => q.1 = (Jd.evJ (fOf es) (evOf x)).1 ∧ (q.1 = 0 → keysOnce (k := shI) q.2 ∧ fOf q.2 = (Jd.evJ (fOf es) (evOf x)).2)) := by
  obtain ⟨kd, th, nu, c, a⟩ := x
  exact event_at S es hes kd th nu c a
end Go.Proofs.YtpfghndflegbaaaDoor
