/- law58: plain laws of the judge's list of calls. -/
import Derived.Test.YtpfghndflegbaaaDoorFh
namespace Go.Proofs.YtpfghndflegbaaaDoor
open Go Go.Vc
set_option maxRecDepth 100000

/-- A call as the judge keeps it: place, over, call, answered, answer. -/
@[reducible] def shC : Shape := .st (.pair (.int .i64) (.pair (.int .i64) (.pair (.st (.pair .str .slice)) (.pair .bool (.st (.pair (.int .i64) (.int .i64)))))))
def clC (c : Jd.Cl Cd Ad) : shC.T := ((c.place : Int), (c.over : Int), c.call, c.ans.isSome, c.ans.getD (0, 0))
abbrev Recs := List (Jd.Rc Cd Ad)
def outOf (rs : Recs) : List shC.T := rs.map fun r => clC r.cl
/-- The map of the open calls says the same as the calls. -/
def OpenIs (es : List (Int × Int)) (rs : Recs) : Prop := keysOnce (k := shI) es ∧ ∀ (t : Int) (k : Int), mget shI es t = some k ↔ ∃ (j : Nat) (r : Jd.Rc Cd Ad), k = (j : Int) ∧ rs[j]? = some r ∧ r.ended = false ∧ r.thread = t
theorem open_nil : OpenIs [] ([] : Recs) := ⟨List.nodup_nil, fun t k => ⟨(fun h => by cases h), fun ⟨j, r, _, h, _⟩ => by simp at h⟩⟩

theorem mget_mdel {k : Shape} (hk : k.keyed = true) {V : Type} : ∀ {es : List (k.T × V)} (_ : keysOnce es) (y x : k.T), mget k (mdel k es y) x = if k.eq x y = true then none else mget k es x
  | [], _, y, x => by simp [mdel, mget]
  | q :: es, h, y, x => by
    unfold keysOnce at h
    simp only [List.map_cons, List.nodup_cons] at h
    simp only [mdel]
    by_cases e : k.eq y q.1 = true
    · rw [if_pos e]
      have e' := (key_eq hk _ _).1 e
      subst e'
      by_cases e2 : k.eq x q.1 = true
      · rw [if_pos e2]
        have e2' := (key_eq hk _ _).1 e2
        subst e2'
        exact (mget_none hk).2 h.1
      · rw [if_neg e2]
        simp only [mget, if_neg e2]
    · rw [if_neg e]
      simp only [mget]
      by_cases e2 : k.eq x q.1 = true
      · have e2' := (key_eq hk _ _).1 e2
        subst e2'
        rw [if_pos e2, if_pos e2, if_neg]
        intro e3
        have := (key_eq hk _ _).1 e3
        exact e (by rw [this]; exact (key_eq hk _ _).2 rfl)
      · rw [if_neg e2, if_neg e2]
        exact mget_mdel hk (es := es) h.2 y x
theorem once_mdel {k : Shape} {V : Type} : ∀ {es : List (k.T × V)} (_ : keysOnce es) (y : k.T), keysOnce (mdel k es y)
  | [], _, _ => List.nodup_nil
  | q :: es, h, y => by
    unfold keysOnce at h ⊢
    simp only [List.map_cons, List.nodup_cons] at h
    simp only [mdel]
    split
    · exact h.2
    · simp only [List.map_cons, List.nodup_cons]
      refine ⟨fun hm => h.1 ?_, once_mdel (es := es) h.2 y⟩
      have hsub : ∀ (es : List (k.T × V)), ∀ z ∈ (mdel k es y).map (·.1), z ∈ es.map (·.1) := by
        intro es
        induction es with
        | nil => intro z hz; cases hz
        | cons a es ih =>
          intro z hz
          simp only [mdel] at hz
          split at hz
          · exact List.mem_cons_of_mem _ hz
          · rcases List.mem_cons.1 hz with hz | hz
            · rw [hz]; exact List.mem_cons_self
            · exact List.mem_cons_of_mem _ (ih z hz)
      exact hsub es _ hm

/-- A call event. -/
theorem open_call {es : List (Int × Int)} {rs : Recs} (h : OpenIs es rs) {i : Nat} {e : Jd.Ev Cd Ad} {N : Nat} (hk : e.kind = 0) (hno : ¬ ∃ r ∈ rs, r.ended = false ∧ r.thread = e.thread) :
    OpenIs (mset shI es e.thread (rs.length : Int)) (rs.map (Jd.hit i e) ++ Jd.news N i e) ∧ outOf (rs.map (Jd.hit i e) ++ Jd.news N i e) = outOf rs ++ [((i : Int), (N : Int), e.call, false, (0, 0))] := by
  have hhit : rs.map (Jd.hit i e) = rs := by
    have : ∀ r ∈ rs, Jd.hit i e r = r := by
      intro r _
      unfold Jd.hit
      rw [if_neg]
      rintro ⟨_, h⟩
      simp [Jd.ends, hk] at h
    rw [List.map_congr_left this, List.map_id']
  have hn : Jd.news N i e = [⟨e.thread, false, ⟨i, N, e.call, none⟩⟩] := if_pos hk
  rw [hhit, hn]
  refine ⟨⟨once_mset (k := shI) rfl h.1 _ _, fun t k => ?_⟩, by unfold outOf; rw [List.map_append]; rfl⟩
  rw [mget_mset (k := shI) rfl]
  by_cases ht : t = e.thread
  · have : shI.eq t e.thread = true := by rw [ht]; exact (key_eq (k := shI) rfl _ _).2 rfl
    rw [if_pos this]
    constructor
    · intro hk'
      obtain rfl := Option.some.inj hk'
      exact ⟨rs.length, _, rfl, by rw [List.getElem?_append_right (Nat.le_refl _), Nat.sub_self]; rfl, rfl, ht.symm⟩
    · rintro ⟨j, r, rfl, hj, ho, hrt⟩
      by_cases hlt : j < rs.length
      · rw [List.getElem?_append_left hlt] at hj
        exact absurd ⟨r, List.mem_of_getElem? hj, ho, hrt.trans ht⟩ hno
      · have : j = rs.length := by
          have := (List.getElem?_eq_some_iff.1 hj).1
          simp at this
          omega
        rw [this]
  · have : ¬ shI.eq t e.thread = true := fun q => ht ((key_eq (k := shI) rfl _ _).1 q)
    rw [if_neg this, h.2 t k]
    constructor
    · rintro ⟨j, r, rfl, hj, q⟩
      exact ⟨j, r, rfl, by rw [List.getElem?_append_left (List.getElem?_eq_some_iff.1 hj).1]; exact hj, q⟩
    · rintro ⟨j, r, rfl, hj, ho, hrt⟩
      by_cases hlt : j < rs.length
      · rw [List.getElem?_append_left hlt] at hj
        exact ⟨j, r, rfl, hj, ho, hrt⟩
      · rw [List.getElem?_append_right (by omega)] at hj
        have hz : j - rs.length = 0 := by
          have := (List.getElem?_eq_some_iff.1 hj).1
          simp only [List.length_cons, List.length_nil] at this
          omega
        rw [hz] at hj
        have := Option.some.inj hj
        subst this
        exact absurd hrt.symm ht

/-- An answer. -/
theorem open_answer {es : List (Int × Int)} {rs : Recs} (h : OpenIs es rs) (hinj : ∀ (i j : Nat) (r s : Jd.Rc Cd Ad), rs[i]? = some r → rs[j]? = some s → r.ended = false → s.ended = false → r.thread = s.thread → i = j)
    {i : Nat} {e : Jd.Ev Cd Ad} {N : Nat} (hk : e.kind = 1) {j : Nat} {r : Jd.Rc Cd Ad} (hj : rs[j]? = some r) (ho : r.ended = false) (ht : r.thread = e.thread) :
    OpenIs (mdel shI es e.thread) (rs.map (Jd.hit i e) ++ Jd.news N i e) ∧ outOf (rs.map (Jd.hit i e) ++ Jd.news N i e) = (outOf rs).set j ((r.cl.place : Int), (i : Int), r.cl.call, true, e.ans) := by
  have hn : Jd.news N i e = [] := if_neg (by omega)
  rw [hn, List.append_nil]
  have hends : ∀ t, Jd.ends e t = decide (e.thread = t) := fun t => by simp [Jd.ends, hk]
  constructor
  · refine ⟨once_mdel h.1 _, fun t k => ?_⟩
    rw [mget_mdel (k := shI) rfl h.1]
    by_cases e1 : t = e.thread
    · have : shI.eq t e.thread = true := by rw [e1]; exact (key_eq (k := shI) rfl _ _).2 rfl
      rw [if_pos this]
      refine ⟨(fun q => by cases q), ?_⟩
      rintro ⟨m, s, rfl, hm, hso, hst⟩
      rw [List.getElem?_map, Option.map_eq_some_iff] at hm
      obtain ⟨s, hm, rfl⟩ := hm
      obtain ⟨_, q⟩ := Jd.hit_open.1 hso
      rw [Jd.hit_thread] at hst
      rw [hends, hst, e1] at q
      simp at q
    · have : ¬ shI.eq t e.thread = true := fun q => e1 ((key_eq (k := shI) rfl _ _).1 q)
      rw [if_neg this, h.2 t k]
      constructor
      · rintro ⟨m, s, rfl, hm, hso, hst⟩
        refine ⟨m, Jd.hit i e s, rfl, by rw [List.getElem?_map, hm]; rfl, Jd.hit_open.2 ⟨hso, ?_⟩, by rw [Jd.hit_thread]; exact hst⟩
        rw [hends, hst]
        exact decide_eq_false fun q => e1 q.symm
      · rintro ⟨m, s, rfl, hm, hso, hst⟩
        rw [List.getElem?_map, Option.map_eq_some_iff] at hm
        obtain ⟨s, hm, rfl⟩ := hm
        rw [Jd.hit_thread] at hst
        exact ⟨m, s, rfl, hm, (Jd.hit_open.1 hso).1, hst⟩
  · apply List.ext_getElem?
    intro m
    unfold outOf
    rw [List.map_map, List.getElem?_map, List.getElem?_set, List.getElem?_map, List.length_map]
    by_cases e1 : j = m
    · subst e1
      rw [if_pos rfl, if_pos (List.getElem?_eq_some_iff.1 hj).1, hj]
      show some (clC (Jd.hit i e r).cl) = _
      unfold Jd.hit
      rw [if_pos ⟨ho, by rw [hends, ht]; simp⟩]
      simp [clC, Jd.told, hk]
    · rw [if_neg e1]
      cases hm : rs[m]? with
      | none => rfl
      | some s =>
        show some (clC (Jd.hit i e s).cl) = some (clC s.cl)
        have : Jd.hit i e s = s := by
          unfold Jd.hit
          rw [if_neg]
          rintro ⟨q1, q2⟩
          rw [hends] at q2
          exact e1 (hinj j m r s hj hm ho q1 (ht.trans (of_decide_eq_true q2)))
        rw [this]

/-- A commit. -/
theorem open_commit {es : List (Int × Int)} {rs : Recs} (h : OpenIs es rs) {i : Nat} {e : Jd.Ev Cd Ad} {N : Nat} (hk : e.kind = 2) : OpenIs es (rs.map (Jd.hit i e) ++ Jd.news N i e) ∧ outOf (rs.map (Jd.hit i e) ++ Jd.news N i e) = outOf rs := by
  have hn : Jd.news N i e = [] := if_neg (by omega)
  have hhit : rs.map (Jd.hit i e) = rs := by
    have : ∀ r ∈ rs, Jd.hit i e r = r := by
      intro r _
      unfold Jd.hit
      rw [if_neg]
      rintro ⟨_, h⟩
      simp [Jd.ends, hk] at h
    rw [List.map_congr_left this, List.map_id']
  rw [hn, hhit, List.append_nil]
  exact ⟨h, rfl⟩

/-- The calls that a crash has ended so far. -/
def overC (i : Nat) (c : shC.T) : shC.T := (c.1, (i : Int), c.2.2)
def touched (l : List (Nat × Int × Int)) (s : List Nat) (j : Nat) : Bool := l.any fun p => decide (p.1 ∈ s) && decide (p.2.2 = (j : Int))
def crashed (i : Nat) (l : List (Nat × Int × Int)) (s : List Nat) (out : List shC.T) : List shC.T := out.mapIdx fun j c => if touched l s j = true then overC i c else c
def rest (l : List (Nat × Int × Int)) (s : List Nat) : List (Nat × Int × Int) := l.filter fun p => decide (p.1 ∉ s)
theorem crashed_nil (i l out) : crashed i l [] out = out := by
  unfold crashed
  apply List.ext_getElem?
  intro j
  rw [List.getElem?_mapIdx]
  have : touched l [] j = false := by unfold touched; simp
  rw [this]
  cases out[j]? <;> rfl
theorem crashed_length (i l s out) : (crashed i l s out).length = out.length := by unfold crashed; exact List.length_mapIdx
theorem crashed_at {i l s} {out : List shC.T} {j : Nat} {c : shC.T} (h : out[j]? = some c) : (crashed i l s out)[j]? = some (if touched l s j = true then overC i c else c) := by
  unfold crashed
  rw [List.getElem?_mapIdx, h]; rfl
theorem over_over (i : Nat) (c : shC.T) : overC i (overC i c) = overC i c := rfl
theorem nodup_eq {β : Type} {l : List (Nat × β)} (h : (l.map (·.1)).Nodup) {p q : Nat × β} (hp : p ∈ l) (hq : q ∈ l) (e : p.1 = q.1) : p = q := by
  induction l with
  | nil => cases hp
  | cons a l ih =>
    simp only [List.map_cons, List.nodup_cons] at h
    rcases List.mem_cons.1 hp with hp | hp <;> rcases List.mem_cons.1 hq with hq | hq
    · rw [hp, hq]
    · exact absurd (by rw [← hp, e]; exact List.mem_map_of_mem hq) h.1
    · exact absurd (by rw [← hq, ← e]; exact List.mem_map_of_mem hp) h.1
    · exact ih h.2 hp hq
theorem crashed_step {i : Nat} {l : List (Nat × Int × Int)} (hnd : (l.map (·.1)).Nodup) {s : List Nat} {out : List shC.T} {p : Nat × Int × Int} (hp : p ∈ l) {j : Nat} (hj : p.2.2 = (j : Int)) {c : shC.T} (hc : (crashed i l s out)[j]? = some c) :
    (crashed i l s out).set j (overC i c) = crashed i l (s ++ [p.1]) out := by
  apply List.ext_getElem?
  intro m
  rw [List.getElem?_set]
  have htc : touched l (s ++ [p.1]) m = (touched l s m || decide (j = m)) := by
    rw [Bool.eq_iff_iff]
    unfold touched
    simp only [Bool.or_eq_true, List.any_eq_true, Bool.and_eq_true, decide_eq_true_eq, List.mem_append, List.mem_singleton]
    constructor
    · rintro ⟨q, hq, hs, hm⟩
      rcases hs with hs | hs
      · exact .inl ⟨q, hq, hs, hm⟩
      · have := nodup_eq hnd hq hp hs
        subst this
        right
        rw [hj] at hm
        exact_mod_cast hm
    · rintro (⟨q, hq, hs, hm⟩ | rfl)
      · exact ⟨q, hq, .inl hs, hm⟩
      · exact ⟨p, hp, .inr rfl, hj⟩
  have hl := (List.getElem?_eq_some_iff.1 hc).1
  rw [crashed_length] at hl
  by_cases e : j = m
  · subst e
    rw [if_pos rfl, if_pos (by rw [crashed_length]; exact hl)]
    have hoj : out[j]? = some out[j] := List.getElem?_eq_getElem hl
    rw [crashed_at hoj] at hc ⊢
    obtain rfl := Option.some.inj hc
    rw [htc]
    simp only [decide_true, Bool.or_true, if_true]
    split
    · rw [over_over]
    · rfl
  · rw [if_neg e]
    cases ho : out[m]? with
    | none =>
      have hn : ∀ s, (crashed i l s out)[m]? = none := fun s => by
        rw [List.getElem?_eq_none_iff] at ho ⊢
        rw [crashed_length]; exact ho
      rw [hn, hn]
    | some d =>
      rw [crashed_at ho, crashed_at ho, htc]
      simp [e]
theorem rest_step {l : List (Nat × Int × Int)} (hnd : (l.map (·.1)).Nodup) (hkd : (l.map (·.2.1)).Nodup) {s : List Nat} {p : Nat × Int × Int} (hp : p ∈ l) (hs : p.1 ∉ s) : mdelB shI (rest l s) p.2.1 = rest l (s ++ [p.1]) := by
  have gen : ∀ (l : List (Nat × Int × Int)), (l.map (·.1)).Nodup → (l.map (·.2.1)).Nodup → p ∈ l → mdelB shI l p.2.1 = l.filter fun q => decide (q.1 ≠ p.1) := by
    intro l
    induction l with
    | nil => intro _ _ h; cases h
    | cons a l ih =>
      intro h1 h2 hp
      simp only [List.map_cons, List.nodup_cons] at h1 h2
      simp only [mdelB]
      by_cases e : shI.eq p.2.1 a.2.1 = true
      · rw [if_pos e]
        have e' := (key_eq (k := shI) rfl _ _).1 e
        have hpa : p = a := by
          rcases List.mem_cons.1 hp with h | h
          · exact h
          · exact absurd (e' ▸ List.mem_map_of_mem (f := (·.2.1)) h) h2.1
        subst hpa
        rw [List.filter_cons_of_neg (by simp), List.filter_eq_self.2]
        intro z hz
        refine decide_eq_true fun e2 => h1.1 (e2 ▸ List.mem_map_of_mem (f := (·.1)) hz)
      · rw [if_neg e]
        have hpl : p ∈ l := by
          rcases List.mem_cons.1 hp with h | h
          · subst h; exact absurd ((key_eq (k := shI) rfl _ _).2 rfl) e
          · exact h
        rw [ih h1.2 h2.2 hpl, List.filter_cons_of_pos]
        refine decide_eq_true fun e2 => h1.1 (e2 ▸ List.mem_map_of_mem (f := (·.1)) hpl)
  unfold rest
  rw [gen _ (hnd.sublist ((List.filter_sublist).map _)) (hkd.sublist ((List.filter_sublist).map _)) (List.mem_filter.2 ⟨hp, decide_eq_true hs⟩), List.filter_filter]
  congr 1
  funext q
  simp [Bool.and_comm]
theorem rest_less {l : List (Nat × Int × Int)} {s : List Nat} {p : Nat × Int × Int} (hp : p ∈ rest l s) : (rest l (s ++ [p.1])).length < (rest l s).length := by
  have h1 : rest l (s ++ [p.1]) = (rest l s).filter fun q => decide (q.1 ≠ p.1) := by
    unfold rest
    rw [List.filter_filter]
    congr 1
    funext q
    simp [Bool.and_comm]
  rw [h1]
  exact List.length_filter_lt_length_iff_exists.2 ⟨p, hp, by simp⟩
theorem rest_nil {l : List (Nat × Int × Int)} {s : List Nat} (h : ∀ p ∈ rest l s, p.1 ∈ s) : rest l s = [] ∧ ∀ p ∈ l, p.1 ∈ s := by
  have : rest l s = [] := by
    rw [List.eq_nil_iff_forall_not_mem]
    intro p hp
    have := (List.mem_filter.1 hp).2
    exact (of_decide_eq_true this) (h p hp)
  refine ⟨this, fun p hp => ?_⟩
  by_cases e : p.1 ∈ s
  · exact e
  · have : p ∈ rest l s := List.mem_filter.2 ⟨hp, decide_eq_true e⟩
    rw [‹rest l s = []›] at this
    cases this
/-- A crash. -/
theorem open_crash {es : List (Int × Int)} {rs : Recs} (h : OpenIs es rs) (hopn : ∀ r ∈ rs, r.ended = false → r.cl.ans = none) {l : List (Nat × Int × Int)} (hl : l.map (·.2) = es) {s : List Nat} (hall : ∀ p ∈ l, p.1 ∈ s) {i : Nat} {e : Jd.Ev Cd Ad} {N : Nat} (hk : e.kind = 3) :
    OpenIs [] (rs.map (Jd.hit i e) ++ Jd.news N i e) ∧ outOf (rs.map (Jd.hit i e) ++ Jd.news N i e) = crashed i l s (outOf rs) := by
  have hn : Jd.news N i e = [] := if_neg (by omega)
  have hends : ∀ t, Jd.ends e t = true := fun t => by simp [Jd.ends, hk]
  rw [hn, List.append_nil]
  constructor
  · refine ⟨List.nodup_nil, fun t k => ⟨(fun q => by cases q), ?_⟩⟩
    rintro ⟨m, r, rfl, hm, ho, ht⟩
    rw [List.getElem?_map, Option.map_eq_some_iff] at hm
    obtain ⟨r, hm, rfl⟩ := hm
    have := (Jd.hit_open.1 ho).2
    rw [hends] at this
    cases this
  · apply List.ext_getElem?
    intro m
    cases hm : rs[m]? with
    | none =>
      rw [List.getElem?_eq_none_iff] at hm
      rw [List.getElem?_eq_none (by unfold outOf; simpa using hm), List.getElem?_eq_none (by rw [crashed_length]; unfold outOf; simpa using hm)]
    | some r =>
      have ho : (outOf rs)[m]? = some (clC r.cl) := by unfold outOf; rw [List.getElem?_map, hm]; rfl
      rw [crashed_at ho]
      unfold outOf
      rw [List.map_map, List.getElem?_map, hm]
      show some (clC (Jd.hit i e r).cl) = _
      congr 1
      have htc : touched l s m = true ↔ r.ended = false := by
        unfold touched
        simp only [List.any_eq_true, Bool.and_eq_true, decide_eq_true_eq]
        constructor
        · rintro ⟨p, hp, _, hpm⟩
          have hmem : (p.2.1, p.2.2) ∈ es := by rw [← hl]; exact List.mem_map_of_mem hp
          have hg := (mget_some (k := shI) rfl h.1).2 hmem
          obtain ⟨j, r', hj, hr', ho', _⟩ := (h.2 _ _).1 hg
          have : j = m := by
            rw [hpm] at hj
            exact_mod_cast hj.symm
          subst this
          rw [hm] at hr'
          obtain rfl := Option.some.inj hr'
          exact ho'
        · intro hro
          have hg := (h.2 r.thread (m : Int)).2 ⟨m, r, rfl, hm, hro, rfl⟩
          have hmem := (mget_some (k := shI) rfl h.1).1 hg
          rw [← hl] at hmem
          obtain ⟨p, hp, hpe⟩ := List.mem_map.1 hmem
          exact ⟨p, hp, hall p hp, by rw [hpe]⟩
      cases hro : r.ended with
      | false =>
        rw [if_pos (htc.2 hro)]
        unfold Jd.hit
        rw [if_pos ⟨hro, hends _⟩]
        have := hopn r (List.mem_of_getElem? hm) hro
        simp [clC, overC, Jd.told, hk, this]
      | true =>
        rw [if_neg (fun q => by have := htc.1 q; rw [hro] at this; cases this)]
        unfold Jd.hit
        rw [if_neg (fun q => by rw [hro] at q; cases q.1)]
end Go.Proofs.YtpfghndflegbaaaDoor
