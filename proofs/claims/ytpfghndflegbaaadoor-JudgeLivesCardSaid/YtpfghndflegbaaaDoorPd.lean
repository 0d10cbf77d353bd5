/- law58: plain laws of the calls of a history. -/
import Derived.Test.YtpfghndflegbaaaDoorPc
namespace Go.Proofs.YtpfghndflegbaaaDoor.Jd
set_option maxRecDepth 100000

variable {γ α : Type}

/-- Does event e end a call of thread t? -/
def ends (e : Ev γ α) (t : Int) : Bool := decide (e.kind = 3) || decide (e.kind = 1 ∧ e.thread = t)
def told (e : Ev γ α) : Option α := if e.kind = 1 then some e.ans else none
/-- Where a call of thread t ends, and what it is told. -/
def endFrom (t : Int) : Nat → List (Ev γ α) → Option (Nat × Option α)
  | _, [] => none
  | i, e :: l => if ends e t = true then some (i, told e) else endFrom t (i + 1) l
theorem end_snoc (t : Int) (e : Ev γ α) : ∀ (p : List (Ev γ α)) (i : Nat), endFrom t i (p ++ [e]) = match endFrom t i p with
    | some r => some r
    | none => if ends e t = true then some (i + p.length, told e) else none
  | [], i => by
    show (if ends e t = true then some (i, told e) else none) = _
    simp [endFrom]
  | x :: p, i => by
    rw [List.cons_append, endFrom, endFrom]
    by_cases h : ends x t = true
    · rw [if_pos h, if_pos h]
    · rw [if_neg h, if_neg h, end_snoc t e p (i + 1)]
      have : i + 1 + p.length = i + (x :: p).length := by simp; omega
      rw [this]
/-- A call with its thread and whether it has ended. -/
structure Rc (γ α : Type) where
  thread : Int
  ended : Bool
  cl : Cl γ α
def rcOf (N i : Nat) (e : Ev γ α) (r : Option (Nat × Option α)) : Rc γ α := match r with
  | some (o, a) => ⟨e.thread, true, ⟨i, o, e.call, a⟩⟩
  | none => ⟨e.thread, false, ⟨i, N, e.call, none⟩⟩
/-- The calls of a history. -/
def recs (N : Nat) : Nat → List (Ev γ α) → List (Rc γ α)
  | _, [] => []
  | i, e :: l => if e.kind = 0 then rcOf N i e (endFrom e.thread (i + 1) l) :: recs N (i + 1) l else recs N (i + 1) l
/-- What an event at place i does to a call. -/
def hit (i : Nat) (e : Ev γ α) (r : Rc γ α) : Rc γ α := if r.ended = false ∧ ends e r.thread = true then ⟨r.thread, true, ⟨r.cl.place, i, r.cl.call, told e⟩⟩ else r
def news (N i : Nat) (e : Ev γ α) : List (Rc γ α) := if e.kind = 0 then [⟨e.thread, false, ⟨i, N, e.call, none⟩⟩] else []
theorem recs_snoc (N : Nat) (e : Ev γ α) : ∀ (p : List (Ev γ α)) (i : Nat), recs N i (p ++ [e]) = (recs N i p).map (hit (i + p.length) e) ++ news N (i + p.length) e
  | [], i => by
    show (if e.kind = 0 then rcOf N i e (endFrom e.thread (i + 1) []) :: recs N (i + 1) [] else recs N (i + 1) []) = _
    rfl
  | x :: p, i => by
    have hl : i + 1 + p.length = i + (x :: p).length := by simp; omega
    have ih := recs_snoc N e p (i + 1)
    rw [hl] at ih
    rw [List.cons_append, recs, recs, ih]
    by_cases h : x.kind = 0
    · rw [if_pos h, if_pos h, List.map_cons, List.cons_append]
      congr 1
      rw [end_snoc, hl]
      cases hr : endFrom x.thread (i + 1) p with
      | some r =>
        obtain ⟨o, a⟩ := r
        show rcOf N i x (some (o, a)) = hit _ e (rcOf N i x (some (o, a)))
        simp [hit, rcOf]
      | none =>
        show rcOf N i x (if ends e x.thread = true then some (i + (x :: p).length, told e) else none) = hit _ e (rcOf N i x none)
        by_cases he : ends e x.thread = true
        · rw [if_pos he]; simp [hit, rcOf, he]
        · rw [if_neg he]; simp [hit, rcOf, he]
    · rw [if_neg h, if_neg h]
/-- The threads' state and the open calls say the same. -/
def Links (f : Int → Th) (rs : List (Rc γ α)) : Prop := (∀ t, (f t).op = true ↔ ∃ r ∈ rs, r.ended = false ∧ r.thread = t) ∧
  ∀ (i j : Nat) (r s : Rc γ α), rs[i]? = some r → rs[j]? = some s → r.ended = false → s.ended = false → r.thread = s.thread → i = j
theorem hit_open {i : Nat} {e : Ev γ α} {r : Rc γ α} : (hit i e r).ended = false ↔ r.ended = false ∧ ends e r.thread = false := by
  unfold hit
  by_cases h : r.ended = false ∧ ends e r.thread = true
  · rw [if_pos h]; simp [h.2]
  · rw [if_neg h]
    constructor
    · intro hr
      refine ⟨hr, ?_⟩
      cases he : ends e r.thread with
      | false => rfl
      | true => exact absurd ⟨hr, he⟩ h
    · exact fun h => h.1
theorem hit_thread {i : Nat} {e : Ev γ α} {r : Rc γ α} : (hit i e r).thread = r.thread := by
  unfold hit; split <;> rfl
/-- An event that passes keeps the link. -/
theorem links_step {f : Int → Th} {rs : List (Rc γ α)} (h : Links f rs) {e : Ev γ α} (he : (evJ f e).1 = 0) (N i : Nat) : Links (evJ f e).2 (rs.map (hit i e) ++ news N i e) := by
  obtain ⟨h1, h2⟩ := h
  have hmap : ∀ t, (∃ r ∈ rs.map (hit i e), r.ended = false ∧ r.thread = t) ↔ ∃ r ∈ rs, r.ended = false ∧ ends e r.thread = false ∧ r.thread = t := by
    intro t
    constructor
    · rintro ⟨r, hr, ho, ht⟩
      obtain ⟨s, hs, rfl⟩ := List.mem_map.1 hr
      have := hit_open.1 ho
      rw [hit_thread] at ht
      exact ⟨s, hs, this.1, this.2, ht⟩
    · rintro ⟨s, hs, ho, hn, ht⟩
      exact ⟨hit i e s, List.mem_map.2 ⟨s, hs, rfl⟩, hit_open.2 ⟨ho, hn⟩, by rw [hit_thread]; exact ht⟩
  have hinj : ∀ (a b : Nat) (r s : Rc γ α), (rs.map (hit i e))[a]? = some r → (rs.map (hit i e))[b]? = some s → r.ended = false → s.ended = false → r.thread = s.thread → a = b := by
    intro a b r s ha hb hr hs hrs
    rw [List.getElem?_map, Option.map_eq_some_iff] at ha hb
    obtain ⟨r, ha, rfl⟩ := ha
    obtain ⟨s, hb, rfl⟩ := hb
    rw [hit_thread, hit_thread] at hrs
    exact h2 a b r s ha hb (hit_open.1 hr).1 (hit_open.1 hs).1 hrs
  unfold evJ at he ⊢
  by_cases c1 : e.kind < 0 ∨ e.kind > 3
  · rw [if_pos c1] at he; cases he
  rw [if_neg c1] at he ⊢
  by_cases c2 : e.kind = 3
  · rw [if_pos c2]
    have hn : news N i e = [] := by unfold news; rw [if_neg (by omega)]
    rw [hn, List.append_nil]
    refine ⟨fun t => ⟨(fun h => by cases h), fun h => ?_⟩, hinj⟩
    obtain ⟨r, _, _, hr, _⟩ := (hmap t).1 h
    simp [ends, c2] at hr
  rw [if_neg c2] at he ⊢
  by_cases c3 : e.thread < 1 ∨ e.thread > 8
  · rw [if_pos c3] at he; cases he
  rw [if_neg c3] at he ⊢
  by_cases c4 : (f e.thread).op = decide (e.kind = 0)
  · rw [if_pos c4] at he; cases he
  rw [if_neg c4] at he ⊢
  by_cases c5 : e.kind = 0 ∧ e.number ≤ (f e.thread).last
  · rw [if_pos c5] at he; cases he
  rw [if_neg c5] at he ⊢
  by_cases c6 : e.kind ≠ 0 ∧ e.number ≠ (f e.thread).last
  · rw [if_pos c6] at he; cases he
  rw [if_neg c6] at he ⊢
  by_cases c7 : e.kind = 2 ∧ (f e.thread).com = true
  · rw [if_pos c7] at he; cases he
  rw [if_neg c7] at he ⊢
  by_cases c8 : e.kind = 0
  · rw [if_pos c8]
    have hn : news N i e = [⟨e.thread, false, ⟨i, N, e.call, none⟩⟩] := by unfold news; rw [if_pos c8]
    have hend : ∀ t, ends e t = false := fun t => by simp [ends, c8]
    have hop : (f e.thread).op = false := by
      cases ho : (f e.thread).op with
      | false => rfl
      | true => exact absurd (by rw [ho]; simp [c8]) c4
    have hno : ¬ ∃ r ∈ rs, r.ended = false ∧ r.thread = e.thread := fun h => by have := (h1 e.thread).2 h; rw [hop] at this; cases this
    rw [hn]
    refine ⟨fun t => ?_, ?_⟩
    · show (upd f e.thread _ t).op = true ↔ _
      unfold upd
      by_cases ht : t = e.thread
      · rw [if_pos ht]
        exact ⟨fun _ => ⟨_, List.mem_append_right _ (List.mem_singleton.2 rfl), rfl, ht.symm⟩, fun _ => rfl⟩
      · rw [if_neg ht, h1 t]
        constructor
        · rintro ⟨r, hr, ho, hrt⟩
          obtain ⟨s, hs, q⟩ := (hmap t).2 ⟨r, hr, ho, hend _, hrt⟩
          exact ⟨s, List.mem_append_left _ hs, q⟩
        · rintro ⟨r, hr, ho, hrt⟩
          rcases List.mem_append.1 hr with hr | hr
          · obtain ⟨s, hs, q1, _, q2⟩ := (hmap t).1 ⟨r, hr, ho, hrt⟩
            exact ⟨s, hs, q1, q2⟩
          · rw [List.mem_singleton.1 hr] at hrt
            exact absurd hrt.symm ht
    · have hold : ∀ (a : Nat) (r : Rc γ α), (rs.map (hit i e))[a]? = some r → r.ended = false → r.thread ≠ e.thread := by
        intro a r ha ho ht
        obtain ⟨s, hs, q1, _, q2⟩ := (hmap e.thread).1 ⟨r, List.mem_of_getElem? ha, ho, ht⟩
        exact hno ⟨s, hs, q1, q2⟩
      have hcase : ∀ (a : Nat) (r : Rc γ α), (rs.map (hit i e) ++ [⟨e.thread, false, ⟨i, N, e.call, none⟩⟩])[a]? = some r → (rs.map (hit i e))[a]? = some r ∨ (a = (rs.map (hit i e)).length ∧ r.thread = e.thread) := by
        intro a r ha
        by_cases hlt : a < (rs.map (hit i e)).length
        · rw [List.getElem?_append_left hlt] at ha; exact .inl ha
        · rw [List.getElem?_append_right (by omega)] at ha
          have hz : a - (rs.map (hit i e)).length = 0 := by
            have := (List.getElem?_eq_some_iff.1 ha).1
            simp only [List.length_cons, List.length_nil] at this
            omega
          rw [hz] at ha
          have := Option.some.inj ha
          exact .inr ⟨by omega, by rw [← this]⟩
      intro a b r s ha hb hr hs hrs
      rcases hcase a r ha with ha | ⟨ha, hat⟩ <;> rcases hcase b s hb with hb | ⟨hb, hbt⟩
      · exact hinj a b r s ha hb hr hs hrs
      · exact absurd (hrs.trans hbt) (hold a r ha hr)
      · exact absurd (hrs.symm.trans hat) (hold b s hb hs)
      · omega
  rw [if_neg c8]
  have hn : news N i e = [] := by unfold news; rw [if_neg c8]
  rw [hn, List.append_nil]
  refine ⟨fun t => ?_, ?_⟩
  · rw [hmap]
    by_cases c9 : e.kind = 1
    · rw [if_pos c9]
      show (upd f e.thread _ t).op = true ↔ _
      unfold upd
      by_cases ht : t = e.thread
      · rw [if_pos ht]
        refine ⟨(fun h => by cases h), ?_⟩
        rintro ⟨r, _, _, hr, hrt⟩
        simp [ends, c9, hrt, ht] at hr
      · rw [if_neg ht, h1 t]
        constructor
        · rintro ⟨r, hr, ho, hrt⟩
          refine ⟨r, hr, ho, ?_, hrt⟩
          simp [ends, c9, hrt]
          exact fun q => ht q.symm
        · rintro ⟨r, hr, ho, _, hrt⟩
          exact ⟨r, hr, ho, hrt⟩
    · rw [if_neg c9]
      have hend : ∀ t, ends e t = false := fun t => by simp [ends, c2, c9]
      have : (upd f e.thread ⟨(f e.thread).op, true, (f e.thread).last⟩ t).op = (f t).op := by
        unfold upd
        by_cases ht : t = e.thread
        · rw [if_pos ht, ht]
        · rw [if_neg ht]
      show (upd f e.thread ⟨(f e.thread).op, true, (f e.thread).last⟩ t).op = true ↔ _
      rw [this, h1 t]
      constructor
      · rintro ⟨r, hr, ho, hrt⟩; exact ⟨r, hr, ho, hend _, hrt⟩
      · rintro ⟨r, hr, ho, _, hrt⟩; exact ⟨r, hr, ho, hrt⟩
  · exact hinj
end Go.Proofs.YtpfghndflegbaaaDoor.Jd
