/- law58: the law Lives. -/
import Derived.Test.YtpfghndflegbaaaDoorPi
import Derived.Test.YtpfghndflegbaaaDoorFx
import Derived.Test.YtpfghndflegbaaaDoorGc
import Derived.Test.YtpfghndflegbaaaDoorBa
/- law58: plain laws: calls that live on and take effect. -/
namespace Go.Proofs.YtpfghndflegbaaaDoor.Jd
set_option maxRecDepth 100000

variable {γ α : Type}

section fit
variable [DecidableEq α]
theorem part_fit {step : Int → γ → Int × α} {cs : List (Cl γ α)} {st0 : Int} {o : List (Nat × α)} {st : Int} {pl : List Bool} (h : Part step cs st0 o st pl) : ∀ (i : Nat) (a : α) (x : Cl γ α), (i, a) ∈ o → cs[i]? = some x → fitS x a = true := by
  induction h with
  | nil => intro i a x h; cases h
  | @snoc o st pl j y hp hy hm hf ih =>
    intro i a x h hx
    rcases List.mem_append.1 h with h | h
    · exact ih i a x h hx
    · obtain ⟨rfl, rfl⟩ := Prod.mk.inj (List.mem_singleton.1 h)
      rw [hy] at hx
      obtain rfl := Option.some.inj hx
      exact hf
theorem part_once {step : Int → γ → Int × α} {cs : List (Cl γ α)} {st0 : Int} {o : List (Nat × α)} {st : Int} {pl : List Bool} (h : Part step cs st0 o st pl) : ∀ (i : Nat) (a b : α), (i, a) ∈ o → (i, b) ∈ o → a = b := by
  induction h with
  | nil => intro i a b h; cases h
  | @snoc o st pl j y hp hy hm hf ih =>
    have hno : ∀ a, (j, a) ∉ o := by
      intro a ha
      have h1 := (part_placed hp j).2 ⟨a, ha⟩
      rw [may_free hm] at h1
      cases h1
    intro i a b ha hb
    rcases List.mem_append.1 ha with ha1 | ha1
    · rcases List.mem_append.1 hb with hb1 | hb1
      · exact ih i a b ha1 hb1
      · obtain ⟨rfl, rfl⟩ := Prod.mk.inj (List.mem_singleton.1 hb1)
        exact absurd ha1 (hno a)
    · rcases List.mem_append.1 hb with hb1 | hb1
      · obtain ⟨rfl, rfl⟩ := Prod.mk.inj (List.mem_singleton.1 ha1)
        exact absurd hb1 (hno b)
      · rw [(Prod.mk.inj (List.mem_singleton.1 ha1)).2, (Prod.mk.inj (List.mem_singleton.1 hb1)).2]
end fit

/-- What an event makes of a call. -/
def turn (L : Nat) (e : Ev γ α) (r : Rc γ α) : Rc γ α := hit L e (mark (L + 1) r)
theorem turn_ended {L : Nat} {e : Ev γ α} {r : Rc γ α} (h : r.ended = true) : turn L e r = r := by
  unfold turn mark
  rw [if_pos h]
  unfold hit
  rw [if_neg (fun q => by rw [h] at q; cases q.1)]
theorem turn_hit {L : Nat} {e : Ev γ α} {r : Rc γ α} (h : r.ended = false) (he : ends e r.thread = true) : turn L e r = ⟨r.thread, true, ⟨r.cl.place, L, r.cl.call, told e⟩⟩ := by
  unfold turn mark
  rw [if_neg (fun q => by rw [h] at q; cases q)]
  unfold hit
  rw [if_pos ⟨h, he⟩]
theorem turn_open {L : Nat} {e : Ev γ α} {r : Rc γ α} (h : r.ended = false) (he : ends e r.thread = false) : turn L e r = ⟨r.thread, false, ⟨r.cl.place, L + 1, r.cl.call, r.cl.ans⟩⟩ := by
  unfold turn mark
  rw [if_neg (fun q => by rw [h] at q; cases q)]
  unfold hit
  rw [if_neg (fun q => by rw [he] at q; cases q.2), h]
/-- The calls of a whole history. -/
abbrev rs (l : List (Ev γ α)) : List (Rc γ α) := recs l.length 0 l
theorem rs_event (l : List (Ev γ α)) (e : Ev γ α) : rs (l ++ [e]) = (rs l).map (turn l.length e) ++ news (l.length + 1) l.length e := by
  unfold rs
  rw [List.length_append, List.length_singleton, recs_snoc, recs_mark l.length (l.length + 1) l 0, List.map_map, Nat.zero_add]
  rfl
theorem rs_at {l : List (Ev γ α)} {e : Ev γ α} {i : Nat} {r' : Rc γ α} (h : (rs (l ++ [e]))[i]? = some r') : (∃ r, (rs l)[i]? = some r ∧ r' = turn l.length e r) ∨ (e.kind = 0 ∧ i = (rs l).length ∧ r' = ⟨e.thread, false, ⟨l.length, l.length + 1, e.call, none⟩⟩) := by
  rw [rs_event] at h
  by_cases hi : i < (rs l).length
  · rw [List.getElem?_append_left (by rw [List.length_map]; exact hi), List.getElem?_map, Option.map_eq_some_iff] at h
    obtain ⟨r, hr, rfl⟩ := h
    exact .inl ⟨r, hr, rfl⟩
  · rw [List.getElem?_append_right (by rw [List.length_map]; omega), List.length_map] at h
    unfold news at h
    by_cases hk : e.kind = 0
    · rw [if_pos hk] at h
      have hlt := (List.getElem?_eq_some_iff.1 h).1
      have hi0 : i - (rs l).length = 0 := by simpa using hlt
      rw [hi0] at h
      obtain rfl := Option.some.inj h
      exact .inr ⟨hk, by omega, rfl⟩
    · rw [if_neg hk] at h; cases h
section later
variable [DecidableEq α]
theorem later_event {l : List (Ev γ α)} {e : Ev γ α} {o : List (Nat × α)}
    (hfit : ∀ (i : Nat) (r : Rc γ α) (a : α), (rs l)[i]? = some r → r.ended = false → ends e r.thread = true → (i, a) ∈ o → told e = none ∨ told e = some a)
    (hpf : ∀ (i : Nat) (a : α) (x : Cl γ α), (i, a) ∈ o → (csOf l.length l)[i]? = some x → fitS x a = true) : Later (csOf l.length l) ((rs l).map fun r => (turn l.length e r).cl) l.length o := by
  have hok : ∀ r ∈ rs l, RcOk l.length 0 l.length r := fun r hr => by
    have := recs_ok l.length l 0 r hr
    rw [Nat.zero_add] at this
    exact this
  have get : ∀ (i : Nat) (x' : Cl γ α), ((rs l).map fun r => (turn l.length e r).cl)[i]? = some x' → ∃ r, (rs l)[i]? = some r ∧ x' = (turn l.length e r).cl := by
    intro i x' h
    rw [List.getElem?_map, Option.map_eq_some_iff] at h
    obtain ⟨r, hr, rfl⟩ := h
    exact ⟨r, hr, rfl⟩
  have get0 : ∀ (i : Nat) (r : Rc γ α), (rs l)[i]? = some r → (csOf l.length l)[i]? = some r.cl := by
    intro i r h
    unfold csOf
    rw [List.getElem?_map, h]; rfl
  refine ⟨by unfold csOf; rw [List.length_map, List.length_map], ?_, ?_⟩
  · intro i x x' hx hx'
    obtain ⟨r, hr, rfl⟩ := get i x' hx'
    rw [get0 i r hr] at hx
    obtain rfl := Option.some.inj hx
    have hR := hok r (List.mem_of_getElem? hr)
    cases hend : r.ended with
    | true => rw [turn_ended hend]; exact ⟨rfl, rfl, hR.hi, .inl rfl⟩
    | false =>
      cases he : ends e r.thread with
      | true => rw [turn_hit hend he]; exact ⟨rfl, rfl, hR.hi, .inr (Nat.le_refl _)⟩
      | false => rw [turn_open hend he]; exact ⟨rfl, rfl, hR.hi, .inr (Nat.le_succ _)⟩
  · intro i x' a hx' ha
    obtain ⟨r, hr, rfl⟩ := get i x' hx'
    have hR := hok r (List.mem_of_getElem? hr)
    cases hend : r.ended with
    | true => rw [turn_ended hend]; exact hpf i a _ ha (get0 i r hr)
    | false =>
      cases he : ends e r.thread with
      | true =>
        rw [turn_hit hend he]
        rcases hfit i r a hr hend he ha with h | h
        · show (match told e with | some b => decide (a = b) | none => true) = true
          rw [h]
        · show (match told e with | some b => decide (a = b) | none => true) = true
          rw [h]
          exact decide_eq_true rfl
      | false =>
        rw [turn_open hend he]
        unfold fitS
        simp only [(hR.opn hend).2]
end later

/-! What the judge's form says behind one event more. -/
def after (l : List (Ev γ α)) : Int → Th := l.foldl (fun f e => (evJ f e).2) th0
theorem after_snoc (l : List (Ev γ α)) (e : Ev γ α) : after (l ++ [e]) = (evJ (after l) e).2 := by unfold after; rw [List.foldl_append]; rfl
theorem formJ_snoc (e : Ev γ α) : ∀ (l : List (Ev γ α)) (f : Int → Th), formJ f l = 0 → formJ f (l ++ [e]) = (evJ (l.foldl (fun f e => (evJ f e).2) f) e).1
  | [], f, _ => by
    show (if (evJ f e).1 ≠ 0 then (evJ f e).1 else 0) = (evJ f e).1
    by_cases h : (evJ f e).1 = 0
    · rw [if_neg (fun q => q h), h]
    · rw [if_pos h]
  | x :: l, f, h => by
    rw [formJ] at h
    by_cases q : (evJ f x).1 = 0
    · rw [if_neg (fun z => z q)] at h
      rw [List.cons_append, formJ, if_neg (fun z => z q), formJ_snoc e l _ h]
      rfl
    · rw [if_pos q] at h; exact absurd h q

/-- A thread as the law keeps it: the number of its open call, the call, the answer, whether it has taken effect. -/
structure Ts (γ α : Type) where
  num : Int
  rq : γ
  an : α
  dn : Bool
variable [DecidableEq α]
structure Alive (step : Int → γ → Int × α) (l : List (Ev γ α)) (n : Nat) (st : Int) (g : Int → Ts γ α) (o : List (Nat × α)) (pl : List Bool) : Prop where
  form : formJ th0 l = 0
  links : Links (after l) (rs l)
  cnt : (rs l).length = n
  ths : ∀ t : Int, 1 ≤ t → t ≤ 3 → ((after l t).op = true ↔ (g t).num ≠ 0) ∧ (after l t).last ≤ (n : Int) ∧ ((g t).num ≠ 0 → (after l t).last = (g t).num ∧ ((g t).dn = false → (after l t).com = false))
  got : ∀ (i : Nat) (r : Rc γ α), (rs l)[i]? = some r → (r.ended = true → r.cl.ans.isSome = true → pl[i]? = some true) ∧
    (r.ended = false → 1 ≤ r.thread ∧ r.thread ≤ 3 ∧ r.cl.call = (g r.thread).rq ∧ pl[i]? = some (g r.thread).dn ∧ ((g r.thread).dn = true → (i, (g r.thread).an) ∈ o))
  part : Part step (csOf l.length l) 0 o st pl
theorem alive_nil (step : Int → γ → Int × α) (g : Int → Ts γ α) (hg : ∀ t, (g t).num = 0) : Alive step ([] : List (Ev γ α)) 0 0 g [] [] := by
  refine ⟨rfl, ⟨fun t => ⟨(fun q => by cases q), fun ⟨r, hr, _⟩ => by cases hr⟩, fun i j r s hr => by cases hr⟩, rfl, fun t _ _ => ⟨⟨(fun q => by cases q), fun q => absurd (hg t) q⟩, Int.le_refl _, fun q => absurd (hg t) q⟩, fun i r hr => (by cases hr), ?_⟩
  exact Part.nil
/-- Behind an event. -/
theorem alive_part {step : Int → γ → Int × α} {l : List (Ev γ α)} {n : Nat} {st : Int} {g : Int → Ts γ α} {o : List (Nat × α)} {pl : List Bool} (h : Alive step l n st g o pl) {e : Ev γ α}
    (hfit : ∀ (i : Nat) (r : Rc γ α) (a : α), (rs l)[i]? = some r → r.ended = false → ends e r.thread = true → (i, a) ∈ o → told e = none ∨ told e = some a) :
    Part step (csOf (l ++ [e]).length (l ++ [e])) 0 o st (if e.kind = 0 then pl ++ [false] else pl) := by
  have hp := part_later h.part (later_event hfit (part_fit h.part))
  have hcs : csOf (l ++ [e]).length (l ++ [e]) = ((rs l).map fun r => (turn l.length e r).cl) ++ (news (l.length + 1) l.length e).map (·.cl) := by
    show (rs (l ++ [e])).map (·.cl) = _
    rw [rs_event, List.map_append, List.map_map]; rfl
  rw [hcs]
  by_cases hk : e.kind = 0
  · rw [if_pos hk]
    unfold news
    rw [if_pos hk]
    exact part_new rfl hp
  · rw [if_neg hk]
    unfold news
    rw [if_neg hk, List.map_nil, List.append_nil]
    exact hp
theorem alive_form {step : Int → γ → Int × α} {l : List (Ev γ α)} {n : Nat} {st : Int} {g : Int → Ts γ α} {o : List (Nat × α)} {pl : List Bool} (h : Alive step l n st g o pl) {e : Ev γ α} (he : (evJ (after l) e).1 = 0) :
    formJ th0 (l ++ [e]) = 0 ∧ Links (after (l ++ [e])) (rs (l ++ [e])) := by
  refine ⟨(formJ_snoc e l th0 h.form).trans he, ?_⟩
  have := links_step (rs := (rs l).map (mark (l.length + 1))) (f := after l) ?_ he (l.length + 1) l.length
  · rw [after_snoc, rs_event]
    rw [List.map_map] at this
    exact this
  · obtain ⟨h1, h2⟩ := h.links
    have hm : ∀ r : Rc γ α, (mark (l.length + 1) r).ended = r.ended ∧ (mark (l.length + 1) r).thread = r.thread := fun r => by unfold mark; split <;> exact ⟨rfl, rfl⟩
    refine ⟨fun t => (h1 t).trans ⟨?_, ?_⟩, ?_⟩
    · rintro ⟨r, hr, a, b⟩
      exact ⟨_, List.mem_map_of_mem hr, (hm r).1.trans a, (hm r).2.trans b⟩
    · rintro ⟨r', hr', a, b⟩
      obtain ⟨r, hr, rfl⟩ := List.mem_map.1 hr'
      exact ⟨r, hr, (hm r).1.symm.trans a, (hm r).2.symm.trans b⟩
    · intro i j r s hr hs a b c
      rw [List.getElem?_map, Option.map_eq_some_iff] at hr hs
      obtain ⟨r, hr, rfl⟩ := hr
      obtain ⟨s, hs, rfl⟩ := hs
      exact h2 i j r s hr hs ((hm r).1.symm.trans a) ((hm s).1.symm.trans b) ((hm r).2.symm.trans (c.trans (hm s).2))
omit [DecidableEq α] in
theorem rs_len (l : List (Ev γ α)) (e : Ev γ α) : (rs (l ++ [e])).length = (rs l).length + (if e.kind = 0 then 1 else 0) := by
  rw [rs_event, List.length_append, List.length_map]
  unfold news
  split <;> rfl
theorem alive_len {step : Int → γ → Int × α} {l : List (Ev γ α)} {n : Nat} {st : Int} {g : Int → Ts γ α} {o : List (Nat × α)} {pl : List Bool} (h : Alive step l n st g o pl) : pl.length = n := by
  rw [part_len h.part]
  show ((rs l).map (·.cl)).length = n
  rw [List.length_map, h.cnt]
/-- A call. -/
theorem alive_call {step : Int → γ → Int × α} {l : List (Ev γ α)} {n : Nat} {st : Int} {g : Int → Ts γ α} {o : List (Nat × α)} {pl : List Bool} (h : Alive step l n st g o pl) {t : Int} (h1 : 1 ≤ t) (h3 : t ≤ 3) (ht : (g t).num = 0) (c : γ) (z a : α) :
    Alive step (l ++ [⟨0, t, ((n + 1 : Nat) : Int), c, z⟩]) (n + 1) st (upd g t ⟨((n + 1 : Nat) : Int), c, a, false⟩) o (pl ++ [false]) := by
  obtain ⟨o1, o2, o3⟩ := h.ths t h1 h3
  have hop : (after l t).op = false := by
    cases q : (after l t).op with
    | false => rfl
    | true => exact absurd ht (o1.1 q)
  have hev : evJ (after l) (⟨0, t, ((n + 1 : Nat) : Int), c, z⟩ : Ev γ α) = (0, upd (after l) t ⟨true, false, ((n + 1 : Nat) : Int)⟩) := by
    unfold evJ
    dsimp only
    rw [if_neg (by omega), if_neg (by omega), if_neg (by omega), hop, if_neg (show ¬ false = decide ((0 : Int) = 0) by decide), if_neg (by omega), if_neg (by omega), if_neg (by omega), if_pos rfl]
  have hends : ∀ s, ends (⟨0, t, ((n + 1 : Nat) : Int), c, z⟩ : Ev γ α) s = false := fun s => by unfold ends; simp
  obtain ⟨hf, hl⟩ := alive_form h (e := ⟨0, t, ((n + 1 : Nat) : Int), c, z⟩) (by rw [hev])
  have hu : ∀ {β : Type} (f : Int → β) (v : β), upd f t v t = v := fun f v => if_pos rfl
  have hne : ∀ {β : Type} (f : Int → β) (v : β) (s : Int), s ≠ t → upd f t v s = f s := fun f v s q => if_neg q
  have haf : after (l ++ [⟨0, t, ((n + 1 : Nat) : Int), c, z⟩]) = upd (after l) t ⟨true, false, ((n + 1 : Nat) : Int)⟩ := by rw [after_snoc, hev]
  refine ⟨hf, hl, ?_, ?_, ?_, ?_⟩
  · rw [rs_len, if_pos rfl, h.cnt]
  · intro s s1 s3
    rw [haf]
    by_cases e : s = t
    · subst e
      rw [hu, hu]
      exact ⟨⟨(fun _ => by show ((n + 1 : Nat) : Int) ≠ 0; omega), fun _ => rfl⟩, Int.le_refl _, fun _ => ⟨rfl, fun _ => rfl⟩⟩
    · rw [hne _ _ s e, hne _ _ s e]
      obtain ⟨a1, a2, a3⟩ := h.ths s s1 s3
      exact ⟨a1, by omega, a3⟩
  · intro i r' hr'
    rcases rs_at hr' with ⟨r, hr, rfl⟩ | ⟨_, hi, rfl⟩
    · obtain ⟨g1, g2⟩ := h.got i r hr
      have hil : i < pl.length := by rw [alive_len h, ← h.cnt]; exact (List.getElem?_eq_some_iff.1 hr).1
      rw [List.getElem?_append_left hil]
      cases hend : r.ended with
      | true =>
        rw [turn_ended hend]
        exact ⟨fun _ => g1 hend, fun q => by rw [hend] at q; cases q⟩
      | false =>
        rw [turn_open hend (hends _)]
        refine ⟨(fun q => by cases q), fun _ => ?_⟩
        obtain ⟨b1, b2, b3, b4, b5⟩ := g2 hend
        have hrt : r.thread ≠ t := by
          intro q
          have := (h.links.1 t).2 ⟨r, List.mem_of_getElem? hr, hend, q⟩
          rw [hop] at this; cases this
        dsimp only
        rw [hne _ _ _ hrt]
        exact ⟨b1, b2, b3, b4, b5⟩
    · refine ⟨(fun q => by cases q), fun _ => ?_⟩
      dsimp only
      rw [hu]
      refine ⟨h1, h3, rfl, ?_, (fun q => by cases q)⟩
      rw [hi, h.cnt, ← alive_len h, List.getElem?_append_right (Nat.le_refl _), Nat.sub_self]
      rfl
  · have := alive_part h (e := ⟨0, t, ((n + 1 : Nat) : Int), c, z⟩) (fun i r a _ _ q => by rw [hends] at q; cases q)
    rw [if_pos rfl] at this
    exact this
/-- An effect. -/
theorem alive_effect {step : Int → γ → Int × α} {l : List (Ev γ α)} {n : Nat} {st : Int} {g : Int → Ts γ α} {o : List (Nat × α)} {pl : List Bool} (h : Alive step l n st g o pl) {t : Int} (h1 : 1 ≤ t) (h3 : t ≤ 3) (ht : (g t).num ≠ 0) (hd : (g t).dn = false) :
    ∃ o' pl', Alive step l n (step st (g t).rq).1 (upd g t ⟨(g t).num, (g t).rq, (step st (g t).rq).2, true⟩) o' pl' := by
  obtain ⟨o1, o2, o3⟩ := h.ths t h1 h3
  obtain ⟨r, hr1, hr2, hr3⟩ := (h.links.1 t).1 (o1.2 ht)
  obtain ⟨i, hi⟩ := List.getElem?_of_mem hr1
  obtain ⟨-, g2⟩ := h.got i r hi
  obtain ⟨-, -, b3, b4, -⟩ := g2 hr2
  rw [hr3] at b3 b4
  rw [hd] at b4
  have hok : ∀ r ∈ rs l, RcOk l.length 0 l.length r := fun r hr => by
    have := recs_ok l.length l 0 r hr
    rw [Nat.zero_add] at this
    exact this
  have get : ∀ (k : Nat) (x : Cl γ α), (csOf l.length l)[k]? = some x → ∃ r, (rs l)[k]? = some r ∧ x = r.cl := by
    intro k x hk
    unfold csOf at hk
    rw [List.getElem?_map, Option.map_eq_some_iff] at hk
    obtain ⟨r, hr, rfl⟩ := hk
    exact ⟨r, hr, rfl⟩
  have hx : (csOf l.length l)[i]? = some r.cl := by
    unfold csOf
    rw [List.getElem?_map, hi]; rfl
  have hm : mayS (csOf l.length l) pl i = true := by
    refine may_open hx b4 (fun y hy => ?_) (fun k y hk hy => ?_)
    · obtain ⟨k, hk⟩ := List.getElem?_of_mem hy
      obtain ⟨s, hs, rfl⟩ := get k y hk
      rw [((hok r hr1).opn hr2).1]
      exact Nat.le_of_lt (hok s (List.mem_of_getElem? hs)).hi
    · obtain ⟨s, hs, rfl⟩ := get k y hk
      cases hend : s.ended with
      | true => exact (h.got k s hs).1 hend hy
      | false =>
        rw [((hok s (List.mem_of_getElem? hs)).opn hend).2] at hy
        cases hy
  have hfit : fitS r.cl (step st r.cl.call).2 = true := by
    unfold fitS
    rw [((hok r hr1).opn hr2).2]
  have hp := Part.snoc h.part hx hm hfit
  rw [b3] at hp
  have hu : ∀ (v : Ts γ α), upd g t v t = v := fun v => if_pos rfl
  have hne : ∀ (v : Ts γ α) (s : Int), s ≠ t → upd g t v s = g s := fun v s q => if_neg q
  refine ⟨_, _, h.form, h.links, h.cnt, ?_, ?_, hp⟩
  · intro s s1 s3
    by_cases e : s = t
    · subst e
      rw [hu]
      exact ⟨o1, o2, fun q => ⟨(o3 q).1, (fun q => by cases q)⟩⟩
    · rw [hne _ s e]; exact h.ths s s1 s3
  · intro k s hs
    obtain ⟨g1, g2⟩ := h.got k s hs
    refine ⟨fun q1 q2 => ?_, fun q => ?_⟩
    · have := g1 q1 q2
      by_cases e : i = k
      · subst e; rw [b4] at this; cases this
      · rw [List.getElem?_set_ne e]; exact this
    · obtain ⟨c1, c2, c3, c4, c5⟩ := g2 q
      by_cases e : s.thread = t
      · have : i = k := h.links.2 i k r s hi hs hr2 q (hr3.trans e.symm)
        subst this
        rw [e, hu]
        refine ⟨h1, h3, ?_, ?_, fun _ => List.mem_append_right _ (List.mem_singleton.2 rfl)⟩
        · rw [e] at c3; exact c3
        · rw [List.getElem?_set_self (List.getElem?_eq_some_iff.1 b4).1]
      · have : i ≠ k := by
          intro q
          subst q
          rw [hi] at hs
          obtain rfl := Option.some.inj hs
          exact e hr3
        rw [hne _ _ e, List.getElem?_set_ne this]
        exact ⟨c1, c2, c3, c4, fun q => List.mem_append_left _ (c5 q)⟩
/-- A commit. -/
theorem alive_commit {step : Int → γ → Int × α} {l : List (Ev γ α)} {n : Nat} {st : Int} {g : Int → Ts γ α} {o : List (Nat × α)} {pl : List Bool} (h : Alive step l n st g o pl) {t : Int} (h1 : 1 ≤ t) (h3 : t ≤ 3) (ht : (g t).num ≠ 0) (hd : (g t).dn = true) (hc : (after l t).com = false) (c : γ) (z : α) :
    Alive step (l ++ [⟨2, t, (g t).num, c, z⟩]) n st g o pl := by
  obtain ⟨o1, o2, o3⟩ := h.ths t h1 h3
  have hop := o1.2 ht
  have hev : evJ (after l) (⟨2, t, (g t).num, c, z⟩ : Ev γ α) = (0, upd (after l) t ⟨(after l t).op, true, (after l t).last⟩) := by
    unfold evJ
    dsimp only
    rw [if_neg (by omega), if_neg (by omega), if_neg (by omega), if_neg (by rw [hop]; show ¬ true = decide ((2 : Int) = 0); decide), if_neg (by omega), if_neg (fun q => q.2 (o3 ht).1.symm), if_neg (fun q => by rw [hc] at q; cases q.2), if_neg (by omega), if_neg (by omega)]
  have hends : ∀ s, ends (⟨2, t, (g t).num, c, z⟩ : Ev γ α) s = false := fun s => by unfold ends; simp
  obtain ⟨hf, hl⟩ := alive_form h (e := ⟨2, t, (g t).num, c, z⟩) (by rw [hev])
  have haf : after (l ++ [⟨2, t, (g t).num, c, z⟩]) = upd (after l) t ⟨(after l t).op, true, (after l t).last⟩ := by rw [after_snoc, hev]
  refine ⟨hf, hl, ?_, ?_, ?_, ?_⟩
  · rw [rs_len, if_neg (by show ¬ (2 : Int) = 0; decide), h.cnt, Nat.add_zero]
  · intro s s1 s3
    rw [haf]
    by_cases e : s = t
    · subst e
      have : upd (after l) s ⟨(after l s).op, true, (after l s).last⟩ s = ⟨(after l s).op, true, (after l s).last⟩ := if_pos rfl
      rw [this]
      exact ⟨o1, o2, fun q => ⟨(o3 q).1, fun q2 => by rw [hd] at q2; cases q2⟩⟩
    · have : upd (after l) t ⟨(after l t).op, true, (after l t).last⟩ s = after l s := if_neg e
      rw [this]; exact h.ths s s1 s3
  · intro i r' hr'
    rcases rs_at hr' with ⟨r, hr, rfl⟩ | ⟨q, -, -⟩
    · obtain ⟨g1, g2⟩ := h.got i r hr
      cases hend : r.ended with
      | true =>
        rw [turn_ended hend]
        exact ⟨fun _ => g1 hend, fun q => by rw [hend] at q; cases q⟩
      | false =>
        rw [turn_open hend (hends _)]
        exact ⟨(fun q => by cases q), fun _ => g2 hend⟩
    · cases q
  · have := alive_part h (e := ⟨2, t, (g t).num, c, z⟩) (fun i r a _ _ q => by rw [hends] at q; cases q)
    rw [if_neg (by show ¬ (2 : Int) = 0; decide)] at this
    exact this
/-- An answer. -/
theorem alive_answer {step : Int → γ → Int × α} {l : List (Ev γ α)} {n : Nat} {st : Int} {g : Int → Ts γ α} {o : List (Nat × α)} {pl : List Bool} (h : Alive step l n st g o pl) {t : Int} (h1 : 1 ≤ t) (h3 : t ≤ 3) (ht : (g t).num ≠ 0) (hd : (g t).dn = true) (c : γ) :
    Alive step (l ++ [⟨1, t, (g t).num, c, (g t).an⟩]) n st (upd g t ⟨0, (g t).rq, (g t).an, (g t).dn⟩) o pl := by
  obtain ⟨o1, o2, o3⟩ := h.ths t h1 h3
  have hop := o1.2 ht
  have hev : evJ (after l) (⟨1, t, (g t).num, c, (g t).an⟩ : Ev γ α) = (0, upd (after l) t ⟨false, (after l t).com, (after l t).last⟩) := by
    unfold evJ
    dsimp only
    rw [if_neg (by omega), if_neg (by omega), if_neg (by omega), if_neg (by rw [hop]; show ¬ true = decide ((1 : Int) = 0); decide), if_neg (by omega), if_neg (fun q => q.2 (o3 ht).1.symm), if_neg (by omega), if_neg (by omega), if_pos rfl]
  have hends : ∀ s, ends (⟨1, t, (g t).num, c, (g t).an⟩ : Ev γ α) s = decide (t = s) := fun s => by unfold ends; simp
  have htold : told (⟨1, t, (g t).num, c, (g t).an⟩ : Ev γ α) = some (g t).an := rfl
  obtain ⟨hf, hl⟩ := alive_form h (e := ⟨1, t, (g t).num, c, (g t).an⟩) (by rw [hev])
  have hu : ∀ {β : Type} (f : Int → β) (v : β), upd f t v t = v := fun f v => if_pos rfl
  have hne : ∀ {β : Type} (f : Int → β) (v : β) (s : Int), s ≠ t → upd f t v s = f s := fun f v s q => if_neg q
  have haf : after (l ++ [⟨1, t, (g t).num, c, (g t).an⟩]) = upd (after l) t ⟨false, (after l t).com, (after l t).last⟩ := by rw [after_snoc, hev]
  refine ⟨hf, hl, ?_, ?_, ?_, ?_⟩
  · rw [rs_len, if_neg (by show ¬ (1 : Int) = 0; decide), h.cnt, Nat.add_zero]
  · intro s s1 s3
    rw [haf]
    by_cases e : s = t
    · subst e
      rw [hu, hu]
      exact ⟨⟨(fun q => by cases q), fun q => absurd rfl q⟩, o2, fun q => absurd rfl q⟩
    · rw [hne _ _ s e, hne _ _ s e]; exact h.ths s s1 s3
  · intro i r' hr'
    rcases rs_at hr' with ⟨r, hr, rfl⟩ | ⟨q, -, -⟩
    · obtain ⟨g1, g2⟩ := h.got i r hr
      cases hend : r.ended with
      | true =>
        rw [turn_ended hend]
        exact ⟨fun _ => g1 hend, fun q => by rw [hend] at q; cases q⟩
      | false =>
        obtain ⟨b1, b2, b3, b4, b5⟩ := g2 hend
        by_cases e : t = r.thread
        · rw [turn_hit hend (by rw [hends]; exact decide_eq_true e)]
          refine ⟨fun _ _ => ?_, (fun q => by cases q)⟩
          rw [b4, ← e, hd]
        · rw [turn_open hend (by rw [hends]; exact decide_eq_false e)]
          refine ⟨(fun q => by cases q), fun _ => ?_⟩
          dsimp only
          rw [hne _ _ _ (fun q => e q.symm)]
          exact ⟨b1, b2, b3, b4, b5⟩
    · cases q
  · have := alive_part h (e := ⟨1, t, (g t).num, c, (g t).an⟩) (fun i r a hr hend q ha => by
      rw [hends] at q
      have e := of_decide_eq_true q
      obtain ⟨b1, b2, b3, b4, b5⟩ := (h.got i r hr).2 hend
      rw [← e] at b5
      rw [htold, part_once h.part i _ _ ha (b5 hd)]
      exact .inr rfl)
    rw [if_neg (by show ¬ (1 : Int) = 0; decide)] at this
    exact this
/-- A crash. -/
theorem alive_crash {step : Int → γ → Int × α} {l : List (Ev γ α)} {n : Nat} {st : Int} {g : Int → Ts γ α} {o : List (Nat × α)} {pl : List Bool} (h : Alive step l n st g o pl) (t u : Int) (c : γ) (z : α) :
    Alive step (l ++ [⟨3, t, u, c, z⟩]) n st (fun t => ⟨0, (g t).rq, (g t).an, (g t).dn⟩) o pl := by
  have hev : evJ (after l) (⟨3, t, u, c, z⟩ : Ev γ α) = (0, fun t => ⟨false, false, (after l t).last⟩) := by
    unfold evJ
    dsimp only
    rw [if_neg (by omega), if_pos rfl]
  have hends : ∀ s, ends (⟨3, t, u, c, z⟩ : Ev γ α) s = true := fun s => by unfold ends; simp
  have htold : told (⟨3, t, u, c, z⟩ : Ev γ α) = none := rfl
  obtain ⟨hf, hl⟩ := alive_form h (e := ⟨3, t, u, c, z⟩) (by rw [hev])
  have haf : after (l ++ [⟨3, t, u, c, z⟩]) = fun t => ⟨false, false, (after l t).last⟩ := by rw [after_snoc, hev]
  refine ⟨hf, hl, ?_, ?_, ?_, ?_⟩
  · rw [rs_len, if_neg (by show ¬ (3 : Int) = 0; decide), h.cnt, Nat.add_zero]
  · intro s s1 s3
    rw [haf]
    exact ⟨⟨(fun q => by cases q), fun q => absurd rfl q⟩, (h.ths s s1 s3).2.1, fun q => absurd rfl q⟩
  · intro i r' hr'
    rcases rs_at hr' with ⟨r, hr, rfl⟩ | ⟨q, -, -⟩
    · obtain ⟨g1, g2⟩ := h.got i r hr
      cases hend : r.ended with
      | true =>
        rw [turn_ended hend]
        exact ⟨fun _ => g1 hend, fun q => by rw [hend] at q; cases q⟩
      | false =>
        rw [turn_hit hend (hends _)]
        exact ⟨fun _ q => (by rw [htold] at q; cases q), (fun q => by cases q)⟩
    · cases q
  · have := alive_part h (e := ⟨3, t, u, c, z⟩) (fun i r a _ _ _ _ => .inl htold)
    rw [if_neg (by show ¬ (3 : Int) = 0; decide)] at this
    exact this
/-- There is an order. -/
theorem alive_found {step : Int → γ → Int × α} {l : List (Ev γ α)} {n : Nat} {st : Int} {g : Int → Ts γ α} {o : List (Nat × α)} {pl : List Bool} (h : Alive step l n st g o pl) : ansS step (csOf l.length l) 0 (List.replicate (csOf l.length l).length false) ≠ none := by
  refine part_found h.part (whole_ans fun k y hk hy => ?_)
  unfold csOf at hk
  rw [List.getElem?_map, Option.map_eq_some_iff] at hk
  obtain ⟨r, hr, rfl⟩ := hk
  cases hend : r.ended with
  | true => exact (h.got k r hr).1 hend hy
  | false =>
    have := ((recs_ok l.length l 0 r (List.mem_of_getElem? hr)).opn hend).2
    rw [this] at hy; cases hy
end Go.Proofs.YtpfghndflegbaaaDoor.Jd
namespace Go.Proofs.YtpfghndflegbaaaDoor
open Go Go.Vc Go.Sort
set_option maxRecDepth 100000
set_option maxHeartbeats 16000000

theorem len_one {β : Type} {es : List β} (e : β) {n : Nat} (h : es.length + 1 ≤ n) : (es ++ [e]).length ≤ n := by
  rw [List.length_append]; exact h
theorem len_two {β : Type} {es : List β} (e e' : β) {n : Nat} (h : es.length + 1 + 1 ≤ n) : ((es ++ [e]) ++ [e']).length ≤ n := by
  rw [List.length_append, List.length_append]; exact h
theorem len_three {β : Type} {es : List β} (e : β) {n : Nat} (h : (es.length + 1 + 1) * 80 ≤ n) : ((es ++ [e]).length + 1) * 80 ≤ n := by
  rw [List.length_append]; exact h
abbrev Tx := Jd.Ts Cd Ad
/-- What is so of a register that lives. -/
structure LivX (S : Store) (es : List shE.T) (n : Nat) (st : Int) (g : Int → Tx) (K : List (Hd × List Int)) : Prop where
  sti : inI64 st
  kn : ∀ q ∈ K, q.2.length = q.1.2.1 ∧ RowRd S q.1.1 shI q.2 ∧ ∀ x ∈ q.2, inI64 x
  rq : ∀ t : Int, (g t).num ≠ 0 → ∃ q ∈ K, q.1 = (g t).rq.2
  ev : ∀ e ∈ es, (∃ q ∈ K, q.1 = e.2.2.2.1.2) ∨ e.2.2.2.1.2 = (none, 0, 0)
  al : ∀ D : Hd → List Int, (∀ q ∈ K, D q.1 = q.2) → ∃ o pl, Jd.Alive (stepE D) (es.map evOf) n st g o pl
theorem LivX.le {S S' : Store} (h : S.le S') {es n st g K} (H : LivX S es n st g K) : LivX S' es n st g K :=
  ⟨H.sti, fun q hq => ⟨(H.kn q hq).1, (H.kn q hq).2.1.le h, (H.kn q hq).2.2⟩, H.rq, H.ev, H.al⟩
@[reducible] def ts0 : Int → Tx := fun _ => ⟨0, (ByteArray.empty, (none, 0, 0)), (0, 0), false⟩
theorem liv_nil (S : Store) : LivX S [] 0 0 ts0 [] :=
  ⟨inI_zero, fun q h => (by cases h), fun t h => absurd rfl h, fun e h => (by cases h), fun D _ => ⟨[], [], Jd.alive_nil _ _ fun _ => rfl⟩⟩
theorem upd_at {β : Type} (f : Int → β) (t : Int) (v : β) : Jd.upd f t v t = v := if_pos rfl
theorem upd_ne {β : Type} (f : Int → β) (t : Int) (v : β) {s : Int} (h : s ≠ t) : Jd.upd f t v s = f s := if_neg h
theorem liv_call {S : Store} {es n st g K} (H : LivX S es n st g K) {t : Int} (h1 : 1 ≤ t) (h3 : t ≤ 3) (ht : (g t).num = 0) (nm : ByteArray) (hh : Hd) (xs : List Int) (hl : xs.length = hh.2.1) (hr : RowRd S hh.1 shI xs) (hi : ∀ x ∈ xs, inI64 x) :
    LivX S (es ++ [(0, t, ((n + 1 : Nat) : Int), (nm, hh), (0, 0))]) (n + 1) st (Jd.upd g t ⟨((n + 1 : Nat) : Int), (nm, hh), (g t).an, false⟩) (K ++ [(hh, xs)]) := by
  refine ⟨H.sti, fun q hq => ?_, fun s hs => ?_, fun e he => ?_, fun D hD => ?_⟩
  · rcases List.mem_append.1 hq with hq | hq
    · exact H.kn q hq
    · obtain rfl := List.mem_singleton.1 hq
      exact ⟨hl, hr, hi⟩
  · by_cases e : s = t
    · subst e
      rw [upd_at]
      exact ⟨_, List.mem_append_right _ (List.mem_singleton.2 rfl), rfl⟩
    · rw [upd_ne _ _ _ e] at hs ⊢
      obtain ⟨q, hq, h⟩ := H.rq s hs
      exact ⟨q, List.mem_append_left _ hq, h⟩
  · rcases List.mem_append.1 he with he | he
    · rcases H.ev e he with ⟨q, hq, h⟩ | h
      · exact .inl ⟨q, List.mem_append_left _ hq, h⟩
      · exact .inr h
    · obtain rfl := List.mem_singleton.1 he
      exact .inl ⟨_, List.mem_append_right _ (List.mem_singleton.2 rfl), rfl⟩
  · obtain ⟨o, pl, h⟩ := H.al D (fun q hq => hD q (List.mem_append_left _ hq))
    have := Jd.alive_call h h1 h3 ht (nm, hh) ((0, 0) : Ad) (g t).an
    refine ⟨o, pl ++ [false], ?_⟩
    rw [List.map_append]
    exact this
theorem liv_add {S : Store} {es n st g K} (H : LivX S es n st g K) (e : shE.T) (he0 : e.2.2.2.1.2 = (none, 0, 0)) : ∀ e' ∈ es ++ [e], (∃ q ∈ K, q.1 = e'.2.2.2.1.2) ∨ e'.2.2.2.1.2 = (none, 0, 0) := by
  intro e' he
  rcases List.mem_append.1 he with he | he
  · exact H.ev e' he
  · obtain rfl := List.mem_singleton.1 he
    exact .inr he0
theorem liv_rq {S : Store} {es n st g K} (H : LivX S es n st g K) (t : Int) (v : Tx) (hv : v.rq = (g t).rq) (hn : v.num ≠ 0 → (g t).num ≠ 0) : ∀ s : Int, (Jd.upd g t v s).num ≠ 0 → ∃ q ∈ K, q.1 = (Jd.upd g t v s).rq.2 := by
  intro s hs
  by_cases e : s = t
  · subst e
    rw [upd_at] at hs ⊢
    rw [hv]
    exact H.rq s (hn hs)
  · rw [upd_ne _ _ _ e] at hs ⊢
    exact H.rq s hs
theorem step_at {D : Hd → List Int} {K : List (Hd × List Int)} (hD : ∀ q ∈ K, D q.1 = q.2) {q : Hd × List Int} (hq : q ∈ K) (st : Int) {c : Cd} (h : q.1 = c.2) : stepE D st c = doE st c.1 q.2 := by
  unfold stepE
  rw [← h, hD q hq]
theorem liv_effect {S : Store} {es n st g K} (H : LivX S es n st g K) {t : Int} (h1 : 1 ≤ t) (h3 : t ≤ 3) (ht : (g t).num ≠ 0) (hd : (g t).dn = false) {q : Hd × List Int} (hq : q ∈ K) (hqr : q.1 = (g t).rq.2) :
    LivX S es n (doE st (g t).rq.1 q.2).1 (Jd.upd g t ⟨(g t).num, (g t).rq, (doE st (g t).rq.1 q.2).2, true⟩) K := by
  refine ⟨doE_in H.sti _ (H.kn q hq).2.2, H.kn, liv_rq H t _ rfl id, H.ev, fun D hD => ?_⟩
  obtain ⟨o, pl, h⟩ := H.al D hD
  have hs := step_at hD hq st hqr
  obtain ⟨o', pl', h'⟩ := Jd.alive_effect h h1 h3 ht hd
  rw [hs] at h'
  exact ⟨o', pl', h'⟩
theorem liv_commit {S : Store} {es n st g K} (H : LivX S es n st g K) {t : Int} (h1 : 1 ≤ t) (h3 : t ≤ 3) (ht : (g t).num ≠ 0) (hd : (g t).dn = false) {q : Hd × List Int} (hq : q ∈ K) (hqr : q.1 = (g t).rq.2) :
    LivX S (es ++ [(2, t, (g t).num, (ByteArray.empty, (none, 0, 0)), (0, 0))]) n (doE st (g t).rq.1 q.2).1 (Jd.upd g t ⟨(g t).num, (g t).rq, (doE st (g t).rq.1 q.2).2, true⟩) K := by
  refine ⟨doE_in H.sti _ (H.kn q hq).2.2, H.kn, liv_rq H t _ rfl id, liv_add H _ rfl, fun D hD => ?_⟩
  obtain ⟨o, pl, h⟩ := H.al D hD
  have hs := step_at hD hq st hqr
  have hc := ((h.ths t h1 h3).2.2 ht).2 hd
  obtain ⟨o', pl', h'⟩ := Jd.alive_effect h h1 h3 ht hd
  rw [hs] at h'
  have h2 := Jd.alive_commit h' h1 h3 (by rw [upd_at]; exact ht) (by rw [upd_at]) hc (ByteArray.empty, (none, 0, 0)) ((0, 0) : Ad)
  rw [upd_at] at h2
  refine ⟨o', pl', ?_⟩
  rw [List.map_append]
  exact h2
theorem liv_answer {S : Store} {es n st g K} (H : LivX S es n st g K) {t : Int} (h1 : 1 ≤ t) (h3 : t ≤ 3) (ht : (g t).num ≠ 0) (hd : (g t).dn = true) :
    LivX S (es ++ [(1, t, (g t).num, (ByteArray.empty, (none, 0, 0)), (g t).an)]) n st (Jd.upd g t ⟨0, (g t).rq, (g t).an, (g t).dn⟩) K := by
  refine ⟨H.sti, H.kn, liv_rq H t _ rfl (fun q => absurd rfl q), liv_add H _ rfl, fun D hD => ?_⟩
  obtain ⟨o, pl, h⟩ := H.al D hD
  refine ⟨o, pl, ?_⟩
  rw [List.map_append]
  exact Jd.alive_answer h h1 h3 ht hd (ByteArray.empty, (none, 0, 0))
theorem liv_crash {S : Store} {es n st g K} (H : LivX S es n st g K) :
    LivX S (es ++ [(3, 0, 0, (ByteArray.empty, (none, 0, 0)), (0, 0))]) n st (fun t => ⟨0, (g t).rq, (g t).an, (g t).dn⟩) K := by
  refine ⟨H.sti, H.kn, fun s hs => absurd rfl hs, liv_add H _ rfl, fun D hD => ?_⟩
  obtain ⟨o, pl, h⟩ := H.al D hD
  refine ⟨o, pl, ?_⟩
  rw [List.map_append]
  exact Jd.alive_crash h 0 0 (ByteArray.empty, (none, 0, 0)) ((0, 0) : Ad)

@[reducible] def boxN (g : Int → Tx) : List C := [.v (.int .i64 (g 0).num), .v (.int .i64 (g 1).num), .v (.int .i64 (g 2).num), .v (.int .i64 (g 3).num)]
@[reducible] def boxR (g : Int → Tx) : List C := [.v (.string (g 0).rq.1), .v (slV (g 0).rq.2), .v (.string (g 1).rq.1), .v (slV (g 1).rq.2), .v (.string (g 2).rq.1), .v (slV (g 2).rq.2), .v (.string (g 3).rq.1), .v (slV (g 3).rq.2)]
@[reducible] def boxA (g : Int → Tx) : List C := [.v (.int .i64 (g 0).an.1), .v (.int .i64 (g 0).an.2), .v (.int .i64 (g 1).an.1), .v (.int .i64 (g 1).an.2), .v (.int .i64 (g 2).an.1), .v (.int .i64 (g 2).an.2), .v (.int .i64 (g 3).an.1), .v (.int .i64 (g 3).an.2)]
@[reducible] def boxD (g : Int → Tx) : List C := [.v (.bool (g 0).dn), .v (.bool (g 1).dn), .v (.bool (g 2).dn), .v (.bool (g 3).dn)]
theorem name_at' {k : Int} (h0 : 0 ≤ k) (h3 : k < 4) : ∃ nm : ByteArray, (([.v (.string wWrite), .v (.string wRead), .v (.string wAdd), .v (.string wSwap)] : List C).drop (k.toNat * 1)).take 1 = [.v (.string nm)] := by
  have : k = 0 ∨ k = 1 ∨ k = 2 ∨ k = 3 := by omega
  rcases this with rfl | rfl | rfl | rfl
  · exact ⟨wWrite, rfl⟩
  · exact ⟨wRead, rfl⟩
  · exact ⟨wAdd, rfl⟩
  · exact ⟨wSwap, rfl⟩
/-- The state of the loop: the events, the register, the number of calls, the round, the threads, the numbers behind the handles, the store. -/
abbrev Lv := List shE.T × Int × Nat × Nat × (Int → Tx) × List (Hd × List Int) × Store
theorem lived_spec (S : Store) (hL : Lw S) (p : Hd) (l : List shMove.T) (hl : l.length = p.2.1) (hr : RowRd S p.1 shMove l) (hi : ∀ y ∈ l, okMove y) (h60 : l.length ≤ 60) :
    Pure Tryd.prog 18 S [slV p] (A := Hd) (fun q => .c (.v (slV q))) (fun S' q => ∃ (es : List shE.T) (n : Nat) (st : Int) (g : Int → Tx) (K : List (Hd × List Int)), q.2.1 = es.length ∧ q.2.1 ≤ q.2.2 ∧ RowRd S' q.1 shE es ∧ es.length ≤ 120 ∧ n ≤ 8 ∧ LivX S' es n st g K) := by
  obtain ⟨p, n0, c⟩ := p
  simp only at hl hr
  subst hl
  refine pure_vc agrees Tryd.func18 rfl rfl (fun S S' q hle ⟨es, n, st, g, K, h1, h2, h3, h4, h5, h6⟩ => ⟨es, n, st, g, K, h1, h2, h3.le hle, h4, h5, h6.le hle⟩) ?_
  refine ⟨⟨_, rfl, rfl, rfl⟩, .inl ⟨_, _, _, first_spec S, fun S1 _ hS1 _ => ?_⟩⟩
  have hL1 := hL.le hS1
  have hr1 := hr.le hS1
  refine ⟨[], [(3, shE, 56)], Lv, [11, 12, 13] ++ List.range' 16 133, fun a => [(4, rS (bs (Lib.itoa a.2.1))), (9, rI a.2.2.1), (10, rI a.2.2.2.1)],
    fun a => [.box (boxN a.2.2.2.2.1), .box (boxR a.2.2.2.2.1), .box (boxA a.2.2.2.2.1), .box (boxD a.2.2.2.2.1), .row shE 56 a.1], fun a => a.2.2.2.2.2.2,
    fun a => S1.le a.2.2.2.2.2.2 ∧ a.2.2.2.1 ≤ l.length ∧ a.1.length ≤ 2 * a.2.2.2.1 ∧ a.2.2.1 ≤ 8 ∧ LivX a.2.2.2.2.2.2 a.1 a.2.2.1 a.2.1 a.2.2.2.2.1 a.2.2.2.2.2.1, fun a => l.length - a.2.2.2.1, ?_⟩
  refine And.intro (Exists.intro ([], 0, 0, 0, ts0, [], S1) (And.intro (And.intro (And.intro ?_ rfl) (And.intro rfl (Store.le_refl _))) ⟨Store.le_refl _, Nat.zero_le _, Nat.zero_le _, Nat.zero_le _, liv_nil S1⟩)) ?_
  · repeat' first | exact trivial | exact rfl | refine And.intro ?_ ?_
  rintro ⟨es, st, n, i, g, K, Sa⟩ ⟨hSa, hil0, hes, hn8, H⟩
  have hSa : S1.le Sa := hSa
  have hil0 : i ≤ l.length := hil0
  have hes : es.length ≤ 2 * i := hes
  have hn8 : n ≤ 8 := hn8
  have H : LivX Sa es n st g K := H
  have hLa := hL1.le hSa
  have hra := hr1.le hSa
  have i0 : (0 : Int) ≤ ((i : Nat) : Int) := Int.natCast_nonneg _
  refine And.intro (fun h => ?_) (fun h => ?_)
  · have hil : i < l.length := by
      have : ((i : Nat) : Int) < ((l.length : Nat) : Int) := of_decide_eq_true h
      omega
    obtain ⟨y, hy⟩ : ∃ y : Int × Int × Int × Int × Int, l[i]? = some y := ⟨_, List.getElem?_eq_getElem hil⟩
    obtain ⟨b, o, hp, hok, hrd⟩ := row_at hra hy
    obtain ⟨⟨d0, d1⟩, ⟨t0, t1⟩, ⟨k0, k1⟩, ⟨a0, a1⟩, ⟨b0, b1⟩⟩ := hi y (List.mem_of_getElem? hy)
    have d0 : 0 ≤ y.1 := d0
    have d1 : y.1 ≤ 255 := d1
    have t0 : 0 ≤ y.2.1 := t0
    have t1 : y.2.1 ≤ 255 := t1
    have k0 : 0 ≤ y.2.2.1 := k0
    have k1 : y.2.2.1 ≤ 255 := k1
    have a0 : -128 ≤ y.2.2.2.1 := a0
    have a1 : y.2.2.2.1 ≤ 127 := a1
    have b0 : -128 ≤ y.2.2.2.2 := b0
    have b1 : y.2.2.2.2 ≤ 127 := b1
    have hil2 : ((i : Nat) : Int) < (l.length : Int) := by omega
    have w1 : IntKind.i64.wrap (((i : Nat) : Int) + 1) = ((i + 1 : Nat) : Int) := wrap_i64 (by omega) (by omega)
    have wn : IntKind.i64.wrap (((n : Nat) : Int) + 1) = ((n + 1 : Nat) : Int) := wrap_i64 (by omega) (by omega)
    have hmu : l.length - (i + 1) < l.length - i := by omega
    have hb1 : (es.length + 1) * 80 ≤ 140737488355328 := by omega
    have n1 : es.length + 1 ≤ 2 * (i + 1) := by omega
    have n2 : es.length + 1 + 1 ≤ 2 * (i + 1) := by omega
    have n3 : (es.length + 1 + 1) * 80 ≤ 140737488355328 := Nat.le_trans (Nat.mul_le_mul_right 80 (show es.length + 1 + 1 ≤ 200 by omega)) (by decide)
    have len0 : es.length ≤ 2 * (i + 1) := Nat.le_trans hes (by omega)
    have wa : IntKind.i64.wrap y.2.2.2.1 = y.2.2.2.1 := wrap_i64 (by omega) (by omega)
    have wb : IntKind.i64.wrap y.2.2.2.2 = y.2.2.2.2 := wrap_i64 (by omega) (by omega)
    have hev : ∀ z : shE.T, shE.ok z := fun z => ⟨trivial, trivial, trivial, ⟨trivial, trivial⟩, trivial, trivial⟩
    have hargs : ∀ x ∈ [y.2.2.2.1, y.2.2.2.2], inI64 x := by
      intro x hx
      simp only [List.mem_cons, List.not_mem_nil, or_false] at hx
      rcases hx with rfl | rfl <;> exact ⟨by omega, by omega⟩
    have kq0 : 0 ≤ y.2.2.1.tmod 4 := by rw [Int.tmod_eq_emod_of_nonneg k0]; omega
    have kq4 : y.2.2.1.tmod 4 < 4 := by rw [Int.tmod_eq_emod_of_nonneg k0]; omega
    have hth : y.2.1.tmod 3 = 0 ∨ y.2.1.tmod 3 = 1 ∨ y.2.1.tmod 3 = 2 := by rw [Int.tmod_eq_emod_of_nonneg t0]; omega
    obtain ⟨nm, hnm⟩ := name_at' kq0 kq4
    generalize hkq : y.2.2.1.tmod 4 = kq at *
    have len1 : ∀ e : shE.T, (es ++ [e]).length ≤ 2 * (i + 1) := fun e => len_one e n1
    have len2 : ∀ e e' : shE.T, ((es ++ [e]) ++ [e']).length ≤ 2 * (i + 1) := fun e e' => len_two e e' n2
    have hb2 : ∀ e : shE.T, ((es ++ [e]).length + 1) * 80 ≤ 140737488355328 := fun e => len_three e n3
    obtain ⟨th, hthq⟩ : ∃ th, y.2.1.tmod 3 = th := ⟨_, rfl⟩
    rw [hthq] at hth
    have wt : IntKind.i64.wrap th = th := by rcases hth with rfl | rfl | rfl <;> exact wrap_i64 (by decide) (by decide)
    have wt1 : IntKind.i64.wrap (th + 1) = th + 1 := by rcases hth with rfl | rfl | rfl <;> exact wrap_i64 (by decide) (by decide)
    obtain ⟨T, hT⟩ : ∃ T, th + 1 = T := ⟨_, rfl⟩
    have hTT : T = 1 ∨ T = 2 ∨ T = 3 := by omega
    obtain ⟨dd, hdd⟩ : ∃ dd, y.1.tmod 8 = dd := ⟨_, rfl⟩
    refine ⟨i0, hil2, b, o, hp, y, hok, hrd, ?_⟩
    refine ⟨by decide, th, hthq, th, wt, T, wt1.trans hT, by decide, dd, hdd, ?_⟩
    clear hrd hok hthq hdd wt wt1 hT hth
    rcases hTT with rfl | rfl | rfl
    · skip
      by_cases c1 : dd < 2
      · have e19 : decide (dd ≥ 2) = false := decide_eq_false (by omega)
        have e28 : (dd == 7) = false := beq_eq_false_iff_ne.2 (by omega)
        by_cases c2 : (g 1).num = 0
        · by_cases c3 : n < 8
          · refine onE (decide_eq_true c1) ⟨by decide, by decide, onE (beq_iff_eq.2 c2) (onE (decide_eq_true (show ((n : Nat) : Int) < 8 by omega)) ?_)⟩
            refine ⟨((n + 1 : Nat) : Int), wn, by decide, by decide, by decide, by decide, or18_17, [1, 6], oF18_17, by kernel_rfl, by decide, kq, hkq, kq0, kq4, nm, hnm, y.2.2.2.1, wa, y.2.2.2.2, wb, by decide, by decide, by decide, by decide, fun pa ca S3 hS3 hr3 hpf3 => ?_⟩
            refine ⟨[(0, 1, ((n + 1 : Nat) : Int), (nm, (pa, 2, ca)), (0, 0))], ⟨rfl, rfl⟩, fun _ _ => hev _, hb1, ((i + 1 : Nat) : Int), w1, (es ++ [(0, 1, ((n + 1 : Nat) : Int), (nm, (pa, 2, ca)), (0, 0))], st, n + 1, i + 1, Jd.upd g 1 ⟨((n + 1 : Nat) : Int), (nm, (pa, 2, ca)), (g 1).an, false⟩, K ++ [((pa, 2, ca), [y.2.2.2.1, y.2.2.2.2])], S3), ⟨⟨?_, rfl⟩, rfl, Store.le_refl _⟩, ⟨Store.le_trans hSa hS3, hil, len1 _, c3, liv_call (H.le hS3) (by decide) (by decide) c2 nm (pa, 2, ca) [y.2.2.2.1, y.2.2.2.2] rfl hr3 hargs⟩, hmu⟩
            repeat' first | exact trivial | exact rfl | refine And.intro ?_ ?_
          · refine onE (decide_eq_true c1) ⟨by decide, by decide, onE (beq_iff_eq.2 c2) (offE (decide_eq_false (show ¬ ((n : Nat) : Int) < 8 by omega)) (offE e19 (onF (onF (offE e28 (onF ⟨((i + 1 : Nat) : Int), w1, (es, st, n, i + 1, g, K, Sa), ⟨⟨?_, rfl⟩, rfl, Store.le_refl _⟩, ⟨hSa, hil, len0, hn8, H⟩, hmu⟩))))))⟩
            repeat' first | exact trivial | exact rfl | refine And.intro ?_ ?_
        · refine onE (decide_eq_true c1) ⟨by decide, by decide, offE (beq_eq_false_iff_ne.2 c2) (onF (offE e19 (onF (onF (offE e28 (onF ⟨((i + 1 : Nat) : Int), w1, (es, st, n, i + 1, g, K, Sa), ⟨⟨?_, rfl⟩, rfl, Store.le_refl _⟩, ⟨hSa, hil, len0, hn8, H⟩, hmu⟩))))))⟩
          repeat' first | exact trivial | exact rfl | refine And.intro ?_ ?_
      have e19 : decide (dd ≥ 2) = true := decide_eq_true (by omega)
      by_cases c3 : dd < 7
      · have e28 : (dd == 7) = false := beq_eq_false_iff_ne.2 (by omega)
        by_cases c4 : (g 1).num = 0
        · refine offE (decide_eq_false c1) (onF (onF (onE e19 (onE (decide_eq_true c3) ⟨by decide, by decide, offE (bne_eq_false_iff_eq.2 c4) (offE e28 (onF ⟨((i + 1 : Nat) : Int), w1, (es, st, n, i + 1, g, K, Sa), ⟨⟨?_, rfl⟩, rfl, Store.le_refl _⟩, ⟨hSa, hil, len0, hn8, H⟩, hmu⟩))⟩))))
          repeat' first | exact trivial | exact rfl | refine And.intro ?_ ?_
        refine offE (decide_eq_false c1) (onF (onF (onE e19 (onE (decide_eq_true c3) ⟨by decide, by decide, onE (bne_iff_ne.2 c4) ⟨by decide, by decide, ?_⟩⟩))))
        cases hdn : (g 1).dn with
        | true =>
          refine offE (by rw [hdn]; rfl) ?_
          by_cases c6 : dd ≥ 5
          · refine onE (decide_eq_true c6) ⟨or18_26, [4, 6, 7], oF18_26, by kernel_rfl, by decide, by decide, by decide, by decide, [(1, 1, (g 1).num, (ByteArray.empty, (none, 0, 0)), (g 1).an)], ⟨rfl, rfl⟩, fun _ _ => hev _, hb1, by decide, by decide, ((i + 1 : Nat) : Int), w1, (es ++ [(1, 1, (g 1).num, (ByteArray.empty, (none, 0, 0)), (g 1).an)], st, n, i + 1, Jd.upd (g) 1 ⟨0, ((g) 1).rq, ((g) 1).an, ((g) 1).dn⟩, K, Sa), ⟨⟨?_, rfl⟩, rfl, Store.le_refl _⟩, ⟨hSa, hil, len1 _, hn8, liv_answer (H) (by decide) (by decide) c4 hdn⟩, hmu⟩
            repeat' first | exact trivial | exact rfl | refine And.intro ?_ ?_
          · refine offE (decide_eq_false c6) ⟨((i + 1 : Nat) : Int), w1, (es, st, n, i + 1, g, K, Sa), ⟨⟨?_, rfl⟩, rfl, Store.le_refl _⟩, ⟨hSa, hil, len0, hn8, H⟩, hmu⟩
            repeat' first | exact trivial | exact rfl | refine And.intro ?_ ?_
        | false =>
          obtain ⟨q, hq, hqr⟩ := H.rq 1 c4
          obtain ⟨hq1, hq2, hq3⟩ := H.kn q hq
          rw [hqr] at hq1 hq2
          refine onE (by rw [hdn]; rfl) ⟨by decide, by decide, ⟨_, rfl, rfl, rfl⟩, .inl ⟨_, _, _, reg_spec Sa hLa st H.sti (g 1).rq.1 (g 1).rq.2 q.2 hq3 hq1 hq2, fun S4 _ hS4 _ => ?_⟩⟩
          refine ⟨by decide, by decide, by decide, by decide, by decide, _, rfl, ?_⟩
          by_cases c5 : y.2.2.1.tmod 2 = 0
          · refine onE (beq_iff_eq.2 c5) ⟨by decide, by decide, [(2, 1, (g 1).num, (ByteArray.empty, (none, 0, 0)), (0, 0))], ⟨rfl, rfl⟩, fun _ _ => hev _, hb1, ?_⟩
            by_cases c6 : dd ≥ 5
            · refine onE (decide_eq_true c6) ⟨or18_26, [4, 6, 7], oF18_26, by kernel_rfl, by decide, by decide, by decide, by decide, [(1, 1, (g 1).num, (ByteArray.empty, (none, 0, 0)), (doE st (g 1).rq.1 q.2).2)], ⟨rfl, rfl⟩, fun _ _ => hev _, hb2 _, by decide, by decide, ((i + 1 : Nat) : Int), w1, ((es ++ [(2, 1, (g 1).num, (ByteArray.empty, (none, 0, 0)), (0, 0))]) ++ [(1, 1, (g 1).num, (ByteArray.empty, (none, 0, 0)), (doE st (g 1).rq.1 q.2).2)], (doE st (g 1).rq.1 q.2).1, n, i + 1, Jd.upd (Jd.upd g 1 ⟨(g 1).num, (g 1).rq, (doE st (g 1).rq.1 q.2).2, true⟩) 1 ⟨0, ((Jd.upd g 1 ⟨(g 1).num, (g 1).rq, (doE st (g 1).rq.1 q.2).2, true⟩) 1).rq, ((Jd.upd g 1 ⟨(g 1).num, (g 1).rq, (doE st (g 1).rq.1 q.2).2, true⟩) 1).an, ((Jd.upd g 1 ⟨(g 1).num, (g 1).rq, (doE st (g 1).rq.1 q.2).2, true⟩) 1).dn⟩, K, S4), ⟨⟨?_, rfl⟩, rfl, Store.le_refl _⟩, ⟨Store.le_trans hSa hS4, hil, len2 _ _, hn8, liv_answer (liv_commit (H.le hS4) (by decide) (by decide) c4 hdn hq hqr) (by decide) (by decide) c4 rfl⟩, hmu⟩
              repeat' first | exact trivial | exact rfl | refine And.intro ?_ ?_
            · refine offE (decide_eq_false c6) ⟨((i + 1 : Nat) : Int), w1, ((es ++ [(2, 1, (g 1).num, (ByteArray.empty, (none, 0, 0)), (0, 0))]), (doE st (g 1).rq.1 q.2).1, n, i + 1, Jd.upd g 1 ⟨(g 1).num, (g 1).rq, (doE st (g 1).rq.1 q.2).2, true⟩, K, S4), ⟨⟨?_, rfl⟩, rfl, Store.le_refl _⟩, ⟨Store.le_trans hSa hS4, hil, len1 _, hn8, liv_commit (H.le hS4) (by decide) (by decide) c4 hdn hq hqr⟩, hmu⟩
              repeat' first | exact trivial | exact rfl | refine And.intro ?_ ?_
          · refine offE (beq_eq_false_iff_ne.2 c5) ?_
            by_cases c6 : dd ≥ 5
            · refine onE (decide_eq_true c6) ⟨or18_26, [4, 6, 7], oF18_26, by kernel_rfl, by decide, by decide, by decide, by decide, [(1, 1, (g 1).num, (ByteArray.empty, (none, 0, 0)), (doE st (g 1).rq.1 q.2).2)], ⟨rfl, rfl⟩, fun _ _ => hev _, hb1, by decide, by decide, ((i + 1 : Nat) : Int), w1, (es ++ [(1, 1, (g 1).num, (ByteArray.empty, (none, 0, 0)), (doE st (g 1).rq.1 q.2).2)], (doE st (g 1).rq.1 q.2).1, n, i + 1, Jd.upd (Jd.upd g 1 ⟨(g 1).num, (g 1).rq, (doE st (g 1).rq.1 q.2).2, true⟩) 1 ⟨0, ((Jd.upd g 1 ⟨(g 1).num, (g 1).rq, (doE st (g 1).rq.1 q.2).2, true⟩) 1).rq, ((Jd.upd g 1 ⟨(g 1).num, (g 1).rq, (doE st (g 1).rq.1 q.2).2, true⟩) 1).an, ((Jd.upd g 1 ⟨(g 1).num, (g 1).rq, (doE st (g 1).rq.1 q.2).2, true⟩) 1).dn⟩, K, S4), ⟨⟨?_, rfl⟩, rfl, Store.le_refl _⟩, ⟨Store.le_trans hSa hS4, hil, len1 _, hn8, liv_answer (liv_effect (H.le hS4) (by decide) (by decide) c4 hdn hq hqr) (by decide) (by decide) c4 rfl⟩, hmu⟩
              repeat' first | exact trivial | exact rfl | refine And.intro ?_ ?_
            · refine offE (decide_eq_false c6) ⟨((i + 1 : Nat) : Int), w1, (es, (doE st (g 1).rq.1 q.2).1, n, i + 1, Jd.upd g 1 ⟨(g 1).num, (g 1).rq, (doE st (g 1).rq.1 q.2).2, true⟩, K, S4), ⟨⟨?_, rfl⟩, rfl, Store.le_refl _⟩, ⟨Store.le_trans hSa hS4, hil, len0, hn8, liv_effect (H.le hS4) (by decide) (by decide) c4 hdn hq hqr⟩, hmu⟩
              repeat' first | exact trivial | exact rfl | refine And.intro ?_ ?_
      have e197 : decide (dd < 7) = false := decide_eq_false c3
      by_cases c7 : dd = 7
      · refine offE (decide_eq_false c1) (onF (onF (onE e19 (offE e197 (onF (onE (beq_iff_eq.2 c7) ⟨by decide, _, rfl, ?_⟩))))))
        by_cases c8 : y.2.2.1.tmod 16 = 0
        · refine onE (beq_iff_eq.2 c8) ⟨[(3, 0, 0, (ByteArray.empty, (none, 0, 0)), (0, 0))], ⟨rfl, rfl⟩, fun _ _ => hev _, hb1, ((i + 1 : Nat) : Int), w1, (es ++ [(3, 0, 0, (ByteArray.empty, (none, 0, 0)), (0, 0))], st, n, i + 1, (fun t => ⟨0, (g t).rq, (g t).an, (g t).dn⟩), K, Sa), ⟨⟨?_, rfl⟩, rfl, Store.le_refl _⟩, ⟨hSa, hil, len1 _, hn8, liv_crash H⟩, hmu⟩
          repeat' first | exact trivial | exact rfl | refine And.intro ?_ ?_
        · refine offE (beq_eq_false_iff_ne.2 c8) ⟨((i + 1 : Nat) : Int), w1, (es, st, n, i + 1, g, K, Sa), ⟨⟨?_, rfl⟩, rfl, Store.le_refl _⟩, ⟨hSa, hil, len0, hn8, H⟩, hmu⟩
          repeat' first | exact trivial | exact rfl | refine And.intro ?_ ?_
      · refine offE (decide_eq_false c1) (onF (onF (onE e19 (offE e197 (onF (offE (beq_eq_false_iff_ne.2 c7) (onF ⟨((i + 1 : Nat) : Int), w1, (es, st, n, i + 1, g, K, Sa), ⟨⟨?_, rfl⟩, rfl, Store.le_refl _⟩, ⟨hSa, hil, len0, hn8, H⟩, hmu⟩)))))))
        repeat' first | exact trivial | exact rfl | refine And.intro ?_ ?_
    · skip
      by_cases c1 : dd < 2
      · have e19 : decide (dd ≥ 2) = false := decide_eq_false (by omega)
        have e28 : (dd == 7) = false := beq_eq_false_iff_ne.2 (by omega)
        by_cases c2 : (g 2).num = 0
        · by_cases c3 : n < 8
          · refine onE (decide_eq_true c1) ⟨by decide, by decide, onE (beq_iff_eq.2 c2) (onE (decide_eq_true (show ((n : Nat) : Int) < 8 by omega)) ?_)⟩
            refine ⟨((n + 1 : Nat) : Int), wn, by decide, by decide, by decide, by decide, or18_17, [1, 6], oF18_17, by kernel_rfl, by decide, kq, hkq, kq0, kq4, nm, hnm, y.2.2.2.1, wa, y.2.2.2.2, wb, by decide, by decide, by decide, by decide, fun pa ca S3 hS3 hr3 hpf3 => ?_⟩
            refine ⟨[(0, 2, ((n + 1 : Nat) : Int), (nm, (pa, 2, ca)), (0, 0))], ⟨rfl, rfl⟩, fun _ _ => hev _, hb1, ((i + 1 : Nat) : Int), w1, (es ++ [(0, 2, ((n + 1 : Nat) : Int), (nm, (pa, 2, ca)), (0, 0))], st, n + 1, i + 1, Jd.upd g 2 ⟨((n + 1 : Nat) : Int), (nm, (pa, 2, ca)), (g 2).an, false⟩, K ++ [((pa, 2, ca), [y.2.2.2.1, y.2.2.2.2])], S3), ⟨⟨?_, rfl⟩, rfl, Store.le_refl _⟩, ⟨Store.le_trans hSa hS3, hil, len1 _, c3, liv_call (H.le hS3) (by decide) (by decide) c2 nm (pa, 2, ca) [y.2.2.2.1, y.2.2.2.2] rfl hr3 hargs⟩, hmu⟩
            repeat' first | exact trivial | exact rfl | refine And.intro ?_ ?_
          · refine onE (decide_eq_true c1) ⟨by decide, by decide, onE (beq_iff_eq.2 c2) (offE (decide_eq_false (show ¬ ((n : Nat) : Int) < 8 by omega)) (offE e19 (onF (onF (offE e28 (onF ⟨((i + 1 : Nat) : Int), w1, (es, st, n, i + 1, g, K, Sa), ⟨⟨?_, rfl⟩, rfl, Store.le_refl _⟩, ⟨hSa, hil, len0, hn8, H⟩, hmu⟩))))))⟩
            repeat' first | exact trivial | exact rfl | refine And.intro ?_ ?_
        · refine onE (decide_eq_true c1) ⟨by decide, by decide, offE (beq_eq_false_iff_ne.2 c2) (onF (offE e19 (onF (onF (offE e28 (onF ⟨((i + 1 : Nat) : Int), w1, (es, st, n, i + 1, g, K, Sa), ⟨⟨?_, rfl⟩, rfl, Store.le_refl _⟩, ⟨hSa, hil, len0, hn8, H⟩, hmu⟩))))))⟩
          repeat' first | exact trivial | exact rfl | refine And.intro ?_ ?_
      have e19 : decide (dd ≥ 2) = true := decide_eq_true (by omega)
      by_cases c3 : dd < 7
      · have e28 : (dd == 7) = false := beq_eq_false_iff_ne.2 (by omega)
        by_cases c4 : (g 2).num = 0
        · refine offE (decide_eq_false c1) (onF (onF (onE e19 (onE (decide_eq_true c3) ⟨by decide, by decide, offE (bne_eq_false_iff_eq.2 c4) (offE e28 (onF ⟨((i + 1 : Nat) : Int), w1, (es, st, n, i + 1, g, K, Sa), ⟨⟨?_, rfl⟩, rfl, Store.le_refl _⟩, ⟨hSa, hil, len0, hn8, H⟩, hmu⟩))⟩))))
          repeat' first | exact trivial | exact rfl | refine And.intro ?_ ?_
        refine offE (decide_eq_false c1) (onF (onF (onE e19 (onE (decide_eq_true c3) ⟨by decide, by decide, onE (bne_iff_ne.2 c4) ⟨by decide, by decide, ?_⟩⟩))))
        cases hdn : (g 2).dn with
        | true =>
          refine offE (by rw [hdn]; rfl) ?_
          by_cases c6 : dd ≥ 5
          · refine onE (decide_eq_true c6) ⟨or18_26, [4, 6, 7], oF18_26, by kernel_rfl, by decide, by decide, by decide, by decide, [(1, 2, (g 2).num, (ByteArray.empty, (none, 0, 0)), (g 2).an)], ⟨rfl, rfl⟩, fun _ _ => hev _, hb1, by decide, by decide, ((i + 1 : Nat) : Int), w1, (es ++ [(1, 2, (g 2).num, (ByteArray.empty, (none, 0, 0)), (g 2).an)], st, n, i + 1, Jd.upd (g) 2 ⟨0, ((g) 2).rq, ((g) 2).an, ((g) 2).dn⟩, K, Sa), ⟨⟨?_, rfl⟩, rfl, Store.le_refl _⟩, ⟨hSa, hil, len1 _, hn8, liv_answer (H) (by decide) (by decide) c4 hdn⟩, hmu⟩
            repeat' first | exact trivial | exact rfl | refine And.intro ?_ ?_
          · refine offE (decide_eq_false c6) ⟨((i + 1 : Nat) : Int), w1, (es, st, n, i + 1, g, K, Sa), ⟨⟨?_, rfl⟩, rfl, Store.le_refl _⟩, ⟨hSa, hil, len0, hn8, H⟩, hmu⟩
            repeat' first | exact trivial | exact rfl | refine And.intro ?_ ?_
        | false =>
          obtain ⟨q, hq, hqr⟩ := H.rq 2 c4
          obtain ⟨hq1, hq2, hq3⟩ := H.kn q hq
          rw [hqr] at hq1 hq2
          refine onE (by rw [hdn]; rfl) ⟨by decide, by decide, ⟨_, rfl, rfl, rfl⟩, .inl ⟨_, _, _, reg_spec Sa hLa st H.sti (g 2).rq.1 (g 2).rq.2 q.2 hq3 hq1 hq2, fun S4 _ hS4 _ => ?_⟩⟩
          refine ⟨by decide, by decide, by decide, by decide, by decide, _, rfl, ?_⟩
          by_cases c5 : y.2.2.1.tmod 2 = 0
          · refine onE (beq_iff_eq.2 c5) ⟨by decide, by decide, [(2, 2, (g 2).num, (ByteArray.empty, (none, 0, 0)), (0, 0))], ⟨rfl, rfl⟩, fun _ _ => hev _, hb1, ?_⟩
            by_cases c6 : dd ≥ 5
            · refine onE (decide_eq_true c6) ⟨or18_26, [4, 6, 7], oF18_26, by kernel_rfl, by decide, by decide, by decide, by decide, [(1, 2, (g 2).num, (ByteArray.empty, (none, 0, 0)), (doE st (g 2).rq.1 q.2).2)], ⟨rfl, rfl⟩, fun _ _ => hev _, hb2 _, by decide, by decide, ((i + 1 : Nat) : Int), w1, ((es ++ [(2, 2, (g 2).num, (ByteArray.empty, (none, 0, 0)), (0, 0))]) ++ [(1, 2, (g 2).num, (ByteArray.empty, (none, 0, 0)), (doE st (g 2).rq.1 q.2).2)], (doE st (g 2).rq.1 q.2).1, n, i + 1, Jd.upd (Jd.upd g 2 ⟨(g 2).num, (g 2).rq, (doE st (g 2).rq.1 q.2).2, true⟩) 2 ⟨0, ((Jd.upd g 2 ⟨(g 2).num, (g 2).rq, (doE st (g 2).rq.1 q.2).2, true⟩) 2).rq, ((Jd.upd g 2 ⟨(g 2).num, (g 2).rq, (doE st (g 2).rq.1 q.2).2, true⟩) 2).an, ((Jd.upd g 2 ⟨(g 2).num, (g 2).rq, (doE st (g 2).rq.1 q.2).2, true⟩) 2).dn⟩, K, S4), ⟨⟨?_, rfl⟩, rfl, Store.le_refl _⟩, ⟨Store.le_trans hSa hS4, hil, len2 _ _, hn8, liv_answer (liv_commit (H.le hS4) (by decide) (by decide) c4 hdn hq hqr) (by decide) (by decide) c4 rfl⟩, hmu⟩
              repeat' first | exact trivial | exact rfl | refine And.intro ?_ ?_
            · refine offE (decide_eq_false c6) ⟨((i + 1 : Nat) : Int), w1, ((es ++ [(2, 2, (g 2).num, (ByteArray.empty, (none, 0, 0)), (0, 0))]), (doE st (g 2).rq.1 q.2).1, n, i + 1, Jd.upd g 2 ⟨(g 2).num, (g 2).rq, (doE st (g 2).rq.1 q.2).2, true⟩, K, S4), ⟨⟨?_, rfl⟩, rfl, Store.le_refl _⟩, ⟨Store.le_trans hSa hS4, hil, len1 _, hn8, liv_commit (H.le hS4) (by decide) (by decide) c4 hdn hq hqr⟩, hmu⟩
              repeat' first | exact trivial | exact rfl | refine And.intro ?_ ?_
          · refine offE (beq_eq_false_iff_ne.2 c5) ?_
            by_cases c6 : dd ≥ 5
            · refine onE (decide_eq_true c6) ⟨or18_26, [4, 6, 7], oF18_26, by kernel_rfl, by decide, by decide, by decide, by decide, [(1, 2, (g 2).num, (ByteArray.empty, (none, 0, 0)), (doE st (g 2).rq.1 q.2).2)], ⟨rfl, rfl⟩, fun _ _ => hev _, hb1, by decide, by decide, ((i + 1 : Nat) : Int), w1, (es ++ [(1, 2, (g 2).num, (ByteArray.empty, (none, 0, 0)), (doE st (g 2).rq.1 q.2).2)], (doE st (g 2).rq.1 q.2).1, n, i + 1, Jd.upd (Jd.upd g 2 ⟨(g 2).num, (g 2).rq, (doE st (g 2).rq.1 q.2).2, true⟩) 2 ⟨0, ((Jd.upd g 2 ⟨(g 2).num, (g 2).rq, (doE st (g 2).rq.1 q.2).2, true⟩) 2).rq, ((Jd.upd g 2 ⟨(g 2).num, (g 2).rq, (doE st (g 2).rq.1 q.2).2, true⟩) 2).an, ((Jd.upd g 2 ⟨(g 2).num, (g 2).rq, (doE st (g 2).rq.1 q.2).2, true⟩) 2).dn⟩, K, S4), ⟨⟨?_, rfl⟩, rfl, Store.le_refl _⟩, ⟨Store.le_trans hSa hS4, hil, len1 _, hn8, liv_answer (liv_effect (H.le hS4) (by decide) (by decide) c4 hdn hq hqr) (by decide) (by decide) c4 rfl⟩, hmu⟩
              repeat' first | exact trivial | exact rfl | refine And.intro ?_ ?_
            · refine offE (decide_eq_false c6) ⟨((i + 1 : Nat) : Int), w1, (es, (doE st (g 2).rq.1 q.2).1, n, i + 1, Jd.upd g 2 ⟨(g 2).num, (g 2).rq, (doE st (g 2).rq.1 q.2).2, true⟩, K, S4), ⟨⟨?_, rfl⟩, rfl, Store.le_refl _⟩, ⟨Store.le_trans hSa hS4, hil, len0, hn8, liv_effect (H.le hS4) (by decide) (by decide) c4 hdn hq hqr⟩, hmu⟩
              repeat' first | exact trivial | exact rfl | refine And.intro ?_ ?_
      have e197 : decide (dd < 7) = false := decide_eq_false c3
      by_cases c7 : dd = 7
      · refine offE (decide_eq_false c1) (onF (onF (onE e19 (offE e197 (onF (onE (beq_iff_eq.2 c7) ⟨by decide, _, rfl, ?_⟩))))))
        by_cases c8 : y.2.2.1.tmod 16 = 0
        · refine onE (beq_iff_eq.2 c8) ⟨[(3, 0, 0, (ByteArray.empty, (none, 0, 0)), (0, 0))], ⟨rfl, rfl⟩, fun _ _ => hev _, hb1, ((i + 1 : Nat) : Int), w1, (es ++ [(3, 0, 0, (ByteArray.empty, (none, 0, 0)), (0, 0))], st, n, i + 1, (fun t => ⟨0, (g t).rq, (g t).an, (g t).dn⟩), K, Sa), ⟨⟨?_, rfl⟩, rfl, Store.le_refl _⟩, ⟨hSa, hil, len1 _, hn8, liv_crash H⟩, hmu⟩
          repeat' first | exact trivial | exact rfl | refine And.intro ?_ ?_
        · refine offE (beq_eq_false_iff_ne.2 c8) ⟨((i + 1 : Nat) : Int), w1, (es, st, n, i + 1, g, K, Sa), ⟨⟨?_, rfl⟩, rfl, Store.le_refl _⟩, ⟨hSa, hil, len0, hn8, H⟩, hmu⟩
          repeat' first | exact trivial | exact rfl | refine And.intro ?_ ?_
      · refine offE (decide_eq_false c1) (onF (onF (onE e19 (offE e197 (onF (offE (beq_eq_false_iff_ne.2 c7) (onF ⟨((i + 1 : Nat) : Int), w1, (es, st, n, i + 1, g, K, Sa), ⟨⟨?_, rfl⟩, rfl, Store.le_refl _⟩, ⟨hSa, hil, len0, hn8, H⟩, hmu⟩)))))))
        repeat' first | exact trivial | exact rfl | refine And.intro ?_ ?_
    · skip
      by_cases c1 : dd < 2
      · have e19 : decide (dd ≥ 2) = false := decide_eq_false (by omega)
        have e28 : (dd == 7) = false := beq_eq_false_iff_ne.2 (by omega)
        by_cases c2 : (g 3).num = 0
        · by_cases c3 : n < 8
          · refine onE (decide_eq_true c1) ⟨by decide, by decide, onE (beq_iff_eq.2 c2) (onE (decide_eq_true (show ((n : Nat) : Int) < 8 by omega)) ?_)⟩
            refine ⟨((n + 1 : Nat) : Int), wn, by decide, by decide, by decide, by decide, or18_17, [1, 6], oF18_17, by kernel_rfl, by decide, kq, hkq, kq0, kq4, nm, hnm, y.2.2.2.1, wa, y.2.2.2.2, wb, by decide, by decide, by decide, by decide, fun pa ca S3 hS3 hr3 hpf3 => ?_⟩
            refine ⟨[(0, 3, ((n + 1 : Nat) : Int), (nm, (pa, 2, ca)), (0, 0))], ⟨rfl, rfl⟩, fun _ _ => hev _, hb1, ((i + 1 : Nat) : Int), w1, (es ++ [(0, 3, ((n + 1 : Nat) : Int), (nm, (pa, 2, ca)), (0, 0))], st, n + 1, i + 1, Jd.upd g 3 ⟨((n + 1 : Nat) : Int), (nm, (pa, 2, ca)), (g 3).an, false⟩, K ++ [((pa, 2, ca), [y.2.2.2.1, y.2.2.2.2])], S3), ⟨⟨?_, rfl⟩, rfl, Store.le_refl _⟩, ⟨Store.le_trans hSa hS3, hil, len1 _, c3, liv_call (H.le hS3) (by decide) (by decide) c2 nm (pa, 2, ca) [y.2.2.2.1, y.2.2.2.2] rfl hr3 hargs⟩, hmu⟩
            repeat' first | exact trivial | exact rfl | refine And.intro ?_ ?_
          · refine onE (decide_eq_true c1) ⟨by decide, by decide, onE (beq_iff_eq.2 c2) (offE (decide_eq_false (show ¬ ((n : Nat) : Int) < 8 by omega)) (offE e19 (onF (onF (offE e28 (onF ⟨((i + 1 : Nat) : Int), w1, (es, st, n, i + 1, g, K, Sa), ⟨⟨?_, rfl⟩, rfl, Store.le_refl _⟩, ⟨hSa, hil, len0, hn8, H⟩, hmu⟩))))))⟩
            repeat' first | exact trivial | exact rfl | refine And.intro ?_ ?_
        · refine onE (decide_eq_true c1) ⟨by decide, by decide, offE (beq_eq_false_iff_ne.2 c2) (onF (offE e19 (onF (onF (offE e28 (onF ⟨((i + 1 : Nat) : Int), w1, (es, st, n, i + 1, g, K, Sa), ⟨⟨?_, rfl⟩, rfl, Store.le_refl _⟩, ⟨hSa, hil, len0, hn8, H⟩, hmu⟩))))))⟩
          repeat' first | exact trivial | exact rfl | refine And.intro ?_ ?_
      have e19 : decide (dd ≥ 2) = true := decide_eq_true (by omega)
      by_cases c3 : dd < 7
      · have e28 : (dd == 7) = false := beq_eq_false_iff_ne.2 (by omega)
        by_cases c4 : (g 3).num = 0
        · refine offE (decide_eq_false c1) (onF (onF (onE e19 (onE (decide_eq_true c3) ⟨by decide, by decide, offE (bne_eq_false_iff_eq.2 c4) (offE e28 (onF ⟨((i + 1 : Nat) : Int), w1, (es, st, n, i + 1, g, K, Sa), ⟨⟨?_, rfl⟩, rfl, Store.le_refl _⟩, ⟨hSa, hil, len0, hn8, H⟩, hmu⟩))⟩))))
          repeat' first | exact trivial | exact rfl | refine And.intro ?_ ?_
        refine offE (decide_eq_false c1) (onF (onF (onE e19 (onE (decide_eq_true c3) ⟨by decide, by decide, onE (bne_iff_ne.2 c4) ⟨by decide, by decide, ?_⟩⟩))))
        cases hdn : (g 3).dn with
        | true =>
          refine offE (by rw [hdn]; rfl) ?_
          by_cases c6 : dd ≥ 5
          · refine onE (decide_eq_true c6) ⟨or18_26, [4, 6, 7], oF18_26, by kernel_rfl, by decide, by decide, by decide, by decide, [(1, 3, (g 3).num, (ByteArray.empty, (none, 0, 0)), (g 3).an)], ⟨rfl, rfl⟩, fun _ _ => hev _, hb1, by decide, by decide, ((i + 1 : Nat) : Int), w1, (es ++ [(1, 3, (g 3).num, (ByteArray.empty, (none, 0, 0)), (g 3).an)], st, n, i + 1, Jd.upd (g) 3 ⟨0, ((g) 3).rq, ((g) 3).an, ((g) 3).dn⟩, K, Sa), ⟨⟨?_, rfl⟩, rfl, Store.le_refl _⟩, ⟨hSa, hil, len1 _, hn8, liv_answer (H) (by decide) (by decide) c4 hdn⟩, hmu⟩
            repeat' first | exact trivial | exact rfl | refine And.intro ?_ ?_
          · refine offE (decide_eq_false c6) ⟨((i + 1 : Nat) : Int), w1, (es, st, n, i + 1, g, K, Sa), ⟨⟨?_, rfl⟩, rfl, Store.le_refl _⟩, ⟨hSa, hil, len0, hn8, H⟩, hmu⟩
            repeat' first | exact trivial | exact rfl | refine And.intro ?_ ?_
        | false =>
          obtain ⟨q, hq, hqr⟩ := H.rq 3 c4
          obtain ⟨hq1, hq2, hq3⟩ := H.kn q hq
          rw [hqr] at hq1 hq2
          refine onE (by rw [hdn]; rfl) ⟨by decide, by decide, ⟨_, rfl, rfl, rfl⟩, .inl ⟨_, _, _, reg_spec Sa hLa st H.sti (g 3).rq.1 (g 3).rq.2 q.2 hq3 hq1 hq2, fun S4 _ hS4 _ => ?_⟩⟩
          refine ⟨by decide, by decide, by decide, by decide, by decide, _, rfl, ?_⟩
          by_cases c5 : y.2.2.1.tmod 2 = 0
          · refine onE (beq_iff_eq.2 c5) ⟨by decide, by decide, [(2, 3, (g 3).num, (ByteArray.empty, (none, 0, 0)), (0, 0))], ⟨rfl, rfl⟩, fun _ _ => hev _, hb1, ?_⟩
            by_cases c6 : dd ≥ 5
            · refine onE (decide_eq_true c6) ⟨or18_26, [4, 6, 7], oF18_26, by kernel_rfl, by decide, by decide, by decide, by decide, [(1, 3, (g 3).num, (ByteArray.empty, (none, 0, 0)), (doE st (g 3).rq.1 q.2).2)], ⟨rfl, rfl⟩, fun _ _ => hev _, hb2 _, by decide, by decide, ((i + 1 : Nat) : Int), w1, ((es ++ [(2, 3, (g 3).num, (ByteArray.empty, (none, 0, 0)), (0, 0))]) ++ [(1, 3, (g 3).num, (ByteArray.empty, (none, 0, 0)), (doE st (g 3).rq.1 q.2).2)], (doE st (g 3).rq.1 q.2).1, n, i + 1, Jd.upd (Jd.upd g 3 ⟨(g 3).num, (g 3).rq, (doE st (g 3).rq.1 q.2).2, true⟩) 3 ⟨0, ((Jd.upd g 3 ⟨(g 3).num, (g 3).rq, (doE st (g 3).rq.1 q.2).2, true⟩) 3).rq, ((Jd.upd g 3 ⟨(g 3).num, (g 3).rq, (doE st (g 3).rq.1 q.2).2, true⟩) 3).an, ((Jd.upd g 3 ⟨(g 3).num, (g 3).rq, (doE st (g 3).rq.1 q.2).2, true⟩) 3).dn⟩, K, S4), ⟨⟨?_, rfl⟩, rfl, Store.le_refl _⟩, ⟨Store.le_trans hSa hS4, hil, len2 _ _, hn8, liv_answer (liv_commit (H.le hS4) (by decide) (by decide) c4 hdn hq hqr) (by decide) (by decide) c4 rfl⟩, hmu⟩
              repeat' first | exact trivial | exact rfl | refine And.intro ?_ ?_
            · refine offE (decide_eq_false c6) ⟨((i + 1 : Nat) : Int), w1, ((es ++ [(2, 3, (g 3).num, (ByteArray.empty, (none, 0, 0)), (0, 0))]), (doE st (g 3).rq.1 q.2).1, n, i + 1, Jd.upd g 3 ⟨(g 3).num, (g 3).rq, (doE st (g 3).rq.1 q.2).2, true⟩, K, S4), ⟨⟨?_, rfl⟩, rfl, Store.le_refl _⟩, ⟨Store.le_trans hSa hS4, hil, len1 _, hn8, liv_commit (H.le hS4) (by decide) (by decide) c4 hdn hq hqr⟩, hmu⟩
              repeat' first | exact trivial | exact rfl | refine And.intro ?_ ?_
          · refine offE (beq_eq_false_iff_ne.2 c5) ?_
            by_cases c6 : dd ≥ 5
            · refine onE (decide_eq_true c6) ⟨or18_26, [4, 6, 7], oF18_26, by kernel_rfl, by decide, by decide, by decide, by decide, [(1, 3, (g 3).num, (ByteArray.empty, (none, 0, 0)), (doE st (g 3).rq.1 q.2).2)], ⟨rfl, rfl⟩, fun _ _ => hev _, hb1, by decide, by decide, ((i + 1 : Nat) : Int), w1, (es ++ [(1, 3, (g 3).num, (ByteArray.empty, (none, 0, 0)), (doE st (g 3).rq.1 q.2).2)], (doE st (g 3).rq.1 q.2).1, n, i + 1, Jd.upd (Jd.upd g 3 ⟨(g 3).num, (g 3).rq, (doE st (g 3).rq.1 q.2).2, true⟩) 3 ⟨0, ((Jd.upd g 3 ⟨(g 3).num, (g 3).rq, (doE st (g 3).rq.1 q.2).2, true⟩) 3).rq, ((Jd.upd g 3 ⟨(g 3).num, (g 3).rq, (doE st (g 3).rq.1 q.2).2, true⟩) 3).an, ((Jd.upd g 3 ⟨(g 3).num, (g 3).rq, (doE st (g 3).rq.1 q.2).2, true⟩) 3).dn⟩, K, S4), ⟨⟨?_, rfl⟩, rfl, Store.le_refl _⟩, ⟨Store.le_trans hSa hS4, hil, len1 _, hn8, liv_answer (liv_effect (H.le hS4) (by decide) (by decide) c4 hdn hq hqr) (by decide) (by decide) c4 rfl⟩, hmu⟩
              repeat' first | exact trivial | exact rfl | refine And.intro ?_ ?_
            · refine offE (decide_eq_false c6) ⟨((i + 1 : Nat) : Int), w1, (es, (doE st (g 3).rq.1 q.2).1, n, i + 1, Jd.upd g 3 ⟨(g 3).num, (g 3).rq, (doE st (g 3).rq.1 q.2).2, true⟩, K, S4), ⟨⟨?_, rfl⟩, rfl, Store.le_refl _⟩, ⟨Store.le_trans hSa hS4, hil, len0, hn8, liv_effect (H.le hS4) (by decide) (by decide) c4 hdn hq hqr⟩, hmu⟩
              repeat' first | exact trivial | exact rfl | refine And.intro ?_ ?_
      have e197 : decide (dd < 7) = false := decide_eq_false c3
      by_cases c7 : dd = 7
      · refine offE (decide_eq_false c1) (onF (onF (onE e19 (offE e197 (onF (onE (beq_iff_eq.2 c7) ⟨by decide, _, rfl, ?_⟩))))))
        by_cases c8 : y.2.2.1.tmod 16 = 0
        · refine onE (beq_iff_eq.2 c8) ⟨[(3, 0, 0, (ByteArray.empty, (none, 0, 0)), (0, 0))], ⟨rfl, rfl⟩, fun _ _ => hev _, hb1, ((i + 1 : Nat) : Int), w1, (es ++ [(3, 0, 0, (ByteArray.empty, (none, 0, 0)), (0, 0))], st, n, i + 1, (fun t => ⟨0, (g t).rq, (g t).an, (g t).dn⟩), K, Sa), ⟨⟨?_, rfl⟩, rfl, Store.le_refl _⟩, ⟨hSa, hil, len1 _, hn8, liv_crash H⟩, hmu⟩
          repeat' first | exact trivial | exact rfl | refine And.intro ?_ ?_
        · refine offE (beq_eq_false_iff_ne.2 c8) ⟨((i + 1 : Nat) : Int), w1, (es, st, n, i + 1, g, K, Sa), ⟨⟨?_, rfl⟩, rfl, Store.le_refl _⟩, ⟨hSa, hil, len0, hn8, H⟩, hmu⟩
          repeat' first | exact trivial | exact rfl | refine And.intro ?_ ?_
      · refine offE (decide_eq_false c1) (onF (onF (onE e19 (offE e197 (onF (offE (beq_eq_false_iff_ne.2 c7) (onF ⟨((i + 1 : Nat) : Int), w1, (es, st, n, i + 1, g, K, Sa), ⟨⟨?_, rfl⟩, rfl, Store.le_refl _⟩, ⟨hSa, hil, len0, hn8, H⟩, hmu⟩)))))))
        repeat' first | exact trivial | exact rfl | refine And.intro ?_ ?_
  · have hend : i = l.length := by
      have : ¬ ((i : Nat) : Int) < ((l.length : Nat) : Int) := of_decide_eq_false h
      omega
    intro pe ce S9 hS9 hr9 hpf9
    exact ⟨rfl, (pe, es.length, ce), rfl, es, n, st, g, K, rfl, pform_cap hpf9.1, hr9, by omega, hn8, H.le hS9⟩
/-- There is an order for what lived, and for each part from the front. -/
theorem lived_order {S : Store} {es : List shE.T} {n : Nat} {st : Int} {g : Int → Tx} {K : List (Hd × List Int)} (H : LivX S es n st g K) (hn : n ≤ 8) : wrongJ es = 0 ∧ leastJ (numsOf S) es ≠ none := by
  have hD : ∀ q ∈ K, numsOf S q.1 = q.2 := fun q hq => nums_is (H.kn q hq).1 (H.kn q hq).2.1
  obtain ⟨o, pl, h⟩ := H.al (numsOf S) hD
  have hcnt : (callsJ es).length = n := by
    rw [callsJ_eq, List.length_map]
    have := h.cnt
    unfold Jd.rs at this
    unfold csJ Jd.csOf
    rw [List.length_map]
    rw [List.length_map] at this
    exact this
  have hf : formE es = 0 := h.form
  refine ⟨?_, ?_⟩
  · unfold wrongJ
    rw [if_neg (fun q => q hf), if_neg (by omega)]
  · have := Jd.alive_found h
    rw [List.length_map] at this
    exact this
theorem lived_blame {D : Hd → List Int} {es : List shE.T} (h : leastJ D es ≠ none) : blameJ D es = -1 := by
  unfold blameJ
  rw [List.find?_eq_none.2 fun j hj => ?_]
  intro hq
  have hj := List.mem_range.1 hj
  have := least_mono D (Option.isNone_iff_eq_none.1 hq) es.length (by omega)
  rw [List.take_length] at this
  exact h this
theorem lived_lx {S S' : Store} (hL : Lw S) (hle : S'.le S) {q : Hd} {es : List shE.T} {n : Nat} {st : Int} {g : Int → Tx} {K : List (Hd × List Int)} (h1 : q.2.1 = es.length) (h2 : q.2.1 ≤ q.2.2) (h3 : RowRd S q.1 shE es) (h4 : es.length ≤ 120) (H : LivX S' es n st g K) : Lx S (numsOf S') q es := by
  refine ⟨h1.symm, h2, h3, by omega, fun e he => ?_, hL⟩
  rcases H.ev e he with ⟨k, hk, hke⟩ | h0
  · obtain ⟨k1, k2, k3⟩ := H.kn k hk
    rw [← hke, nums_is k1 k2]
    exact ⟨k1, k2.le hle, k3⟩
  · rw [h0, nums_nil]
    exact ⟨rfl, ⟨.inl rfl, fun x h => by cases h⟩, fun x h => by cases h⟩
theorem law_lives (S : Store) (hL : Lw S) (p : Hd) (l : List shMove.T) (hl : l.length = p.2.1) (hr : RowRd S p.1 shMove l) (hi : ∀ y ∈ l, okMove y) :
    Pure Tryd.prog 6 S [slV p] rB (fun _ b => b = true) := by
  obtain ⟨p, n, c⟩ := p
  simp only at hl hr
  subst hl
  refine pure_vc agrees Tryd.func6 rfl rfl (fun S S' q hle h => h) ?_
  refine ⟨⟨_, rfl, rfl, rfl⟩, .inl ⟨_, _, _, awake_spec S hL, fun S1 _ hS1 _ => ?_⟩⟩
  have hL1 := hL.le hS1
  have hr1 := hr.le hS1
  refine onF ?_
  by_cases c1 : l.length > 60
  · exact onE (decide_eq_true (show ((l.length : Nat) : Int) > 60 by omega)) ⟨rfl, true, rfl, rfl⟩
  refine offE (decide_eq_false (show ¬ ((l.length : Nat) : Int) > 60 by omega)) ?_
  refine ⟨⟨_, rfl, rfl, rfl⟩, .inl ⟨_, _, _, lived_spec S1 hL1 (p, l.length, c) l rfl hr1 hi (by omega), fun S2 q hS2 hq => ?_⟩⟩
  obtain ⟨es, n, st, g, K, h1, h2, h3, h4, h5, H⟩ := hq
  have hL2 := hL1.le hS2
  obtain ⟨hw, ho⟩ := lived_order H h5
  have hf := (wrong_zero hw).1
  refine ⟨⟨_, rfl, rfl, rfl⟩, .inl ⟨_, _, _, form_spec S2 q es h1.symm h3 (by omega), fun S3 e hS3 he => ?_⟩⟩
  have he : e = formE es := he
  rw [hf] at he
  subst he
  refine offE (bne_eq_false_iff_eq.2 rfl) ?_
  refine ⟨⟨_, rfl, rfl, rfl⟩, .inl ⟨_, _, _, check_spec S3 (numsOf S2) q es (lived_lx (hL2.le hS3) hS3 h1 h2 (h3.le hS3) h4 H), fun S4 x hS4 hx => ?_⟩⟩
  obtain ⟨⟨xq, xb⟩, xe⟩ := x
  obtain ⟨⟨hx1, hx2⟩, -⟩ := hx
  rw [hw] at hx1 hx2
  rw [if_pos rfl] at hx2
  have hxb : xb = true := by
    unfold OPost at hx2
    cases ha : leastJ (numsOf S2) es with
    | none => exact absurd ha ho
    | some is => rw [ha] at hx2; exact hx2.1
  have hx1 : xe = 0 := hx1
  subst hx1 hxb
  refine ⟨⟨_, rfl, rfl, rfl⟩, .inl ⟨_, _, _, blame_spec S4 (numsOf S2) q es (lived_lx ((hL2.le hS3).le hS4) (Store.le_trans hS3 hS4) h1 h2 ((h3.le hS3).le hS4) h4 H), fun S5 z hS5 hz => ?_⟩⟩
  obtain ⟨z1, z2⟩ := z
  rw [if_pos hw, lived_blame ho] at hz
  have hz1 : z1 = -1 := congrArg Prod.fst hz
  have hz2 : z2 = 0 := congrArg Prod.snd hz
  exact onT (onE (beq_iff_eq.2 rfl) (onE (beq_iff_eq.2 hz1) ⟨rfl, (z2 == 0), rfl, beq_iff_eq.2 hz2⟩))
end Go.Proofs.YtpfghndflegbaaaDoor
