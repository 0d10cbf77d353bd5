/- law58: the law of what comes first at histories. -/
import Derived.Test.YtpfghndflegbaaaDoorPe
namespace Go.Proofs.YtpfghndflegbaaaDoor.Jd
set_option maxRecDepth 100000

variable {γ α : Type}

theorem end_in (t : Int) : ∀ (l : List (Ev γ α)) (i o : Nat) (a : Option α), endFrom t i l = some (o, a) → i ≤ o ∧ o < i + l.length
  | [], _, _, _, h => by cases h
  | e :: l, i, o, a, h => by
    rw [endFrom] at h
    by_cases he : ends e t = true
    · rw [if_pos he] at h
      have := congrArg Prod.fst (Option.some.inj h)
      simp only at this
      subst this
      simp
    · rw [if_neg he] at h
      have := end_in t l (i + 1) o a h
      simp only [List.length_cons]
      omega
/-- What holds of a call among those of a history from place i to place L. -/
structure RcOk (N i L : Nat) (r : Rc γ α) : Prop where
  lo : i ≤ r.cl.place
  hi : r.cl.place < L
  fin : r.ended = true → r.cl.place < r.cl.over ∧ r.cl.over < L
  opn : r.ended = false → r.cl.over = N ∧ r.cl.ans = none
theorem recs_ok (N : Nat) : ∀ (l : List (Ev γ α)) (i : Nat), ∀ r ∈ recs N i l, RcOk N i (i + l.length) r
  | [], _, _, h => by cases h
  | e :: l, i, r, h => by
    have hl : i + (e :: l).length = i + 1 + l.length := by simp; omega
    rw [hl]
    have old : ∀ r ∈ recs N (i + 1) l, RcOk N i (i + 1 + l.length) r := fun r hr => by
      have := recs_ok N l (i + 1) r hr
      exact ⟨Nat.le_of_succ_le this.lo, this.hi, this.fin, this.opn⟩
    rw [recs] at h
    by_cases hk : e.kind = 0
    · rw [if_pos hk] at h
      rcases List.mem_cons.1 h with rfl | h
      · cases hr : endFrom e.thread (i + 1) l with
        | none => exact ⟨Nat.le_refl _, (by show i < _; omega), (fun q => by cases q), fun _ => ⟨rfl, rfl⟩⟩
        | some q =>
          obtain ⟨o, a⟩ := q
          have := end_in _ _ _ _ _ hr
          exact ⟨Nat.le_refl _, (by show i < _; omega), (fun _ => ⟨(by show i < o; omega), this.2⟩), fun q => by cases q⟩
      · exact old r h
    · rw [if_neg hk] at h
      exact old r h
theorem recs_apart (N : Nat) : ∀ (l : List (Ev γ α)) (i : Nat), (recs N i l).Pairwise fun a b => a.cl.place < b.cl.place
  | [], _ => .nil
  | e :: l, i => by
    rw [recs]
    by_cases hk : e.kind = 0
    · rw [if_pos hk]
      refine .cons (fun r hr => ?_) (recs_apart N l (i + 1))
      have := (recs_ok N l (i + 1) r hr).lo
      have hp : (rcOf N i e (endFrom e.thread (i + 1) l)).cl.place = i := by
        cases endFrom e.thread (i + 1) l <;> rfl
      rw [hp]; omega
    · rw [if_neg hk]; exact recs_apart N l (i + 1)
/-- The calls of a history. -/
def csOf (N : Nat) (l : List (Ev γ α)) : List (Cl γ α) := (recs N 0 l).map (·.cl)
theorem cs_apart (N : Nat) (l : List (Ev γ α)) : Apart (csOf N l) := by
  have h := recs_apart N l 0
  rw [List.pairwise_iff_getElem] at h
  intro i j x y hi hj hxy
  unfold csOf at hi hj
  rw [List.getElem?_map, Option.map_eq_some_iff] at hi hj
  obtain ⟨r, hr, rfl⟩ := hi
  obtain ⟨s, hs, rfl⟩ := hj
  obtain ⟨hil, rfl⟩ := List.getElem?_eq_some_iff.1 hr
  obtain ⟨hjl, rfl⟩ := List.getElem?_eq_some_iff.1 hs
  rcases Nat.lt_trichotomy i j with hlt | heq | hgt
  · have := h i j hil hjl hlt; omega
  · exact heq
  · have := h j i hjl hil hgt; omega
/-- With another mark for what has not ended. -/
def mark (N : Nat) (r : Rc γ α) : Rc γ α := if r.ended = true then r else ⟨r.thread, r.ended, ⟨r.cl.place, N, r.cl.call, r.cl.ans⟩⟩
theorem recs_mark (N N' : Nat) : ∀ (l : List (Ev γ α)) (i : Nat), recs N' i l = (recs N i l).map (mark N')
  | [], _ => rfl
  | e :: l, i => by
    rw [recs, recs, recs_mark N N' l (i + 1)]
    by_cases hk : e.kind = 0
    · rw [if_pos hk, if_pos hk, List.map_cons]
      congr 1
      cases endFrom e.thread (i + 1) l <;> rfl
    · rw [if_neg hk, if_neg hk]
variable [DecidableEq α]
theorem sim_of {N L : Nat} (hN : L ≤ N) (rs : List (Rc γ α)) (hrs : ∀ r ∈ rs, RcOk N 0 L r) (g : Rc γ α → Cl γ α) (h1 : ∀ r ∈ rs, r.ended = true → g r = r.cl) (h2 : ∀ r ∈ rs, (g r).place = r.cl.place ∧ (g r).call = r.cl.call) : Sim (rs.map (·.cl)) (rs.map g) := by
  have get : ∀ (i : Nat) (x x' : Cl γ α), (rs.map (·.cl))[i]? = some x → (rs.map g)[i]? = some x' → ∃ r ∈ rs, x = r.cl ∧ x' = g r := by
    intro i x x' hx hx'
    rw [List.getElem?_map, Option.map_eq_some_iff] at hx hx'
    obtain ⟨r, hr, rfl⟩ := hx
    obtain ⟨s, hs, rfl⟩ := hx'
    rw [hr] at hs
    obtain rfl := Option.some.inj hs
    exact ⟨r, List.mem_of_getElem? hr, rfl, rfl⟩
  refine ⟨by simp, fun i x x' hx hx' => ?_, fun i j x x' y y' hx hx' hy hy' => ?_⟩
  · obtain ⟨r, hr, rfl, rfl⟩ := get i x x' hx hx'
    refine ⟨(h2 r hr).1, (h2 r hr).2, ?_, ?_⟩
    · intro a ha
      cases he : r.ended with
      | true => rw [← h1 r hr he]; exact ha
      | false => unfold fitS; rw [((hrs r hr).opn he).2]
    · intro ha
      cases he : r.ended with
      | true => rw [h1 r hr he]; exact ha
      | false => rw [((hrs r hr).opn he).2] at ha; cases ha
  · obtain ⟨r, hr, rfl, rfl⟩ := get i x x' hx hx'
    obtain ⟨s, hs, rfl, rfl⟩ := get j y y' hy hy'
    have hsl := (hrs s hs).hi
    rw [(h2 s hs).1]
    cases he : r.ended with
    | true => rw [h1 r hr he]; exact ⟨id, fun a b => ⟨a, b⟩⟩
    | false =>
      have := ((hrs r hr).opn he).1
      exact ⟨fun h => by omega, fun _ h => by omega⟩
omit [DecidableEq α] in
theorem mark_cl {N : Nat} {r : Rc γ α} : (mark N r).cl.place = r.cl.place ∧ (mark N r).cl.call = r.cl.call := by
  unfold mark; split <;> exact ⟨rfl, rfl⟩
omit [DecidableEq α] in
theorem hit_cl {i : Nat} {e : Ev γ α} {r : Rc γ α} : (hit i e r).cl.place = r.cl.place ∧ (hit i e r).cl.call = r.cl.call := by
  unfold hit; split <;> exact ⟨rfl, rfl⟩
/-- An order for a history with one event more gives one without it. -/
theorem run_prefix (step : Int → γ → Int × α) {l : List (Ev γ α)} {e : Ev γ α} {N N' : Nat} (hN : l.length ≤ N) {st : Int} {is : List Nat}
    (hr : Run step (csOf N' (l ++ [e])) st (List.replicate (csOf N' (l ++ [e])).length false) is) : ∃ is', Run step (csOf N l) st (List.replicate (csOf N l).length false) is' := by
  have hok := recs_ok N l 0
  rw [Nat.zero_add] at hok
  have hsn := recs_snoc N' e l 0
  rw [Nat.zero_add] at hsn
  by_cases hk : e.kind = 0
  · have hcs : csOf N' (l ++ [e]) = (recs N 0 l).map (fun r => (mark N' r).cl) ++ [⟨l.length, N', e.call, none⟩] := by
      unfold csOf
      rw [hsn, recs_mark N N' l 0, List.map_append, List.map_map, List.map_map]
      unfold news
      rw [if_pos hk]
      congr 1
      refine List.map_congr_left fun r _ => ?_
      have : ends e (mark N' r).thread = false := by simp [ends, hk]
      simp [hit, this]
    have hsim := sim_of hN (recs N 0 l) hok (fun r => (mark N' r).cl) (fun r _ he => by show (mark N' r).cl = _; rw [mark, if_pos he]) (fun r _ => mark_cl)
    rw [hcs] at hr
    have hlen : ((recs N 0 l).map (fun r => (mark N' r).cl)).length = (csOf N l).length := by simp [csOf]
    obtain ⟨is', h⟩ := run_drop step (z := ⟨l.length, N', e.call, none⟩) rfl (fun x hx ha => by
      obtain ⟨r, hr, rfl⟩ := List.mem_map.1 hx
      show (mark N' r).cl.over < l.length
      cases he : r.ended with
      | true => rw [mark, if_pos he]; exact ((hok r hr).fin he).2
      | false =>
        rw [mark, if_neg (by rw [he]; simp)] at ha
        simp only [((hok r hr).opn he).2] at ha
        cases ha) hr (List.replicate (csOf N l).length false) (by rw [List.length_replicate, hlen]) (by rw [List.length_append, hlen]; exact List.replicate_succ')
    exact ⟨is', sim_run step hsim h⟩
  · have hcs : csOf N' (l ++ [e]) = (recs N 0 l).map (fun r => (hit l.length e (mark N' r)).cl) := by
      unfold csOf
      rw [hsn, recs_mark N N' l 0, List.map_append, List.map_map, List.map_map]
      unfold news
      rw [if_neg hk]
      simp [Function.comp]
    have hsim := sim_of hN (recs N 0 l) hok (fun r => (hit l.length e (mark N' r)).cl) (fun r _ he => by
      show (hit l.length e (mark N' r)).cl = _
      rw [mark, if_pos he, hit, if_neg (by rw [he]; simp)]) (fun r _ => ⟨hit_cl.1.trans mark_cl.1, hit_cl.2.trans mark_cl.2⟩)
    rw [hcs] at hr
    have hlen : ((recs N 0 l).map (fun r => (hit l.length e (mark N' r)).cl)).length = (csOf N l).length := by simp [csOf]
    rw [hlen] at hr
    exact ⟨is, sim_run step hsim hr⟩
end Go.Proofs.YtpfghndflegbaaaDoor.Jd
