/- law58: the reference's search against the judge's: plain. -/
import Derived.Test.YtpfghndflegbaaaDoorFr
import Derived.Test.YtpfghndflegbaaaDoorFe
namespace Go.Proofs.YtpfghndflegbaaaDoor
open Go Go.Vc Go.Sort
set_option maxRecDepth 100000
set_option maxHeartbeats 4000000

theorem endE_from (t : Int) : ∀ (l : List shE.T) (i : Nat), endE t i l = match Jd.endFrom t i (l.map evOf) with
    | some (o, a) => (o, a.isSome)
    | none => (i + l.length, false)
  | [], i => rfl
  | e :: l, i => by
    rw [endE, List.map_cons, Jd.endFrom]
    by_cases h3 : e.1 = 3
    · have he : Jd.ends (evOf e) t = true := by simp [Jd.ends, evOf, h3]
      rw [if_pos h3, if_pos he]
      have : Jd.told (evOf e) = none := if_neg (fun q => absurd (h3.symm.trans q) (show ¬ (3 : Int) = 1 by decide))
      rw [this]; rfl
    · rw [if_neg h3]
      by_cases h1 : e.1 = 1 ∧ e.2.1 = t
      · have he : Jd.ends (evOf e) t = true := by simp [Jd.ends, evOf, h1.1, h1.2]
        rw [if_pos h1, if_pos he]
        have : Jd.told (evOf e) = some (evOf e).ans := if_pos h1.1
        rw [this]; rfl
      · have he : ¬ Jd.ends (evOf e) t = true := by
          simp [Jd.ends, evOf, h3]
          exact decide_eq_false h1
        rw [if_neg h1, if_neg he, endE_from t l (i + 1)]
        have : i + 1 + l.length = i + (e :: l).length := by simp; omega
        rw [this]
theorem endFrom_at (t : Int) : ∀ (l : List shE.T) (i o : Nat) (a : Ad), Jd.endFrom t i (l.map evOf) = some (o, some a) → i ≤ o ∧ ∃ e, l[o - i]? = some e ∧ e.2.2.2.2 = a
  | [], _, _, _, h => by cases h
  | e :: l, i, o, a, h => by
    rw [List.map_cons, Jd.endFrom] at h
    by_cases he : Jd.ends (evOf e) t = true
    · rw [if_pos he] at h
      have h1 : i = o := congrArg Prod.fst (Option.some.inj h)
      have h2 : Jd.told (evOf e) = some a := congrArg Prod.snd (Option.some.inj h)
      subst h1
      refine ⟨Nat.le_refl _, e, by rw [Nat.sub_self]; rfl, ?_⟩
      unfold Jd.told at h2
      split at h2
      · exact Option.some.inj h2
      · cases h2
    · rw [if_neg he] at h
      obtain ⟨h1, y, h2, h3⟩ := endFrom_at t l (i + 1) o a h
      refine ⟨by omega, y, ?_, h3⟩
      have : o - i = (o - (i + 1)) + 1 := by omega
      rw [this]; exact h2
/-- What the reference sees of a call. -/
structure Sees1 (i : Nat) (l : List shE.T) (x : Jd.Cl Cd Ad) : Prop where
  lo : i ≤ x.place
  at_ : ∃ e, l[x.place - i]? = some e ∧ e.2.2.2.1 = x.call ∧ endE e.2.1 (x.place + 1) (l.drop (x.place - i + 1)) = (x.over, x.ans.isSome) ∧ e.1 = 0
  ans : ∀ a, x.ans = some a → i ≤ x.over ∧ ∃ e, l[x.over - i]? = some e ∧ e.2.2.2.2 = a
theorem recs_see : ∀ (l : List shE.T) (i : Nat), ∀ r ∈ Jd.recs (i + l.length) i (l.map evOf), Sees1 i l r.cl
  | [], _, _, h => by cases h
  | e :: l, i, r, h => by
    have hN : i + (e :: l).length = i + 1 + l.length := by simp; omega
    have old : ∀ r ∈ Jd.recs (i + 1 + l.length) (i + 1) (l.map evOf), Sees1 i (e :: l) r.cl := fun r hr => by
      obtain ⟨h1, ⟨y, h2, h3, h4, h5⟩, h6⟩ := recs_see l (i + 1) r hr
      have e1 : r.cl.place - i = (r.cl.place - (i + 1)) + 1 := by omega
      refine ⟨by omega, ⟨y, by rw [e1]; exact h2, h3, by rw [e1]; exact h4, h5⟩, fun a ha => ?_⟩
      obtain ⟨g1, z, g2, g3⟩ := h6 a ha
      have e2 : r.cl.over - i = (r.cl.over - (i + 1)) + 1 := by omega
      exact ⟨by omega, z, by rw [e2]; exact g2, g3⟩
    rw [hN, List.map_cons, Jd.recs] at h
    split at h
    · rename_i hk
      rcases List.mem_cons.1 h with rfl | h
      · have hf := endE_from (evOf e).thread l (i + 1)
        have ha := endFrom_at (evOf e).thread l (i + 1)
        cases hr : Jd.endFrom (evOf e).thread (i + 1) (l.map evOf) with
        | none =>
          rw [hr] at hf
          exact ⟨Nat.le_refl _, ⟨e, by show (e :: l)[i - i]? = _; rw [Nat.sub_self]; rfl, rfl, by show endE e.2.1 (i + 1) ((e :: l).drop (i - i + 1)) = _; rw [Nat.sub_self]; exact hf, hk⟩, fun a h => by cases h⟩
        | some q =>
          obtain ⟨o, a⟩ := q
          rw [hr] at hf
          refine ⟨Nat.le_refl _, ⟨e, by show (e :: l)[i - i]? = _; rw [Nat.sub_self]; rfl, rfl, by show endE e.2.1 (i + 1) ((e :: l).drop (i - i + 1)) = _; rw [Nat.sub_self]; exact hf, hk⟩, fun b hb => ?_⟩
          have hb : a = some b := hb
          subst hb
          obtain ⟨g1, z, g2, g3⟩ := ha o b hr
          have e2 : o - i = (o - (i + 1)) + 1 := by omega
          exact ⟨by show i ≤ o; omega, z, by show (e :: l)[o - i]? = _; rw [e2]; exact g2, g3⟩
      · exact old r h
    · exact old r h
theorem cs_see {l : List shE.T} {x : Jd.Cl Cd Ad} (h : x ∈ csJ l) : Sees1 0 l x := by
  unfold csJ Jd.csOf at h
  obtain ⟨r, hr, rfl⟩ := List.mem_map.1 h
  have := recs_see l 0 r (by rw [Nat.zero_add]; exact hr)
  exact this
theorem recs_place (N : Nat) : ∀ (l : List shE.T) (i : Nat), (Jd.recs N i (l.map evOf)).map (fun r => (r.cl.place : Int)) = ((l.zipIdx i).filter fun q => decide (q.1.1 = 0)).map fun q => (q.2 : Int)
  | [], _ => rfl
  | e :: l, i => by
    rw [List.map_cons, Jd.recs, List.zipIdx_cons]
    by_cases h : e.1 = 0
    · rw [if_pos (show (evOf e).kind = 0 from h), List.filter_cons_of_pos (by simpa using h), List.map_cons, List.map_cons, recs_place N l (i + 1)]
      congr 1
      cases Jd.endFrom (evOf e).thread (i + 1) (l.map evOf) <;> rfl
    · rw [if_neg (show ¬ (evOf e).kind = 0 from h), List.filter_cons_of_neg (by simpa using h), recs_place N l (i + 1)]
theorem callsR_cs (l : List shE.T) : callsR l = (csJ l).map fun x => (x.place : Int) := by
  unfold callsR csJ Jd.csOf
  rw [← recs_place l.length l 0, List.map_map]; rfl
/-- An order as numbers. -/
@[reducible] def nums (o : List Nat) : List Int := o.map fun (n : Nat) => (n : Int)
theorem mem_nums {o : List Nat} {n : Nat} : (n : Int) ∈ nums o ↔ n ∈ o := by
  constructor
  · intro h
    obtain ⟨m, hm, e⟩ := List.mem_map.1 h
    have : m = n := by exact_mod_cast e
    rw [← this]; exact hm
  · exact fun h => List.mem_map_of_mem h
theorem whole_ref (o : List Nat) (l : List shE.T) : wholeE (nums o) l = Jd.wholeR (csJ l) o := by
  unfold wholeE Jd.wholeR
  rw [callsR_cs, List.all_map]
  have : ∀ x ∈ csJ l, ((fun y => !lacks (nums o) l y) ∘ fun x : Jd.Cl Cd Ad => (x.place : Int)) x = (!x.ans.isSome || o.contains x.place) := by
    intro x hx
    obtain ⟨h1, ⟨e, h2, h3, h4, h5⟩, h6⟩ := cs_see hx
    rw [Nat.sub_zero] at h2 h4
    simp only [Function.comp, lacks, Int.toNat_natCast, h2, h4]
    by_cases q : x.place ∈ o
    · rw [decide_eq_true (mem_nums.2 q)]; simp [q]
    · rw [decide_eq_false (fun w => q (mem_nums.1 w))]; simp [q]
  rw [Bool.eq_iff_iff, List.all_eq_true, List.all_eq_true]
  exact ⟨fun h x hx => by rw [← this x hx]; exact h x hx, fun h x hx => by rw [this x hx]; exact h x hx⟩
theorem may_ref (o : List Nat) (x : Jd.Cl Cd Ad) : mayE (nums o) x.place x.over = Jd.mayR o x := by
  unfold mayE Jd.mayR
  congr 1
  · rw [Bool.eq_iff_iff]
    simp only [decide_eq_true_eq, Bool.not_eq_true', List.contains_eq_mem, decide_eq_false_iff_not]
    exact not_congr mem_nums
  · rw [List.all_map, Bool.eq_iff_iff, List.all_eq_true, List.all_eq_true]
    constructor
    · intro h a ha
      have := h a ha
      simp at this ⊢
      omega
    · intro h a ha
      have := h a ha
      simp at this ⊢
      omega

/-- Calls that are not in an order. -/
def free (cs : Cs) (o : List Nat) : Nat := (cs.filter fun x => !o.contains x.place).length
theorem free_zero {cs : Cs} {o : List Nat} (h : free cs o = 0) : Jd.wholeR cs o = true := by
  unfold Jd.wholeR
  rw [List.all_eq_true]
  intro x hx
  have : (cs.filter fun x => !o.contains x.place) = [] := List.eq_nil_of_length_eq_zero h
  rw [List.filter_eq_nil_iff] at this
  have := this x hx
  simp at this
  simp [this]
theorem free_less {cs : Cs} {o : List Nat} {x : Jd.Cl Cd Ad} (hx : x ∈ cs) (ho : o.contains x.place = false) : free cs (o ++ [x.place]) < free cs o := by
  unfold free
  have h1 : (cs.filter fun y => !(o ++ [x.place]).contains y.place) = (cs.filter fun y => !o.contains y.place).filter fun y => decide (y.place ≠ x.place) := by
    rw [List.filter_filter]
    congr 1
    funext y
    simp [Bool.and_comm]
  rw [h1]
  exact List.length_filter_lt_length_iff_exists.2 ⟨x, List.mem_filter.2 ⟨hx, by rw [ho]; rfl⟩, by simp⟩
/-- What the exhaustive search gives from call j on. -/
def candR (D : Hd → List Int) (cs : Cs) (n : Nat) (o : List Nat) (st : Int) (j : Nat) : Option (List Nat) := match cs[j]? with
    | some x => if Jd.mayR o x = true ∧ Jd.fitS x (stepE D st x.call).2 = true then Jd.leastS (stepE D) cs n (o ++ [x.place]) (stepE D st x.call).1 else none
    | none => none
theorem least_cand (D : Hd → List Int) (cs : Cs) (n : Nat) (o : List Nat) (st : Int) : Jd.leastS (stepE D) cs (n + 1) o st = if Jd.wholeR cs o = true then some o else (List.range cs.length).findSome? (candR D cs n o st) := by
  rw [Jd.leastS]
  split
  · rfl
  · congr 1
    funext j
    unfold candR
    cases cs[j]? <;> rfl
/-- The exhaustive search finds the judge's order. -/
theorem least_same (D : Hd → List Int) (l : List shE.T) (n : Nat) (hn : Jd.unpl (List.replicate (csJ l).length false) ≤ n) : Jd.leastS (stepE D) (csJ l) n [] 0 = leastJ D l := by
  have h := Jd.find_least (stepE D) (Jd.cs_apart l.length (l.map evOf)) n [] 0 (List.replicate (csJ l).length false) ⟨by rw [List.length_replicate]; rfl, fun i x b hi hb => by
    rw [List.getElem?_replicate] at hb
    split at hb
    · obtain rfl := Option.some.inj hb; simp
    · cases hb⟩ (fun o ho => by cases ho)
  have h : Jd.leastS (stepE D) (csJ l) n [] 0 = _ := h
  rw [h]
  unfold leastJ Jd.ansS
  have hf := Jd.find_fuel (stepE D) (csJ l) n 0 (List.replicate (csJ l).length false) hn
  show Option.map _ (Jd.findS (stepE D) (csJ l) n 0 (List.replicate (csJ l).length false)) = _
  rw [hf]
  have : ((fun x : List Nat => [] ++ x) : List Nat → List Nat) = id := funext fun x => List.nil_append x
  rw [this, Option.map_id]; rfl
end Go.Proofs.YtpfghndflegbaaaDoor
