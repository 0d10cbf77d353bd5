/- law57: the pending calls. -/
import Derived.Test.YtpeehenohdlfdaaGreatDoorPa
import Derived.Test.YtpeehenohdlfdaaGreatDoorVcM
namespace Go.Proofs.YtpeehenohdlfdaaGreatDoor.Rc
open Go Go.Vc
set_option maxRecDepth 100000
/-- Is the call of this thread and number unanswered behind it? -/
def scan (t n : Int) : List Ev → Bool
  | [] => true
  | e :: r => if e.k = 3 then true else if e.k = 1 ∧ e.t = t ∧ e.n = n then false else scan t n r
def noCrash (r : List Ev) : Bool := r.all fun e => decide (e.k ≠ 3)
def pends (l : List Ev) (i : Nat) : Bool := match l[i]? with
  | some e => decide (e.k = 0) && scan e.t e.n (l.drop (i + 1))
  | none => false
def refPend (l : List Ev) : List Nat := (List.range l.length).filter (pends l)
theorem scan_snoc (t n : Int) (e : Ev) : ∀ r : List Ev, scan t n (r ++ [e]) = (scan t n r && (!(noCrash r) || !(decide (e.k = 1 ∧ e.t = t ∧ e.n = n))))
  | [] => by
    show (if e.k = 3 then true else if e.k = 1 ∧ e.t = t ∧ e.n = n then false else true) = _
    have : noCrash [] = true := rfl
    rw [this]
    by_cases h3 : e.k = 3
    · rw [if_pos h3, decide_eq_false (by omega)]; rfl
    · rw [if_neg h3]
      by_cases h : e.k = 1 ∧ e.t = t ∧ e.n = n
      · rw [if_pos h, decide_eq_true h]; rfl
      · rw [if_neg h, decide_eq_false h]; rfl
  | x :: r => by
    have ih := scan_snoc t n e r
    rw [List.cons_append]
    unfold scan
    by_cases h3 : x.k = 3
    · rw [if_pos h3, if_pos h3]
      have : noCrash (x :: r) = false := by unfold noCrash; rw [List.all_cons, decide_eq_false (by simpa using h3), Bool.false_and]
      rw [this]; rfl
    rw [if_neg h3, if_neg h3]
    have hn : noCrash (x :: r) = noCrash r := by unfold noCrash; rw [List.all_cons, decide_eq_true h3, Bool.true_and]
    rw [hn]
    by_cases h : x.k = 1 ∧ x.t = t ∧ x.n = n
    · rw [if_pos h, if_pos h, Bool.false_and]
    · rw [if_neg h, if_neg h, ih]
theorem last_ge : ∀ l : List Ev, Hist l → ∀ (i : Nat) (e : Ev), l[i]? = some e → e.k = 0 → e.n ≤ lastR l e.t := list_rev (P := fun l => Hist l → ∀ (i : Nat) (e : Ev), l[i]? = some e → e.k = 0 → e.n ≤ lastR l e.t) (fun _ i e h => by simp at h) fun l x ih hh i e he hk => by
  obtain ⟨h1, hv⟩ := hh.init
  rw [lastR_snoc]
  rcases Nat.lt_or_ge i l.length with hi | hi
  · rw [List.getElem?_append_left hi] at he
    have h2 := ih h1 i e he hk
    by_cases hx : x.k = 0 ∧ x.t = e.t
    · rw [if_pos hx]
      obtain ⟨-, hv⟩ := hv
      rcases hv with ⟨-, -, -, h4, -⟩ | ⟨h4, -⟩ | ⟨h4, -⟩ | h4
      · rw [hx.2] at h4; omega
      · omega
      · omega
      · rw [h4] at hx; cases hx.1
    · rw [if_neg hx]; exact h2
  · rw [List.getElem?_append_right hi] at he
    have h0 : i - l.length = 0 := by have := (List.getElem?_eq_some_iff.1 he).1; simp at this; omega
    rw [h0] at he
    simp at he
    subst he
    rw [if_pos ⟨hk, rfl⟩]; exact Int.le_refl _
/-- A thread's calls have rising numbers. -/
theorem num_lt {l : List Ev} (h : Hist l) {i j : Nat} {a b : Ev} (ha : l[i]? = some a) (hb : l[j]? = some b) (hij : i < j) (h1 : a.k = 0) (h2 : b.k = 0) (ht : a.t = b.t) : a.n < b.n := by
  have hv := (h j b hb).2
  have hg := last_ge _ (h.take j) i a (by rw [List.getElem?_take_of_lt hij]; exact ha) h1
  rcases hv with ⟨-, -, -, h4, -⟩ | ⟨h4, -⟩ | ⟨h4, -⟩ | h4
  · rw [ht] at hg; omega
  · omega
  · omega
  · rw [h4] at h2; cases h2
theorem pends_snoc {l : List Ev} {e a : Ev} {i : Nat} (ha : l[i]? = some a) : pends (l ++ [e]) i = (pends l i && (!(noCrash (l.drop (i + 1))) || !(decide (e.k = 1 ∧ e.t = a.t ∧ e.n = a.n)))) := by
  have hi := get_lt ha
  unfold pends
  rw [get_snoc ha, ha]
  show (decide (a.k = 0) && scan a.t a.n ((l ++ [e]).drop (i + 1))) = (decide (a.k = 0) && scan a.t a.n (l.drop (i + 1)) && _)
  rw [drop_snoc (by omega), scan_snoc, Bool.and_assoc]
theorem pends_last (l : List Ev) (e : Ev) : pends (l ++ [e]) l.length = decide (e.k = 0) := by
  unfold pends
  rw [List.getElem?_append_right (Nat.le_refl _), Nat.sub_self]
  show (decide (e.k = 0) && scan e.t e.n ((l ++ [e]).drop (l.length + 1))) = _
  rw [List.drop_eq_nil_of_le (by simp)]
  show (decide (e.k = 0) && true) = _
  rw [Bool.and_true]
theorem pend_snoc (l : List Ev) (e : Ev) : refPend (l ++ [e]) = (refPend l).filter (pends (l ++ [e])) ++ (if e.k = 0 then [l.length] else []) := by
  unfold refPend
  rw [List.length_append, List.length_singleton, List.range_succ, List.filter_append, List.filter_filter]
  congr 1
  · refine List.filter_congr fun i hi => ?_
    have hil : i < l.length := List.mem_range.1 hi
    obtain ⟨a, ha⟩ : ∃ a, l[i]? = some a := ⟨_, List.getElem?_eq_getElem hil⟩
    rw [pends_snoc ha]
    cases pends l i <;> simp
  · by_cases h : e.k = 0
    · rw [if_pos h, List.filter_cons_of_pos (by rw [pends_last]; exact decide_eq_true h)]; rfl
    · rw [if_neg h, List.filter_cons_of_neg (by rw [pends_last, decide_eq_false h]; simp)]; rfl
theorem pend_mem {l : List Ev} {i : Nat} : i ∈ refPend l ↔ pends l i = true := by
  unfold refPend
  rw [List.mem_filter, List.mem_range]
  refine ⟨fun h => h.2, fun h => ⟨?_, h⟩⟩
  unfold pends at h
  cases hl : l[i]? with
  | none => rw [hl] at h; cases h
  | some e => exact get_lt hl
theorem pend_nodup (l : List Ev) : (refPend l).Nodup := List.nodup_range.filter _
/-- Nothing goes behind an event that is no answer. -/
theorem pend_keep {l : List Ev} {e : Ev} (h : e.k ≠ 1) : (refPend l).filter (pends (l ++ [e])) = refPend l := List.filter_eq_self.2 fun i hi => by
  have hp := pend_mem.1 hi
  have hp' := hp
  unfold pends at hp'
  cases ha : l[i]? with
  | none => rw [ha] at hp'; cases hp'
  | some a => rw [pends_snoc ha, hp, decide_eq_false (fun q => h q.1)]; simp
/-- An answer takes its call away. -/
theorem pend_answer {l : List Ev} (hl : Hist l) {e : Ev} (h1 : e.k = 1) {c : Bool} (ho : openM l e.t = some (e.n, c)) : (refPend l).filter (pends (l ++ [e])) = (refPend l).filter fun i : Nat => decide (((i : Nat) : Int) ≠ openR l e.t) := by
  obtain ⟨i0, a0, b1, b2, b3, b4, b5, -, b7⟩ := open_some ho
  refine List.filter_congr fun i hi => ?_
  have hp := pend_mem.1 hi
  have hp' := hp
  unfold pends at hp'
  cases ha : l[i]? with
  | none => rw [ha] at hp'; cases hp'
  | some a =>
    rw [ha] at hp'
    have hk : a.k = 0 := by
      have : (decide (a.k = 0) && _) = true := hp'
      rw [Bool.and_eq_true] at this
      exact of_decide_eq_true this.1
    rw [pends_snoc ha, hp, Bool.true_and, b1]
    by_cases hii : i = i0
    · subst hii
      rw [ha] at b2
      obtain rfl := Option.some.inj b2
      have hnc : noCrash (l.drop (i + 1)) = true := List.all_eq_true.2 fun x hx => decide_eq_true (b7 x (by
        have : l.drop (i + 1) = (l.drop i).drop 1 := by rw [List.drop_drop]
        rw [this] at hx
        exact List.mem_of_mem_drop hx))
      rw [hnc, decide_eq_true ⟨h1, b4.symm, b5.symm⟩]; simp
    · rw [decide_eq_true (show ((i : Nat) : Int) ≠ (i0 : Int) by omega)]
      by_cases hm : e.k = 1 ∧ e.t = a.t ∧ e.n = a.n
      · exfalso
        have ht : a.t = a0.t := by rw [b4, hm.2.1]
        have hn : a.n = a0.n := by rw [← hm.2.2]; exact b5.symm
        rcases Nat.lt_or_gt_of_ne hii with q | q
        · have := num_lt hl ha b2 q hk b3 ht; omega
        · have := num_lt hl b2 ha q b3 hk ht.symm; omega
      · rw [decide_eq_false hm]; simp
abbrev kI : Shape := .int .i64
theorem kI_keyed : kI.keyed = true := rfl
/-- What the program holds while it looks for pending calls. -/
structure PInv (l : List Ev) (out : List Int) (m : List (Int × Int)) : Prop where
  perm : (out ++ m.map (·.2)).Perm ((refPend l).map fun i : Nat => ((i : Nat) : Int))
  once : keysOnce (k := kI) m
  is : ∀ t, mget kI m t = if openR l t < 0 then none else some (openR l t)
theorem pinv_nil : PInv [] [] [] := ⟨List.Perm.refl _, once_nil, fun _ => rfl⟩
theorem pinv_call {l : List Ev} {e : Ev} {out m} (h : PInv l out m) (hv : Valid l e) (h0 : e.k = 0) : PInv (l ++ [e]) out (mset kI m e.t (l.length : Int)) := by
  have hop : openR l e.t < 0 := by
    obtain ⟨-, hv⟩ := hv
    rcases hv with ⟨-, -, h4, -⟩ | ⟨h4, -⟩ | ⟨h4, -⟩ | h4
    · exact open_iff.2 h4
    · omega
    · omega
    · rw [h4] at h0; cases h0
  have hno : e.t ∉ m.map (·.1) := (mget_none (k := kI) kI_keyed).1 (by rw [h.is, if_pos hop])
  refine ⟨?_, once_mset kI_keyed h.once _ _, fun t => ?_⟩
  · rw [mset_new (k := kI) kI_keyed hno, pend_snoc, pend_keep (by omega), if_pos h0, List.map_append, List.map_append, ← List.append_assoc]
    exact h.perm.append_right _
  · rw [mget_mset kI_keyed, h.is, openR_snoc]
    unfold stepO
    rw [if_neg (show ¬ (e.k = 1 ∧ e.t = t) by omega)]
    by_cases ht : e.t = t
    · rw [if_pos (show kI.eq t e.t = true from beq_iff_eq.2 ht.symm), if_pos (show e.k = 0 ∧ e.t = t from ⟨h0, ht⟩), if_neg (show ¬ ((l.length : Nat) : Int) < 0 by omega)]
    · rw [if_neg (show ¬ kI.eq t e.t = true from fun q => ht (beq_iff_eq.1 q).symm), if_neg (show ¬ (e.k = 0 ∧ e.t = t) from fun q => ht q.2), if_neg (show ¬ e.k = 3 by omega)]
theorem pinv_commit {l : List Ev} {e : Ev} {out m} (h : PInv l out m) (h0 : e.k = 2) : PInv (l ++ [e]) out m := by
  refine ⟨?_, h.once, fun t => ?_⟩
  · rw [pend_snoc, pend_keep (by omega), if_neg (by omega), List.append_nil]; exact h.perm
  · rw [h.is, openR_snoc]
    unfold stepO
    rw [if_neg (show ¬ (e.k = 1 ∧ e.t = t) by omega), if_neg (show ¬ (e.k = 0 ∧ e.t = t) by omega), if_neg (show ¬ e.k = 3 by omega)]
theorem pinv_crash {l : List Ev} {e : Ev} {out m vs} (h : PInv l out m) (h0 : e.k = 3) (hvs : vs.Perm (m.map (·.2))) : PInv (l ++ [e]) (out ++ vs) [] := by
  refine ⟨?_, once_nil, fun t => ?_⟩
  · rw [pend_snoc, pend_keep (by omega), if_neg (by omega), List.append_nil, List.map_nil, List.append_nil]
    exact (hvs.append_left _).trans h.perm
  · rw [openR_snoc]
    unfold stepO
    rw [if_neg (show ¬ (e.k = 1 ∧ e.t = t) by omega), if_neg (show ¬ (e.k = 0 ∧ e.t = t) by omega), if_pos h0]; rfl
theorem mdel_out {k : Shape} {V : Type} (hk : k.keyed = true) : ∀ {es : List (k.T × V)} {y : k.T} {v : V}, mget k es y = some v → ∃ pre post, es = pre ++ (y, v) :: post ∧ mdel k es y = pre ++ post
  | [], y, v, h => by cases h
  | p :: es, y, v, h => by
    unfold mget at h
    unfold mdel
    by_cases hp : k.eq y p.1 = true
    · rw [if_pos hp] at h ⊢
      obtain ⟨p1, p2⟩ := p
      have : y = p1 := (key_eq hk _ _).1 hp
      subst this
      exact ⟨[], es, by rw [← Option.some.inj h]; rfl, rfl⟩
    · rw [if_neg hp] at h ⊢
      obtain ⟨pre, post, e1, e2⟩ := mdel_out hk h
      exact ⟨p :: pre, post, by rw [e1]; rfl, by rw [e2]; rfl⟩
theorem pinv_answer {l : List Ev} {e : Ev} {out m} (hl : Hist l) (h : PInv l out m) (hv : Valid l e) (h1 : e.k = 1) : PInv (l ++ [e]) out (mdel kI m e.t) := by
  have ⟨c, hc⟩ : ∃ c, openM l e.t = some (e.n, c) := by
    obtain ⟨-, hv⟩ := hv
    rcases hv with ⟨h4, -⟩ | ⟨-, -, h4, -⟩ | ⟨h4, -⟩ | h4
    · omega
    · exact h4
    · omega
    · rw [h4] at h1; cases h1
  obtain ⟨i0, a0, b1, b2, b3, b4, b5, -, b7⟩ := open_some hc
  have hg : mget kI m e.t = some (i0 : Int) := by rw [h.is, b1, if_neg (by omega)]
  obtain ⟨pre, post, hm, hd⟩ := mdel_out (k := kI) kI_keyed hg
  have honce := h.once
  have hperm := h.perm
  have his := h.is
  rw [hd]
  rw [hm] at honce hperm his
  refine ⟨?_, once_out honce, fun t => ?_⟩
  · rw [pend_snoc, pend_answer hl h1 hc, if_neg (by omega), List.append_nil, b1]
    have hmv : (out ++ (pre ++ (e.t, (i0 : Int)) :: post).map (·.2)).Perm ((i0 : Int) :: (out ++ (pre ++ post).map (·.2))) := by
      rw [List.map_append, List.map_append, List.map_cons, ← List.append_assoc, ← List.append_assoc]
      exact List.perm_middle
    have h2 := (hmv.symm.trans hperm).filter (fun x : Int => decide (x ≠ (i0 : Int)))
    have hnd : ((i0 : Int) :: (out ++ (pre ++ post).map (·.2))).Nodup := (hmv.symm.trans hperm).nodup_iff.2 ((pend_nodup l).map _ (fun a b q => by intro e; exact q (by omega)))
    have hself : (out ++ (pre ++ post).map (·.2)).filter (fun x : Int => decide (x ≠ (i0 : Int))) = out ++ (pre ++ post).map (·.2) := List.filter_eq_self.2 (fun x hx => decide_eq_true (show x ≠ (i0 : Int) from fun q => (List.nodup_cons.1 hnd).1 (q ▸ hx)))
    rw [List.filter_cons_of_neg (by simp), hself] at h2
    rw [List.filter_map] at h2
    exact h2
  · rw [mget_out (k := kI) kI_keyed honce t, his t, openR_snoc]
    unfold stepO
    by_cases ht : e.t = t
    · rw [if_pos (show kI.eq t e.t = true from beq_iff_eq.2 ht.symm), if_pos (show e.k = 1 ∧ e.t = t from ⟨h1, ht⟩)]; rfl
    · rw [if_neg (show ¬ kI.eq t e.t = true from fun q => ht (beq_iff_eq.1 q).symm), if_neg (show ¬ (e.k = 1 ∧ e.t = t) from fun q => ht q.2), if_neg (show ¬ (e.k = 0 ∧ e.t = t) by omega), if_neg (show ¬ e.k = 3 by omega)]
theorem pend_sorted (l : List Ev) : ((refPend l).map fun i : Nat => ((i : Nat) : Int)).Pairwise (· ≤ ·) := by
  rw [List.pairwise_map]
  refine List.Pairwise.filter _ (List.Pairwise.imp ?_ List.pairwise_lt_range)
  intro a b h; omega
theorem pend_len (l : List Ev) : (refPend l).length ≤ l.length := by
  unfold refPend
  have := List.length_filter_le (pends l) (List.range l.length)
  rwa [List.length_range] at this
end Go.Proofs.YtpeehenohdlfdaaGreatDoor.Rc
