/- law54: the plain law of batches: rows of one key, squeezed. -/
import Derived.Test.YtfchicmekieclaaFg
namespace Go.Proofs.Ytfchicmekieclaa
open Go Go.Vc

/-- Onto a stack of operations on one key, the last one first. -/
def pushR : List O → O → List O
  | [], o => [o]
  | x :: xs, o => bif (merge x o).2 then pushR xs (merge x o).1 else o :: x :: xs
/-- Is it an operation on this key? -/
def on (k : Int) (o : O) : Bool := live o.1 && o.2.1 == k
def stackOf (l : List O) (k : Int) : List O := (l.filter (on k)).foldl pushR []
def rowOf (l : List O) (k : Int) : List O := (stackOf l k).reverse
def keyStep (ks : List Int) (o : O) : List Int := if live o.1 = true ∧ o.2.1 ∉ ks then ks ++ [o.2.1] else ks
def keysOf (l : List O) : List Int := l.foldl keyStep []
def batch (l : List O) : List O := (keysOf l).flatMap (rowOf l)

theorem keysOf_snoc (l : List O) (o : O) : keysOf (l ++ [o]) = keyStep (keysOf l) o := by simp [keysOf]
theorem stackOf_snoc (l : List O) (o : O) (k : Int) : stackOf (l ++ [o]) k = if on k o = true then pushR (stackOf l k) o else stackOf l k := by
  unfold stackOf
  rw [List.filter_append, List.foldl_append]
  by_cases h : on k o = true
  · rw [if_pos h, List.filter_cons_of_pos h]; rfl
  · rw [if_neg h, List.filter_cons_of_neg h]; rfl

theorem merge_ok {a b : O} (h : (merge a b).2 = true) : live a.1 = true ∧ live b.1 = true ∧ a.2.1 = b.2.1 := by
  unfold merge at h
  cases ha : live a.1 <;> cases hb : live b.1 <;> simp_all
  by_cases hk : a.2.1 = b.2.1
  · exact hk
  · exfalso
    have : (a.2.1 != b.2.1) = true := by simpa using hk
    rw [this] at h
    simp at h

theorem merge_key {a b : O} (h : (merge a b).2 = true) : live (merge a b).1.1 = true ∧ (merge a b).1.2.1 = a.2.1 := by
  obtain ⟨h1, h2, h3⟩ := merge_ok h
  unfold merge at h ⊢
  have : (a.2.1 != b.2.1) = false := by simpa using h3
  simp only [h1, h2, this, Bool.not_true, cond_false] at h ⊢
  cases hb : (b.1 == 3) <;> simp only [hb, cond_true, cond_false] at h ⊢
  · cases hc : (bif a.1 == 3 then true else a.1 == b.1) <;> simp only [hc, cond_true, cond_false] at h ⊢
    · cases h
    · exact ⟨h1, trivial⟩
  · exact ⟨h2, h3.symm⟩

theorem wrap_add_wrap (x y : Int) : IntKind.i64.wrap (x + IntKind.i64.wrap y) = IntKind.i64.wrap (x + y) := by
  have h1 := wrap_i64_mod y
  rw [wrap_i64_eq, wrap_i64_eq (x + y)]
  have : (x + IntKind.i64.wrap y) % 18446744073709551616 = (x + y) % 18446744073709551616 := by omega
  rw [this]
theorem wrap_wrap_add (x y : Int) : IntKind.i64.wrap (IntKind.i64.wrap x + y) = IntKind.i64.wrap (x + y) := by
  rw [Int.add_comm, wrap_add_wrap, Int.add_comm]

theorem live_cases {k : Int} (h : live k = true) : k = 0 ∨ k = 1 ∨ k = 2 ∨ k = 3 := by
  have := live_iff.1 h
  omega

/-- A merged operation has the effect of both. -/
theorem merge_eff {a b : O} (h : (merge a b).2 = true) (v : Int) : eff (merge a b).1.1 v (merge a b).1.2.2 = eff b.1 (eff a.1 v a.2.2) b.2.2 := by
  obtain ⟨h1, h2, h3⟩ := merge_ok h
  unfold merge at h ⊢
  have : (a.2.1 != b.2.1) = false := by simpa using h3
  simp only [h1, h2, this, Bool.not_true, cond_false] at h ⊢
  rcases live_cases h1 with ha | ha | ha | ha <;> rcases live_cases h2 with hb | hb | hb | hb <;> simp only [ha, hb] at h ⊢ <;> simp [eff, ha, hb] at h ⊢
  all_goals first | (rw [wrap_add_wrap, wrap_wrap_add, Int.add_assoc]; done) | ((repeat' split) <;> omega)

/-- What the operations on a key make of its value. -/
def effs (l : List O) (v : Int) : Int := l.foldl (fun v o => eff o.1 v o.2.2) v
theorem effs_append (l m : List O) (v : Int) : effs (l ++ m) v = effs m (effs l v) := by simp [effs]

theorem pushR_effs : ∀ (st : List O) (o : O) (v : Int), effs (pushR st o).reverse v = eff o.1 (effs st.reverse v) o.2.2
  | [], o, v => rfl
  | x :: xs, o, v => by
    simp only [pushR]
    cases h : (merge x o).2 with
    | true =>
      simp only [cond_true]
      rw [pushR_effs xs, merge_eff h, List.reverse_cons, effs_append]
      rfl
    | false =>
      simp only [cond_false]
      rw [List.reverse_cons, effs_append]
      rfl

theorem pushR_on {k : Int} : ∀ {st : List O} {o : O}, (∀ x ∈ st, on k x = true) → on k o = true → ∀ x ∈ pushR st o, on k x = true
  | [], o, _, ho, x, hx => by simp [pushR] at hx; subst hx; exact ho
  | y :: ys, o, hs, ho, x, hx => by
    simp only [pushR] at hx
    cases h : (merge y o).2 with
    | true =>
      rw [h, cond_true] at hx
      obtain ⟨h1, h2⟩ := merge_key h
      have hy := hs y (by simp)
      simp only [on, Bool.and_eq_true, beq_iff_eq] at hy
      exact pushR_on (fun z hz => hs z (by simp [hz])) (by simp [on, h1, h2, hy.2]) x hx
    | false =>
      rw [h, cond_false] at hx
      rcases List.mem_cons.1 hx with rfl | hx
      · exact ho
      · exact hs x hx

theorem foldl_push {k : Int} : ∀ (l st : List O), (∀ x ∈ st, on k x = true) → (∀ x ∈ l, on k x = true) → (∀ x ∈ l.foldl pushR st, on k x = true) ∧ ∀ v, effs (l.foldl pushR st).reverse v = effs l (effs st.reverse v)
  | [], st, hs, _ => ⟨hs, fun _ => rfl⟩
  | o :: l, st, hs, hl => by
    obtain ⟨h1, h2⟩ := foldl_push l (pushR st o) (pushR_on hs (hl o (by simp))) (fun x hx => hl x (by simp [hx]))
    refine ⟨h1, fun v => ?_⟩
    rw [List.foldl_cons, h2, pushR_effs]
    rfl

theorem rowOf_on (l : List O) (k : Int) : ∀ x ∈ rowOf l k, on k x = true := by
  intro x hx
  exact (foldl_push (k := k) (l.filter (on k)) [] (by simp) (fun x hx => (List.mem_filter.1 hx).2)).1 x (by simpa [rowOf, stackOf] using hx)
theorem rowOf_effs (l : List O) (k v : Int) : effs (rowOf l k) v = effs (l.filter (on k)) v :=
  (foldl_push (k := k) (l.filter (on k)) [] (by simp) (fun x hx => (List.mem_filter.1 hx).2)).2 v

theorem keys_nodup : ∀ (l : List O), (keysOf l).Nodup ∧ ∀ k, k ∈ keysOf l ↔ ∃ o ∈ l, on k o = true := by
  have key : ∀ (l : List O) (ks : List Int), ks.Nodup → (l.foldl keyStep ks).Nodup ∧ ∀ k, k ∈ l.foldl keyStep ks ↔ k ∈ ks ∨ ∃ o ∈ l, on k o = true := by
    intro l
    induction l with
    | nil => intro ks h; exact ⟨h, by simp⟩
    | cons o l ih =>
      intro ks h
      have hn : (keyStep ks o).Nodup := by
        unfold keyStep
        split
        · rename_i hc
          rw [List.nodup_append]
          exact ⟨h, by simp, fun x hx y hy => by simp at hy; subst hy; intro e; subst e; exact hc.2 hx⟩
        · exact h
      obtain ⟨h1, h2⟩ := ih _ hn
      refine ⟨h1, fun k => ?_⟩
      rw [List.foldl_cons, h2]
      have hk : k ∈ keyStep ks o ↔ k ∈ ks ∨ on k o = true := by
        unfold keyStep
        split
        · rename_i hc
          simp only [List.mem_append, List.mem_singleton, on, Bool.and_eq_true, beq_iff_eq]
          constructor
          · rintro (h | rfl)
            · exact .inl h
            · exact .inr ⟨hc.1, rfl⟩
          · rintro (h | ⟨_, h⟩)
            · exact .inl h
            · exact .inr h.symm
        · rename_i hc
          simp only [on, Bool.and_eq_true, beq_iff_eq]
          constructor
          · exact .inl
          · rintro (h | ⟨h1, rfl⟩)
            · exact h
            · exact Classical.byContradiction fun hn => hc ⟨h1, hn⟩
      rw [hk]
      simp only [List.mem_cons, exists_eq_or_imp]
      constructor
      · rintro ((h | h) | h)
        · exact .inl h
        · exact .inr (.inl h)
        · exact .inr (.inr h)
      · rintro (h | h | h)
        · exact .inl (.inl h)
        · exact .inl (.inr h)
        · exact .inr h
  intro l
  have := key l [] (by simp)
  exact ⟨this.1, fun k => by have := this.2 k; simp only [List.not_mem_nil, false_or] at this; exact this⟩

/-- The operations on one key in the rows of all. -/
theorem flat_filter (g : Int → List O) (hg : ∀ k, ∀ x ∈ g k, on k x = true) (k : Int) : ∀ (ks : List Int), ks.Nodup → (ks.flatMap g).filter (on k) = if k ∈ ks then g k else []
  | [], _ => by simp
  | q :: ks, h => by
    rw [List.nodup_cons] at h
    rw [List.flatMap_cons, List.filter_append, flat_filter g hg k ks h.2]
    by_cases hq : q = k
    · subst hq
      rw [if_neg h.1, if_pos (by simp), List.append_nil]
      exact List.filter_eq_self.2 (hg q)
    · have : (g q).filter (on k) = [] := by
        rw [List.filter_eq_nil_iff]
        intro x hx hk
        have h1 := hg q x hx
        simp only [on, Bool.and_eq_true, beq_iff_eq] at h1 hk
        exact hq (h1.2.symm.trans hk.2)
      rw [this, List.nil_append]
      have hne : ¬ k = q := fun e => hq e.symm
      simp only [List.mem_cons, hne, false_or]

theorem batch_filter (l : List O) (k : Int) : (batch l).filter (on k) = rowOf l k := by
  rw [batch, flat_filter (rowOf l) (rowOf_on l) k _ (keys_nodup l).1]
  split
  · rfl
  · rename_i h
    rw [(keys_nodup l).2] at h
    have : l.filter (on k) = [] := by
      rw [List.filter_eq_nil_iff]
      exact fun o ho hk => h ⟨o, ho, hk⟩
    simp [rowOf, stackOf, this]

/-- What operations make of a map's answers, key by key. -/
theorem app_on (l : List O) : ∀ (f : Int → Option Int) (k : Int), app f l k = if l.filter (on k) = [] then f k else some (effs (l.filter (on k)) ((f k).getD 0)) := by
  induction l with
  | nil => intro f k; rfl
  | cons o l ih =>
    intro f k
    show app (app1 f o) l k = _
    rw [ih]
    by_cases ho : on k o = true
    · have ho' := ho
      simp only [on, Bool.and_eq_true, beq_iff_eq] at ho'
      have h1 : app1 f o k = some (eff o.1 ((f k).getD 0) o.2.2) := by simp [app1, ho'.1, ho'.2]
      rw [List.filter_cons_of_pos ho, h1, if_neg (by simp : ¬ (o :: l.filter (on k) = []))]
      split
      · rename_i he; rw [he]; rfl
      · rfl
    · have h1 : app1 f o k = f k := by
        unfold app1
        cases hl : live o.1 with
        | false => rfl
        | true =>
          have : ¬ k = o.2.1 := fun e => ho (by simp [on, hl, e])
          simp [this]
      rw [List.filter_cons_of_neg ho, h1]

theorem rowOf_nil {l : List O} {k : Int} : rowOf l k = [] ↔ l.filter (on k) = [] := by
  have hp : ∀ (st : List O) (o : O), pushR st o ≠ [] := by
    intro st
    induction st with
    | nil => intro o; simp [pushR]
    | cons x xs ih => intro o; simp only [pushR]; cases (merge x o).2 <;> simp [ih]
  have hf : ∀ (l st : List O), st ≠ [] → l.foldl pushR st ≠ [] := by
    intro l
    induction l with
    | nil => intro st h; exact h
    | cons o l ih => intro st _; exact ih _ (hp st o)
  unfold rowOf stackOf
  rw [List.reverse_eq_nil_iff]
  cases l.filter (on k) with
  | nil => simp
  | cons o l => simp only [List.foldl_cons, reduceCtorEq, iff_false]; exact hf l _ (hp [] o)

/-- A batch has the effect of all. -/
theorem app_batch (f : Int → Option Int) (l : List O) (k : Int) : app f (batch l) k = app f l k := by
  rw [app_on, app_on, batch_filter]
  by_cases h : l.filter (on k) = []
  · rw [if_pos h, if_pos (rowOf_nil.2 h)]
  · rw [if_neg h, if_neg (fun e => h (rowOf_nil.1 e)), rowOf_effs]
theorem app_append (f : Int → Option Int) (l m : List O) : app f (l ++ m) = app (app f l) m := by simp [app]

theorem pushR_len (st : List O) : ∀ o : O, (pushR st o).length ≤ st.length + 1 := by
  induction st with
  | nil => intro o; simp [pushR]
  | cons x xs ih =>
    intro o
    simp only [pushR]
    cases (merge x o).2 with
    | true => have := ih (merge x o).1; simp only [cond_true, List.length_cons]; omega
    | false => simp
theorem stack_len (l st : List O) : (l.foldl pushR st).length ≤ st.length + l.length := by
  induction l generalizing st with
  | nil => simp
  | cons o l ih =>
    have h1 := ih (pushR st o)
    have h2 := pushR_len st o
    simp only [List.foldl_cons, List.length_cons]
    omega

theorem sum_filter (l : List O) : ∀ (ks : List Int), ks.Nodup → (ks.map fun k => (l.filter (on k)).length).sum ≤ l.length := by
  induction l with
  | nil =>
    intro ks _
    have : ∀ ks : List Int, (ks.map fun k => (([] : List O).filter (on k)).length).sum = 0 := by
      intro ks
      induction ks with
      | nil => rfl
      | cons k ks ih => simpa using ih
    rw [this]; exact Nat.le_refl 0
  | cons o l ih =>
    intro ks hks
    have h1 := ih ks hks
    have h2 : ∀ (ks : List Int), ks.Nodup → (ks.map fun k => ((o :: l).filter (on k)).length).sum ≤ (ks.map fun k => (l.filter (on k)).length).sum + (if o.2.1 ∈ ks then 1 else 0) := by
      intro ks
      induction ks with
      | nil => intro _; simp
      | cons k ks ih2 =>
        intro hn
        rw [List.nodup_cons] at hn
        have h3 := ih2 hn.2
        simp only [List.map_cons, List.sum_cons, List.mem_cons]
        by_cases hk : on k o = true
        · have hkk : o.2.1 = k := by simp only [on, Bool.and_eq_true, beq_iff_eq] at hk; exact hk.2
          rw [List.filter_cons_of_pos hk]
          rw [if_neg (by rw [hkk]; exact hn.1)] at h3
          simp only [hkk, true_or, if_true, List.length_cons]
          omega
        · rw [List.filter_cons_of_neg hk]
          by_cases ho : o.2.1 ∈ ks
          · rw [if_pos ho] at h3
            simp only [ho, or_true, if_true]
            omega
          · rw [if_neg ho] at h3
            omega
    have h4 := h2 ks hks
    have h5 : (if o.2.1 ∈ ks then 1 else 0) ≤ 1 := by split <;> omega
    simp only [List.length_cons]
    omega

theorem batch_len (l : List O) : (batch l).length ≤ l.length := by
  have h1 : (batch l).length = ((keysOf l).map fun k => (rowOf l k).length).sum := by simp [batch, List.length_flatMap]
  have h2 : ∀ (ks : List Int), (ks.map fun k => (rowOf l k).length).sum ≤ (ks.map fun k => (l.filter (on k)).length).sum := by
    intro ks
    induction ks with
    | nil => simp
    | cons k ks ih =>
      simp only [List.map_cons, List.sum_cons]
      have : (rowOf l k).length ≤ (l.filter (on k)).length := by
        have := stack_len (l.filter (on k)) []
        simpa [rowOf, stackOf] using this
      omega
  have h3 := sum_filter l (keysOf l) (keys_nodup l).1
  have h4 := h2 (keysOf l)
  omega

/-- No two neighbours merge. -/
def Red : List O → Prop
  | [] => True
  | [_] => True
  | o :: x :: xs => (merge x o).2 = false ∧ Red (x :: xs)
theorem Red.tail {x : O} {xs : List O} (h : Red (x :: xs)) : Red xs := by
  cases xs with
  | nil => trivial
  | cons y ys => exact h.2
theorem pushR_red : ∀ {st : List O} {o : O}, Red st → Red (pushR st o)
  | [], _, _ => trivial
  | x :: xs, o, h => by
    simp only [pushR]
    cases hm : (merge x o).2 with
    | true => exact pushR_red h.tail
    | false => exact ⟨hm, h⟩
theorem stack_red : ∀ (l st : List O), Red st → Red (l.foldl pushR st)
  | [], _, h => h
  | o :: l, st, h => stack_red l _ (pushR_red h)
theorem red_again : ∀ (st : List O), Red st → st.reverse.foldl pushR [] = st
  | [], _ => rfl
  | o :: st, h => by
    rw [List.reverse_cons, List.foldl_append, red_again st h.tail]
    cases st with
    | nil => rfl
    | cons x xs => simp only [List.foldl_cons, List.foldl_nil, pushR, h.1, cond_false]

theorem keyStep_mem {ks : List Int} {o : O} (h : o.2.1 ∈ ks) : keyStep ks o = ks := by
  unfold keyStep
  rw [if_neg (fun e => e.2 h)]

/-- The keys of rows that follow one another. -/
theorem keys_rows (g : Int → List O) (hg : ∀ k, ∀ x ∈ g k, on k x = true) : ∀ (ks pre : List Int), (∀ k ∈ ks, g k ≠ []) → (pre ++ ks).Nodup → (ks.flatMap g).foldl keyStep pre = pre ++ ks
  | [], pre, _, _ => by simp
  | k :: ks, pre, hne, hnd => by
    rw [List.flatMap_cons, List.foldl_append]
    have hk : (g k).foldl keyStep pre = pre ++ [k] := by
      have hon := hg k
      have hn := hne k (by simp)
      have hkp : k ∉ pre := by
        rw [List.nodup_append] at hnd
        exact fun h => hnd.2.2 k h k (by simp) rfl
      cases hgk : g k with
      | nil => exact absurd hgk hn
      | cons o l =>
        rw [hgk] at hon
        have ho := hon o (by simp)
        simp only [on, Bool.and_eq_true, beq_iff_eq] at ho
        have h1 : keyStep pre o = pre ++ [k] := by
          unfold keyStep
          rw [if_pos ⟨ho.1, by rw [ho.2]; exact hkp⟩, ho.2]
        rw [List.foldl_cons, h1]
        have : ∀ (l : List O), (∀ x ∈ l, on k x = true) → l.foldl keyStep (pre ++ [k]) = pre ++ [k] := by
          intro l
          induction l with
          | nil => intro _; rfl
          | cons x l ih =>
            intro h
            have hx := h x (by simp)
            simp only [on, Bool.and_eq_true, beq_iff_eq] at hx
            rw [List.foldl_cons, keyStep_mem (by rw [hx.2]; simp)]
            exact ih fun y hy => h y (by simp [hy])
        exact this l fun x hx => hon x (by simp [hx])
    rw [hk, keys_rows g hg ks (pre ++ [k]) (fun q hq => hne q (by simp [hq])) (by simpa using hnd)]
    simp

theorem batch_batch (l : List O) : batch (batch l) = batch l := by
  have hk : keysOf (batch l) = keysOf l := by
    have := keys_rows (rowOf l) (rowOf_on l) (keysOf l) [] (fun k hk => ?_) (by simpa using (keys_nodup l).1)
    · simpa [keysOf, batch] using this
    · rw [(keys_nodup l).2] at hk
      obtain ⟨o, ho, hon⟩ := hk
      intro e
      have := rowOf_nil.1 e
      rw [List.filter_eq_nil_iff] at this
      exact this o ho hon
  have hr : ∀ k, rowOf (batch l) k = rowOf l k := by
    intro k
    unfold rowOf stackOf
    rw [batch_filter]
    rw [show rowOf l k = ((l.filter (on k)).foldl pushR []).reverse from rfl, red_again _ (stack_red _ [] trivial)]
  have h1 : batch (batch l) = (keysOf (batch l)).flatMap (rowOf (batch l)) := rfl
  rw [h1, hk]
  have h2 : rowOf (batch l) = rowOf l := funext hr
  rw [h2]
  rfl
end Go.Proofs.Ytfchicmekieclaa
