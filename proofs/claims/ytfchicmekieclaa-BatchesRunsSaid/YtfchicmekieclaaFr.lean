/- law54: the runs are a partition, commuting and maximal; turned round a run does the same: plain laws. -/
import Derived.Test.YtfchicmekieclaaFg
import Derived.Test.YtfchicmekieclaaFo
namespace Go.Proofs.Ytfchicmekieclaa
open Go Go.Vc

structure RunsOk (out : List (List O)) : Prop where
  ne : ∀ r ∈ out, r ≠ []
  com : ∀ r ∈ out, r.Pairwise (fun x y => commute x y = true)
  max : ∀ (i : Nat) (a b : List O) (h : O), out[i]? = some a → out[i + 1]? = some b → b[0]? = some h → ∃ x ∈ a, commute x h = false

theorem runStep_cases (out : List (List O)) (o : O) : (runStep out o = out ++ [[o]] ∧ (out = [] ∨ ∃ r, out.getLast? = some r ∧ ∃ y ∈ r, commute y o = false)) ∨
    (∃ out' r, out = out' ++ [r] ∧ runStep out o = out' ++ [r ++ [o]] ∧ ∀ y ∈ r, commute y o = true) := by
  unfold runStep
  split
  · rename_i h
    exact .inl ⟨by rw [List.getLast?_eq_none_iff.1 h]; rfl, .inl (List.getLast?_eq_none_iff.1 h)⟩
  · rename_i r h
    split
    · rename_i hc
      rw [List.all_eq_true] at hc
      refine .inr ⟨out.dropLast, r, ?_, rfl, hc⟩
      have hne : out ≠ [] := by intro e; subst e; cases h
      have := List.dropLast_concat_getLast hne
      rw [List.getLast?_eq_some_getLast hne] at h
      simp only [Option.some.injEq] at h
      rw [h] at this
      exact this.symm
    · rename_i hc
      refine .inl ⟨rfl, .inr ⟨r, h, ?_⟩⟩
      have hc' : r.all (fun y => commute y o) = false := by simpa using hc
      rw [List.all_eq_false] at hc'
      obtain ⟨y, hy, hn⟩ := hc'
      exact ⟨y, hy, by simpa using hn⟩

theorem runsOk_step {out : List (List O)} (h : RunsOk out) (o : O) : RunsOk (runStep out o) := by
  rcases runStep_cases out o with ⟨e, hc⟩ | ⟨out', r, rfl, e, hc⟩
  · rw [e]
    refine ⟨?_, ?_, ?_⟩
    · intro x hx
      rcases List.mem_append.1 hx with hx | hx
      · exact h.ne x hx
      · simp only [List.mem_singleton] at hx; subst hx; simp
    · intro x hx
      rcases List.mem_append.1 hx with hx | hx
      · exact h.com x hx
      · simp only [List.mem_singleton] at hx; subst hx; simp
    · intro i a b x ha hb hx
      have hil := (List.getElem?_eq_some_iff.1 hb).1
      simp only [List.length_append, List.length_singleton] at hil
      rw [List.getElem?_append_left (by omega)] at ha
      by_cases hl : i + 1 < out.length
      · rw [List.getElem?_append_left hl] at hb
        exact h.max i a b x ha hb hx
      · have hl' : i + 1 = out.length := by omega
        rw [hl', List.getElem?_concat_length] at hb
        simp only [Option.some.injEq] at hb
        subst hb
        simp only [List.getElem?_cons_zero, Option.some.injEq] at hx
        subst hx
        rcases hc with rfl | ⟨r, hr, y, hy, hn⟩
        · simp at ha
        · rw [List.getLast?_eq_getElem?, show out.length - 1 = i by omega, ha] at hr
          simp only [Option.some.injEq] at hr
          subst hr
          exact ⟨y, hy, hn⟩
  · rw [e]
    refine ⟨?_, ?_, ?_⟩
    · intro x hx
      rcases List.mem_append.1 hx with hx | hx
      · exact h.ne x (List.mem_append_left _ hx)
      · simp only [List.mem_singleton] at hx; subst hx; simp
    · intro x hx
      rcases List.mem_append.1 hx with hx | hx
      · exact h.com x (List.mem_append_left _ hx)
      · simp only [List.mem_singleton] at hx; subst hx
        rw [List.pairwise_append]
        refine ⟨h.com r (by simp), by simp, ?_⟩
        intro a ha b hb
        simp only [List.mem_singleton] at hb
        subst hb
        exact hc a ha
    · intro i a b x ha hb hx
      have hil := (List.getElem?_eq_some_iff.1 hb).1
      simp only [List.length_append, List.length_singleton] at hil
      rw [List.getElem?_append_left (by omega)] at ha
      have ha' : (out' ++ [r])[i]? = some a := by rw [List.getElem?_append_left (by omega)]; exact ha
      by_cases hl : i + 1 < out'.length
      · rw [List.getElem?_append_left hl] at hb
        exact h.max i a b x ha' (by rw [List.getElem?_append_left hl]; exact hb) hx
      · have hl' : i + 1 = out'.length := by omega
        rw [hl', List.getElem?_concat_length] at hb
        simp only [Option.some.injEq] at hb
        subst hb
        have hr := h.ne r (by simp)
        have hlen := List.length_pos_iff.2 hr
        rw [List.getElem?_append_left hlen] at hx
        exact h.max i a r x ha' (by rw [hl', List.getElem?_concat_length]) hx

theorem runs_ok (l : List O) : RunsOk (runs l) := by
  have key : ∀ (l : List O) (out : List (List O)), RunsOk out → RunsOk (l.foldl runStep out) := by
    intro l
    induction l with
    | nil => intro out h; exact h
    | cons o l ih => intro out h; exact ih _ (runsOk_step h o)
  exact key l [] ⟨by simp, by simp, by simp⟩

theorem runs_flat (l : List O) : (runs l).flatten = l := by
  have key : ∀ (l : List O) (out : List (List O)), (l.foldl runStep out).flatten = out.flatten ++ l := by
    intro l
    induction l with
    | nil => intro out; simp
    | cons o l ih =>
      intro out
      rw [List.foldl_cons, ih]
      rcases runStep_cases out o with ⟨e, -⟩ | ⟨out', r, rfl, e, -⟩ <;> rw [e] <;> simp
  exact key l []

theorem app_past {f : Int → Option Int} {a : O} {l : List O} (hf : FIn f) (ha : opIn a) (hl : ∀ x ∈ l, opIn x) (h : ∀ x ∈ l, commute a x = true) : app1 (app f l) a = app (app1 f a) l := by
  induction l generalizing f with
  | nil => rfl
  | cons b l ih =>
    show app1 (app (app1 f b) l) a = app (app1 (app1 f a) b) l
    rw [ih (hf.app1 (hl b (by simp))) (fun x hx => hl x (by simp [hx])) (fun x hx => h x (by simp [hx])), app_swap hf ha (hl b (by simp)) (h b (by simp))]

theorem app_rev {f : Int → Option Int} {l : List O} (hf : FIn f) (hl : ∀ x ∈ l, opIn x) (h : l.Pairwise (fun x y => commute x y = true)) : app f l.reverse = app f l := by
  induction l generalizing f with
  | nil => rfl
  | cons a l ih =>
    rw [List.pairwise_cons] at h
    have e : app f (a :: l).reverse = app1 (app f l.reverse) a := by simp [app]
    rw [e, ih hf (fun x hx => hl x (by simp [hx])) h.2, app_past hf (hl a (by simp)) (fun x hx => hl x (by simp [hx])) h.1]
    rfl

theorem pair_com {l : List O} (h : l.Pairwise (fun x y => commute x y = true)) {j k : Nat} {x y : O} (hjk : j < k) (hx : l[j]? = some x) (hy : l[k]? = some y) : commute x y = true := by
  obtain ⟨h1, rfl⟩ := List.getElem?_eq_some_iff.1 hx
  obtain ⟨h2, rfl⟩ := List.getElem?_eq_some_iff.1 hy
  exact List.pairwise_iff_getElem.1 h j k h1 h2 hjk
end Go.Proofs.Ytfchicmekieclaa
