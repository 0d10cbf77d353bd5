/- law07: Split and its law. -/
import Derived.Test.YtlecojgodkidkaaDoorFk
namespace Go.Proofs.YtlecojgodkidkaaDoor
open Go Go.Vc
set_option maxRecDepth 100000

/-- A schedule cut at its crashes. -/
def splitS : List Pk → List (List Pk)
  | [] => [[]]
  | p :: l => if p.1 = 2 then [] :: splitS l else match splitS l with
    | [] => [[p]]
    | w :: ws => (p :: w) :: ws
theorem splitS_ne : ∀ l, splitS l ≠ []
  | [] => by simp [splitS]
  | p :: l => by
    unfold splitS
    split
    · simp
    · split <;> simp
theorem splitS_last (s : List Pk) : ∃ A z, splitS s = A ++ [z] := by
  rcases List.eq_nil_or_concat (splitS s) with h | ⟨A, z, h⟩
  · exact absurd h (splitS_ne s)
  · exact ⟨A, z, by rw [h, List.concat_eq_append]⟩
theorem splitS_snoc (x : Pk) : ∀ (s : List Pk) (A : List (List Pk)) (z : List Pk), splitS s = A ++ [z] → splitS (s ++ [x]) = if x.1 = 2 then A ++ [z, []] else A ++ [z ++ [x]]
  | [], A, z, h => by
    have h : [[]] = A ++ [z] := h
    cases A with
    | nil =>
      simp only [List.nil_append, List.cons.injEq, and_true] at h
      subst h
      by_cases hx : x.1 = 2
      · simp [splitS, hx]
      · simp [splitS, hx]
    | cons a A => simp at h
  | y :: s, A, z, h => by
    obtain ⟨B, u, hB⟩ := splitS_last s
    have ih := splitS_snoc x s B u hB
    by_cases hy : y.1 = 2
    · rw [splitS, if_pos hy, hB] at h
      have h : ([] :: B) ++ [u] = A ++ [z] := h
      obtain ⟨rfl, rfl⟩ := Txt.snoc_inj h
      rw [List.cons_append, splitS, if_pos hy, ih]
      by_cases hx : x.1 = 2
      · rw [if_pos hx, if_pos hx]; rfl
      · rw [if_neg hx, if_neg hx]; rfl
    · rw [splitS, if_neg hy, hB] at h
      rw [List.cons_append, splitS, if_neg hy, ih]
      cases B with
      | nil =>
        have h : [] ++ [y :: u] = A ++ [z] := h
        obtain ⟨rfl, rfl⟩ := Txt.snoc_inj h
        by_cases hx : x.1 = 2
        · rw [if_pos hx, if_pos hx]; rfl
        · rw [if_neg hx, if_neg hx]; rfl
      | cons b B =>
        have h : ((y :: b) :: B) ++ [u] = A ++ [z] := h
        obtain ⟨rfl, rfl⟩ := Txt.snoc_inj h
        by_cases hx : x.1 = 2
        · rw [if_pos hx, if_pos hx]; rfl
        · rw [if_neg hx, if_neg hx]; rfl
theorem splitS_cons {s : List Pk} {x : Pk} {w : List Pk} {ws : List (List Pk)} (h : splitS s = (x :: w) :: ws) : ∃ s', s = x :: s' ∧ x.1 ≠ 2 ∧ splitS s' = w :: ws := by
  cases s with
  | nil => simp [splitS] at h
  | cons y s =>
    rw [splitS] at h
    by_cases hy : y.1 = 2
    · rw [if_pos hy] at h; simp at h
    · rw [if_neg hy] at h
      cases hs : splitS s with
      | nil => exact absurd hs (splitS_ne s)
      | cons v vs =>
        rw [hs] at h
        simp only [List.cons.injEq] at h
        obtain ⟨⟨rfl, rfl⟩, rfl⟩ := h
        exact ⟨s, rfl, hy, hs⟩
theorem splitS_end {s : List Pk} {ws : List (List Pk)} (h : splitS s = [] :: ws) : (s = [] ∧ ws = []) ∨ ∃ c s', s = c :: s' ∧ c.1 = 2 ∧ splitS s' = ws := by
  cases s with
  | nil => simp [splitS] at h; exact .inl ⟨rfl, h⟩
  | cons y s =>
    rw [splitS] at h
    by_cases hy : y.1 = 2
    · rw [if_pos hy] at h
      simp only [List.cons.injEq, true_and] at h
      exact .inr ⟨y, s, rfl, hy, h⟩
    · rw [if_neg hy] at h
      cases hs : splitS s with
      | nil => exact absurd hs (splitS_ne s)
      | cons v vs => rw [hs] at h; simp at h
theorem splitS_len : ∀ l, (splitS l).length ≤ l.length + 1
  | [] => by simp [splitS]
  | p :: l => by
    have := splitS_len l
    unfold splitS
    split
    · simp; omega
    · split
      · simp
      · rename_i w ws h; rw [h] at this; simp at this ⊢; omega
theorem splitS_mem {l w : List Pk} (h : w ∈ splitS l) : w.length ≤ l.length := by
  induction l generalizing w with
  | nil => simp [splitS] at h; subst h; simp
  | cons x s ih =>
    unfold splitS at h
    split at h
    · rcases List.mem_cons.1 h with rfl | h
      · simp
      · have := ih h; simp; omega
    · cases hp : splitS s with
      | nil => exact absurd hp (splitS_ne s)
      | cons v vs =>
        rw [hp] at h
        simp only at h
        rcases List.mem_cons.1 h with rfl | h
        · have := ih (w := v) (by rw [hp]; simp); simp; omega
        · have := ih (w := w) (by rw [hp]; simp [h]); simp; omega

abbrev HL := Hd × List Pk
@[reducible] def hdE (e : HL) : Hd := e.1
@[reducible] def roE (e : HL) : List Pk := e.2
def pvs : List HL → List (Value × List Pk)
  | [] => []
  | e :: es => if e.1.1.isNone = true then pvs es else (slV e.1, e.2) :: pvs es
theorem pvs_append : ∀ (a b : List HL), pvs (a ++ b) = pvs a ++ pvs b
  | [], _ => rfl
  | e :: a, b => by
    rw [List.cons_append, pvs, pvs, pvs_append a b]
    split <;> rfl
theorem pvs_some {e : HL} (h : e.1.1.isNone = false) : pvs [e] = [(slV e.1, e.2)] := by rw [pvs, if_neg (by rw [h]; simp)]; rfl
theorem pvs_none {e : HL} (h : e.1.1.isNone = true) : pvs [e] = [] := by rw [pvs, if_pos h]; rfl
/-- What holds of each row. -/
def okE (e : HL) : Prop := e.1.2.1 = e.2.length ∧ (e.1.1 = none → e.1 = (none, 0, 0) ∧ e.2 = []) ∧ e.1.2.1 ≤ e.1.2.2
theorem rows_of_pvs {S : Store} : ∀ {es : List HL}, (∀ e ∈ es, okE e) → (∀ p ∈ pvs es, RowIs S p.1 shP p.2) → RowsRd S shP (es.map hdE) (es.map roE)
  | [], _, _ => trivial
  | e :: es, hok, h => by
    have hes := rows_of_pvs (es := es) (fun u hu => hok u (by simp [hu])) (fun p hp => h p (by
      rw [pvs]; split
      · exact hp
      · simp [hp]))
    refine ⟨?_, hes⟩
    have ho := hok e (by simp)
    cases hn : e.1.1.isNone with
    | true =>
      have := ho.2.1 (by simpa using hn)
      exact ⟨ho.1, by show RowRd S e.1.1 shP e.2; rw [this.2]; exact ⟨.inl rfl, fun x hx => (by cases hx)⟩⟩
    | false =>
      have := h (slV e.1, e.2) (by rw [pvs, if_neg (by rw [hn]; simp)]; simp)
      exact ⟨ho.1, this.slice.2⟩
theorem okp (x : Pk) : ∀ y ∈ [x], shP.ok y := fun _ _ => ⟨trivial, trivial, trivial⟩
theorem fin_rs (es : List HL) (e : HL) (h : Hd) (xs : List Pk) (hs : h.1.isNone = false) :
    [Res.row .slice 22 (((es ++ [e]).map hdE).set es.length h), Res.pool shP 26 (pvs es ++ [(slV h, xs)])] = [Res.row .slice 22 ((es ++ [(h, xs)]).map hdE), Res.pool shP 26 (pvs (es ++ [(h, xs)]))] := by
  rw [pvs_append, pvs_some (e := (h, xs)) hs]
  simp
theorem fin_ok (es : List HL) (e : HL) (hes : ∀ u ∈ es ++ [e], okE u) (h : Hd) (xs : List Pk) (hf : PForm h.1 h.2.1 h.2.2) (hn : h.2.1 = xs.length) (h0 : 0 < h.2.1) : ∀ u ∈ es ++ [(h, xs)], okE u := by
  intro u hu
  rcases List.mem_append.1 hu with hu | hu
  · exact hes u (by simp [hu])
  · rw [List.mem_singleton.1 hu]
    refine ⟨hn, fun hn => ?_, ?_⟩
    · rcases hf with ⟨_, h1, _⟩ | ⟨g, h1, _⟩
      · omega
      · have hn : h.1 = none := hn
        rw [hn] at h1; cases h1
    · rcases hf with ⟨_, h1, _⟩ | ⟨g, _, h1⟩
      · show h.2.1 ≤ h.2.2
        omega
      · exact h1
set_option maxHeartbeats 2000000 in
theorem split_sched_spec (S : Store) (p : Hd) (l : List Pk) (hl : l.length = p.2.1) (hr : RowRd S p.1 shP l) (hn : l.length ≤ 1000000) :
    Pure Tryd.prog 14 S [slV p] (A := Hd) (fun q => .c (.v (slV q))) (fun S' q => ∃ hs : List Hd, q.2.1 = hs.length ∧ RowRd S' q.1 .slice hs ∧ RowsRd S' shP hs (splitS l)) := by
  obtain ⟨p, n, c⟩ := p
  simp only at hl hr
  subst hl
  refine pure_vc agrees Tryd.func14 rfl rfl (fun S S' q hle ⟨hs, h1, h2, h3⟩ => ⟨hs, h1, h2.le hle, h3.le hle⟩) ?_
  refine ⟨[], [(100000, shP, 26)], Nat × List HL, [5] ++ List.range' 6 1 ++ List.range' 10 25, fun a => [(9, rI a.1), (3, .c (.ref 0))], fun a => [.row .slice 22 (a.2.map hdE), .pool shP 26 (pvs a.2)], fun _ => S,
    fun a => a.1 ≤ l.length ∧ a.2.map roE = splitS (l.take a.1) ∧ ∀ e ∈ a.2, okE e, fun a => l.length - a.1, ?_⟩
  refine And.intro (Exists.intro (0, [((none, 0, 0), [])]) (And.intro (And.intro (And.intro ?_ rfl) (And.intro rfl (Store.le_refl _))) ⟨Nat.zero_le _, rfl, ?_⟩)) ?_
  · repeat' first | exact trivial | exact rfl | refine And.intro ?_ ?_
  · intro e he
    rw [List.mem_singleton.1 he]
    exact ⟨rfl, fun _ => ⟨rfl, rfl⟩, Nat.le_refl _⟩
  rintro ⟨i, es⟩ ⟨hi, hspl, hes⟩
  simp only at hi hspl hes
  have i0 : (0 : Int) ≤ ((i : Nat) : Int) := Int.natCast_nonneg _
  refine And.intro (fun h => ?_) (fun h => ?_)
  · have hil : i < l.length := by
      have : ((i : Nat) : Int) < ((l.length : Nat) : Int) := of_decide_eq_true h
      omega
    obtain ⟨x, hx⟩ : ∃ x, l[i]? = some x := ⟨_, List.getElem?_eq_getElem hil⟩
    obtain ⟨b, o, hp, hok, hrd⟩ := row_at hr hx
    have htk : l.take (i + 1) = l.take i ++ [x] := by rw [List.take_add_one, hx]; rfl
    have hlen : es.length ≤ i + 1 := by
      have h1 := congrArg List.length hspl
      have h2 := splitS_len (l.take i)
      rw [List.length_map] at h1
      rw [List.length_take] at h2
      omega
    obtain ⟨es, e, rfl⟩ : ∃ es' e, es = es' ++ [e] := by
      rcases List.eq_nil_or_concat es with rfl | ⟨es', e, rfl⟩
      · exact absurd hspl.symm (splitS_ne _)
      · exact ⟨es', e, by rw [List.concat_eq_append]⟩
    have hsn := splitS_snoc x (l.take i) (es.map roE) e.2 (by rw [← hspl]; simp)
    rw [← htk] at hsn
    have hmu : l.length - (i + 1) < l.length - i := by omega
    have hoe := hes e (by simp)
    have hel : e.2.length ≤ i := by
      have := splitS_mem (l := l.take i) (w := e.2) (by rw [← hspl]; simp)
      rw [List.length_take] at this; omega
    have hoe1 := hoe.1
    refine ⟨i0, by show ((i : Nat) : Int) < (l.length : Int); omega, b, o, hp, x, hok, fun S' hle _ => Store.rd_le hle hrd, ?_⟩
    by_cases hx2 : x.1 = 2
    · refine onE (beq_iff_eq.2 hx2) ?_
      rw [if_pos hx2] at hsn
      refine ⟨[(none, 0, 0)], ⟨rfl, rfl⟩, fun _ _ => trivial, ?_, ((i + 1 : Nat) : Int), wrap_i64 (by simp only; omega) (by simp only; omega), (i + 1, es ++ [e] ++ [((none, 0, 0), [])]), ⟨⟨?_, rfl⟩, ?_, Store.le_refl _⟩, ⟨hil, ?_, ?_⟩, hmu⟩
      · show (((es ++ [e]).map hdE).length + 1) * 24 ≤ 140737488355328
        rw [List.length_map]; omega
      · repeat' first | exact trivial | exact rfl | refine And.intro ?_ ?_
      · show [Res.row .slice 22 ((es ++ [e]).map hdE ++ [(none, 0, 0)]), Res.pool shP 26 (pvs (es ++ [e]))] = [Res.row .slice 22 ((es ++ [e] ++ [((none, 0, 0), [])]).map hdE), Res.pool shP 26 (pvs (es ++ [e] ++ [((none, 0, 0), [])]))]
        rw [pvs_append (es ++ [e]), pvs_none rfl]
        simp
      · rw [hsn]; simp
      · intro u hu
        rcases List.mem_append.1 hu with hu | hu
        · exact hes u hu
        · rw [List.mem_singleton.1 hu]; exact ⟨rfl, fun _ => ⟨rfl, rfl⟩, Nat.le_refl _⟩
    · refine offE (beq_eq_false_iff_ne.2 hx2) ?_
      rw [if_neg hx2] at hsn
      have hlW : ((es ++ [e]).map hdE).length = es.length + 1 := by simp
      have hlW2 : (es ++ [e]).length = es.length + 1 := by simp
      have hsub : IntKind.i64.wrap ((((es ++ [e]).map hdE).length : Int) - 1) = (es.length : Int) := by rw [hlW, wrap_i64 (by omega) (by omega)]; omega
      have hget : ((es ++ [e]).map hdE)[es.length]? = some e.1 := by simp
      refine ⟨or14_7, [0, 1], oF14_7, by kernel_rfl, ?_⟩
      refine ⟨(es.length : Int), hsub, by omega, by rw [hlW]; omega, e.1, hget, ?_, ⟨?_, ?_, trivial⟩, trivial⟩
      · skip
        cases hn : e.1.1.isNone with
        | true =>
          obtain ⟨e1, e2⟩ := hoe.2.1 (by simpa using hn)
          obtain ⟨eh, el⟩ := e
          simp only at e1 e2
          subst e1 e2
          have hpn : pvs (es ++ [((none, 0, 0), [])]) = pvs es ++ [] := by rw [pvs_append, pvs_none rfl]
          refine ⟨(es.length : Int), hsub, .inr (.inl ⟨1, ⟨rfl, rfl, rfl⟩, pvs es, [], none, 0, 0, [], [x], rfl, Nat.le_refl _, .inr ⟨⟨rfl, rfl, rfl⟩, hpn⟩, ⟨rfl, rfl⟩, okp x, by show (0 + 1) * 24 ≤ 140737488355328; decide, fun p' c' hf => ⟨by omega, by rw [hlW]; omega, (none, 0, 0), (p', 0 + 1, c'), hget, trivial, rfl, Nat.le_refl 1, ((i + 1 : Nat) : Int), wrap_i64 (by simp only; omega) (by simp only; omega), (i + 1, es ++ [((p', 0 + 1, c'), [x])]), ⟨⟨?_, rfl⟩, ?_, Store.le_refl _⟩, ⟨hil, ?_, ?_⟩, hmu⟩⟩)⟩
          · repeat' first | exact trivial | exact rfl | refine And.intro ?_ ?_
          · exact fin_rs es ((none, 0, 0), []) (p', 0 + 1, c') ([x]) (by rcases hf with ⟨_, h, _⟩ | ⟨g, rfl, _⟩ <;> first | rfl | (exfalso; revert h; simp))
          · rw [hsn]; simp
          · exact fin_ok es ((none, 0, 0), []) hes (p', 0 + 1, c') ([x]) hf rfl (Nat.succ_pos _)
        | false =>
          have hps : pvs (es ++ [e]) = pvs es ++ (Value.slice e.1.1 e.2.length e.1.2.2, e.2) :: [] := by rw [pvs_append, pvs_some hn, ← hoe.1]
          refine ⟨(es.length : Int), hsub, .inr (.inl ⟨1, ⟨rfl, rfl, rfl⟩, pvs es, [], e.1.1, e.1.2.1, e.1.2.2, e.2, [x], rfl, Nat.le_of_eq hoe.1, .inl hps, ⟨rfl, rfl⟩, okp x, by show (e.1.2.1 + 1) * 24 ≤ 140737488355328; omega, fun p' c' hf => ⟨by omega, by rw [hlW]; omega, e.1, (p', e.1.2.1 + 1, c'), hget, trivial, rfl, Nat.le_refl 1, ((i + 1 : Nat) : Int), wrap_i64 (by simp only; omega) (by simp only; omega), (i + 1, es ++ [((p', e.1.2.1 + 1, c'), e.2.take e.1.2.1 ++ [x])]), ⟨⟨?_, rfl⟩, ?_, Store.le_refl _⟩, ⟨hil, ?_, ?_⟩, hmu⟩⟩)⟩
          · repeat' first | exact trivial | exact rfl | refine And.intro ?_ ?_
          · exact fin_rs es e (p', e.1.2.1 + 1, c') (e.2.take e.1.2.1 ++ [x]) (by rcases hf with ⟨_, h, _⟩ | ⟨g, rfl, _⟩ <;> first | rfl | (exfalso; revert h; simp))
          · rw [hsn]; simp [hoe.1]
          · exact fin_ok es e hes (p', e.1.2.1 + 1, c') (e.2.take e.1.2.1 ++ [x]) hf (by simp [hoe.1]) (Nat.succ_pos _)
      · skip
        cases hn : e.1.1.isNone with
        | true =>
          obtain ⟨e1, e2⟩ := hoe.2.1 (by simpa using hn)
          obtain ⟨eh, el⟩ := e
          simp only at e1 e2
          subst e1 e2
          have hpn : pvs (es ++ [((none, 0, 0), [])]) = pvs es ++ [] := by rw [pvs_append, pvs_none rfl]
          refine ⟨(es.length : Int), hsub, .inr (.inl ⟨1, ⟨rfl, rfl, rfl⟩, pvs es, [], none, 0, 0, [], [x], rfl, Nat.le_refl _, .inr ⟨⟨rfl, rfl, rfl⟩, hpn⟩, ⟨rfl, rfl⟩, okp x, by show (0 + 1) * 24 ≤ 140737488355328; decide, fun p' c' hf => ⟨by omega, by rw [hlW]; omega, (none, 0, 0), (p', 0 + 1, c'), hget, trivial, rfl, Nat.le_refl 1, ((i + 1 : Nat) : Int), wrap_i64 (by simp only; omega) (by simp only; omega), (i + 1, es ++ [((p', 0 + 1, c'), [x])]), ⟨⟨?_, rfl⟩, ?_, Store.le_refl _⟩, ⟨hil, ?_, ?_⟩, hmu⟩⟩)⟩
          · repeat' first | exact trivial | exact rfl | refine And.intro ?_ ?_
          · exact fin_rs es ((none, 0, 0), []) (p', 0 + 1, c') ([x]) (by rcases hf with ⟨_, h, _⟩ | ⟨g, rfl, _⟩ <;> first | rfl | (exfalso; revert h; simp))
          · rw [hsn]; simp
          · exact fin_ok es ((none, 0, 0), []) hes (p', 0 + 1, c') ([x]) hf rfl (Nat.succ_pos _)
        | false =>
          have hps : pvs (es ++ [e]) = pvs es ++ (Value.slice e.1.1 e.2.length e.1.2.2, e.2) :: [] := by rw [pvs_append, pvs_some hn, ← hoe.1]
          refine ⟨(es.length : Int), hsub, .inr (.inl ⟨1, ⟨rfl, rfl, rfl⟩, pvs es, [], e.1.1, e.1.2.1, e.1.2.2, e.2, [x], rfl, Nat.le_of_eq hoe.1, .inl hps, ⟨rfl, rfl⟩, okp x, by show (e.1.2.1 + 1) * 24 ≤ 140737488355328; omega, fun p' c' hf => ⟨by omega, by rw [hlW]; omega, e.1, (p', e.1.2.1 + 1, c'), hget, trivial, rfl, Nat.le_refl 1, ((i + 1 : Nat) : Int), wrap_i64 (by simp only; omega) (by simp only; omega), (i + 1, es ++ [((p', e.1.2.1 + 1, c'), e.2.take e.1.2.1 ++ [x])]), ⟨⟨?_, rfl⟩, ?_, Store.le_refl _⟩, ⟨hil, ?_, ?_⟩, hmu⟩⟩)⟩
          · repeat' first | exact trivial | exact rfl | refine And.intro ?_ ?_
          · exact fin_rs es e (p', e.1.2.1 + 1, c') (e.2.take e.1.2.1 ++ [x]) (by rcases hf with ⟨_, h, _⟩ | ⟨g, rfl, _⟩ <;> first | rfl | (exfalso; revert h; simp))
          · rw [hsn]; simp [hoe.1]
          · exact fin_ok es e hes (p', e.1.2.1 + 1, c') (e.2.take e.1.2.1 ++ [x]) hf (by simp [hoe.1]) (Nat.succ_pos _)
      · skip
        cases hn : e.1.1.isNone with
        | true =>
          obtain ⟨e1, e2⟩ := hoe.2.1 (by simpa using hn)
          obtain ⟨eh, el⟩ := e
          simp only at e1 e2
          subst e1 e2
          have hpn : pvs (es ++ [((none, 0, 0), [])]) = pvs es ++ [] := by rw [pvs_append, pvs_none rfl]
          refine .inr (.inl ⟨1, ⟨rfl, rfl, rfl⟩, pvs es, [], none, 0, 0, [], [x], rfl, Nat.le_refl _, .inr ⟨⟨rfl, rfl, rfl⟩, hpn⟩, ⟨rfl, rfl⟩, okp x, by show (0 + 1) * 24 ≤ 140737488355328; decide, fun p' c' hf => ⟨(es.length : Int), hsub, by omega, by rw [hlW]; omega, (none, 0, 0), (p', 0 + 1, c'), hget, trivial, rfl, Nat.le_refl 1, ((i + 1 : Nat) : Int), wrap_i64 (by simp only; omega) (by simp only; omega), (i + 1, es ++ [((p', 0 + 1, c'), [x])]), ⟨⟨?_, rfl⟩, ?_, Store.le_refl _⟩, ⟨hil, ?_, ?_⟩, hmu⟩⟩)
          · repeat' first | exact trivial | exact rfl | refine And.intro ?_ ?_
          · exact fin_rs es ((none, 0, 0), []) (p', 0 + 1, c') ([x]) (by rcases hf with ⟨_, h, _⟩ | ⟨g, rfl, _⟩ <;> first | rfl | (exfalso; revert h; simp))
          · rw [hsn]; simp
          · exact fin_ok es ((none, 0, 0), []) hes (p', 0 + 1, c') ([x]) hf rfl (Nat.succ_pos _)
        | false =>
          have hps : pvs (es ++ [e]) = pvs es ++ (Value.slice e.1.1 e.2.length e.1.2.2, e.2) :: [] := by rw [pvs_append, pvs_some hn, ← hoe.1]
          refine .inr (.inl ⟨1, ⟨rfl, rfl, rfl⟩, pvs es, [], e.1.1, e.1.2.1, e.1.2.2, e.2, [x], rfl, Nat.le_of_eq hoe.1, .inl hps, ⟨rfl, rfl⟩, okp x, by show (e.1.2.1 + 1) * 24 ≤ 140737488355328; omega, fun p' c' hf => ⟨(es.length : Int), hsub, by omega, by rw [hlW]; omega, e.1, (p', e.1.2.1 + 1, c'), hget, trivial, rfl, Nat.le_refl 1, ((i + 1 : Nat) : Int), wrap_i64 (by simp only; omega) (by simp only; omega), (i + 1, es ++ [((p', e.1.2.1 + 1, c'), e.2.take e.1.2.1 ++ [x])]), ⟨⟨?_, rfl⟩, ?_, Store.le_refl _⟩, ⟨hil, ?_, ?_⟩, hmu⟩⟩)
          · repeat' first | exact trivial | exact rfl | refine And.intro ?_ ?_
          · exact fin_rs es e (p', e.1.2.1 + 1, c') (e.2.take e.1.2.1 ++ [x]) (by rcases hf with ⟨_, h, _⟩ | ⟨g, rfl, _⟩ <;> first | rfl | (exfalso; revert h; simp))
          · rw [hsn]; simp [hoe.1]
          · exact fin_ok es e hes (p', e.1.2.1 + 1, c') (e.2.take e.1.2.1 ++ [x]) hf (by simp [hoe.1]) (Nat.succ_pos _)
  · have hil : i = l.length := by
      have : ¬ ((i : Nat) : Int) < ((l.length : Nat) : Int) := of_decide_eq_false h
      omega
    subst hil
    intro S1 hS1 hpool p2 c2 S2 hS2 hrd hpf
    rw [List.take_length] at hspl
    refine ⟨rfl, (p2, (es.map hdE).length, c2), rfl, es.map hdE, rfl, hrd, ?_⟩
    rw [← hspl]
    exact (rows_of_pvs hes hpool).le hS2
end Go.Proofs.YtlecojgodkidkaaDoor
