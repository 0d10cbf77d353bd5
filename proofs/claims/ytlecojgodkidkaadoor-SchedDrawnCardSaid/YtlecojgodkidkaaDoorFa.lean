/- law07: may, Fair, Count, alike, Same. -/
import Derived.Test.YtlecojgodkidkaaDoorTt
import Derived.Test.YtlecojgodkidkaaDoorVcN
import Derived.Test.YtlecojgodkidkaaDoorOr
namespace Go.Proofs.YtlecojgodkidkaaDoor
open Go Go.Vc
set_option maxRecDepth 100000

@[reducible] def shI : Shape := .int .i64
@[reducible] def shP : Shape := .st (.pair (.int .i64) (.pair (.int .i64) (.int .i64)))
abbrev Pk := Int × Int × Int
@[reducible] def vP (x : Pk) : Value := .agg #[.int .i64 x.1, .int .i64 x.2.1, .int .i64 x.2.2]
@[reducible] def rB (b : Bool) : SV := .c (.v (.bool b))
@[reducible] def rI (n : Int) : SV := .c (.v (.int .i64 n))
abbrev Hd := Option Addr × Nat × Nat
@[reducible] def slV (p : Hd) : Value := .slice p.1 p.2.1 p.2.2
theorem onE {b : Bool} {p q : Prop} (hb : b = true) (h : p) : (b = true → p) ∧ (b = false → q) := ⟨fun _ => h, fun e => (by rw [hb] at e; cases e)⟩
theorem offE {b : Bool} {p q : Prop} (hb : b = false) (h : q) : (b = true → p) ∧ (b = false → q) := ⟨fun e => (by rw [hb] at e; cases e), fun _ => h⟩
def inI64 (x : Int) : Prop := -9223372036854775808 ≤ x ∧ x ≤ 9223372036854775807

def mayR (threads n : Int) : Bool := decide (threads ≥ 1) && decide (threads ≤ 8) && decide (n ≥ 0) && decide (n ≤ 4096)
theorem may_spec (S : Store) (threads n : Int) : Pure Tryd.prog 26 S [.int .i64 threads, .int .i64 n] rB (fun _ b => b = mayR threads n) := by
  refine pure_vc agrees Tryd.func26 rfl rfl (fun S S' q hle h => h) ?_
  unfold mayR
  by_cases h1 : threads ≥ 1
  · refine onE (decide_eq_true h1) ?_
    by_cases h2 : threads ≤ 8
    · refine onE (decide_eq_true h2) ?_
      by_cases h3 : n ≥ 0
      · exact onE (decide_eq_true h3) ⟨rfl, _, rfl, by simp [h1, h2, h3]⟩
      · exact offE (decide_eq_false h3) ⟨rfl, _, rfl, by simp [h3]⟩
    · exact offE (decide_eq_false h2) (offE rfl ⟨rfl, _, rfl, by simp [h2]⟩)
  · exact offE (decide_eq_false h1) (offE rfl (offE rfl ⟨rfl, _, rfl, by simp [h1]⟩))

/-- The round-robin schedule. -/
def fairL (threads : Int) (n : Nat) : List Pk := (List.range n).map fun (i : Nat) => ((0 : Int), 1 + (i : Int) % threads, (0 : Int))
theorem fairL_succ (threads : Int) (i : Nat) : fairL threads (i + 1) = fairL threads i ++ [(0, 1 + (i : Int) % threads, 0)] := by
  simp [fairL, List.range_succ]
theorem fairL_length (threads : Int) (i : Nat) : (fairL threads i).length = i := by simp [fairL]
set_option maxHeartbeats 1000000 in
theorem fair_spec (S : Store) (threads n : Int) : Pure Tryd.prog 11 S [.int .i64 threads, .int .i64 n] (A := Hd) (fun q => .c (.v (slV q)))
    (fun S' q => ∃ l : List Pk, l = (if mayR threads n = true then fairL threads n.toNat else []) ∧ q.2.1 = l.length ∧ RowRd S' q.1 shP l) := by
  refine pure_vc agrees Tryd.func11 rfl rfl (fun S S' q hle h => h.elim fun l h => ⟨l, h.1, h.2.1, h.2.2.le hle⟩) ?_
  refine ⟨⟨_, rfl, rfl, rfl⟩, .inl ⟨_, _, _, may_spec S threads n, fun S1 b hS1 hb => ?_⟩⟩
  obtain rfl : b = mayR threads n := hb
  by_cases hm : mayR threads n = true
  · refine offE (by rw [hm]; rfl) ?_
    simp only [if_pos hm]
    simp only [mayR, Bool.and_eq_true, decide_eq_true_eq] at hm
    obtain ⟨⟨⟨h1, h2⟩, h3⟩, h4⟩ := hm
    obtain ⟨N, rfl⟩ := Int.eq_ofNat_of_zero_le h3
    refine ⟨[], [(5, shP, 26)], Nat, [6] ++ List.range' 13 40, fun i => [(12, rI i)], fun i => [.row shP 26 (fairL threads i)], fun _ => S1, fun i => i ≤ N, fun i => N - i, ?_⟩
    refine And.intro (Exists.intro 0 (And.intro (And.intro (And.intro ?_ rfl) (And.intro rfl (Store.le_refl _))) (Nat.zero_le _))) ?_
    · repeat' first | exact trivial | exact rfl | refine And.intro ?_ ?_
    rintro i hi
    have i0 : (0 : Int) ≤ ((i : Nat) : Int) := Int.natCast_nonneg _
    refine And.intro (fun h => ?_) (fun h => ?_)
    · have hil : i < N := by
        have : ((i : Nat) : Int) < ((N : Nat) : Int) := of_decide_eq_true h
        omega
      have hmod : ((i : Nat) : Int).tmod threads = (i : Int) % threads := Int.tmod_eq_emod_of_nonneg i0
      have m0 : 0 ≤ (i : Int) % threads := Int.emod_nonneg _ (by omega)
      have m1 : (i : Int) % threads < threads := Int.emod_lt_of_pos _ (by omega)
      refine ⟨by omega, (i : Int) % threads, hmod, 1 + (i : Int) % threads, wrap_i64 (by omega) (by omega), [(0, 1 + (i : Int) % threads, 0)], ⟨rfl, rfl⟩, fun _ _ => ⟨trivial, trivial, trivial⟩, ?_, ?_⟩
      · rw [fairL_length]
        show (i + 1) * 24 ≤ 140737488355328
        omega
      refine ⟨((i + 1 : Nat) : Int), wrap_i64 (by omega) (by omega), i + 1, ⟨⟨?_, rfl⟩, ?_, Store.le_refl _⟩, hil, by show N - (i + 1) < N - i; omega⟩
      · repeat' first | exact trivial | exact rfl | refine And.intro ?_ ?_
      · show [Res.row shP 26 (fairL threads i ++ [(0, 1 + (i : Int) % threads, 0)])] = [Res.row shP 26 (fairL threads (i + 1))]
        rw [fairL_succ]
    · have hil : i = N := by
        have : ¬ ((i : Nat) : Int) < ((N : Nat) : Int) := of_decide_eq_false h
        omega
      subst hil
      exact fun p c S' hle hr hpf => ⟨rfl, (p, (fairL threads i).length, c), rfl, _, rfl, rfl, hr⟩
  · refine onE (by rw [Bool.not_eq_true] at hm; rw [hm]; rfl) ?_
    refine ⟨rfl, (none, 0, 0), rfl, [], by rw [if_neg hm], rfl, .inl rfl, fun x hx => (by cases hx)⟩

def countR (t : Int) (l : List Pk) : Nat := (l.filter fun p => decide (p.1 = 0) && decide (p.2.1 = t)).length
theorem countR_step {t : Int} {l : List Pk} {i : Nat} {x : Pk} (hx : l[i]? = some x) : countR t (l.take (i + 1)) = countR t (l.take i) + (if x.1 = 0 ∧ x.2.1 = t then 1 else 0) := by
  unfold countR
  rw [List.take_add_one, hx, List.filter_append, List.length_append]
  congr 1
  by_cases h1 : x.1 = 0 <;> by_cases h2 : x.2.1 = t <;> simp [h1, h2]
theorem countR_le (t : Int) (l : List Pk) : countR t l ≤ l.length := List.length_filter_le _ _
set_option maxHeartbeats 1000000 in
theorem count_spec (S : Store) (t : Int) (p : Hd) (l : List Pk) (hl : l.length = p.2.1) (hr : RowRd S p.1 shP l) (hn : l.length ≤ 1000000) :
    Pure Tryd.prog 13 S [.int .i64 t, slV p] rI (fun _ k => k = countR t l) := by
  obtain ⟨p, n, c⟩ := p
  simp only at hl hr
  subst hl
  refine pure_vc agrees Tryd.func13 rfl rfl (fun S S' q hle h => h) ?_
  refine ⟨[], [], Nat, [6, 7] ++ List.range' 11 60, fun i => [(5, rI (countR t (l.take i))), (10, rI i)], fun _ => [], fun _ => S, fun i => i ≤ l.length, fun i => l.length - i, ?_⟩
  refine And.intro (Exists.intro 0 (And.intro (And.intro (And.intro ?_ rfl) (And.intro rfl (Store.le_refl _))) (Nat.zero_le _))) ?_
  · repeat' first | exact trivial | exact rfl | refine And.intro ?_ ?_
  rintro i hi
  have i0 : (0 : Int) ≤ ((i : Nat) : Int) := Int.natCast_nonneg _
  refine And.intro (fun h => ?_) (fun h => ?_)
  · have hil : i < l.length := by
      have : ((i : Nat) : Int) < ((l.length : Nat) : Int) := of_decide_eq_true h
      omega
    have i1 : ((i : Nat) : Int) < ((l.length : Nat) : Int) := by omega
    obtain ⟨x, hx⟩ : ∃ x, l[i]? = some x := ⟨_, List.getElem?_eq_getElem hil⟩
    obtain ⟨b, o, hp, hok, hrd⟩ := row_at hr hx
    have hstep := countR_step (t := t) hx
    have hle := countR_le t (l.take i)
    rw [List.length_take] at hle
    refine ⟨i0, i1, b, o, hp, x, hok, hrd, ?_⟩
    by_cases h1 : x.1 = 0
    · by_cases h2 : x.2.1 = t
      · rw [if_pos ⟨h1, h2⟩] at hstep
        refine onE (beq_iff_eq.2 h1) (onE (beq_iff_eq.2 h2) ?_)
        refine ⟨((countR t (l.take (i + 1)) : Nat) : Int), by rw [hstep]; exact wrap_i64 (by omega) (by omega), ((i + 1 : Nat) : Int), wrap_i64 (by omega) (by omega), i + 1, ⟨⟨?_, rfl⟩, rfl, Store.le_refl _⟩, hil, by show l.length - (i + 1) < l.length - i; omega⟩
        repeat' first | exact trivial | exact rfl | refine And.intro ?_ ?_
      · rw [if_neg (fun h => h2 h.2)] at hstep
        refine onE (beq_iff_eq.2 h1) (offE (beq_eq_false_iff_ne.2 h2) ?_)
        refine ⟨((i + 1 : Nat) : Int), wrap_i64 (by omega) (by omega), i + 1, ⟨⟨?_, rfl⟩, rfl, Store.le_refl _⟩, hil, by show l.length - (i + 1) < l.length - i; omega⟩
        rw [hstep]
        repeat' first | exact trivial | exact rfl | refine And.intro ?_ ?_
    · rw [if_neg (fun h => h1 h.1)] at hstep
      refine offE (beq_eq_false_iff_ne.2 h1) (offE rfl ?_)
      refine ⟨((i + 1 : Nat) : Int), wrap_i64 (by omega) (by omega), i + 1, ⟨⟨?_, rfl⟩, rfl, Store.le_refl _⟩, hil, by show l.length - (i + 1) < l.length - i; omega⟩
      rw [hstep]
      repeat' first | exact trivial | exact rfl | refine And.intro ?_ ?_
  · have hil : i = l.length := by
      have : ¬ ((i : Nat) : Int) < ((l.length : Nat) : Int) := of_decide_eq_false h
      omega
    refine ⟨rfl, _, rfl, ?_⟩
    rw [hil, List.take_length]

theorem get_of_take {α : Type} {l m : List α} {i : Nat} {x y : α} (h : l.take i = m.take i) (hx : l[i]? = some x) (hy : m[i]? = some y) (hxy : x = y) : l.take (i + 1) = m.take (i + 1) := by
  rw [List.take_add_one, List.take_add_one, h, hx, hy, hxy]
theorem ne_of_at {α : Type} {l m : List α} {i : Nat} {x y : α} (hx : l[i]? = some x) (hy : m[i]? = some y) (hxy : x ≠ y) : l ≠ m := fun e => hxy (by rw [e, hy] at hx; exact (Option.some.inj hx).symm)
theorem pk_eq (x y : Pk) : (x.1 == y.1 && (x.2.1 == y.2.1 && (x.2.2 == y.2.2 && true))) = decide (x = y) := by
  obtain ⟨a, b, c⟩ := x
  obtain ⟨d, e, f⟩ := y
  simp only [Bool.and_eq_decide]
  by_cases h1 : a = d <;> by_cases h2 : b = e <;> by_cases h3 : c = f <;> simp [h1, h2, h3]
set_option maxHeartbeats 1000000 in
theorem alike_spec (S : Store) (p q : Hd) (l m : List Pk) (hl : l.length = p.2.1) (hm : m.length = q.2.1) (hr : RowRd S p.1 shP l) (hr2 : RowRd S q.1 shP m) (hn : l.length ≤ 1000000) (hn2 : m.length ≤ 1000000) :
    Pure Tryd.prog 19 S [slV p, slV q] rB (fun _ k => k = decide (l = m)) := by
  obtain ⟨p, n, c⟩ := p
  obtain ⟨q, n2, c2⟩ := q
  simp only at hl hm hr hr2
  subst hl hm
  refine pure_vc agrees Tryd.func19 rfl rfl (fun S S' q hle h => h) ?_
  refine And.intro (fun h => ?_) (fun h => ?_)
  · have h : ((l.length : Int) != (m.length : Int)) = true := h
    have h : ¬ (l.length : Int) = (m.length : Int) := by simpa using h
    exact ⟨rfl, _, rfl, (decide_eq_false (fun e => h (by rw [e]))).symm⟩
  have h : ((l.length : Int) != (m.length : Int)) = false := h
  have hlm : l.length = m.length := by have : (l.length : Int) = (m.length : Int) := by simpa using h
                                       omega
  refine ⟨[], [], Nat, [5] ++ List.range' 14 60, fun i => [(13, rI i)], fun i => [], fun _ => S, fun i => i ≤ l.length ∧ l.take i = m.take i, fun i => l.length - i, ?_⟩
  refine And.intro (Exists.intro 0 (And.intro (And.intro (And.intro ?_ rfl) (And.intro rfl (Store.le_refl _))) ⟨Nat.zero_le _, by simp⟩)) ?_
  · repeat' first | exact trivial | exact rfl | refine And.intro ?_ ?_
  rintro i ⟨hi, htk⟩
  have i0 : (0 : Int) ≤ ((i : Nat) : Int) := Int.natCast_nonneg _
  refine And.intro (fun h => ?_) (fun h => ?_)
  · have hil : i < l.length := by
      have : ((i : Nat) : Int) < ((l.length : Nat) : Int) := of_decide_eq_true h
      omega
    have i1 : ((i : Nat) : Int) < ((l.length : Nat) : Int) := by omega
    have i2 : ((i : Nat) : Int) < ((m.length : Nat) : Int) := by omega
    obtain ⟨x, hx⟩ : ∃ x, l[i]? = some x := ⟨_, List.getElem?_eq_getElem hil⟩
    obtain ⟨y, hy⟩ : ∃ y, m[i]? = some y := ⟨_, List.getElem?_eq_getElem (by omega)⟩
    obtain ⟨b, o, hp, hok, hrd⟩ := row_at hr hx
    obtain ⟨b2, o2, hp2, hok2, hrd2⟩ := row_at hr2 hy
    refine ⟨or19_6, [], oF19_6, by kernel_rfl, ?_⟩
    refine ⟨i0, i1, b, o, hp, x, hok, hrd, i0, i2, b2, o2, hp2, y, hok2, hrd2, ?_⟩
    by_cases hxy : x = y
    · refine offE (by rw [pk_eq, decide_eq_true hxy]; rfl) ?_
      refine ⟨((i + 1 : Nat) : Int), wrap_i64 (by omega) (by omega), i + 1, ⟨⟨?_, rfl⟩, rfl, Store.le_refl _⟩, ⟨hil, get_of_take htk hx hy hxy⟩, by show l.length - (i + 1) < l.length - i; omega⟩
      repeat' first | exact trivial | exact rfl | refine And.intro ?_ ?_
    · refine onE (by rw [pk_eq, decide_eq_false hxy]; rfl) ⟨rfl, _, rfl, (decide_eq_false (ne_of_at hx hy hxy)).symm⟩
  · have hil : i = l.length := by
      have : ¬ ((i : Nat) : Int) < ((l.length : Nat) : Int) := of_decide_eq_false h
      omega
    refine ⟨rfl, _, rfl, ?_⟩
    rw [hil, List.take_length, hlm, List.take_length] at htk
    exact (decide_eq_true htk).symm
set_option maxHeartbeats 1000000 in
theorem same_spec (S : Store) (p q : Hd) (l m : List Pk) (hl : l.length = p.2.1) (hm : m.length = q.2.1) (hr : RowRd S p.1 shP l) (hr2 : RowRd S q.1 shP m) (hn : l.length ≤ 1000000) (hn2 : m.length ≤ 1000000) :
    Pure Tryd.prog 17 S [slV p, slV q] rB (fun _ k => k = decide (l = m)) := by
  obtain ⟨p, n, c⟩ := p
  obtain ⟨q, n2, c2⟩ := q
  simp only at hl hm hr hr2
  subst hl hm
  refine pure_vc agrees Tryd.func17 rfl rfl (fun S S' q hle h => h) ?_
  refine And.intro (fun h => ?_) (fun h => ?_)
  · have h : ((l.length : Int) != (m.length : Int)) = true := h
    have h : ¬ (l.length : Int) = (m.length : Int) := by simpa using h
    exact ⟨rfl, _, rfl, (decide_eq_false (fun e => h (by rw [e]))).symm⟩
  have h : ((l.length : Int) != (m.length : Int)) = false := h
  have hlm : l.length = m.length := by have : (l.length : Int) = (m.length : Int) := by simpa using h
                                       omega
  refine ⟨[], [], Nat, [5] ++ List.range' 14 60, fun i => [(13, rI i)], fun i => [], fun _ => S, fun i => i ≤ l.length ∧ l.take i = m.take i, fun i => l.length - i, ?_⟩
  refine And.intro (Exists.intro 0 (And.intro (And.intro (And.intro ?_ rfl) (And.intro rfl (Store.le_refl _))) ⟨Nat.zero_le _, by simp⟩)) ?_
  · repeat' first | exact trivial | exact rfl | refine And.intro ?_ ?_
  rintro i ⟨hi, htk⟩
  have i0 : (0 : Int) ≤ ((i : Nat) : Int) := Int.natCast_nonneg _
  refine And.intro (fun h => ?_) (fun h => ?_)
  · have hil : i < l.length := by
      have : ((i : Nat) : Int) < ((l.length : Nat) : Int) := of_decide_eq_true h
      omega
    have i1 : ((i : Nat) : Int) < ((l.length : Nat) : Int) := by omega
    have i2 : ((i : Nat) : Int) < ((m.length : Nat) : Int) := by omega
    obtain ⟨x, hx⟩ : ∃ x, l[i]? = some x := ⟨_, List.getElem?_eq_getElem hil⟩
    obtain ⟨y, hy⟩ : ∃ y, m[i]? = some y := ⟨_, List.getElem?_eq_getElem (by omega)⟩
    obtain ⟨b, o, hp, hok, hrd⟩ := row_at hr hx
    obtain ⟨b2, o2, hp2, hok2, hrd2⟩ := row_at hr2 hy
    refine ⟨or17_6, [], oF17_6, by kernel_rfl, ?_⟩
    refine ⟨i0, i1, b, o, hp, x, hok, hrd, i0, i2, b2, o2, hp2, y, hok2, hrd2, ?_⟩
    by_cases hxy : x = y
    · refine offE (by rw [pk_eq, decide_eq_true hxy]; rfl) ?_
      refine ⟨((i + 1 : Nat) : Int), wrap_i64 (by omega) (by omega), i + 1, ⟨⟨?_, rfl⟩, rfl, Store.le_refl _⟩, ⟨hil, get_of_take htk hx hy hxy⟩, by show l.length - (i + 1) < l.length - i; omega⟩
      repeat' first | exact trivial | exact rfl | refine And.intro ?_ ?_
    · refine onE (by rw [pk_eq, decide_eq_false hxy]; rfl) ⟨rfl, _, rfl, (decide_eq_false (ne_of_at hx hy hxy)).symm⟩
  · have hil : i = l.length := by
      have : ¬ ((i : Nat) : Int) < ((l.length : Nat) : Int) := of_decide_eq_false h
      omega
    refine ⟨rfl, _, rfl, ?_⟩
    rw [hil, List.take_length, hlm, List.take_length] at htk
    exact (decide_eq_true htk).symm
end Go.Proofs.YtlecojgodkidkaaDoor
