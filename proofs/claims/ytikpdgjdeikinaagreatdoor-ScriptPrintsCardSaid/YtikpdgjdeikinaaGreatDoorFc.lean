/- law63: the program's bounds and shapes, find, Name, plain, named. -/
import Derived.Test.YtikpdgjdeikinaaGreatDoorFb
namespace Go.Proofs.YtikpdgjdeikinaaGreatDoor
open Go Go.Vc Go.Sort
set_option maxRecDepth 100000
set_option maxHeartbeats 4000000

theorem isE {u v : List UInt8} (h : u = v) : ((bs u).toList == (bs v).toList) = true := (bsq u v).trans (decide_eq_true h)
theorem isN {u v : List UInt8} (h : u ≠ v) : ((bs u).toList == (bs v).toList) = false := (bsq u v).trans (decide_eq_false h)
theorem ntT {b : Bool} (h : b = true) : (!b) = false := by rw [h]; rfl
theorem ntF {b : Bool} (h : b = false) : (!b) = true := by rw [h]; rfl
theorem eqv {u v : List UInt8} : ((bs u).toList == (bs v).toList) = decide (u = v) := bsq u v

/-! Bounds. -/
def inB (b : Int × Int) (n : Int) : Bool := decide (b.1 ≤ n) && decide (n ≤ b.2)
@[reducible] def ptrV (a : Nat) : Value := .pointer (some ⟨a, 0, none⟩)
theorem clo_spec (S : Store) (a c : Nat) (b : Int × Int) (n : Int) (ha : S.rd a 0 [.int .i64 b.1]) (hc : S.rd c 0 [.int .i64 b.2]) : Pure Tryz.prog 42 S [.int .i64 n, ptrV a, ptrV c] (A := Unit) (fun _ => rB (inB b n)) (fun _ _ => True) := by
  refine pure_vc agrees Tryz.func42 rfl rfl (fun S S' q hle h => h) ?_
  refine ⟨b.1, trivial, ha, ?_⟩
  by_cases h1 : n ≥ b.1
  · refine onE (decide_eq_true h1) ⟨b.2, trivial, hc, rfl, (), ?_, trivial⟩
    unfold inB; rw [decide_eq_true (show b.1 ≤ n from h1)]; rfl
  · refine offE (decide_eq_false h1) ⟨rfl, (), ?_, trivial⟩
    unfold inB; rw [decide_eq_false (show ¬ b.1 ≤ n from h1)]; rfl
@[reducible] def cloV (a c : Nat) : Value := .func (.func 42) #[] #[ptrV a, ptrV c]
theorem between_spec (S : Store) (b : Int × Int) : Pure Tryz.prog 29 S [.int .i64 b.1, .int .i64 b.2] (A := Nat × Nat) (fun x => .c (.v (cloV x.1 x.2))) (fun S' x => S'.rd x.1 0 [.int .i64 b.1] ∧ S'.rd x.2 0 [.int .i64 b.2]) := by
  refine pure_vc agrees Tryz.func29 rfl rfl (fun S S' q hle h => ⟨Store.rd_le hle h.1, Store.rd_le hle h.2⟩) ?_
  intro a S1 hS1 ha c S2 hS2 hc
  exact ⟨rfl, (a, c), rfl, Store.rd_le hS2 ha, hc⟩
theorem thread_spec (S : Store) (n : Int) : Pure Tryz.prog 28 S [.int .i64 n] (A := Unit) (fun _ => rB (inB (1, 8) n)) (fun _ _ => True) := by
  refine pure_vc agrees Tryz.func28 rfl rfl (fun S S' q hle h => h) ?_
  refine ⟨⟨_, rfl, rfl, rfl⟩, .inl ⟨_, _, _, between_spec S (1, 8), fun S1 x hS1 hx => ?_⟩⟩
  exact ⟨_, _, _, rfl, rfl, (by intro v hv; simp at hv; rcases hv with rfl | rfl <;> rfl), ⟨_, rfl, rfl, rfl⟩, .inl ⟨_, _, _, clo_spec S1 x.1 x.2 (1, 8) n hx.1 hx.2, fun S2 _ hS2 _ => ⟨rfl, (), rfl, trivial⟩⟩⟩
theorem choice_spec (S : Store) (n : Int) : Pure Tryz.prog 31 S [.int .i64 n] (A := Unit) (fun _ => rB (inB (-2147483648, 2147483647) n)) (fun _ _ => True) := by
  refine pure_vc agrees Tryz.func31 rfl rfl (fun S S' q hle h => h) ?_
  refine ⟨⟨_, rfl, rfl, rfl⟩, .inl ⟨_, _, _, between_spec S (-2147483648, 2147483647), fun S1 x hS1 hx => ?_⟩⟩
  exact ⟨_, _, _, rfl, rfl, (by intro v hv; simp at hv; rcases hv with rfl | rfl <;> rfl), ⟨_, rfl, rfl, rfl⟩, .inl ⟨_, _, _, clo_spec S1 x.1 x.2 (-2147483648, 2147483647) n hx.1 hx.2, fun S2 _ hS2 _ => ⟨rfl, (), rfl, trivial⟩⟩⟩
theorem count_spec (S : Store) (n : Int) : Pure Tryz.prog 32 S [.int .i64 n] (A := Unit) (fun _ => rB (inB (1, 4096) n)) (fun _ _ => True) := by
  refine pure_vc agrees Tryz.func32 rfl rfl (fun S S' q hle h => h) ?_
  refine ⟨⟨_, rfl, rfl, rfl⟩, .inl ⟨_, _, _, between_spec S (1, 4096), fun S1 x hS1 hx => ?_⟩⟩
  exact ⟨_, _, _, rfl, rfl, (by intro v hv; simp at hv; rcases hv with rfl | rfl <;> rfl), ⟨_, rfl, rfl, rfl⟩, .inl ⟨_, _, _, clo_spec S1 x.1 x.2 (1, 4096) n hx.1 hx.2, fun S2 _ hS2 _ => ⟨rfl, (), rfl, trivial⟩⟩⟩
theorem flag_spec (S : Store) (n : Int) : Pure Tryz.prog 30 S [.int .i64 n] (A := Unit) (fun _ => rB (inB (0, 1) n)) (fun _ _ => True) := by
  refine pure_vc agrees Tryz.func30 rfl rfl (fun S S' q hle h => h) ?_
  by_cases h : n = 0
  · refine onE (beq_iff_eq.2 h) ⟨rfl, (), ?_, trivial⟩
    subst h; rfl
  · refine offE (beq_eq_false_iff_ne.2 h) ⟨rfl, (), ?_, trivial⟩
    have : inB (0, 1) n = (n == 1) := by
      unfold inB
      by_cases h1 : n = 1
      · subst h1; rfl
      · rw [beq_eq_false_iff_ne.2 h1]
        by_cases h2 : 0 ≤ n
        · rw [decide_eq_false (show ¬ n ≤ (0, (1 : Int)).2 by show ¬ n ≤ 1; omega), Bool.and_false]
        · rw [decide_eq_false (show ¬ (0, (1 : Int)).1 ≤ n from h2), Bool.false_and]
    rw [this]; rfl
theorem any_spec (S : Store) (n : Int) : Pure Tryz.prog 34 S [.int .i64 n] (A := Unit) (fun _ => rB true) (fun _ _ => True) := by
  refine pure_vc agrees Tryz.func34 rfl rfl (fun S S' q hle h => h) ?_
  exact ⟨rfl, (), rfl, trivial⟩
/-- A function value that tests a bound. -/
def FnIs (S : Store) (v : Value) (b : Int × Int) : Prop :=
  (∃ g, v = .func (.func g) #[] #[] ∧ Go.Vc.Enters Tryz.prog g ∧ ∀ S' n, Pure Tryz.prog g S' [.int .i64 n] (A := Unit) (fun _ => rB (inB b n)) (fun _ _ => True)) ∨
  ∃ a c, v = cloV a c ∧ S.rd a 0 [.int .i64 b.1] ∧ S.rd c 0 [.int .i64 b.2]
theorem FnIs.le {S S' : Store} (h : S.le S') {v b} (hv : FnIs S v b) : FnIs S' v b := by
  rcases hv with hv | ⟨a, c, h1, h2, h3⟩
  · exact .inl hv
  · exact .inr ⟨a, c, h1, Store.rd_le h h2, Store.rd_le h h3⟩
theorem fn_thread (S : Store) : FnIs S (.func (.func 28) #[] #[]) (1, 8) := .inl ⟨28, rfl, ⟨_, rfl, rfl, rfl⟩, thread_spec⟩
theorem fn_flag (S : Store) : FnIs S (.func (.func 30) #[] #[]) (0, 1) := .inl ⟨30, rfl, ⟨_, rfl, rfl, rfl⟩, flag_spec⟩
theorem fn_choice (S : Store) : FnIs S (.func (.func 31) #[] #[]) (-2147483648, 2147483647) := .inl ⟨31, rfl, ⟨_, rfl, rfl, rfl⟩, choice_spec⟩
theorem fn_count (S : Store) : FnIs S (.func (.func 32) #[] #[]) (1, 4096) := .inl ⟨32, rfl, ⟨_, rfl, rfl, rfl⟩, count_spec⟩
/-- The bounds of an Op as a slice of functions. -/
def FnsIs (S : Store) (q : Hd) (bl : List (Int × Int)) : Prop := q.2.1 = bl.length ∧ ∃ fs : List Value, fs.length = bl.length ∧ RowRd S q.1 .any fs ∧ ∀ (j : Nat) f b, fs[j]? = some f → bl[j]? = some b → FnIs S f b
theorem FnsIs.le {S S' : Store} (h : S.le S') {q bl} (hv : FnsIs S q bl) : FnsIs S' q bl := by
  obtain ⟨h1, fs, h2, h3, h4⟩ := hv
  exact ⟨h1, fs, h2, h3.le h, fun j f b hf hb => (h4 j f b hf hb).le h⟩
theorem fns_nil (S : Store) : FnsIs S (none, 0, 0) [] := ⟨rfl, [], rfl, ⟨.inl rfl, fun x hx => (by cases hx)⟩, fun j f b hf _ => (by simp at hf)⟩
/-- A shape as the program holds it. -/
abbrev Sx := ByteArray × Hd × Int × Int
@[reducible] def vS (x : Sx) : Value := .agg #[.string x.1, slV x.2.1, .int .i64 x.2.2.1, .int .i64 x.2.2.2]
def ShIs (S : Store) (op : Int) (x : Sx) : Prop := x.1 = bs (Sc.nameOf op) ∧ FnsIs S x.2.1 (Sc.bnds op) ∧ x.2.2.1 = (Sc.moreOf op : Nat) ∧ x.2.2.2 = (Sc.kindOf op : Nat)
theorem ShIs.le {S S' : Store} (h : S.le S') {op x} (hv : ShIs S op x) : ShIs S' op x := ⟨hv.1, hv.2.1.le h, hv.2.2⟩
def ShsIs (S : Store) (l : List Sx) : Prop := l.length = 16 ∧ ∀ (i : Nat) x, l[i]? = some x → ShIs S i x
theorem ShsIs.le {S S' : Store} (h : S.le S') {l} (hv : ShsIs S l) : ShsIs S' l := ⟨hv.1, fun i x hx => (hv.2 i x hx).le h⟩
theorem okFn : ∀ l : List Value, (∀ v ∈ l, v.oneCell' = true) → ∀ v ∈ l, Shape.any.ok v := fun _ h => h
/-- Cells of a list of values of a shape. -/
theorem cs_length : ∀ (s : Shape) (x : s.T), (s.cs x).length = s.n
  | .int _, _ | .bool, _ | .str, _ | .slice, _ | .map, _ | .any, _ | .unit, _ => rfl
  | .pair a b, x => by simp [Shape.cs, Shape.n, cs_length a, cs_length b]
  | .st a, x => cs_length a x
theorem cs_at {s : Shape} : ∀ (l : List s.T) (i : Nat) (x : s.T), l[i]? = some x → ((l.flatMap s.cs).drop (i * s.n)).take s.n = s.cs x
  | [], i, x, h => by simp at h
  | y :: l, 0, x, h => by
    simp only [List.getElem?_cons_zero, Option.some.injEq] at h
    subst h
    rw [Nat.zero_mul, List.drop_zero, List.flatMap_cons, List.take_append_of_le_length (by rw [cs_length]; exact Nat.le_refl _), List.take_of_length_le (by rw [cs_length]; exact Nat.le_refl _)]
  | y :: l, i + 1, x, h => by
    rw [List.getElem?_cons_succ] at h
    rw [List.flatMap_cons, List.drop_append, cs_length]
    have e1 : (s.cs y).drop ((i + 1) * s.n) = [] := List.drop_eq_nil_of_le (by rw [cs_length, Nat.add_mul]; omega)
    have e2 : (i + 1) * s.n - s.n = i * s.n := by rw [Nat.add_mul]; omega
    rw [e1, e2, List.nil_append]
    exact cs_at l i x h
/-- The shapes, by the handles of their bounds. -/
def shpL (h : Nat → Hd) : List Sx := [(bs (Sc.nameOf 0), h 0, 0, 0), (bs (Sc.nameOf 1), (none, 0, 0), 0, 1), (bs (Sc.nameOf 2), h 2, 4, 2), (bs (Sc.nameOf 3), h 3, 0, 0), (bs (Sc.nameOf 4), h 4, 0, 0), (bs (Sc.nameOf 5), h 5, 0, 0), (bs (Sc.nameOf 6), h 6, 0, 0), (bs (Sc.nameOf 7), h 7, 0, 0), (bs (Sc.nameOf 8), (none, 0, 0), 0, 0), (bs (Sc.nameOf 9), h 9, 0, 0), (bs (Sc.nameOf 10), (none, 0, 0), 4, 2), (bs (Sc.nameOf 11), (none, 0, 0), 0, 0), (bs (Sc.nameOf 12), (none, 0, 0), 0, 0), (bs (Sc.nameOf 13), (none, 0, 0), 0, 0), (bs (Sc.nameOf 14), (none, 0, 0), 0, 0), (bs (Sc.nameOf 15), (none, 0, 0), 0, 0)]
theorem shp_is {S : Store} {h : Nat → Hd} (h0 : FnsIs S (h 0) [(1, 8), (0, 128), (0, 1), (0, 1)]) (h2 : FnsIs S (h 2) [(1, 8)]) (h3 : FnsIs S (h 3) [(1, 8), (-2147483648, 2147483647), (1, 4096)]) (h4 : FnsIs S (h 4) [(1, 8)])
    (h5 : FnsIs S (h 5) [(-2147483648, 2147483647)]) (h6 : FnsIs S (h 6) [(0, 9223372036854775807), (1, 4096), (0, 64)]) (h7 : FnsIs S (h 7) [(1, 4096)]) (h9 : FnsIs S (h 9) [(1, 8)]) : ShsIs S (shpL h) := by
  refine ⟨rfl, fun i x hx => ?_⟩
  have hn := fns_nil S
  have hi : i < 16 := (List.getElem?_eq_some_iff.1 hx).1
  have : i = 0 ∨ i = 1 ∨ i = 2 ∨ i = 3 ∨ i = 4 ∨ i = 5 ∨ i = 6 ∨ i = 7 ∨ i = 8 ∨ i = 9 ∨ i = 10 ∨ i = 11 ∨ i = 12 ∨ i = 13 ∨ i = 14 ∨ i = 15 := by omega
  rcases this with rfl | rfl | rfl | rfl | rfl | rfl | rfl | rfl | rfl | rfl | rfl | rfl | rfl | rfl | rfl | rfl <;> obtain rfl := Option.some.inj hx
  · exact ⟨rfl, h0, rfl, rfl⟩
  · exact ⟨rfl, hn, rfl, rfl⟩
  · exact ⟨rfl, h2, rfl, rfl⟩
  · exact ⟨rfl, h3, rfl, rfl⟩
  · exact ⟨rfl, h4, rfl, rfl⟩
  · exact ⟨rfl, h5, rfl, rfl⟩
  · exact ⟨rfl, h6, rfl, rfl⟩
  · exact ⟨rfl, h7, rfl, rfl⟩
  · exact ⟨rfl, hn, rfl, rfl⟩
  · exact ⟨rfl, h9, rfl, rfl⟩
  all_goals exact ⟨rfl, hn, rfl, rfl⟩
theorem fns_one {S : Store} {p : Option Addr} {c : Nat} {v : Value} {b : Int × Int} (hr : RowRd S p .any [v]) (h : FnIs S v b) : FnsIs S (p, 1, c) [b] :=
  ⟨rfl, [v], rfl, hr, fun j f d hf hd => by
    match j, hf, hd with
    | 0, hf, hd => obtain rfl := Option.some.inj hf; obtain rfl := Option.some.inj hd; exact h⟩
theorem fns_three {S : Store} {p : Option Addr} {c : Nat} {u v w : Value} {a b d : Int × Int} (hr : RowRd S p .any [u, v, w]) (h1 : FnIs S u a) (h2 : FnIs S v b) (h3 : FnIs S w d) : FnsIs S (p, 3, c) [a, b, d] :=
  ⟨rfl, [u, v, w], rfl, hr, fun j f e hf he => by
    match j, hf, he with
    | 0, hf, hd => obtain rfl := Option.some.inj hf; obtain rfl := Option.some.inj hd; exact h1
    | 1, hf, hd => obtain rfl := Option.some.inj hf; obtain rfl := Option.some.inj hd; exact h2
    | 2, hf, hd => obtain rfl := Option.some.inj hf; obtain rfl := Option.some.inj hd; exact h3⟩
theorem fns_four {S : Store} {p : Option Addr} {c : Nat} {u v w z : Value} {a b d e : Int × Int} (hr : RowRd S p .any [u, v, w, z]) (h1 : FnIs S u a) (h2 : FnIs S v b) (h3 : FnIs S w d) (h4 : FnIs S z e) : FnsIs S (p, 4, c) [a, b, d, e] :=
  ⟨rfl, [u, v, w, z], rfl, hr, fun j f e hf he => by
    match j, hf, he with
    | 0, hf, hd => obtain rfl := Option.some.inj hf; obtain rfl := Option.some.inj hd; exact h1
    | 1, hf, hd => obtain rfl := Option.some.inj hf; obtain rfl := Option.some.inj hd; exact h2
    | 2, hf, hd => obtain rfl := Option.some.inj hf; obtain rfl := Option.some.inj hd; exact h3
    | 3, hf, hd => obtain rfl := Option.some.inj hf; obtain rfl := Option.some.inj hd; exact h4⟩
theorem fn_clo {S : Store} {x : Nat × Nat} {b : Int × Int} (h : S.rd x.1 0 [.int .i64 b.1] ∧ S.rd x.2 0 [.int .i64 b.2]) : FnIs S (cloV x.1 x.2) b := .inr ⟨_, _, rfl, h.1, h.2⟩
theorem shapes_spec (S : Store) : Pure Tryz.prog 17 S [] (A := Nat → Hd) (fun h => .agg ((shpL h).flatMap shS.cs)) (fun S' h => ShsIs S' (shpL h)) := by
  refine pure_vc agrees Tryz.func17 rfl rfl (fun S S' q hle h => h.le hle) ?_
  refine ⟨⟨_, rfl, rfl, rfl⟩, .inl ⟨_, _, _, between_spec S (0, 128), fun S1 x1 hS1 hx1 => ?_⟩⟩
  refine ⟨⟨_, rfl, rfl, rfl⟩, .inl ⟨_, _, _, between_spec S1 (0, 9223372036854775807), fun S2 x2 hS2 hx2 => ?_⟩⟩
  refine ⟨⟨_, rfl, rfl, rfl⟩, .inl ⟨_, _, _, between_spec S2 (0, 64), fun S3 x3 hS3 hx3 => ?_⟩⟩
  have c1 := fn_clo hx1
  have c2 := fn_clo hx2
  have c3 := fn_clo hx3
  clear hx1 hx2 hx3
  intro p0 n0 T0 hT0 hr0 _ p2 n2 T2 hT2 hr2 _ p3 n3 T3 hT3 hr3 _ p4 n4 T4 hT4 hr4 _ p5 n5 T5 hT5 hr5 _ p6 n6 T6 hT6 hr6 _ p7 n7 T7 hT7 hr7 _ p9 n9 T9 hT9 hr9 _
  have le7 := hT9
  have le6 := Store.le_trans hT7 le7
  have le5 := Store.le_trans hT6 le6
  have le4 := Store.le_trans hT5 le5
  have le3 := Store.le_trans hT4 le4
  have le2 := Store.le_trans hT3 le3
  have le0 := Store.le_trans hT2 le2
  have lS3 := Store.le_trans hT0 le0
  have lS2 := Store.le_trans hS3 lS3
  have lS1 := Store.le_trans hS2 lS2
  refine ⟨rfl, fun i => match i with | 0 => (p0, 4, n0) | 2 => (p2, 1, n2) | 3 => (p3, 3, n3) | 4 => (p4, 1, n4) | 5 => (p5, 1, n5) | 6 => (p6, 3, n6) | 7 => (p7, 1, n7) | _ => (p9, 1, n9), rfl, ?_⟩
  exact shp_is (fns_four (hr0.le le0) (fn_thread _) (c1.le lS1) (fn_flag _) (fn_flag _)) (fns_one (hr2.le le2) (fn_thread _)) (fns_three (hr3.le le3) (fn_thread _) (fn_choice _) (fn_count _)) (fns_one (hr4.le le4) (fn_thread _)) (fns_one (hr5.le le5) (fn_choice _))
    (fns_three (hr6.le le6) (c2.le lS2) (fn_count _) (c3.le lS3)) (fns_one (hr7.le le7) (fn_count _)) (fns_one hr9 (fn_thread _))
end Go.Proofs.YtikpdgjdeikinaaGreatDoor
