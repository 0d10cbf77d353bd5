/- law09: the reference's Text (41) and Check (21); tell (40). -/
import Derived.Test.YtapblcfbmaikjaaGreatDoorGf
namespace Go.Proofs.YtapblcfbmaikjaaGreatDoor
open Go Go.Vc Go.Sort Go.RowKit Go.Maps
set_option maxRecDepth 100000
set_option maxHeartbeats 8000000

theorem join_snoc (x : Li.Bs) (sep : Li.Bs) (l : List Li.Bs) : Lib.join (l ++ [x]) sep = if l = [] then x else Lib.join l sep ++ sep ++ x := by
  cases l with
  | nil => rw [if_pos rfl, List.nil_append, Lib.join_one]
  | cons y r =>
    rw [if_neg (by simp), List.cons_append, Lib.join_cons, Lib.join_cons]
    unfold Lib.joinTail
    simp
theorem flat_at {T : List (List Li.Act)} {i j : Nat} {y : List Li.Act} (h : T[i]? = some y) (hj : j < y.length) : T.flatten[sizeN T i + j]? = y[j]? := by
  have hl : (T.take i).flatten.length = sizeN T i := by rw [List.length_flatten]; rfl
  have hs : T.flatten = (T.take i).flatten ++ (y ++ (T.drop (i + 1)).flatten) := by
    have := List.getElem?_eq_some_iff.1 h
    obtain ⟨hi, e⟩ := this
    rw [← List.flatten_cons, ← List.flatten_append, ← e, List.getElem_cons_drop, List.take_append_drop]
  rw [hs, List.getElem?_append_right (by rw [hl]; omega), hl, List.getElem?_append_left (by omega)]
  congr 1; omega
theorem tell_spec (S : Store) (op : Int) : Pure Tryz.prog 40 S [.int .i64 op] (A := Unit) (fun _ => rB (decide (op = 1) || decide (op = 2) || decide (op = 5) || decide (op = 6))) (fun _ _ => True) := by
  refine pure_vc agrees Tryz.func40 rfl rfl (fun S S' q hle h => h) ?_
  by_cases h1 : op = 1
  · refine onE (beq_iff_eq.2 h1) ?_
    repeat refine onT ?_
    refine ⟨rfl, (), ?_, trivial⟩
    rw [decide_eq_true h1]; rfl
  refine offE (beq_eq_false_iff_ne.2 h1) ?_
  by_cases h2 : op = 2
  · refine onE (beq_iff_eq.2 h2) ?_
    repeat refine onT ?_
    refine ⟨rfl, (), ?_, trivial⟩
    rw [decide_eq_false h1, decide_eq_true h2]; rfl
  refine offE (beq_eq_false_iff_ne.2 h2) ?_
  by_cases h3 : op = 5
  · refine onE (beq_iff_eq.2 h3) ?_
    repeat refine onT ?_
    refine ⟨rfl, (), ?_, trivial⟩
    rw [decide_eq_false h1, decide_eq_false h2, decide_eq_true h3]; rfl
  refine offE (beq_eq_false_iff_ne.2 h3) ⟨rfl, (), ?_, trivial⟩
  rw [decide_eq_false h1, decide_eq_false h2, decide_eq_false h3]
  show rB (decide (op = 6)) = rB (op == 6)
  by_cases h4 : op = 6
  · rw [decide_eq_true h4, beq_iff_eq.2 h4]
  · rw [decide_eq_false h4, beq_eq_false_iff_ne.2 h4]
theorem rcheck_spec (S : Store) (x : Tz) (first : List Li.Wd) (T : List (List Li.Act)) (hx : TestIs S x first T) (hn8 : first.length ≤ 8) (hT : T.length ≤ 8) (h8 : ∀ l ∈ T, l.length ≤ 8) :
    Pure Tryz.prog 21 S [vT x] (A := Unit) (fun _ => rI (Li.checkT first T)) (fun _ _ => True) := by
  have hfl := hx.f.len
  have htl := hx.t.len
  have hth := hx.t
  obtain ⟨⟨fp, fn, fc⟩, ⟨p, n, c⟩⟩ := x
  have hfl : fn = first.length := hfl
  have htl : n = T.length := htl
  subst hfl htl
  refine pure_vc agrees Tryz.func21 rfl rfl (fun S S' q hle h => h) ?_
  have e19 : (first.length < 1 ∨ 4 < first.length ∨ T.length < 1 ∨ 4 < T.length) → rI (Li.checkT first T) = rI 19 := fun h => by unfold Li.checkT; rw [if_pos h]
  by_cases g1 : ((first.length : Nat) : Int) < 1
  · refine onE (decide_eq_true g1) ?_
    repeat refine onT ?_
    exact ⟨rfl, (), e19 (by omega), trivial⟩
  refine offE (decide_eq_false g1) ?_
  by_cases g2 : ((first.length : Nat) : Int) > 4
  · refine onE (decide_eq_true g2) ?_
    repeat refine onT ?_
    exact ⟨rfl, (), e19 (by omega), trivial⟩
  refine offE (decide_eq_false g2) ?_
  by_cases g3 : ((T.length : Nat) : Int) < 1
  · refine onE (decide_eq_true g3) ?_
    repeat refine onT ?_
    exact ⟨rfl, (), e19 (by omega), trivial⟩
  refine offE (decide_eq_false g3) ?_
  by_cases g4 : ((T.length : Nat) : Int) > 4
  · refine onE (decide_eq_true g4) ?_
    repeat refine onT ?_
    exact ⟨rfl, (), e19 (by omega), trivial⟩
  refine offE (decide_eq_false g4) ?_
  have c2 : Li.checkT first T = if 6 < Li.sizeT T then 15 else Li.checkL first.length T.flatten := by unfold Li.checkT; rw [if_neg (by omega)]
  rw [c2]
  refine ⟨[], [], Nat, List.range' 30 15, fun i => [(3, rI (sizeN T i : Nat)), (4, rI i)], fun _ => [.box [.v (.slice fp first.length fc), .v (.slice p T.length c)]], fun _ => S, fun i => i ≤ T.length, fun i => T.length - i, ?_⟩
  refine And.intro (Exists.intro 0 (And.intro (And.intro (And.intro ?_ rfl) (And.intro rfl (Store.le_refl _))) (Nat.zero_le _))) ?_
  · repeat' first | exact trivial | exact rfl | refine And.intro ?_ ?_
  intro i hi
  have hi : i ≤ T.length := hi
  refine And.intro (fun h1 => ?_) (fun h1 => ?_)
  · have h1 : (i : Int) < ((T.length : Nat) : Int) := of_decide_eq_true h1
    obtain ⟨⟨qp, qn, qc⟩, y, b, o, hy, hqy, hp, hok, hrd⟩ := hth.at (i := i) (by omega)
    have hql : qn = y.length := hqy.len
    subst hql
    have hs := sizeN_succ hy
    have hb1 := sizeN_le T (i + 1) h8 hT
    have wz : IntKind.i64.wrap (((sizeN T i : Nat) : Int) + ((y.length : Nat) : Int)) = ((sizeN T (i + 1) : Nat) : Int) := by rw [wrap_i64 (by omega) (by omega)]; omega
    refine ⟨Int.natCast_nonneg _, h1, b, o, hp, ((qp, y.length, qc) : Hd), hok, hrd, ((sizeN T (i + 1) : Nat) : Int), wz, ?_⟩
    refine ⟨((i + 1 : Nat) : Int), wrap_i64 (by omega) (by omega), i + 1, ⟨⟨?_, rfl⟩, rfl, Store.le_refl _⟩, by show i + 1 ≤ _; omega, by show T.length - (i + 1) < T.length - i; omega⟩
    repeat' first | exact trivial | exact rfl | refine And.intro ?_ ?_
  have h1 : ¬ (i : Int) < ((T.length : Nat) : Int) := of_decide_eq_false h1
  have hil : i = T.length := by omega
  subst hil
  have hsa := sizeN_all T
  by_cases g5 : ((sizeN T T.length : Nat) : Int) > 6
  · refine onE (decide_eq_true g5) ⟨rfl, (), ?_, trivial⟩
    rw [if_pos (by omega)]
    rfl
  refine offE (decide_eq_false g5) ?_
  have hck : (if 6 < Li.sizeT T then 15 else Li.checkL first.length T.flatten) = Li.checkL first.length T.flatten := if_neg (by omega)
  obtain ⟨A, hA⟩ : ∃ A, A = T.flatten := ⟨_, rfl⟩
  rw [← hA] at hck
  rw [← hA]
  refine ⟨[], [], Nat, [6, 7] ++ List.range' 47 54, fun i => [(5, rI i)], fun _ => [.box [.v (.slice fp first.length fc), .v (.slice p T.length c)]], fun _ => S, fun i => i ≤ T.length ∧ ∀ a ∈ A.take (sizeN T i), Li.checkA first.length a = 0, fun i => T.length - i, ?_⟩
  refine And.intro (Exists.intro 0 (And.intro (And.intro (And.intro ?_ rfl) (And.intro rfl (Store.le_refl _))) ⟨Nat.zero_le _, fun a ha => by
    have : sizeN T 0 = 0 := rfl
    rw [this] at ha; simp at ha⟩)) ?_
  · repeat' first | exact trivial | exact rfl | refine And.intro ?_ ?_
  rintro i ⟨hi, hz⟩
  have hi : i ≤ T.length := hi
  refine And.intro (fun h1 => ?_) (fun h1 => ?_)
  · have h1 : (i : Int) < ((T.length : Nat) : Int) := of_decide_eq_true h1
    obtain ⟨⟨qp, qn, qc⟩, y, b, o, hy, hqy, hp, hok, hrd⟩ := hth.at (i := i) (by omega)
    obtain ⟨hql, hqc, hqr, hqo⟩ := acts_row hqy
    have hql : qn = y.length := hql
    subst hql
    have hs := sizeN_succ hy
    have hqr : RowRd S qp shA (y.map axOf) := hqr
    refine ⟨[], [], Nat, [7] ++ List.range' 54 47, fun j => [(6, rI j)], fun _ => [.box [.v (.slice fp first.length fc), .v (.slice p T.length c)]], fun _ => S, fun j => j ≤ y.length ∧ ∀ a ∈ A.take (sizeN T i + j), Li.checkA first.length a = 0, fun j => y.length - j, ?_⟩
    refine And.intro (Exists.intro 0 (And.intro (And.intro (And.intro ?_ rfl) (And.intro rfl (Store.le_refl _))) ⟨Nat.zero_le _, hz⟩)) ?_
    · repeat' first | exact trivial | exact rfl | refine And.intro ?_ ?_
    rintro j ⟨hj, hzj⟩
    have hj : j ≤ y.length := hj
    have hylen := h8 y (List.mem_of_getElem? hy)
    refine ⟨Int.natCast_nonneg _, h1, b, o, hp, ((qp, y.length, qc) : Hd), hok, hrd, ?_⟩
    refine And.intro (fun h3 => ?_) (fun h3 => ?_)
    · have h3 : (j : Int) < ((y.length : Nat) : Int) := of_decide_eq_true h3
      obtain ⟨a, ha⟩ : ∃ a, y[j]? = some a := ⟨_, List.getElem?_eq_getElem (by omega)⟩
      have haA : A[sizeN T i + j]? = some a := by rw [hA, flat_at hy (by omega), ha]
      obtain ⟨b3, o3, hp3, hok3, hrd3⟩ := row_at hqr (i := j) (x := axOf a) (by rw [List.getElem?_map, ha]; rfl)
      have hhit := checkL_hit (n := first.length) haA hzj
      have hmore : Li.checkA first.length a = 0 → ∀ x ∈ A.take (sizeN T i + j + 1), Li.checkA first.length x = 0 := fun h0 => take_more haA hzj h0
      obtain ⟨ao, al, ⟨a1, a2, a3⟩, a4, a5, a6⟩ := a
      refine ⟨Int.natCast_nonneg _, h1, b, o, hp, ((qp, y.length, qc) : Hd), hok, hrd, Int.natCast_nonneg _, h3, b3, o3, hp3, (ao, al, (a1, a2, a3), a4, a5, a6), hok3, hrd3, ?_⟩
      have bad2 : (ao < 0 ∨ 8 < ao) → rI (if 6 < Li.sizeT T then 15 else Li.checkL first.length A) = rI 2 := fun h => by
        have e : Li.checkA first.length ⟨ao, al, (a1, a2, a3), a4, a5, a6⟩ = 2 := by unfold Li.checkA; rw [if_pos h]
        rw [hck, hhit (by rw [e]; decide), e]
      by_cases k1 : ao < 0
      · refine onE (decide_eq_true k1) ?_
        repeat refine onT ?_
        exact ⟨rfl, (), bad2 (.inl k1), trivial⟩
      refine offE (decide_eq_false k1) ?_
      by_cases k2 : ao > 8
      · refine onE (decide_eq_true k2) ?_
        repeat refine onT ?_
        exact ⟨rfl, (), bad2 (.inr k2), trivial⟩
      refine offE (decide_eq_false k2) ?_
      have bad1 : ao ≠ 0 → ao ≠ 8 → (al < 0 ∨ ((first.length : Nat) : Int) ≤ al) → rI (if 6 < Li.sizeT T then 15 else Li.checkL first.length A) = rI 1 := fun h0 h8 h => by
        have e : Li.checkA first.length ⟨ao, al, (a1, a2, a3), a4, a5, a6⟩ = 1 := by
          unfold Li.checkA
          rw [if_neg (by show ¬ (ao < 0 ∨ 8 < ao); omega), if_pos ⟨h0, h8, h⟩]
        rw [hck, hhit (by rw [e]; decide), e]
      have good : (ao = 0 ∨ ao = 8 ∨ (0 ≤ al ∧ al < ((first.length : Nat) : Int))) → Li.checkA first.length ⟨ao, al, (a1, a2, a3), a4, a5, a6⟩ = 0 := fun h => by
        unfold Li.checkA
        rw [if_neg (by show ¬ (ao < 0 ∨ 8 < ao); omega), if_neg (by show ¬ (ao ≠ 0 ∧ ao ≠ 8 ∧ (al < 0 ∨ ((first.length : Nat) : Int) ≤ al)); omega)]
      by_cases k3 : ao = 0
      · refine offE (bne_eq_false_iff_eq.2 k3) ?_
        repeat refine onF ?_
        refine ⟨((j + 1 : Nat) : Int), wrap_i64 (by omega) (by omega), j + 1, ⟨⟨?_, rfl⟩, rfl, Store.le_refl _⟩, ⟨by show j + 1 ≤ _; omega, hmore (good (.inl k3))⟩, by show y.length - (j + 1) < y.length - j; omega⟩
        repeat' first | exact trivial | exact rfl | refine And.intro ?_ ?_
      refine onE (bne_iff_ne.2 k3) ?_
      by_cases k4 : ao = 8
      · refine offE (bne_eq_false_iff_eq.2 k4) ?_
        repeat refine onF ?_
        refine ⟨((j + 1 : Nat) : Int), wrap_i64 (by omega) (by omega), j + 1, ⟨⟨?_, rfl⟩, rfl, Store.le_refl _⟩, ⟨by show j + 1 ≤ _; omega, hmore (good (.inr (.inl k4)))⟩, by show y.length - (j + 1) < y.length - j; omega⟩
        repeat' first | exact trivial | exact rfl | refine And.intro ?_ ?_
      refine onE (bne_iff_ne.2 k4) ?_
      by_cases k5 : al < 0
      · refine onE (decide_eq_true k5) ?_
        repeat refine onT ?_
        exact ⟨rfl, (), bad1 k3 k4 (.inl k5), trivial⟩
      refine offE (decide_eq_false k5) ?_
      by_cases k6 : al ≥ ((first.length : Nat) : Int)
      · refine onE (decide_eq_true k6) ?_
        repeat refine onT ?_
        exact ⟨rfl, (), bad1 k3 k4 (.inr k6), trivial⟩
      refine offE (decide_eq_false k6) ?_
      repeat refine onF ?_
      refine ⟨((j + 1 : Nat) : Int), wrap_i64 (by omega) (by omega), j + 1, ⟨⟨?_, rfl⟩, rfl, Store.le_refl _⟩, ⟨by show j + 1 ≤ _; omega, hmore (good (.inr (.inr ⟨by omega, by omega⟩)))⟩, by show y.length - (j + 1) < y.length - j; omega⟩
      repeat' first | exact trivial | exact rfl | refine And.intro ?_ ?_
    · refine ⟨((i + 1 : Nat) : Int), wrap_i64 (by omega) (by omega), i + 1, ⟨⟨?_, rfl⟩, rfl, Store.le_refl _⟩, ⟨by show i + 1 ≤ _; omega, ?_⟩, by show T.length - (i + 1) < T.length - i; omega⟩
      · repeat' first | exact trivial | exact rfl | refine And.intro ?_ ?_
      · have h3 : ¬ (j : Int) < ((y.length : Nat) : Int) := of_decide_eq_false h3
        have : j = y.length := by omega
        rw [this] at hzj
        show ∀ a ∈ A.take (sizeN T (i + 1)), _
        rw [hs]; exact hzj
  have h1 : ¬ (i : Int) < ((T.length : Nat) : Int) := of_decide_eq_false h1
  have hil : i = T.length := by omega
  subst hil
  have hAl : A.length = sizeN T T.length := by rw [hA, sizeN_all]; exact flat_len T
  rw [← hAl, List.take_length] at hz
  refine ⟨rfl, (), ?_, trivial⟩
  show rI (if 6 < Li.sizeT T then 15 else Li.checkL first.length A) = rI 0
  rw [hck, checkL_zero hz]
end Go.Proofs.YtapblcfbmaikjaaGreatDoor
