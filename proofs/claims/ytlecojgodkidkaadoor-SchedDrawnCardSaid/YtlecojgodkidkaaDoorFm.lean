/- law07: Stops, and the law of Count and Stops. -/
import Derived.Test.YtlecojgodkidkaaDoorFk
namespace Go.Proofs.YtlecojgodkidkaaDoor
open Go Go.Vc
set_option maxRecDepth 100000

def stopStep (out : List Int) (p : Pk) : List Int := if p.1 = 1 ∧ out.contains p.2.1 = false then out ++ [p.2.1] else out
def stopsS (l : List Pk) : List Int := l.foldl stopStep []
theorem stops_step {l : List Pk} {i : Nat} {x : Pk} (hx : l[i]? = some x) : stopsS (l.take (i + 1)) = stopStep (stopsS (l.take i)) x := by
  rw [List.take_add_one, hx, stopsS, List.foldl_append]; rfl
theorem stops_len (l : List Pk) : (stopsS l).length ≤ l.length := by
  have key : ∀ (l : List Pk) (out : List Int), (l.foldl stopStep out).length ≤ out.length + l.length := by
    intro l
    induction l with
    | nil => intro out; simp
    | cons p l ih =>
      intro out
      have := ih (stopStep out p)
      have h2 : (stopStep out p).length ≤ out.length + 1 := by
        unfold stopStep; split <;> simp
      simp only [List.foldl_cons, List.length_cons] at this ⊢
      omega
  have := key l []
  rw [List.length_nil, Nat.zero_add] at this
  exact this
set_option maxHeartbeats 1000000 in
theorem stops_spec (S : Store) (p : Hd) (l : List Pk) (hl : l.length = p.2.1) (hr : RowRd S p.1 shP l) (hn : l.length ≤ 1000000) :
    Pure Tryd.prog 20 S [slV p] (A := Hd) (fun q => .c (.v (slV q))) (fun S' q => q.2.1 = (stopsS l).length ∧ RowRd S' q.1 (.int .i64) (stopsS l)) := by
  obtain ⟨p, n, c⟩ := p
  simp only at hl hr
  subst hl
  refine pure_vc agrees Tryd.func20 rfl rfl (fun S S' q hle h => ⟨h.1, h.2.le hle⟩) ?_
  refine ⟨[], [(3, .int .i64, 3)], Nat, [5] ++ List.range' 9 20, fun i => [(8, rI i)], fun i => [.row (.int .i64) 3 (stopsS (l.take i))], fun _ => S, fun i => i ≤ l.length, fun i => l.length - i, ?_⟩
  refine And.intro (Exists.intro 0 (And.intro (And.intro (And.intro ?_ rfl) (And.intro rfl (Store.le_refl _))) (Nat.zero_le _))) ?_
  · repeat' first | exact trivial | exact rfl | refine And.intro ?_ ?_
  rintro i hi
  have i0 : (0 : Int) ≤ ((i : Nat) : Int) := Int.natCast_nonneg _
  refine And.intro (fun h => ?_) (fun h => ?_)
  · have hil : i < l.length := by
      have : ((i : Nat) : Int) < ((l.length : Nat) : Int) := of_decide_eq_true h
      omega
    obtain ⟨x, hx⟩ : ∃ x, l[i]? = some x := ⟨_, List.getElem?_eq_getElem hil⟩
    obtain ⟨b, o, hp, hok, hrd⟩ := row_at hr hx
    have hst := stops_step hx
    have hsl := stops_len (l.take i)
    rw [List.length_take] at hsl
    have hmu : l.length - (i + 1) < l.length - i := by omega
    refine ⟨i0, by show ((i : Nat) : Int) < (l.length : Int); omega, b, o, hp, x, hok, hrd, ?_⟩
    by_cases h1 : x.1 = 1
    · refine onE (beq_iff_eq.2 h1) ⟨⟨_, rfl, rfl, rfl⟩, .inr (.inr (.inl fun p2 c2 S2 hS2 hrd2 hpf2 => ?_))⟩
      refine ⟨_, _, _, contains_spec S2 (p2, (stopsS (l.take i)).length, c2) (stopsS (l.take i)) x.2.1 rfl (by omega) hrd2, fun S3 _ hS3 _ => ?_⟩
      by_cases h2 : (stopsS (l.take i)).contains x.2.1 = true
      · refine offE (ntT h2) ?_
        refine ⟨((i + 1 : Nat) : Int), wrap_i64 (by omega) (by omega), i + 1, ⟨⟨?_, rfl⟩, ?_, Store.le_refl _⟩, hil, hmu⟩
        · repeat' first | exact trivial | exact rfl | refine And.intro ?_ ?_
        · show [Res.row (.int .i64) 3 (stopsS (l.take i))] = [Res.row (.int .i64) 3 (stopsS (l.take (i + 1)))]
          rw [hst, stopStep, if_neg (by rw [h2]; simp)]
      · have h2 : (stopsS (l.take i)).contains x.2.1 = false := by simpa using h2
        refine onE (ntF h2) ⟨[x.2.1], ⟨rfl, rfl⟩, fun _ _ => trivial, by show ((stopsS (l.take i)).length + 1) * 8 ≤ 140737488355328; omega, ?_⟩
        refine ⟨((i + 1 : Nat) : Int), wrap_i64 (by omega) (by omega), i + 1, ⟨⟨?_, rfl⟩, ?_, Store.le_refl _⟩, hil, hmu⟩
        · repeat' first | exact trivial | exact rfl | refine And.intro ?_ ?_
        · show [Res.row (.int .i64) 3 (stopsS (l.take i) ++ [x.2.1])] = [Res.row (.int .i64) 3 (stopsS (l.take (i + 1)))]
          rw [hst, stopStep, if_pos ⟨h1, h2⟩]
    · refine offE (beq_eq_false_iff_ne.2 h1) (onF ?_)
      refine ⟨((i + 1 : Nat) : Int), wrap_i64 (by omega) (by omega), i + 1, ⟨⟨?_, rfl⟩, ?_, Store.le_refl _⟩, hil, hmu⟩
      · repeat' first | exact trivial | exact rfl | refine And.intro ?_ ?_
      · show [Res.row (.int .i64) 3 (stopsS (l.take i))] = [Res.row (.int .i64) 3 (stopsS (l.take (i + 1)))]
        rw [hst, stopStep, if_neg (fun e => h1 e.1)]
  · have hil : i = l.length := by
      have : ¬ ((i : Nat) : Int) < ((l.length : Nat) : Int) := of_decide_eq_false h
      omega
    subst hil
    intro p c S' hle hrd hpf
    rw [List.take_length] at hrd
    refine ⟨rfl, (p, (stopsS l).length, c), ?_, rfl, hrd⟩
    rw [List.take_length]; rfl
theorem take_contains {l : List Int} {j : Nat} {x y : Int} (hx : l[j]? = some x) : (l.take (j + 1)).contains y = ((l.take j).contains y || (x == y)) := by
  rw [List.take_add_one, hx]
  simp only [Option.toList_some, List.contains_eq_mem, List.mem_append, List.mem_singleton, Bool.decide_or]
  congr 1
  by_cases h : y = x
  · simp [h]
  · simp [h]; exact fun e => h e.symm
set_option maxHeartbeats 2000000 in
theorem law_counts (S : Store) (hL : Lw S) (q : Hd) (l : List Pk) (hl : l.length = q.2.1) (hr : RowRd S q.1 shP l) (thread : Int) (ht : inI64 thread) :
    Pure Tryd.prog 6 S [slV q, .int .i64 thread] rB (fun _ k => k = true) := by
  obtain ⟨p, n, c⟩ := q
  simp only at hl hr
  subst hl
  refine pure_vc agrees Tryd.func6 rfl rfl (fun S S' q hle h => h) ?_
  by_cases hbig : l.length > 300
  · refine onE (decide_eq_true (by show ((l.length : Nat) : Int) > 300; omega)) ⟨⟨_, rfl, rfl, rfl⟩, .inl ⟨_, _, _, awake_spec S hL, fun S1 b hS1 hb => ?_⟩⟩
    exact ⟨rfl, _, rfl, hb⟩
  refine offE (decide_eq_false (by show ¬ ((l.length : Nat) : Int) > 300; omega)) ?_
  refine ⟨[], [(6, .int .i64, 3)], Nat, [7, 8, 9, 10, 11] ++ List.range' 21 39, fun i => [(5, rI (countR thread (l.take i))), (20, rI i)], fun i => [.row (.int .i64) 3 (stopsS (l.take i))], fun _ => S, fun i => i ≤ l.length, fun i => l.length - i, ?_⟩
  refine And.intro (Exists.intro 0 (And.intro (And.intro (And.intro ?_ rfl) (And.intro rfl (Store.le_refl _))) (Nat.zero_le _))) ?_
  · repeat' first | exact trivial | exact rfl | refine And.intro ?_ ?_
  rintro i hi
  have i0 : (0 : Int) ≤ ((i : Nat) : Int) := Int.natCast_nonneg _
  refine And.intro (fun h => ?_) (fun h => ?_)
  · have hil : i < l.length := by
      have : ((i : Nat) : Int) < ((l.length : Nat) : Int) := of_decide_eq_true h
      omega
    obtain ⟨x, hx⟩ : ∃ x, l[i]? = some x := ⟨_, List.getElem?_eq_getElem hil⟩
    obtain ⟨b, o, hp, hok, hrd⟩ := row_at hr hx
    have hst := stops_step hx
    have hcs := countR_step (t := thread) hx
    have hcl := countR_le thread (l.take i)
    have hsl := stops_len (l.take i)
    rw [List.length_take] at hsl hcl
    have hmu : l.length - (i + 1) < l.length - i := by omega
    refine ⟨i0, by show ((i : Nat) : Int) < (l.length : Int); omega, b, o, hp, x, hok, hrd, ?_⟩
    by_cases h1 : x.1 = 0
    · refine onE (beq_iff_eq.2 h1) ?_
      by_cases h2 : x.2.1 = thread
      · rw [if_pos ⟨h1, h2⟩] at hcs
        refine onE (beq_iff_eq.2 h2) ⟨((countR thread (l.take (i + 1)) : Nat) : Int), by rw [hcs]; exact wrap_i64 (by omega) (by omega), ?_⟩
        have eN : rI ((countR thread (l.take (i + 1)) : Nat) : Int) = rI ((countR thread (l.take (i + 1)) : Nat) : Int) := rfl
        refine ⟨[], [], Nat, [11] ++ List.range' 41 11, fun j => [(9, rB (x.1 != 1 || ((stopsS (l.take i)).take j).contains x.2.1)), (40, rI j)], fun _ => [.row (.int .i64) 3 (stopsS (l.take i)), .box [.v (.int .i64 x.1), .v (.int .i64 x.2.1), .v (.int .i64 x.2.2)]], fun _ => S, fun j => j ≤ (stopsS (l.take i)).length, fun j => (stopsS (l.take i)).length - j, ?_⟩
        refine And.intro (Exists.intro 0 (And.intro (And.intro (And.intro ?_ rfl) (And.intro rfl (Store.le_refl _))) (Nat.zero_le _))) ?_
        · have e0 : rB (x.1 != 1 || ((stopsS (l.take i)).take 0).contains x.2.1) = rB (x.1 != 1) := by simp
          repeat' first | exact trivial | exact rfl | exact e0.symm | refine And.intro ?_ ?_
        rintro j hj
        refine And.intro (fun hc => ?_) (fun hc => ?_)
        · have hjl : j < (stopsS (l.take i)).length := by
            have : ((j : Nat) : Int) < (((stopsS (l.take i)).length : Nat) : Int) := of_decide_eq_true hc
            omega
          obtain ⟨y, hy⟩ : ∃ y, (stopsS (l.take i))[j]? = some y := ⟨_, List.getElem?_eq_getElem hjl⟩
          have hcon := take_contains (y := x.2.1) hy
          have hmj : (stopsS (l.take i)).length - (j + 1) < (stopsS (l.take i)).length - j := by omega
          refine ⟨by omega, by show ((j : Nat) : Int) < ((stopsS (l.take i)).length : Int); omega, y, hy, ?_⟩
          refine And.intro (fun h1 => ?_) (fun h1 => ?_)
          · refine ⟨((j + 1 : Nat) : Int), wrap_i64 (by omega) (by omega), j + 1, ⟨⟨?_, rfl⟩, rfl, Store.le_refl _⟩, hjl, hmj⟩
            have e0 : rB (x.1 != 1 || ((stopsS (l.take i)).take (j + 1)).contains x.2.1) = rB true := by
              rw [hcon, ← Bool.or_assoc, h1]; rfl
            repeat' first | exact trivial | exact rfl | exact e0.symm | refine And.intro ?_ ?_
          · refine ⟨((j + 1 : Nat) : Int), wrap_i64 (by omega) (by omega), j + 1, ⟨⟨?_, rfl⟩, rfl, Store.le_refl _⟩, hjl, hmj⟩
            have e0 : rB (x.1 != 1 || ((stopsS (l.take i)).take (j + 1)).contains x.2.1) = rB (y == x.2.1) := by
              rw [hcon, ← Bool.or_assoc, h1]; rfl
            repeat' first | exact trivial | exact rfl | exact e0.symm | refine And.intro ?_ ?_
        · have hje : j = (stopsS (l.take i)).length := by
            have : ¬ ((j : Nat) : Int) < (((stopsS (l.take i)).length : Nat) : Int) := of_decide_eq_false hc
            omega
          subst hje
          have htt : List.take (stopsS (l.take i)).length (stopsS (l.take i)) = stopsS (l.take i) := List.take_length
          by_cases h2 : x.1 = 1 ∧ (stopsS (l.take i)).contains x.2.1 = false
          · refine onE (by rw [htt, h2.2, h2.1]; rfl) ⟨[x.2.1], ⟨rfl, rfl⟩, fun _ _ => trivial, by show ((stopsS (l.take i)).length + 1) * 8 ≤ 140737488355328; omega, ?_⟩
            refine ⟨((i + 1 : Nat) : Int), wrap_i64 (by omega) (by omega), i + 1, ⟨⟨?_, rfl⟩, ?_, Store.le_refl _⟩, hil, hmu⟩
            · repeat' first | exact trivial | exact rfl | exact eN.symm | refine And.intro ?_ ?_
            · show [Res.row (.int .i64) 3 (stopsS (l.take i) ++ [x.2.1])] = [Res.row (.int .i64) 3 (stopsS (l.take (i + 1)))]
              rw [hst, stopStep, if_pos h2]
          · refine offE (by
              rw [htt]
              cases hq : (stopsS (l.take i)).contains x.2.1 with
              | true => simp
              | false =>
                have : x.1 ≠ 1 := fun e => h2 ⟨e, hq⟩
                have : (x.1 != 1) = true := by simpa using this
                rw [this]; rfl) ?_
            refine ⟨((i + 1 : Nat) : Int), wrap_i64 (by omega) (by omega), i + 1, ⟨⟨?_, rfl⟩, ?_, Store.le_refl _⟩, hil, hmu⟩
            · repeat' first | exact trivial | exact rfl | exact eN.symm | refine And.intro ?_ ?_
            · show [Res.row (.int .i64) 3 (stopsS (l.take i))] = [Res.row (.int .i64) 3 (stopsS (l.take (i + 1)))]
              rw [hst, stopStep, if_neg h2]
      · rw [if_neg (fun e => h2 e.2)] at hcs
        refine offE (beq_eq_false_iff_ne.2 h2) ?_
        have eN : rI ((countR thread (l.take (i + 1)) : Nat) : Int) = rI ((countR thread (l.take i) : Nat) : Int) := by rw [hcs]; rfl
        refine ⟨[], [], Nat, [11] ++ List.range' 41 11, fun j => [(9, rB (x.1 != 1 || ((stopsS (l.take i)).take j).contains x.2.1)), (40, rI j)], fun _ => [.row (.int .i64) 3 (stopsS (l.take i)), .box [.v (.int .i64 x.1), .v (.int .i64 x.2.1), .v (.int .i64 x.2.2)]], fun _ => S, fun j => j ≤ (stopsS (l.take i)).length, fun j => (stopsS (l.take i)).length - j, ?_⟩
        refine And.intro (Exists.intro 0 (And.intro (And.intro (And.intro ?_ rfl) (And.intro rfl (Store.le_refl _))) (Nat.zero_le _))) ?_
        · have e0 : rB (x.1 != 1 || ((stopsS (l.take i)).take 0).contains x.2.1) = rB (x.1 != 1) := by simp
          repeat' first | exact trivial | exact rfl | exact e0.symm | refine And.intro ?_ ?_
        rintro j hj
        refine And.intro (fun hc => ?_) (fun hc => ?_)
        · have hjl : j < (stopsS (l.take i)).length := by
            have : ((j : Nat) : Int) < (((stopsS (l.take i)).length : Nat) : Int) := of_decide_eq_true hc
            omega
          obtain ⟨y, hy⟩ : ∃ y, (stopsS (l.take i))[j]? = some y := ⟨_, List.getElem?_eq_getElem hjl⟩
          have hcon := take_contains (y := x.2.1) hy
          have hmj : (stopsS (l.take i)).length - (j + 1) < (stopsS (l.take i)).length - j := by omega
          refine ⟨by omega, by show ((j : Nat) : Int) < ((stopsS (l.take i)).length : Int); omega, y, hy, ?_⟩
          refine And.intro (fun h1 => ?_) (fun h1 => ?_)
          · refine ⟨((j + 1 : Nat) : Int), wrap_i64 (by omega) (by omega), j + 1, ⟨⟨?_, rfl⟩, rfl, Store.le_refl _⟩, hjl, hmj⟩
            have e0 : rB (x.1 != 1 || ((stopsS (l.take i)).take (j + 1)).contains x.2.1) = rB true := by
              rw [hcon, ← Bool.or_assoc, h1]; rfl
            repeat' first | exact trivial | exact rfl | exact e0.symm | refine And.intro ?_ ?_
          · refine ⟨((j + 1 : Nat) : Int), wrap_i64 (by omega) (by omega), j + 1, ⟨⟨?_, rfl⟩, rfl, Store.le_refl _⟩, hjl, hmj⟩
            have e0 : rB (x.1 != 1 || ((stopsS (l.take i)).take (j + 1)).contains x.2.1) = rB (y == x.2.1) := by
              rw [hcon, ← Bool.or_assoc, h1]; rfl
            repeat' first | exact trivial | exact rfl | exact e0.symm | refine And.intro ?_ ?_
        · have hje : j = (stopsS (l.take i)).length := by
            have : ¬ ((j : Nat) : Int) < (((stopsS (l.take i)).length : Nat) : Int) := of_decide_eq_false hc
            omega
          subst hje
          have htt : List.take (stopsS (l.take i)).length (stopsS (l.take i)) = stopsS (l.take i) := List.take_length
          by_cases h2 : x.1 = 1 ∧ (stopsS (l.take i)).contains x.2.1 = false
          · refine onE (by rw [htt, h2.2, h2.1]; rfl) ⟨[x.2.1], ⟨rfl, rfl⟩, fun _ _ => trivial, by show ((stopsS (l.take i)).length + 1) * 8 ≤ 140737488355328; omega, ?_⟩
            refine ⟨((i + 1 : Nat) : Int), wrap_i64 (by omega) (by omega), i + 1, ⟨⟨?_, rfl⟩, ?_, Store.le_refl _⟩, hil, hmu⟩
            · repeat' first | exact trivial | exact rfl | exact eN.symm | refine And.intro ?_ ?_
            · show [Res.row (.int .i64) 3 (stopsS (l.take i) ++ [x.2.1])] = [Res.row (.int .i64) 3 (stopsS (l.take (i + 1)))]
              rw [hst, stopStep, if_pos h2]
          · refine offE (by
              rw [htt]
              cases hq : (stopsS (l.take i)).contains x.2.1 with
              | true => simp
              | false =>
                have : x.1 ≠ 1 := fun e => h2 ⟨e, hq⟩
                have : (x.1 != 1) = true := by simpa using this
                rw [this]; rfl) ?_
            refine ⟨((i + 1 : Nat) : Int), wrap_i64 (by omega) (by omega), i + 1, ⟨⟨?_, rfl⟩, ?_, Store.le_refl _⟩, hil, hmu⟩
            · repeat' first | exact trivial | exact rfl | exact eN.symm | refine And.intro ?_ ?_
            · show [Res.row (.int .i64) 3 (stopsS (l.take i))] = [Res.row (.int .i64) 3 (stopsS (l.take (i + 1)))]
              rw [hst, stopStep, if_neg h2]
    · rw [if_neg (fun e => h1 e.1)] at hcs
      refine offE (beq_eq_false_iff_ne.2 h1) (onF ?_)
      have eN : rI ((countR thread (l.take (i + 1)) : Nat) : Int) = rI ((countR thread (l.take i) : Nat) : Int) := by rw [hcs]; rfl
      refine ⟨[], [], Nat, [11] ++ List.range' 41 11, fun j => [(9, rB (x.1 != 1 || ((stopsS (l.take i)).take j).contains x.2.1)), (40, rI j)], fun _ => [.row (.int .i64) 3 (stopsS (l.take i)), .box [.v (.int .i64 x.1), .v (.int .i64 x.2.1), .v (.int .i64 x.2.2)]], fun _ => S, fun j => j ≤ (stopsS (l.take i)).length, fun j => (stopsS (l.take i)).length - j, ?_⟩
      refine And.intro (Exists.intro 0 (And.intro (And.intro (And.intro ?_ rfl) (And.intro rfl (Store.le_refl _))) (Nat.zero_le _))) ?_
      · have e0 : rB (x.1 != 1 || ((stopsS (l.take i)).take 0).contains x.2.1) = rB (x.1 != 1) := by simp
        repeat' first | exact trivial | exact rfl | exact e0.symm | refine And.intro ?_ ?_
      rintro j hj
      refine And.intro (fun hc => ?_) (fun hc => ?_)
      · have hjl : j < (stopsS (l.take i)).length := by
          have : ((j : Nat) : Int) < (((stopsS (l.take i)).length : Nat) : Int) := of_decide_eq_true hc
          omega
        obtain ⟨y, hy⟩ : ∃ y, (stopsS (l.take i))[j]? = some y := ⟨_, List.getElem?_eq_getElem hjl⟩
        have hcon := take_contains (y := x.2.1) hy
        have hmj : (stopsS (l.take i)).length - (j + 1) < (stopsS (l.take i)).length - j := by omega
        refine ⟨by omega, by show ((j : Nat) : Int) < ((stopsS (l.take i)).length : Int); omega, y, hy, ?_⟩
        refine And.intro (fun h1 => ?_) (fun h1 => ?_)
        · refine ⟨((j + 1 : Nat) : Int), wrap_i64 (by omega) (by omega), j + 1, ⟨⟨?_, rfl⟩, rfl, Store.le_refl _⟩, hjl, hmj⟩
          have e0 : rB (x.1 != 1 || ((stopsS (l.take i)).take (j + 1)).contains x.2.1) = rB true := by
            rw [hcon, ← Bool.or_assoc, h1]; rfl
          repeat' first | exact trivial | exact rfl | exact e0.symm | refine And.intro ?_ ?_
        · refine ⟨((j + 1 : Nat) : Int), wrap_i64 (by omega) (by omega), j + 1, ⟨⟨?_, rfl⟩, rfl, Store.le_refl _⟩, hjl, hmj⟩
          have e0 : rB (x.1 != 1 || ((stopsS (l.take i)).take (j + 1)).contains x.2.1) = rB (y == x.2.1) := by
            rw [hcon, ← Bool.or_assoc, h1]; rfl
          repeat' first | exact trivial | exact rfl | exact e0.symm | refine And.intro ?_ ?_
      · have hje : j = (stopsS (l.take i)).length := by
          have : ¬ ((j : Nat) : Int) < (((stopsS (l.take i)).length : Nat) : Int) := of_decide_eq_false hc
          omega
        subst hje
        have htt : List.take (stopsS (l.take i)).length (stopsS (l.take i)) = stopsS (l.take i) := List.take_length
        by_cases h2 : x.1 = 1 ∧ (stopsS (l.take i)).contains x.2.1 = false
        · refine onE (by rw [htt, h2.2, h2.1]; rfl) ⟨[x.2.1], ⟨rfl, rfl⟩, fun _ _ => trivial, by show ((stopsS (l.take i)).length + 1) * 8 ≤ 140737488355328; omega, ?_⟩
          refine ⟨((i + 1 : Nat) : Int), wrap_i64 (by omega) (by omega), i + 1, ⟨⟨?_, rfl⟩, ?_, Store.le_refl _⟩, hil, hmu⟩
          · repeat' first | exact trivial | exact rfl | exact eN.symm | refine And.intro ?_ ?_
          · show [Res.row (.int .i64) 3 (stopsS (l.take i) ++ [x.2.1])] = [Res.row (.int .i64) 3 (stopsS (l.take (i + 1)))]
            rw [hst, stopStep, if_pos h2]
        · refine offE (by
            rw [htt]
            cases hq : (stopsS (l.take i)).contains x.2.1 with
            | true => simp
            | false =>
              have : x.1 ≠ 1 := fun e => h2 ⟨e, hq⟩
              have : (x.1 != 1) = true := by simpa using this
              rw [this]; rfl) ?_
          refine ⟨((i + 1 : Nat) : Int), wrap_i64 (by omega) (by omega), i + 1, ⟨⟨?_, rfl⟩, ?_, Store.le_refl _⟩, hil, hmu⟩
          · repeat' first | exact trivial | exact rfl | exact eN.symm | refine And.intro ?_ ?_
          · show [Res.row (.int .i64) 3 (stopsS (l.take i))] = [Res.row (.int .i64) 3 (stopsS (l.take (i + 1)))]
            rw [hst, stopStep, if_neg h2]
  · have hil : i = l.length := by
      have : ¬ ((i : Nat) : Int) < ((l.length : Nat) : Int) := of_decide_eq_false h
      omega
    subst hil
    have htk : List.take l.length l = l := List.take_length
    have hsl := stops_len l
    refine ⟨⟨_, rfl, rfl, rfl⟩, .inl ⟨_, _, _, stops_spec S (p, l.length, c) l rfl hr (by omega), fun S1 q hS1 hq => ?_⟩⟩
    obtain ⟨ps, ns, cs⟩ := q
    obtain ⟨hn1, hr1⟩ := hq
    simp only at hn1 hr1
    subst hn1
    refine offE (by show (!(((stopsS l).length : Int) == ((stopsS (List.take l.length l)).length : Int))) = false; rw [htk]; simp) ?_
    refine ⟨⟨_, rfl, rfl, rfl⟩, .inl ⟨_, _, _, count_spec S1 thread (p, l.length, c) l rfl (hr.le hS1) (by omega), fun S2 k hS2 hk => ?_⟩⟩
    obtain rfl : k = (countR thread l : Int) := hk
    refine offE (by show (!((countR thread l : Int) == (countR thread (List.take l.length l) : Int))) = false; rw [htk]; simp) ?_
    have hr2 := hr1.le hS2
    refine ⟨[], [], Nat, [13] ++ List.range' 77 12, fun j => [(76, rI j)], fun _ => [.row (.int .i64) 3 (stopsS (List.take l.length l))], fun _ => S2, fun j => j ≤ (stopsS l).length, fun j => (stopsS l).length - j, ?_⟩
    refine And.intro (Exists.intro 0 (And.intro (And.intro (And.intro ?_ rfl) (And.intro rfl (Store.le_refl _))) (Nat.zero_le _))) ?_
    · repeat' first | exact trivial | exact rfl | refine And.intro ?_ ?_
    rintro j hj
    refine And.intro (fun hc => ?_) (fun hc => ?_)
    · have hjl : j < (stopsS l).length := by
        have : ((j : Nat) : Int) < (((stopsS l).length : Nat) : Int) := of_decide_eq_true hc
        omega
      obtain ⟨y, hy⟩ : ∃ y, (stopsS l)[j]? = some y := ⟨_, List.getElem?_eq_getElem hjl⟩
      obtain ⟨b5, o5, hp5, hok5, hrd5⟩ := row_at hr2 hy
      refine ⟨or6_25, [], oF6_25, by kernel_rfl, ?_⟩
      refine ⟨by omega, by show ((j : Nat) : Int) < ((stopsS l).length : Int); omega, b5, o5, hp5, y, hok5, hrd5, by omega, by show ((j : Nat) : Int) < ((stopsS (List.take l.length l)).length : Int); rw [htk]; omega, y, by rw [htk]; exact hy, ?_⟩
      refine offE (by show (!(y == y)) = false; simp) ⟨((j + 1 : Nat) : Int), wrap_i64 (by omega) (by omega), j + 1, ⟨⟨?_, rfl⟩, rfl, Store.le_refl _⟩, hjl, by show (stopsS l).length - (j + 1) < (stopsS l).length - j; omega⟩
      repeat' first | exact trivial | exact rfl | refine And.intro ?_ ?_
    · refine ⟨⟨_, rfl, rfl, rfl⟩, .inl ⟨_, _, _, awake_spec S2 ((hL.le hS1).le hS2), fun S3 b hS3 hb => ?_⟩⟩
      exact ⟨rfl, _, rfl, hb⟩
end Go.Proofs.YtlecojgodkidkaaDoor
