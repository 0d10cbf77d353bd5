/- law09: rows of rows in a pool; the picks that follow. -/
import Derived.Test.YtapblcfbmaikjaaGreatDoorGk
namespace Go.Proofs.YtapblcfbmaikjaaGreatDoor
open Go Go.Vc Go.Sort Go.RowKit Go.Maps
set_option maxRecDepth 100000
set_option maxHeartbeats 8000000

abbrev HL := Hd × List Li.Wd
def pvs : List HL → List (Value × List Li.Wd)
  | [] => []
  | e :: es => if e.1.1.isNone = true then pvs es else (slV e.1, e.2) :: pvs es
theorem pvs_append : ∀ (a b : List HL), pvs (a ++ b) = pvs a ++ pvs b
  | [], _ => rfl
  | e :: a, b => by
    rw [List.cons_append, pvs, pvs, pvs_append a b]
    split <;> rfl
theorem pvs_some {e : HL} (h : e.1.1.isNone = false) (B : List HL) : pvs (e :: B) = (slV e.1, e.2) :: pvs B := by rw [pvs, if_neg (by rw [h]; simp)]
theorem pvs_none {e : HL} (h : e.1.1.isNone = true) (B : List HL) : pvs (e :: B) = pvs B := by rw [pvs, if_pos h]
/-- What holds of each row. -/
def okE (e : HL) : Prop := e.1.2.1 = e.2.length ∧ (e.1.1 = none → e.1 = (none, 0, 0) ∧ e.2 = []) ∧ e.1.2.1 ≤ e.1.2.2 ∧ (∀ w ∈ e.2, okW w)
theorem td_of {S : Store} {p : Option Addr} {c : Nat} {es : List HL} (hok : ∀ e ∈ es, okE e) (hr : RowRd S p .slice (es.map (·.1))) (h : ∀ x ∈ pvs es, RowIs S x.1 shW x.2) : TdIs S (p, es.length, c) (es.map (·.2)) := by
  refine ⟨es, rfl, rfl, hr, fun z hz => ?_⟩
  have ho := hok z hz
  refine ⟨ho.1, ?_, ho.2.2.2⟩
  cases hn : z.1.1.isNone with
  | true =>
    have := ho.2.1 (by simp at hn; exact hn)
    rw [this.2]
    exact ⟨.inl rfl, fun x hx => (by cases hx)⟩
  | false =>
    obtain ⟨A, B, rfl⟩ := List.append_of_mem hz
    have := h (slV z.1, z.2) (by rw [pvs_append, pvs_some hn]; simp)
    exact this.slice.2
theorem split_at {α : Type} {l : List α} {k : Nat} (h : k < l.length) : ∃ A e B, l = A ++ e :: B ∧ A.length = k :=
  ⟨l.take k, l[k], l.drop (k + 1), by rw [List.getElem_cons_drop, List.take_append_drop], by rw [List.length_take]; omega⟩
theorem wrap_pred {x : Int} (h : inI64 x) : ∃ t, IntKind.i64.wrap (x - 1) = t ∧ ((1 ≤ x ∧ t = x - 1) ∨ (x < 1 ∧ (t < 0 ∨ t = 9223372036854775807))) := by
  by_cases h0 : x = -9223372036854775808
  · subst h0
    exact ⟨9223372036854775807, by decide, .inr ⟨by decide, .inr rfl⟩⟩
  · refine ⟨x - 1, wrap_i64 (by have := h.1; omega) (by have := h.2; omega), ?_⟩
    by_cases h1 : 1 ≤ x
    · exact .inl ⟨h1, rfl⟩
    · exact .inr ⟨by omega, .inl (by omega)⟩

theorem w_ne {a b : Li.Wd} (h : a ≠ b) : (a.1 == b.1 && (a.2.1 == b.2.1 && (a.2.2 == b.2.2 && true))) = false := by
  obtain ⟨a1, a2, a3⟩ := a
  obtain ⟨b1, b2, b3⟩ := b
  cases hh : (a1 == b1 && (a2 == b2 && (a3 == b3 && true))) with
  | false => rfl
  | true =>
    simp only [Bool.and_eq_true, beq_iff_eq, Bool.and_true] at hh
    exact absurd (by rw [hh.1, hh.2.1, hh.2.2]) h
theorem pvs_rep : ∀ n : Nat, pvs (List.replicate n ((none, 0, 0), [])) = []
  | 0 => rfl
  | n + 1 => by rw [List.replicate_succ, pvs_none rfl, pvs_rep n]
theorem pf_some {p : Option Addr} {n c : Nat} (hf : PForm p (n + 1) c) : p.isNone = false ∧ n + 1 ≤ c := by
  rcases hf with ⟨_, h, _⟩ | ⟨g, rfl, h⟩
  · exact absurd h (Nat.succ_ne_zero _)
  · exact ⟨rfl, h⟩
theorem upd_1 (A B : List HL) (e : HL) (h : Hd) (xs : List Li.Wd) : ((A ++ e :: B).map (·.1)).set A.length h = (A ++ (h, xs) :: B).map (·.1) := by simp
theorem upd_2 (A B : List HL) (e : HL) (h : Hd) (w : Li.Wd) : (A ++ (h, e.2 ++ [w]) :: B).map (·.2) = ((A ++ e :: B).map (·.2)).set A.length (((A ++ e :: B).map (·.2)).getD A.length [] ++ [w]) := by
  simp [List.getD_eq_getElem?_getD]
theorem upd_ok {A B : List HL} {e : HL} (hok : ∀ u ∈ A ++ e :: B, okE u) {p : Option Addr} {c : Nat} (hf : PForm p (e.1.2.1 + 1) c) {w : Li.Wd} (hw : okW w) : ∀ u ∈ A ++ (((p, e.1.2.1 + 1, c) : Hd), e.2 ++ [w]) :: B, okE u := fun u hu => by
  have he := hok e (by simp)
  have hp := pf_some hf
  rcases List.mem_append.1 hu with hu | hu
  · exact hok u (by simp [hu])
  rcases List.mem_cons.1 hu with rfl | hu
  · refine ⟨by show e.1.2.1 + 1 = (e.2 ++ [w]).length; rw [List.length_append, ← he.1]; rfl, fun hn => ?_, hp.2, fun v hv => ?_⟩
    · have hn : p = none := hn
      rw [hn] at hp; exact absurd hp.1 (by decide)
    · rcases List.mem_append.1 hv with hv | hv
      · exact he.2.2.2 v hv
      · simp only [List.mem_singleton] at hv
        rw [hv]; exact hw
  · exact hok u (by simp [hu])
theorem map_set_nat (l : List Nat) (k d : Nat) : (l.map fun i : Nat => (i : Int)).set k ((d + 1 : Nat) : Int) = (l.set k (d + 1)).map fun i : Nat => (i : Int) := by rw [List.map_set]
theorem getW {l : List Li.Wd} {i : Nat} (h : i < l.length) : l[i]? = some (l.getD i (0, 0, 0)) := by rw [List.getD_eq_getElem?_getD, List.getElem?_eq_getElem h]; rfl
/-- The picks that follow. -/
def tk (T : List (List Li.Act)) (i : Nat) : List Li.Pk := (List.range i).flatMap fun k => reps k (Li.lens T k)
theorem tk_succ (T : List (List Li.Act)) (i : Nat) : tk T (i + 1) = tk T i ++ reps i (Li.lens T i) := by unfold tk; rw [List.range_succ, List.flatMap_append]; simp
theorem reps_len (k j : Nat) : (reps k j).length = j := by unfold reps; rw [List.length_map, List.length_range]
theorem tk_len {T : List (List Li.Act)} (h8 : ∀ l ∈ T, l.length ≤ 8) : ∀ i, (tk T i).length ≤ 8 * i
  | 0 => Nat.le_refl _
  | i + 1 => by
    have := tk_len h8 i
    rw [tk_succ, List.length_append, reps_len]
    have : Li.lens T i ≤ 8 := by
      unfold Li.lens
      by_cases hi : i < T.length
      · exact h8 _ (Li.getD_mem hi)
      · rw [List.getD_eq_getElem?_getD, List.getElem?_eq_none (by omega)]; exact Nat.zero_le _
    omega
theorem tk_ok {T : List (List Li.Act)} {i : Nat} (hi : i ≤ 1000) : ∀ p ∈ tk T i, p.1 = 0 ∧ inI64 p.2.1 := fun p hp => by
  obtain ⟨k, hk, hp⟩ := List.mem_flatMap.1 hp
  obtain ⟨_, -, rfl⟩ := List.mem_map.1 hp
  have := List.mem_range.1 hk
  exact ⟨rfl, by show -9223372036854775808 ≤ (k : Int) + 1; omega, by show (k : Int) + 1 ≤ 9223372036854775807; omega⟩
theorem tail_tk (T : List (List Li.Act)) : Li.tailR T (Li.lens T) = tk T T.length := rfl
theorem lens_at {T : List (List Li.Act)} {i : Nat} {y : List Li.Act} (h : T[i]? = some y) : Li.lens T i = y.length := by unfold Li.lens; rw [List.getD_eq_getElem?_getD, h]; rfl
end Go.Proofs.YtapblcfbmaikjaaGreatDoor
