/- law63: Few; the law Back. -/
import Derived.Test.YtikpdgjdeikinaaGreatDoorFs
import Derived.Test.YtikpdgjdeikinaaGreatDoorFo
namespace Go.Proofs.YtikpdgjdeikinaaGreatDoor
open Go Go.Vc Go.Sort
set_option maxRecDepth 100000
set_option maxHeartbeats 8000000

/-- Words and commands of whatever length, that the store knows. -/
structure WsRaw (S : Store) (q : Hd) (ws : List Sc.Bs) : Prop where
  len : q.2.1 = ws.length
  cap : q.2.1 ≤ q.2.2
  row : RowRd S q.1 .str (ws.map bs)
structure CRaw (S : Store) (x : Cx) (c : Sc.Cmd) : Prop where
  line : x.1 = c.1
  op : x.2.1 = c.2.1
  ns : NsIs S x.2.2.1 c.2.2.1
  ws : WsRaw S x.2.2.2 c.2.2.2
def LRaw (S : Store) (q : Hd) (l : List Sc.Cmd) : Prop := l.length ≤ 1000000000000000 ∧ ∃ L : List (Cx × Sc.Cmd), L.map (·.2) = l ∧ q.2.1 = L.length ∧ q.2.1 ≤ q.2.2 ∧ RowRd S q.1 shC (L.map (·.1)) ∧ ∀ z ∈ L, CRaw S z.1 z.2
def fewC (c : Sc.Cmd) : Bool := decide (c.2.2.1.length ≤ 20) && (decide (c.2.2.2.length ≤ 5) && c.2.2.2.all fun w => decide (w.length ≤ 400))
def fewL (l : List Sc.Cmd) : Bool := l.all fewC && decide (l.length ≤ 60)
theorem few_is {S : Store} {q : Hd} {l : List Sc.Cmd} (h : LRaw S q l) (hf : fewL l = true) : LIs S q l := by
  obtain ⟨-, L, rfl, h1, h2, h3, h4⟩ := h
  refine ⟨L, rfl, h1, h2, h3, fun z hz => ?_⟩
  obtain ⟨a, b, c, d⟩ := h4 z hz
  refine ⟨a, b, c, ⟨d.len, d.cap, d.row, fun w hw => ?_⟩⟩
  unfold fewL at hf
  rw [Bool.and_eq_true] at hf
  have := List.all_eq_true.1 hf.1 z.2 (List.mem_map.2 ⟨z, hz, rfl⟩)
  unfold fewC at this
  simp only [Bool.and_eq_true, List.all_eq_true, decide_eq_true_eq] at this
  have := this.2.2 w hw
  omega
theorem few_spec' (S : Store) (q : Hd) (l : List Sc.Cmd) (hl : LRaw S q l) : Pure Tryz.prog 4 S [slV q] (A := Unit) (fun _ => rB (fewL l)) (fun _ _ => True) := by
  obtain ⟨hbig, L, rfl, hlen, hcap, hr, hK⟩ := hl
  obtain ⟨p, n, c⟩ := q
  have hlen : n = L.length := hlen
  subst hlen
  have hr : RowRd S p shC (L.map (·.1)) := hr
  rw [List.length_map] at hbig
  refine pure_vc agrees Tryz.func4 rfl rfl (fun S S' q hle h => h) ?_
  have hno : ∀ (i : Nat) z, L[i]? = some z → fewC z.2 = false → fewL (L.map (·.2)) = false := fun i z hz hf => by
    unfold fewL
    cases h : (L.map (·.2)).all fewC with
    | false => rfl
    | true => rw [List.all_eq_true.1 h z.2 (List.mem_map.2 ⟨z, List.mem_of_getElem? hz, rfl⟩)] at hf; cases hf
  refine ⟨[], [], Nat, [3, 4, 5, 6] ++ List.range' 10 25, fun i => [(9, rI i)], fun _ => [], fun _ => S, fun i => i ≤ L.length ∧ ((L.take i).map (·.2)).all fewC = true, fun i => L.length - i, ?_⟩
  refine And.intro (Exists.intro 0 (And.intro (And.intro (And.intro ?_ rfl) (And.intro rfl (Store.le_refl _))) ⟨Nat.zero_le _, rfl⟩)) ?_
  · repeat' first | exact trivial | exact rfl | refine And.intro ?_ ?_
  rintro i ⟨hi, hall⟩
  have hi : i ≤ L.length := hi
  have i0 : (0 : Int) ≤ ((i : Nat) : Int) := Int.natCast_nonneg _
  refine And.intro (fun h => ?_) (fun h => ?_)
  · have hil : i < L.length := by
      have : ((i : Nat) : Int) < ((L.length : Nat) : Int) := of_decide_eq_true h
      omega
    obtain ⟨z, hz⟩ : ∃ z, L[i]? = some z := ⟨_, List.getElem?_eq_getElem hil⟩
    obtain ⟨b, o, hp, hok, hrd⟩ := row_at hr (i := i) (x := z.1) (by rw [List.getElem?_map, hz]; rfl)
    have hcz := hK z (List.mem_of_getElem? hz)
    have hno := hno i z hz
    have htk : (L.take (i + 1)).map (·.2) = (L.take i).map (·.2) ++ [z.2] := by rw [List.take_add_one, hz, List.map_append]; rfl
    obtain ⟨⟨xl, xo, ⟨np, nn, nc⟩, ⟨wp, wn, wc⟩⟩, cz⟩ := z
    have hnn : nn = cz.2.2.1.length := hcz.ns.len
    have hwn : wn = cz.2.2.2.length := hcz.ws.len
    have hwr : RowRd S wp .str (cz.2.2.2.map bs) := hcz.ws.row
    have hno : fewC cz = false → fewL (L.map (·.2)) = false := hno
    refine ⟨i0, by show ((i : Nat) : Int) < (L.length : Int); omega, b, o, hp, (xl, xo, (np, nn, nc), (wp, wn, wc)), hok, hrd, ?_⟩
    by_cases h20 : nn > 20
    · refine onE (decide_eq_true (show ((nn : Nat) : Int) > 20 by omega)) (onT ⟨rfl, (), ?_, trivial⟩)
      rw [hno (by unfold fewC; rw [decide_eq_false (by omega)]; rfl)]; rfl
    refine offE (decide_eq_false (show ¬ ((nn : Nat) : Int) > 20 by omega)) ?_
    by_cases h5 : wn > 5
    · refine onE (decide_eq_true (show ((wn : Nat) : Int) > 5 by omega)) ⟨rfl, (), ?_, trivial⟩
      rw [hno (by unfold fewC; rw [decide_eq_false (show ¬ cz.2.2.2.length ≤ 5 by omega), Bool.false_and, Bool.and_false])]; rfl
    refine offE (decide_eq_false (show ¬ ((wn : Nat) : Int) > 5 by omega)) ?_
    refine ⟨[], [], Nat, [6] ++ List.range' 27 7, fun k => [(26, rI k)], fun _ => [.box [.v (.int .i64 xl), .v (.int .i64 xo), .v (.slice np nn nc), .v (.slice wp wn wc)]], fun _ => S, fun k => k ≤ cz.2.2.2.length ∧ (cz.2.2.2.take k).all (fun w => decide (w.length ≤ 400)) = true, fun k => cz.2.2.2.length - k, ?_⟩
    refine And.intro (Exists.intro 0 (And.intro (And.intro (And.intro ?_ rfl) (And.intro rfl (Store.le_refl _))) ⟨Nat.zero_le _, rfl⟩)) ?_
    · repeat' first | exact trivial | exact rfl | refine And.intro ?_ ?_
    rintro k ⟨hk, hka⟩
    have hk : k ≤ cz.2.2.2.length := hk
    have k0 : (0 : Int) ≤ ((k : Nat) : Int) := Int.natCast_nonneg _
    refine And.intro (fun h => ?_) (fun h => ?_)
    · have hkl : k < cz.2.2.2.length := by
        have : ((k : Nat) : Int) < ((wn : Nat) : Int) := of_decide_eq_true h
        omega
      obtain ⟨w, hw⟩ : ∃ w, cz.2.2.2[k]? = some w := ⟨_, List.getElem?_eq_getElem hkl⟩
      have hbw := bs_size w
      obtain ⟨b2, o2, hp2, -, hrd2⟩ := row_at hwr (i := k) (x := bs w) (by rw [List.getElem?_map, hw]; rfl)
      refine ⟨k0, by show ((k : Nat) : Int) < ((wn : Nat) : Int); omega, b2, o2, hp2, bs w, trivial, hrd2, ?_⟩
      by_cases h4 : w.length > 400
      · refine onE (decide_eq_true (by show ((bs w).size : Int) > 400; omega)) ⟨rfl, (), ?_, trivial⟩
        have : cz.2.2.2.all (fun w => decide (w.length ≤ 400)) = false := by
          cases hq : cz.2.2.2.all (fun w => decide (w.length ≤ 400)) with
          | false => rfl
          | true => have := List.all_eq_true.1 hq w (List.mem_of_getElem? hw); simp at this; omega
        rw [hno (by unfold fewC; rw [this, Bool.and_false, Bool.and_false])]; rfl
      · refine offE (decide_eq_false (by show ¬ ((bs w).size : Int) > 400; omega)) ⟨((k + 1 : Nat) : Int), wrap_i64 (by omega) (by omega), k + 1, ⟨⟨?_, rfl⟩, rfl, Store.le_refl _⟩, ⟨hkl, by rw [List.take_add_one, hw, List.all_append, hka]; simp; omega⟩, by show cz.2.2.2.length - (k + 1) < cz.2.2.2.length - k; omega⟩
        repeat' first | exact trivial | exact rfl | refine And.intro ?_ ?_
    · have hkl : k = cz.2.2.2.length := by
        have : ¬ ((k : Nat) : Int) < ((wn : Nat) : Int) := of_decide_eq_false h
        omega
      rw [hkl, List.take_length] at hka
      have hfz : fewC cz = true := by unfold fewC; rw [hka, decide_eq_true (by omega), decide_eq_true (by omega)]; rfl
      refine ⟨((i + 1 : Nat) : Int), wrap_i64 (by omega) (by omega), i + 1, ⟨⟨?_, rfl⟩, rfl, Store.le_refl _⟩, ⟨hil, by rw [htk, List.all_append, hall]; simp [hfz]⟩, by show L.length - (i + 1) < L.length - i; omega⟩
      repeat' first | exact trivial | exact rfl | refine And.intro ?_ ?_
  · have hil : i = L.length := by
      have : ¬ ((i : Nat) : Int) < ((L.length : Nat) : Int) := of_decide_eq_false h
      omega
    subst hil
    rw [List.take_length] at hall
    refine ⟨rfl, (), ?_, trivial⟩
    unfold fewL
    rw [hall, Bool.true_and, List.length_map]
    have : decide (L.length ≤ 60) = decide (((L.length : Nat) : Int) ≤ 60) := decide_eq_decide.2 (by omega)
    rw [this]; rfl
theorem same_sym {lines : Bool} {a b : List Sc.Cmd} (h : sameP lines a b) : sameP lines b a := ⟨h.1.symm, fun i c d hc hd => ⟨fun q => ((h.2 i d c hd hc).1 q).symm, (h.2 i d c hd hc).2.symm⟩⟩
theorem same_renum (l : List Sc.Cmd) (n : Nat) : sameP false (Sc.renum n l) l := ⟨Sc.renum_len l n, fun i c d hc hd => by
  obtain ⟨e, he, rfl⟩ := Sc.renum_get l n i c hc
  rw [hd] at he
  obtain rfl := Option.some.inj he
  exact ⟨(fun q => by cases q), rfl⟩⟩
theorem few_parts {l : List Sc.Cmd} (h : fewL l = true) : l.length ≤ 60 ∧ ∀ c ∈ l, c.2.2.1.length ≤ 1000000 ∧ c.2.2.2.length ≤ 1000000 := by
  unfold fewL at h
  rw [Bool.and_eq_true, decide_eq_true_eq] at h
  refine ⟨h.2, fun c hc => ?_⟩
  have := List.all_eq_true.1 h.1 c hc
  unfold fewC at this
  simp only [Bool.and_eq_true, decide_eq_true_eq] at this
  omega
end Go.Proofs.YtikpdgjdeikinaaGreatDoor
