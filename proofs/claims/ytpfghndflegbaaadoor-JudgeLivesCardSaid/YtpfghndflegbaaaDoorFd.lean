/- law58: the reference's May. -/
import Derived.Test.YtpfghndflegbaaaDoorFc
namespace Go.Proofs.YtpfghndflegbaaaDoor
open Go Go.Vc
set_option maxRecDepth 100000

def mayE (o : List Int) (k : Nat) (e : Nat) : Bool := decide ((k : Int) ∉ o) && o.all fun a => decide (a ≤ (e : Int))
theorem refMay_spec (S : Store) (po : Hd) (ord : List Int) (hlo : ord.length = po.2.1) (hro : RowRd S po.1 shI ord) (hno : ord.length ≤ 1000000) (p : Hd) (l : List shE.T) (k : Nat) (x : shE.T) (hl : l.length = p.2.1) (hr : RowRd S p.1 shE l) (hn : l.length ≤ 1000000) (hk : l[k]? = some x) :
    Pure Tryd.prog 37 S [slV po, .int .i64 k, slV p] rB (fun _ b => b = mayE ord k (endE x.2.1 (k + 1) (l.drop (k + 1))).1) := by
  obtain ⟨po, no, co⟩ := po
  simp only at hlo hro
  subst hlo
  refine pure_vc agrees Tryd.func37 rfl rfl (fun S S' q hle h => h) ?_
  refine ⟨⟨_, rfl, rfl, rfl⟩, .inl ⟨_, _, _, in_spec S (po, ord.length, co) ord k rfl hro hno, fun S1 b hS1 hb => ?_⟩⟩
  obtain rfl : b = decide ((k : Int) ∈ ord) := hb
  by_cases hin : (k : Int) ∈ ord
  · refine onE (decide_eq_true hin) ⟨rfl, false, rfl, ?_⟩
    unfold mayE
    simp [hin]
  refine offE (decide_eq_false hin) ⟨⟨_, rfl, rfl, rfl⟩, .inl ⟨_, _, _, end_spec S1 p l k x hl (hr.le hS1) hn hk, fun S2 _ hS2 _ => ?_⟩⟩
  have hr2 := (hro.le hS1).le hS2
  generalize endE x.2.1 (k + 1) (l.drop (k + 1)) = q
  obtain ⟨e, ans⟩ := q
  refine ⟨[], [], Nat, List.range' 19 12, fun i => [(9, rI i)], fun _ => [], fun _ => S2, fun i => i ≤ ord.length ∧ ∀ a ∈ ord.take i, a ≤ (e : Int), fun i => ord.length - i, ?_⟩
  refine And.intro (Exists.intro 0 (And.intro (And.intro (And.intro ?_ rfl) (And.intro rfl (Store.le_refl _))) ⟨Nat.zero_le _, by simp⟩)) ?_
  · repeat' first | exact trivial | exact rfl | refine And.intro ?_ ?_
  rintro i ⟨hi, hall⟩
  have i0 : (0 : Int) ≤ ((i : Nat) : Int) := Int.natCast_nonneg _
  refine And.intro (fun h => ?_) (fun h => ?_)
  · have hil : i < ord.length := by
      have : ((i : Nat) : Int) < ((ord.length : Nat) : Int) := of_decide_eq_true h
      omega
    obtain ⟨y, hy⟩ : ∃ y, ord[i]? = some y := ⟨_, List.getElem?_eq_getElem hil⟩
    obtain ⟨b, o, hp, hok, hrd⟩ := row_at hr2 hy
    have htk : ord.take (i + 1) = ord.take i ++ [y] := by rw [List.take_add_one, hy]; rfl
    refine ⟨i0, by show ((i : Nat) : Int) < (ord.length : Int); omega, b, o, hp, y, hok, hrd, ?_⟩
    by_cases hgt : y > (e : Int)
    · refine onE (decide_eq_true hgt) ⟨rfl, false, rfl, ?_⟩
      have : (ord.all fun a => decide (a ≤ (e : Int))) = false := by
        rw [List.all_eq_false]
        exact ⟨y, List.mem_of_getElem? hy, by simp; omega⟩
      show false = mayE ord k e
      unfold mayE
      rw [this, Bool.and_false]
    · refine offE (decide_eq_false hgt) ⟨((i + 1 : Nat) : Int), wrap_i64 (by omega) (by omega), i + 1, ⟨⟨?_, rfl⟩, rfl, Store.le_refl _⟩, ⟨hil, ?_⟩, by show ord.length - (i + 1) < ord.length - i; omega⟩
      · repeat' first | exact trivial | exact rfl | refine And.intro ?_ ?_
      · intro a ha
        rw [htk] at ha
        rcases List.mem_append.1 ha with ha | ha
        · exact hall a ha
        · rw [List.mem_singleton.1 ha]; omega
  · have hil : i = ord.length := by
      have : ¬ ((i : Nat) : Int) < ((ord.length : Nat) : Int) := of_decide_eq_false h
      omega
    subst hil
    rw [List.take_length] at hall
    refine ⟨rfl, true, rfl, ?_⟩
    have : (ord.all fun a => decide (a ≤ (e : Int))) = true := by
      rw [List.all_eq_true]
      exact fun a ha => decide_eq_true (hall a ha)
    show true = mayE ord k e
    unfold mayE
    rw [this, decide_eq_true hin]; rfl
end Go.Proofs.YtpfghndflegbaaaDoor
