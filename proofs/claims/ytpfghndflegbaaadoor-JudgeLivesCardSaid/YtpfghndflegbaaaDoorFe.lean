/- law58: the reference's Whole. -/
import Derived.Test.YtpfghndflegbaaaDoorFd
namespace Go.Proofs.YtpfghndflegbaaaDoor
open Go Go.Vc
set_option maxRecDepth 100000

theorem callsR_at {l : List shE.T} {i : Nat} {y : Int} (h : (callsR l)[i]? = some y) : ∃ (k : Nat) (x : shE.T), y = (k : Int) ∧ l[k]? = some x ∧ x.1 = 0 := by
  have hm := List.mem_of_getElem? h
  unfold callsR at hm
  obtain ⟨⟨x, k⟩, hq, rfl⟩ := List.mem_map.1 hm
  obtain ⟨h1, h2⟩ := List.mem_filter.1 hq
  refine ⟨k, x, rfl, ?_, of_decide_eq_true h2⟩
  have := List.mem_zipIdx_iff_getElem?.1 h1
  simpa using this
/-- Has the call at this place an answer, and is it not in the order? -/
def lacks (o : List Int) (l : List shE.T) (y : Int) : Bool := match l[y.toNat]? with
  | some x => (endE x.2.1 (y.toNat + 1) (l.drop (y.toNat + 1))).2 && !decide (y ∈ o)
  | none => false
def wholeE (o : List Int) (l : List shE.T) : Bool := (callsR l).all fun y => !lacks o l y
theorem refWhole_spec (S : Store) (po : Hd) (ord : List Int) (hlo : ord.length = po.2.1) (hro : RowRd S po.1 shI ord) (hno : ord.length ≤ 1000000) (p : Hd) (l : List shE.T) (hl : l.length = p.2.1) (hr : RowRd S p.1 shE l) (hn : l.length ≤ 1000000) :
    Pure Tryd.prog 39 S [slV po, slV p] rB (fun _ b => b = wholeE ord l) := by
  refine pure_vc agrees Tryd.func39 rfl rfl (fun S S' q hle h => h) ?_
  refine ⟨⟨_, rfl, rfl, rfl⟩, .inl ⟨_, _, _, calls_spec S p l hl hr hn, fun S1 q hS1 hq => ?_⟩⟩
  obtain ⟨pc, nc, cc⟩ := q
  obtain ⟨hc1, hc2⟩ := hq
  have hc1 : nc = (callsR l).length := hc1
  subst hc1
  have hcl := callsR_len l
  have hr1 := hr.le hS1
  have hro1 := hro.le hS1
  refine ⟨[], [], Nat, [7, 8] ++ List.range' 11 25, fun i => [(6, rI i)], fun _ => [], fun _ => S1, fun i => i ≤ (callsR l).length ∧ ∀ y ∈ (callsR l).take i, lacks ord l y = false, fun i => (callsR l).length - i, ?_⟩
  refine And.intro (Exists.intro 0 (And.intro (And.intro (And.intro ?_ rfl) (And.intro rfl (Store.le_refl _))) ⟨Nat.zero_le _, by simp⟩)) ?_
  · repeat' first | exact trivial | exact rfl | refine And.intro ?_ ?_
  rintro i ⟨hi, hall⟩
  have i0 : (0 : Int) ≤ ((i : Nat) : Int) := Int.natCast_nonneg _
  refine And.intro (fun h => ?_) (fun h => ?_)
  · have hil : i < (callsR l).length := by
      have : ((i : Nat) : Int) < (((callsR l).length : Nat) : Int) := of_decide_eq_true h
      omega
    obtain ⟨y, hy⟩ : ∃ y, (callsR l)[i]? = some y := ⟨_, List.getElem?_eq_getElem hil⟩
    obtain ⟨b, o, hp, hok, hrd⟩ := row_at hc2 hy
    obtain ⟨k, x, rfl, hx, _⟩ := callsR_at hy
    have htk : (callsR l).take (i + 1) = (callsR l).take i ++ [(k : Int)] := by rw [List.take_add_one, hy]; rfl
    have hlk : lacks ord l (k : Int) = ((endE x.2.1 (k + 1) (l.drop (k + 1))).2 && !decide ((k : Int) ∈ ord)) := by unfold lacks; rw [Int.toNat_natCast, hx]
    refine ⟨i0, by show ((i : Nat) : Int) < ((callsR l).length : Int); omega, b, o, hp, (k : Int), hok, hrd, ⟨_, rfl, rfl, rfl⟩, .inl ⟨_, _, _, end_spec S1 p l k x hl hr1 hn hx, fun S2 _ hS2 _ => ?_⟩⟩
    generalize endE x.2.1 (k + 1) (l.drop (k + 1)) = q at hlk
    obtain ⟨e, ans⟩ := q
    have step : lacks ord l (k : Int) = false → ∀ y ∈ (callsR l).take (i + 1), lacks ord l y = false := fun hk y hm => by
      rw [htk] at hm
      rcases List.mem_append.1 hm with hm | hm
      · exact hall y hm
      · rw [List.mem_singleton.1 hm]; exact hk
    have hmu : (callsR l).length - (i + 1) < (callsR l).length - i := by omega
    cases ans with
    | false =>
      refine onF (onF ⟨((i + 1 : Nat) : Int), wrap_i64 (by omega) (by omega), i + 1, ⟨⟨?_, rfl⟩, rfl, hS2⟩, ⟨hil, step (by rw [hlk]; rfl)⟩, hmu⟩)
      repeat' first | exact trivial | exact rfl | refine And.intro ?_ ?_
    | true =>
      refine onT ⟨i0, by show ((i : Nat) : Int) < ((callsR l).length : Int); omega, b, o, hp, (k : Int), hok, Store.rd_le hS2 hrd, ⟨_, rfl, rfl, rfl⟩, .inl ⟨_, _, _, in_spec S2 po ord (k : Int) hlo (hro1.le hS2) hno, fun S3 u hS3 hu => ?_⟩⟩
      obtain rfl : u = decide ((k : Int) ∈ ord) := hu
      by_cases hin : (k : Int) ∈ ord
      · refine offE (by rw [decide_eq_true hin]; rfl) ⟨((i + 1 : Nat) : Int), wrap_i64 (by omega) (by omega), i + 1, ⟨⟨?_, rfl⟩, rfl, Store.le_trans hS2 hS3⟩, ⟨hil, step (by rw [hlk, decide_eq_true hin]; rfl)⟩, hmu⟩
        repeat' first | exact trivial | exact rfl | refine And.intro ?_ ?_
      · refine onE (by rw [decide_eq_false hin]; rfl) ⟨rfl, false, rfl, ?_⟩
        have : wholeE ord l = false := by
          unfold wholeE
          rw [List.all_eq_false]
          exact ⟨(k : Int), List.mem_of_getElem? hy, by rw [hlk, decide_eq_false hin]; simp⟩
        exact this.symm
  · have hil : i = (callsR l).length := by
      have : ¬ ((i : Nat) : Int) < (((callsR l).length : Nat) : Int) := of_decide_eq_false h
      omega
    subst hil
    rw [List.take_length] at hall
    refine ⟨rfl, true, rfl, ?_⟩
    have : wholeE ord l = true := by
      unfold wholeE
      rw [List.all_eq_true]
      exact fun y hy => by rw [hall y hy]; rfl
    exact this.symm
end Go.Proofs.YtpfghndflegbaaaDoor
