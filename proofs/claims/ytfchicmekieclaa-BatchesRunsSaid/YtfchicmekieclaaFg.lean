/- law54: Runs. -/
import Derived.Test.YtfchicmekieclaaFf
import Derived.Test.YtfchicmekieclaaOr
namespace Go.Proofs.Ytfchicmekieclaa
open Go Go.Vc
set_option maxRecDepth 100000

/-- One operation more. -/
def runStep (out : List (List O)) (o : O) : List (List O) := match out.getLast? with
  | none => [[o]]
  | some r => if r.all (fun y => commute y o) = true then out.dropLast ++ [r ++ [o]] else out ++ [[o]]
def runs (l : List O) : List (List O) := l.foldl runStep []
theorem runs_snoc (l : List O) (o : O) : runs (l ++ [o]) = runStep (runs l) o := by simp [runs]

theorem runs_len (l : List O) : (runs l).length ≤ l.length := by
  have key : ∀ (l : List O) (out : List (List O)), (l.foldl runStep out).length ≤ out.length + l.length := by
    intro l
    induction l with
    | nil => intro out; simp
    | cons o l ih =>
      intro out
      simp only [List.foldl_cons, List.length_cons]
      have h1 := ih (runStep out o)
      have h2 : (runStep out o).length ≤ out.length + 1 := by
        unfold runStep
        split
        · simp
        · rename_i r hr
          split
          · have : out ≠ [] := by intro e; subst e; simp at hr
            have := List.length_pos_iff.2 this
            simp; try omega
          · simp
      omega
  simpa [runs] using key l []

abbrev Hd := Option Addr × Nat × Nat
/-- A row of a pool. -/
@[reducible] def pv (e : Hd × List O) : Value × List O := (Value.slice e.1.1 e.1.2.1 e.1.2.2, e.2)
@[reducible] def hd (e : Hd × List O) : Hd := e.1
@[reducible] def ro (e : Hd × List O) : List O := e.2

set_option maxHeartbeats 4000000 in
theorem runs_spec (S : Store) (p : Hd) (l : List O) (hl : l.length = p.2.1) (hr : RowRd S p.1 shO l) (hn : l.length ≤ 1000000) :
    Pure Try.prog 22 S [slV p] (A := Hd) (fun q => .c (.v (slV q))) (fun S' q => ∃ hs : List Hd, q.2.1 = hs.length ∧ RowRd S' q.1 .slice hs ∧ RowsRd S' shO hs (runs l)) := by
  obtain ⟨p, n, c⟩ := p
  simp only at hl hr
  subst hl
  refine pure_vc agrees Try.func22 rfl rfl (fun S S' q hle ⟨hs, h1, h2, h3⟩ => ⟨hs, h1, h2.le hle, h3.le hle⟩) ?_
  refine ⟨[], [(3, .slice, 23), (100000, shO, 33)], Nat × List (Hd × List O), [5, 6, 10, 11, 12, 13, 14, 15, 16, 17, 18, 19, 20, 21, 22, 23, 24, 25, 26, 27, 28, 29, 30, 31, 32, 33, 34, 35, 36, 37, 38, 39, 40, 41, 42],
    fun a => [(3, .c (.ref 0)), (9, .c (.v (.int .i64 a.1)))], fun a => [.row .slice 23 (a.2.map hd), .pool shO 33 (a.2.map pv)], fun _ => S,
    fun a => a.1 ≤ l.length ∧ a.2.map ro = runs (l.take a.1) ∧ ∀ e ∈ a.2, e.1.2.1 = e.2.length ∧ e.2.length ≤ a.1 ∧ PForm e.1.1 e.1.2.1 e.1.2.2, fun a => l.length - a.1, ?_⟩
  refine And.intro (Exists.intro (0, []) (And.intro (And.intro (And.intro ?_ rfl) (And.intro rfl (Store.le_refl _))) ⟨Nat.zero_le _, rfl, by simp⟩)) ?_
  · repeat' first | exact trivial | exact rfl | refine And.intro ?_ ?_
  rintro ⟨i, es⟩ ⟨hi, hruns, hes⟩
  simp only at hi hruns hes
  have hlen : es.length ≤ i := by
    have h1 := congrArg List.length hruns
    have h2 := runs_len (l.take i)
    simp only [List.length_map] at h1
    have h3 : (l.take i).length ≤ i := by simp; omega
    omega
  refine And.intro (fun h => ?_) (fun h => ?_)
  · have hil : i < l.length := by simpa using h
    have hx : l[i]? = some l[i] := List.getElem?_eq_getElem hil
    obtain ⟨b, o, hp, hok, hrd⟩ := row_at hr hx
    have htake : l.take (i + 1) = l.take i ++ [l[i]] := by rw [List.take_add_one, hx]; rfl
    refine ⟨Int.natCast_nonneg _, by simpa using h, b, o, hp, l[i], hok, fun S' hle _ => Store.rd_le hle hrd, ((es.length : Nat) : Int) - 1, ?_, or22_6, [], oF22_6, by kernel_rfl, ?_⟩
    · show IntKind.i64.wrap (((es.map hd).length : Nat) - 1 : Int) = _
      rw [List.length_map]
      exact wrap_i64 (by omega) (by omega)
    rcases List.eq_nil_or_concat es with rfl | ⟨es, e, rfl⟩
    · refine ⟨fun _ => ?_, fun h => absurd h (by decide)⟩
      refine onT ⟨rfl, fun q d hf => ⟨[(q, 1, d)], ⟨rfl, rfl⟩, fun _ _ => trivial, (show (0 + 1) * 24 ≤ 140737488355328 by omega), ((i + 1 : Nat) : Int), wrap_i64 (by omega) (by omega), (i + 1, [((q, 1, d), [l[i]])]), ⟨⟨?_, rfl⟩, rfl, Store.le_refl _⟩, ⟨hil, ?_, ?_⟩, ?_⟩⟩
      · repeat' first | exact trivial | exact rfl | refine And.intro ?_ ?_
      · show [[l[i]]] = runs (l.take (i + 1))
        rw [htake, runs_snoc, ← hruns]
        rfl
      · intro e he
        simp only [List.mem_singleton] at he
        subst he
        exact ⟨rfl, by simp, hf⟩
      · show l.length - (i + 1) < l.length - i
        omega
    · simp only [List.concat_eq_append] at *
      have hel : (es ++ [e]).length = es.length + 1 := by simp
      have hge : (((es ++ [e]).length : Nat) : Int) - 1 = (es.length : Nat) := by rw [hel]; omega
      rw [hge]
      have hel' := hes e (by simp)
      have hgl : (runs (l.take i)).getLast? = some e.2 := by rw [← hruns]; simp
      have hdl : (runs (l.take i)).dropLast = es.map ro := by rw [← hruns]; simp
      refine ⟨fun h => absurd h (by simp; try omega), fun _ => ⟨by omega, ?_, e.1, ?_, ⟨_, rfl, rfl, rfl⟩, .inr (.inr fun S' hle hp' => ?_)⟩⟩
      · show ((es.length : Nat) : Int) < (((es ++ [e]).map hd).length : Nat)
        rw [List.length_map, hel]; omega
      · show ((es ++ [e]).map hd)[((es.length : Nat) : Int).toNat]? = _
        simp
      have hrow : RowIs S' (.slice e.1.1 e.1.2.1 e.1.2.2) shO e.2 := hp' _ (List.mem_map.2 ⟨e, by simp, rfl⟩)
      refine ⟨_, _, _, fits_spec S' e.1 e.2 hrow.slice.1.symm hrow.slice.2 (by omega) l[i], fun S'' x hS'' hx'' => ?_⟩
      have hx2 : x = e.2.all fun y => commute y l[i] := hx''
      clear hx'' hS''
      refine And.intro (fun e1 => ?_) (fun e1 => ?_)
      · have hxf : x = false := by have : (!x) = true := e1; simpa using this
        subst hxf
        refine ⟨rfl, fun q d hf => ⟨[(q, 1, d)], ⟨rfl, rfl⟩, fun _ _ => trivial, ?_, ((i + 1 : Nat) : Int), wrap_i64 (by omega) (by omega), (i + 1, (es ++ [e]) ++ [((q, 1, d), [l[i]])]), ⟨⟨?_, rfl⟩, ?_, Store.le_refl _⟩, ⟨hil, ?_, ?_⟩, ?_⟩⟩
        · show (((es ++ [e]).map hd).length + 1) * 24 ≤ _
          rw [List.length_map]; omega
        · repeat' first | exact trivial | exact rfl | refine And.intro ?_ ?_
        · show [Res.row .slice 23 ((es ++ [e]).map hd ++ [(q, 1, d)]), Res.pool shO 33 ((es ++ [e]).map pv ++ [(Value.slice q 1 d, [l[i]])])] = [Res.row .slice 23 (((es ++ [e]) ++ [((q, 1, d), [l[i]])]).map hd), Res.pool shO 33 (((es ++ [e]) ++ [((q, 1, d), [l[i]])]).map pv)]
          simp only [List.map_append, List.map_cons, List.map_nil]
        · show ((es ++ [e]) ++ [((q, 1, d), [l[i]])]).map ro = runs (l.take (i + 1))
          rw [htake, runs_snoc, runStep, hgl]
          simp only [← hx2, Bool.false_eq_true, if_false]
          rw [← hruns]
          simp
        · intro u hu
          rcases List.mem_append.1 hu with hu | hu
          · have := hes u hu; exact ⟨this.1, by omega, this.2.2⟩
          · simp only [List.mem_singleton] at hu
            subst hu
            exact ⟨rfl, by simp, hf⟩
        · show l.length - (i + 1) < l.length - i
          omega
      · have hxt : x = true := by have : (!x) = false := e1; simpa using this
        subst hxt
        refine ⟨or22_8, [0, 1], oF22_8, by kernel_rfl, by omega, ?_, e.1, ?_, ?_⟩
        · show ((es.length : Nat) : Int) < (((es ++ [e]).map hd).length : Nat)
          rw [List.length_map, hel]; omega
        · show ((es ++ [e]).map hd)[((es.length : Nat) : Int).toNat]? = _
          simp
        refine .inr ⟨1, ⟨rfl, rfl, rfl⟩, es.map pv, [], e.1.1, e.1.2.1, e.1.2.2, e.2, [l[i]], rfl, Nat.le_of_eq hel'.1, .inl ?_, ⟨rfl, rfl⟩, fun _ _ => ⟨trivial, trivial, trivial⟩, ?_, fun p' c' hf => ?_⟩
        · show (es ++ [e]).map pv = _
          rw [List.map_append, hel'.1.symm]
          rfl
        · show (e.1.2.1 + 1) * 24 ≤ 140737488355328
          omega
        refine ⟨by omega, ?_, e.1, (p', e.1.2.1 + 1, c'), ?_, trivial, rfl, Nat.le_refl _, ((i + 1 : Nat) : Int), wrap_i64 (by omega) (by omega), (i + 1, es ++ [((p', e.1.2.1 + 1, c'), e.2 ++ [l[i]])]), ⟨⟨?_, rfl⟩, ?_, Store.le_refl _⟩, ⟨hil, ?_, ?_⟩, ?_⟩
        · show ((es.length : Nat) : Int) < (((es ++ [e]).map hd).length : Nat)
          rw [List.length_map, hel]; omega
        · show ((es ++ [e]).map hd)[((es.length : Nat) : Int).toNat]? = _
          simp
        · repeat' first | exact trivial | exact rfl | refine And.intro ?_ ?_
        · show [Res.row .slice 23 (((es ++ [e]).map hd).set ((es.length : Nat) : Int).toNat (p', e.1.2.1 + 1, c')), Res.pool shO 33 (es.map pv ++ [(Value.slice p' (e.1.2.1 + 1) c', e.2.take e.1.2.1 ++ [l[i]])])] = [Res.row .slice 23 ((es ++ [((p', e.1.2.1 + 1, c'), e.2 ++ [l[i]])]).map hd), Res.pool shO 33 ((es ++ [((p', e.1.2.1 + 1, c'), e.2 ++ [l[i]])]).map pv)]
          have e1 : ((es ++ [e]).map hd).set ((es.length : Nat) : Int).toNat (p', e.1.2.1 + 1, c') = es.map hd ++ [(p', e.1.2.1 + 1, c')] := by
            simp only [List.map_append, List.map_cons, List.map_nil, Int.toNat_natCast]
            rw [List.set_append_right _ _ (by simp)]
            simp
          rw [e1, List.take_of_length_le (by omega)]
          simp only [List.map_append, List.map_cons, List.map_nil]
        · show (es ++ [((p', e.1.2.1 + 1, c'), e.2 ++ [l[i]])]).map ro = runs (l.take (i + 1))
          rw [htake, runs_snoc, runStep, hgl]
          simp only [← hx2, if_true]
          rw [hdl]
          simp
        · intro u hu
          rcases List.mem_append.1 hu with hu | hu
          · have := hes u (by simp [hu]); exact ⟨this.1, by omega, this.2.2⟩
          · simp only [List.mem_singleton] at hu
            subst hu
            exact ⟨by simp [hel'.1], by simp; omega, hf⟩
        · show l.length - (i + 1) < l.length - i
          omega
  · refine fun S1 h1 hp1 q cap S2 h2 hr2 => And.intro rfl (Exists.intro (q, _, _) (And.intro rfl ?_))
    have hil : i = l.length := by have : ¬ i < l.length := by simpa using h
                                  omega
    subst hil
    rw [List.take_length] at hruns
    refine ⟨es.map hd, (List.length_map ..).symm ▸ rfl, hr2, ?_⟩
    rw [← hruns]
    exact (rows_of_pool hp1).le h2
end Go.Proofs.Ytfchicmekieclaa
