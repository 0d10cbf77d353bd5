/- law58: the judge's Right. -/
import Derived.Test.YtpfghndflegbaaaDoorFr
namespace Go.Proofs.YtpfghndflegbaaaDoor
open Go Go.Vc Go.Sort
set_option maxRecDepth 100000
set_option maxHeartbeats 16000000

/-- The index of the call at a place. -/
def idxC (cs : Cs) (a : Int) : Option Nat := cs.findIdx? fun c => decide ((c.place : Int) = a)
def idxI (cs : Cs) (a : Int) : Int := match idxC cs a with
  | some j => (j : Int)
  | none => -1
/-- Does a placed call begin behind the end of x? -/
def overs (cs : Cs) (pl : List Bool) (x : Jd.Cl Cd Ad) (k : Nat) : Bool := match cs[k]?, pl[k]? with
  | some y, some true => decide (x.over < y.place)
  | _, _ => false
/-- Is an order right, from a state on? -/
def rightS (D : Hd → List Int) (cs : Cs) : Int → List Bool → List Int → Bool
  | _, pl, [] => Jd.wholeS cs pl
  | st, pl, a :: o => match idxC cs a with
    | none => false
    | some j => match cs[j]? with
      | none => false
      | some x => if pl[j]? = some true ∨ (List.range cs.length).any (overs cs pl x) = true ∨ Jd.fitS x (stepE D st x.call).2 = false then false else rightS D cs (stepE D st x.call).1 (pl.set j true) o
theorem place_spec (S : Store) (c : shC.T) (b : Nat) (a : Int) (hrd : S.rd b 0 [.int .i64 a]) : Pure Tryd.prog 34 S [shC.val c, .pointer (some ⟨b, 0, none⟩)] rB (fun _ r => r = decide (c.1 = a)) := by
  refine pure_vc agrees Tryd.func34 rfl rfl (fun S S' q hle h => h) ?_
  refine ⟨a, trivial, hrd, rfl, _, rfl, ?_⟩
  show ((c.1 : Int) == a) = decide ((c.1 : Int) = a)
  by_cases h : (c.1 : Int) = a <;> simp [h]
theorem idx_spec (S : Store) (q : Hd) (cs : Cs) (hl : (cs.map clC).length = q.2.1) (hr : RowRd S q.1 shC (cs.map clC)) (hf : cs.length ≤ 1000000) (b : Nat) (a : Int) (hrd : S.rd b 0 [.int .i64 a]) :
    Pure Tryd.prog 33 S [slV q, .func (.func 34) #[] #[.pointer (some ⟨b, 0, none⟩)]] (A := Unit) (fun _ => rI (idxI cs a)) (fun _ _ => True) := by
  obtain ⟨q, n, c⟩ := q
  simp only at hl hr
  subst hl
  have hn : (cs.map clC).length = cs.length := List.length_map ..
  refine pure_vc agrees Tryd.func33 rfl rfl (fun S S' q hle h => h) ?_
  refine ⟨[], [], Nat, [5] ++ List.range' 9 10, fun i => [(8, rI i)], fun _ => [], fun _ => S, fun i => i ≤ cs.length ∧ ∀ (j : Nat) (x : Jd.Cl Cd Ad), j < i → cs[j]? = some x → (x.place : Int) ≠ a, fun i => cs.length - i, ?_⟩
  refine And.intro (Exists.intro 0 (And.intro (And.intro (And.intro ?_ rfl) (And.intro rfl (Store.le_refl _))) ⟨Nat.zero_le _, fun j x h => absurd h (Nat.not_lt_zero _)⟩)) ?_
  · repeat' first | exact trivial | exact rfl | refine And.intro ?_ ?_
  rintro i ⟨hi, hinv⟩
  have i0 : (0 : Int) ≤ ((i : Nat) : Int) := Int.natCast_nonneg _
  refine And.intro (fun h => ?_) (fun h => ?_)
  · have hil : i < cs.length := by
      have : ((i : Nat) : Int) < (((cs.map clC).length : Nat) : Int) := of_decide_eq_true h
      omega
    obtain ⟨x, hx⟩ : ∃ x, cs[i]? = some x := ⟨_, List.getElem?_eq_getElem hil⟩
    obtain ⟨b1, o1, hp1, hok1, hrd1⟩ := row_at hr (map_at hx)
    refine ⟨i0, by show ((i : Nat) : Int) < ((cs.map clC).length : Int); omega, b1, o1, hp1, clC x, hok1, hrd1, 34, #[], #[.pointer (some ⟨b, 0, none⟩)], rfl, rfl, fun v hv => ?_, ⟨_, rfl, rfl, rfl⟩, .inl ⟨_, _, _, place_spec S (clC x) b a hrd, fun S1 r hS1 hr1 => ?_⟩⟩
    · have : v = .pointer (some ⟨b, 0, none⟩) := by simpa using hv
      rw [this]; rfl
    have hr1 : r = decide ((x.place : Int) = a) := hr1
    subst hr1
    by_cases e : (x.place : Int) = a
    · refine onE (decide_eq_true e) ⟨rfl, (), ?_, trivial⟩
      have : idxI cs a = (i : Int) := by
        have hf : idxC cs a = some i := by
          unfold idxC
          rw [List.findIdx?_eq_some_iff_getElem]
          refine ⟨hil, ?_, fun j hj => ?_⟩
          · rw [List.getElem?_eq_getElem hil] at hx
            rw [Option.some.inj hx]
            exact decide_eq_true e
          · have := hinv j _ hj (List.getElem?_eq_getElem (by omega))
            simpa using this
        unfold idxI; rw [hf]
      show rI (idxI cs a) = rI ((i : Nat) : Int)
      rw [this]
    · refine offE (decide_eq_false e) ⟨((i + 1 : Nat) : Int), wrap_i64 (by omega) (by omega), i + 1, ⟨⟨?_, rfl⟩, rfl, hS1⟩, ⟨hil, fun j y hj hy => ?_⟩, by show cs.length - (i + 1) < cs.length - i; omega⟩
      · repeat' first | exact trivial | exact rfl | refine And.intro ?_ ?_
      · by_cases e2 : j = i
        · subst e2
          rw [hx] at hy
          rw [← Option.some.inj hy]; exact e
        · exact hinv j y (by omega) hy
  · have hil : i = cs.length := by
      have : ¬ ((i : Nat) : Int) < (((cs.map clC).length : Nat) : Int) := of_decide_eq_false h
      omega
    refine ⟨rfl, (), ?_, trivial⟩
    have : idxI cs a = -1 := by
      have hf : idxC cs a = none := by
        unfold idxC
        rw [List.findIdx?_eq_none_iff]
        intro x hx
        obtain ⟨j, hj⟩ := List.getElem?_of_mem hx
        have := hinv j x (by have := (List.getElem?_eq_some_iff.1 hj).1; omega) hj
        simpa using this
      unfold idxI; rw [hf]
    show rI (idxI cs a) = rI (-1)
    rw [this]
theorem idxC_at {cs : Cs} {a : Int} {j : Nat} (h : idxC cs a = some j) : ∃ x, cs[j]? = some x ∧ (x.place : Int) = a := by
  unfold idxC at h
  rw [List.findIdx?_eq_some_iff_getElem] at h
  obtain ⟨h1, h2, _⟩ := h
  exact ⟨_, List.getElem?_eq_getElem h1, of_decide_eq_true h2⟩
theorem not_nil : NotNil Tryd.prog 29 (.agg #[]) "Do" := fun w => by kernel_rfl
theorem rights_none {D : Hd → List Int} {cs : Cs} {st : Int} {pl : List Bool} {a : Int} {o : List Int} (h : idxC cs a = none) : rightS D cs st pl (a :: o) = false := by rw [rightS, h]
theorem rights_some {D : Hd → List Int} {cs : Cs} {st : Int} {pl : List Bool} {a : Int} {o : List Int} {j : Nat} {x : Jd.Cl Cd Ad} (h : idxC cs a = some j) (hx : cs[j]? = some x) : rightS D cs st pl (a :: o) =
    if pl[j]? = some true ∨ (List.range cs.length).any (overs cs pl x) = true ∨ Jd.fitS x (stepE D st x.call).2 = false then false else rightS D cs (stepE D st x.call).1 (pl.set j true) o := by
  rw [rightS, h]
  simp only [hx]
theorem right_spec (S : Store) (D : Hd → List Int) (p : Hd) (l : List shE.T) (hL : Lx S D p l) (hk : (csJ l).length ≤ 1000000) (po : Hd) (ord : List Int) (hlo : ord.length = po.2.1) (hro : RowRd S po.1 shI ord) (hno : ord.length ≤ 1000000) :
    Pure Tryd.prog 21 S [regV, slV po, slV p] rB (fun _ b => b = (decide (formE l = 0) && rightS D (csJ l) 0 (List.replicate (csJ l).length false) ord)) := by
  have hfew := hL.few
  obtain ⟨po, no, co⟩ := po
  simp only at hlo hro
  subst hlo
  refine pure_vc agrees Tryd.func21 rfl rfl (fun S S' q hle h => h) ?_
  refine onF ⟨⟨_, rfl, rfl, rfl⟩, .inl ⟨_, _, _, form_spec S p l hL.len hL.row (by omega), fun S1 e hS1 he => ?_⟩⟩
  have he : e = formE l := he
  subst he
  by_cases hf : formE l = 0
  rotate_left
  · refine onE (bne_iff_ne.2 hf) ⟨rfl, false, rfl, ?_⟩
    rw [decide_eq_false hf]; rfl
  rw [decide_eq_true hf, Bool.true_and]
  refine offE (bne_eq_false_iff_eq.2 hf) ⟨⟨_, rfl, rfl, rfl⟩, .inl ⟨_, _, _, calls2_spec S1 p l hL.len (hL.row.le hS1) hfew hf, fun S2 q hS2 hq => ?_⟩⟩
  obtain ⟨q, n, c⟩ := q
  obtain ⟨hq1, hq2, hq3⟩ := hq
  have hq1 : n = (callsJ l).length := hq1
  subst hq1
  have hcl : (callsJ l).length = (csJ l).length := by rw [callsJ_eq, List.length_map]
  have hcx := ((hL.le hS1).le hS2).cx (q := (q, (callsJ l).length, c)) hk rfl hq3
  have hn : ((csJ l).map clC).length = (csJ l).length := List.length_map ..
  have b1 : (0 : Int) ≤ (((callsJ l).length : Nat) : Int) := Int.natCast_nonneg _
  have b2 : ((1 : Nat) : Int) * (((callsJ l).length : Nat) : Int) ≤ 140737488355328 := by omega
  have b3 : (((callsJ l).length : Nat) : Int) ≤ 140737488355328 := by omega
  refine ⟨b1, Int.le_refl _, b2, b3, .inl ⟨19, .agg #[], meth_first, rfl, ⟨_, rfl, rfl, rfl⟩, .inl ⟨_, _, _, first_spec S2, fun S3 _ hS3 _ => ?_⟩⟩⟩
  have hcx3 := hcx.le hS3
  have hro3 := ((hro.le hS1).le hS2).le hS3
  have hrep : (List.replicate (callsJ l).length false) = List.replicate (csJ l).length false := by rw [hcl]
  generalize hcs : csJ l = cs at *
  refine ⟨[], [], Nat × Int × List Bool, [11, 12, 13, 14, 15, 16] ++ List.range' 40 87, fun a => [(39, rI a.1), (9, rS (bs (Lib.itoa a.2.1)))], fun a => [.box [.v regV, .v (slV (q, (callsJ l).length, c)), .v (.map none)], .row .bool 4 a.2.2], fun _ => S3,
    fun a => a.1 ≤ ord.length ∧ inI64 a.2.1 ∧ a.2.2.length = cs.length ∧ rightS D cs 0 (List.replicate cs.length false) ord = rightS D cs a.2.1 a.2.2 (ord.drop a.1), fun a => ord.length - a.1, ?_⟩
  refine And.intro (Exists.intro (0, 0, List.replicate (callsJ l).length false) (And.intro (And.intro (And.intro ?_ rfl) (And.intro rfl (Store.le_refl _))) ⟨Nat.zero_le _, inI_zero, by show (List.replicate (callsJ l).length false).length = _; rw [List.length_replicate, hcl], by show _ = rightS D cs 0 (List.replicate (callsJ l).length false) (ord.drop 0); rw [hrep]; rfl⟩)) ?_
  · repeat' first | exact trivial | exact rfl | refine And.intro ?_ ?_
  rintro ⟨i, st, pl⟩ ⟨hi, hst, hpl, hinv⟩
  have hi : i ≤ ord.length := hi
  have hst : inI64 st := hst
  have hpl : pl.length = cs.length := hpl
  have hinv : rightS D cs 0 (List.replicate cs.length false) ord = rightS D cs st pl (ord.drop i) := hinv
  have i0 : (0 : Int) ≤ ((i : Nat) : Int) := Int.natCast_nonneg _
  refine And.intro (fun h => ?_) (fun h => ?_)
  · have hil : i < ord.length := by
      have : ((i : Nat) : Int) < ((ord.length : Nat) : Int) := of_decide_eq_true h
      omega
    obtain ⟨a, ha⟩ : ∃ a, ord[i]? = some a := ⟨_, List.getElem?_eq_getElem hil⟩
    obtain ⟨b, o, hp, hok, hrd⟩ := row_at hro3 ha
    have hdr : ord.drop i = a :: ord.drop (i + 1) := by
      rw [← List.getElem_cons_drop hil]
      congr 1
      rw [List.getElem?_eq_getElem hil] at ha
      exact Option.some.inj ha
    rw [hdr] at hinv
    refine ⟨i0, by show ((i : Nat) : Int) < (ord.length : Int); omega, b, o, hp, a, hok, hrd, ?_⟩
    refine ⟨⟨_, rfl, rfl, rfl⟩, .inl fun bb S4 hS4 hrdb => ⟨_, _, _, idx_spec S4 (q, (callsJ l).length, c) cs hcx3.len (hcx3.row.le hS4) hk bb a hrdb, fun S5 _ hS5 _ => ?_⟩⟩
    have w1 : IntKind.i64.wrap (((i : Nat) : Int) + 1) = ((i + 1 : Nat) : Int) := wrap_i64 (by omega) (by omega)
    have hmu : ord.length - (i + 1) < ord.length - i := by omega
    cases hidx : idxC cs a with
    | none =>
      have e : idxI cs a = -1 := by unfold idxI; rw [hidx]
      rw [e]
      refine onT (onT ⟨rfl, false, rfl, ?_⟩)
      rw [hinv, rights_none hidx]
    | some j =>
    have e : idxI cs a = ((j : Nat) : Int) := by unfold idxI; rw [hidx]
    rw [e]
    obtain ⟨x, hx, hxa⟩ := idxC_at hidx
    rw [rights_some hidx hx] at hinv
    have hjl := (List.getElem?_eq_some_iff.1 hx).1
    have hcx5 := (hcx3.le hS4).le hS5
    obtain ⟨bj, oj, hpj, hokj, hrdj⟩ := row_at hcx5.row (map_at hx)
    have j0 : (0 : Int) ≤ ((j : Nat) : Int) := Int.natCast_nonneg _
    have jb : ((j : Nat) : Int) < (((callsJ l).length : Nat) : Int) := by omega
    have jp : ((j : Nat) : Int) < ((pl.length : Nat) : Int) := by omega
    have hjp : j < pl.length := by omega
    obtain ⟨qj, hqj⟩ : ∃ q, pl[j]? = some q := ⟨_, List.getElem?_eq_getElem hjp⟩
    refine offE (decide_eq_false (show ¬ ((j : Nat) : Int) < 0 by omega)) ⟨j0, jp, qj, hqj, ?_⟩
    cases qj with
    | true =>
      rw [if_pos (.inl hqj)] at hinv
      exact onT ⟨rfl, false, rfl, hinv.symm⟩
    | false =>
    refine onF ?_
    refine ⟨[], [], Nat, [13, 14] ++ List.range' 63 22, fun k => [(62, rI k)], fun _ => [.box [.v regV, .v (slV (q, (callsJ l).length, c)), .v (.map none)], .row .bool 4 pl], fun _ => S5, fun k => k ≤ cs.length ∧ ∀ m < k, overs cs pl x m = false, fun k => cs.length - k, ?_⟩
    refine And.intro (Exists.intro 0 (And.intro (And.intro (And.intro ?_ rfl) (And.intro rfl (Store.le_refl _))) ⟨Nat.zero_le _, fun m h => absurd h (Nat.not_lt_zero _)⟩)) ?_
    · repeat' first | exact trivial | exact rfl | refine And.intro ?_ ?_
    rintro k ⟨hki, hko⟩
    have hki : k ≤ cs.length := hki
    have k0 : (0 : Int) ≤ ((k : Nat) : Int) := Int.natCast_nonneg _
    refine And.intro (fun h => ?_) (fun h => ?_)
    · have hkl : k < cs.length := by
        have : ((k : Nat) : Int) < (((callsJ l).length : Nat) : Int) := of_decide_eq_true h
        omega
      obtain ⟨y, hy⟩ : ∃ y, cs[k]? = some y := ⟨_, List.getElem?_eq_getElem hkl⟩
      obtain ⟨b3, o3, hp3, hok3, hrd3⟩ := row_at hcx5.row (map_at hy)
      have hkp : k < pl.length := by omega
      obtain ⟨qk, hqk⟩ : ∃ q, pl[k]? = some q := ⟨_, List.getElem?_eq_getElem hkp⟩
      have kmu : cs.length - (k + 1) < cs.length - k := by omega
      have kw : IntKind.i64.wrap (((k : Nat) : Int) + 1) = ((k + 1 : Nat) : Int) := wrap_i64 (by omega) (by omega)
      have more : overs cs pl x k = false → ∀ m < k + 1, overs cs pl x m = false := fun h m hm => by
        by_cases e : m = k
        · rw [e]; exact h
        · exact hko m (by omega)
      refine ⟨k0, by show ((k : Nat) : Int) < (((callsJ l).length : Nat) : Int); omega, b3, o3, hp3, clC y, hok3, hrd3, or21_15, [], oF21_15, by kernel_rfl, k0, by show ((k : Nat) : Int) < ((pl.length : Nat) : Int); omega, qk, hqk, ?_⟩
      cases qk with
      | false =>
        refine onF (onF ⟨((k + 1 : Nat) : Int), kw, k + 1, ⟨⟨?_, rfl⟩, rfl, Store.le_refl _⟩, ⟨hkl, more (by unfold overs; rw [hy, hqk])⟩, kmu⟩)
        repeat' first | exact trivial | exact rfl | refine And.intro ?_ ?_
      | true =>
        have hov : overs cs pl x k = decide (x.over < y.place) := by unfold overs; rw [hy, hqk]
        refine onT ⟨j0, jb, bj, oj, hpj, (x.over : Int), trivial, rd_field (f := 1) hrdj rfl, ?_⟩
        by_cases hlt : x.over < y.place
        · refine onE ((place_lt x y).trans (decide_eq_true hlt)) ⟨rfl, false, rfl, ?_⟩
          rw [if_pos (.inr (.inl (List.any_eq_true.2 ⟨k, List.mem_range.2 hkl, by rw [hov]; exact decide_eq_true hlt⟩)))] at hinv
          exact hinv.symm
        · refine offE ((place_lt x y).trans (decide_eq_false hlt)) ⟨((k + 1 : Nat) : Int), kw, k + 1, ⟨⟨?_, rfl⟩, rfl, Store.le_refl _⟩, ⟨hkl, more (by rw [hov]; exact decide_eq_false hlt)⟩, kmu⟩
          repeat' first | exact trivial | exact rfl | refine And.intro ?_ ?_
    · have hkl : k = cs.length := by
        have : ¬ ((k : Nat) : Int) < (((callsJ l).length : Nat) : Int) := of_decide_eq_false h
        omega
      subst hkl
      have hno : ¬ (List.range (List.length cs)).any (overs cs pl x) = true := by
        rw [List.any_eq_true]
        rintro ⟨m, hm, hmt⟩
        rw [hko m (List.mem_range.1 hm)] at hmt
        cases hmt
      have hxm := List.mem_of_getElem? hx
      obtain ⟨ha1, ha2, ha3⟩ := hcx5.args x hxm
      have hstep : stepE D st x.call = doE st x.call.1 (D x.call.2) := rfl
      refine ⟨or21_18, [2], oF21_18, by kernel_rfl, not_nil, j0, jb, bj, oj, hpj, x.call, ⟨trivial, trivial⟩, rd_part hrdj 2 2, ?_⟩
      refine And.intro ?_ (And.intro ?_ trivial)
      all_goals
        refine .inl ⟨20, .agg #[], meth_do, rfl, ⟨_, rfl, rfl, rfl⟩, .inl ⟨_, _, _, reg_spec S5 hcx5.tab st hst x.call.1 x.call.2 (D x.call.2) ha3 ha1 ha2, fun S6 _ hS6 _ => ?_⟩⟩
        have hrdj6 := Store.rd_le hS6 hrdj
        refine ⟨or21_19, [], oF21_19, by kernel_rfl, j0, jb, bj, oj, hpj, x.ans.isSome, trivial, rd_field (f := 4) hrdj6 rfl, ?_⟩
        have h3 : x.ans = none ∨ (∃ y, x.ans = some y ∧ (doE st x.call.1 (D x.call.2)).2 = y) ∨ ∃ y, x.ans = some y ∧ (doE st x.call.1 (D x.call.2)).2 ≠ y := by
          cases x.ans with
          | none => exact .inl rfl
          | some y =>
            by_cases e : (doE st x.call.1 (D x.call.2)).2 = y
            · exact .inr (.inl ⟨y, rfl, e⟩)
            · exact .inr (.inr ⟨y, rfl, e⟩)
        have hanS : ∀ y, x.ans = some y → x.ans.isSome = true ∧ x.ans.getD (0, 0) = y := fun y hy => by rw [hy]; exact ⟨rfl, rfl⟩
        rcases h3 with ha | ⟨y, ha, hy⟩ | ⟨y, ha, hy⟩
        case' inr.inr =>
          refine onE (hanS y ha).1 ⟨j0, jb, bj, oj, hpj, x.ans.getD (0, 0), ⟨trivial, trivial⟩, rd_part hrdj6 5 2, onE (by rw [neq_ad, (hanS y ha).2, decide_eq_false hy]; rfl) ⟨rfl, false, rfl, ?_⟩⟩
          have hft : Jd.fitS x (stepE D st x.call).2 = false := by unfold Jd.fitS; rw [ha, hstep]; exact decide_eq_false hy
          rw [if_pos (.inr (.inr hft))] at hinv
          exact hinv.symm
        case' inl =>
          have hft : Jd.fitS x (stepE D st x.call).2 = true := by unfold Jd.fitS; rw [ha]
          refine offE (show x.ans.isSome = false by rw [ha]; rfl) (onF ?_)
        case' inr.inl =>
          have hft : Jd.fitS x (stepE D st x.call).2 = true := by unfold Jd.fitS; rw [ha]; exact decide_eq_true hy
          refine onE (hanS y ha).1 ⟨j0, jb, bj, oj, hpj, x.ans.getD (0, 0), ⟨trivial, trivial⟩, rd_part hrdj6 5 2, offE (by rw [neq_ad, (hanS y ha).2, decide_eq_true hy]; rfl) ?_⟩
        all_goals
          rw [if_neg (by
            rintro (h | h | h)
            · rw [hqj] at h; cases h
            · exact hno h
            · rw [hft] at h; cases h)] at hinv
          refine ⟨j0, jp, false, true, hqj, trivial, rfl, Nat.le_refl _, ((i + 1 : Nat) : Int), w1, (i + 1, (doE st x.call.1 (D x.call.2)).1, pl.set j true), ⟨⟨?_, rfl⟩, rfl, Store.le_trans hS4 (Store.le_trans hS5 hS6)⟩, ⟨hil, doE_in hst _ ha3, by show (pl.set j true).length = _; rw [List.length_set]; exact hpl, hinv⟩, hmu⟩
          repeat' first | exact trivial | exact rfl | refine And.intro ?_ ?_
  · have hil : i = ord.length := by
      have : ¬ ((i : Nat) : Int) < ((ord.length : Nat) : Int) := of_decide_eq_false h
      omega
    subst hil
    rw [List.drop_length] at hinv
    refine ⟨⟨_, rfl, rfl, rfl⟩, .inr (.inr (.inl fun sb S4 hS4 hrd4 p5 c5 S5 hS5 hr5 hpf5 => ⟨_, _, _, whole_spec S5 sb regV (q, (callsJ l).length, c) (.map none) cs (((hcx3.le hS4).le hS5).srch (Store.rd_le hS5 hrd4)) (p5, _, c5) pl rfl hr5 hpl, fun S6 w hS6 hw => ?_⟩))⟩
    have hw : w = Jd.wholeS cs pl := hw
    exact ⟨rfl, w, rfl, by rw [hinv, hw]; rfl⟩
end Go.Proofs.YtpfghndflegbaaaDoor
