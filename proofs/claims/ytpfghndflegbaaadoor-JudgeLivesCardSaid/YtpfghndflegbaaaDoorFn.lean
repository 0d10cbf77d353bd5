/- law58: the judge's whole and may. -/
import Derived.Test.YtpfghndflegbaaaDoorFl
/- law58: the register as a Spec. -/
namespace Go.Proofs.YtpfghndflegbaaaDoor
open Go Go.Vc Go.Sort
set_option maxRecDepth 100000

theorem doE_in {n : Int} (hn : inI64 n) (nm : ByteArray) {xs : List Int} (hx : ∀ x ∈ xs, inI64 x) : inI64 (doE n nm xs).1 := by
  have h0 : ∀ k, inI64 (xs.getD k 0) := fun k => by
    rw [List.getD_eq_getElem?_getD]
    cases h : xs[k]? with
    | none => exact ⟨by decide, by decide⟩
    | some x => exact hx x (List.mem_of_getElem? h)
  unfold doE
  split
  · exact h0 0
  split
  · exact hn
  split
  · exact wrap_i64_in _
  split
  · split
    · exact h0 1
    · exact hn
  · exact hn
theorem reg_spec (S : Store) (hL : Lw S) (n : Int) (hn : inI64 n) (nm : ByteArray) (p : Hd) (xs : List Int) (hx : ∀ x ∈ xs, inI64 x) (hl : xs.length = p.2.1) (hr : RowRd S p.1 shI xs) :
    Pure Tryd.prog 20 S [.agg #[], .string (bs (Lib.itoa n)), shCall.val (nm, p)] (A := Unit) (fun _ => .tup [(false, [.v (.string (bs (Lib.itoa (doE n nm xs).1)))]), (true, shAns.cs (doE n nm xs).2)]) (fun _ _ => True) := by
  refine pure_vc agrees Tryd.func20 rfl rfl (fun S S' q hle h => h) ?_
  refine ⟨⟨_, rfl, rfl, rfl⟩, .inl ⟨_, _, _, parse_spec S n hn, fun S1 _ hS1 _ => ?_⟩⟩
  refine ⟨⟨_, rfl, rfl, rfl⟩, .inl ⟨_, _, _, do_spec S1 n nm p xs hl (hr.le hS1), fun S2 _ hS2 _ => ?_⟩⟩
  refine ⟨or20_3, [1, 2, 3], oF20_3, by kernel_rfl, ?_⟩
  refine ⟨⟨_, rfl, rfl, rfl⟩, .inl ⟨_, _, _, format_spec S2 ((hL.le hS1).le hS2) _ (doE_in hn nm hx), fun S3 _ hS3 _ => ?_⟩⟩
  exact ⟨rfl, (), rfl, trivial⟩
theorem itoa_zero : bs (Lib.itoa 0) = bs [48] := by
  rw [Txt.itoa_pos (by decide)]
  show bs (Lib.decDigits 0) = _
  rw [Txt.dec_zero]
theorem first_spec (S : Store) : Pure Tryd.prog 19 S [.agg #[]] (A := Unit) (fun _ => rS (bs (Lib.itoa 0))) (fun _ _ => True) := by
  refine pure_vc agrees Tryd.func19 rfl rfl (fun S S' q hle h => h) ?_
  exact ⟨rfl, (), by rw [itoa_zero]; rfl, trivial⟩
end Go.Proofs.YtpfghndflegbaaaDoor
namespace Go.Proofs.YtpfghndflegbaaaDoor
open Go Go.Vc Go.Sort
set_option maxRecDepth 100000

abbrev Cs := List (Jd.Cl Cd Ad)
/-- What the store knows of a search: its Spec, its calls, its memo's handle. -/
structure Srch (S : Store) (sb : Nat) (sp : Value) (pc : Hd) (m : Value) (cs : Cs) : Prop where
  rd : S.rd sb 0 [sp, slV pc, m]
  len : (cs.map clC).length = pc.2.1
  row : RowRd S pc.1 shC (cs.map clC)
  few : cs.length ≤ 1000000
theorem Srch.le {S S' : Store} (h : S.le S') {sb sp pc m cs} (hs : Srch S sb sp pc m cs) : Srch S' sb sp pc m cs := ⟨Store.rd_le h hs.rd, hs.len, hs.row.le h, hs.few⟩
theorem map_at {cs : Cs} {k : Nat} {x : Jd.Cl Cd Ad} (h : cs[k]? = some x) : (cs.map clC)[k]? = some (clC x) := by rw [List.getElem?_map, h]; rfl
theorem place_lt (x y : Jd.Cl Cd Ad) : decide (((x.over : Nat) : Int) < ((y.place : Nat) : Int)) = decide (x.over < y.place) := decide_eq_decide.2 (by omega)

theorem whole_spec (S : Store) (sb : Nat) (sp : Value) (pc : Hd) (m : Value) (cs : Cs) (hS : Srch S sb sp pc m cs) (pp : Hd) (pl : List Bool) (hpl : pl.length = pp.2.1) (hpr : RowRd S pp.1 .bool pl) (hlen : pl.length = cs.length) :
    Pure Tryd.prog 35 S [.pointer (some ⟨sb, 0, none⟩), slV pp] rB (fun _ b => b = Jd.wholeS cs pl) := by
  obtain ⟨p, n, c⟩ := pp
  simp only at hpl hpr
  subst hpl
  obtain ⟨pc, nc, cc⟩ := pc
  obtain ⟨hrd, hcl, hcr, hfew⟩ := hS
  simp only at hcl hcr
  subst hcl
  have hn : (cs.map clC).length = cs.length := List.length_map ..
  refine pure_vc agrees Tryd.func35 rfl rfl (fun S S' q hle h => h) ?_
  refine ⟨(pc, (cs.map clC).length, cc), trivial, rd_field (f := 1) hrd rfl, ?_⟩
  refine ⟨[], [], Nat, [5, 6] ++ List.range' 13 14, fun i => [(12, rI i)], fun _ => [], fun _ => S, fun i => i ≤ cs.length ∧ ∀ j < i, ∀ x, cs[j]? = some x → x.ans.isSome = true → pl[j]? = some true, fun i => cs.length - i, ?_⟩
  refine And.intro (Exists.intro 0 (And.intro (And.intro (And.intro ?_ rfl) (And.intro rfl (Store.le_refl _))) ⟨Nat.zero_le _, fun j h => by omega⟩)) ?_
  · repeat' first | exact trivial | exact rfl | refine And.intro ?_ ?_
  rintro i ⟨hi, hinv⟩
  have i0 : (0 : Int) ≤ ((i : Nat) : Int) := Int.natCast_nonneg _
  refine And.intro (fun h => ?_) (fun h => ?_)
  · have hil : i < cs.length := by
      have : ((i : Nat) : Int) < (((cs.map clC).length : Nat) : Int) := of_decide_eq_true h
      omega
    obtain ⟨x, hx⟩ : ∃ x, cs[i]? = some x := ⟨_, List.getElem?_eq_getElem hil⟩
    obtain ⟨b, o, hp, hok, hrd1⟩ := row_at hcr (map_at hx)
    have hil2 : i < pl.length := by omega
    obtain ⟨q, hq⟩ : ∃ q, pl[i]? = some q := ⟨_, List.getElem?_eq_getElem hil2⟩
    obtain ⟨b2, o2, hp2, hok2, hrd2⟩ := row_at hpr hq
    have hmu : cs.length - (i + 1) < cs.length - i := by omega
    refine ⟨i0, by show ((i : Nat) : Int) < ((cs.map clC).length : Int); omega, b, o, hp, clC x, hok, hrd1, ?_⟩
    have more : (x.ans.isSome = true → q = true) → ∀ j < i + 1, ∀ x, cs[j]? = some x → x.ans.isSome = true → pl[j]? = some true := by
      intro hxq j hj z hz hza
      by_cases e : j = i
      · subst e
        rw [hx] at hz
        obtain rfl := Option.some.inj hz
        rw [hq, hxq hza]
      · exact hinv j (by omega) z hz hza
    cases ha : x.ans.isSome with
    | false =>
      refine offE ha (onF ⟨((i + 1 : Nat) : Int), wrap_i64 (by omega) (by omega), i + 1, ⟨⟨?_, rfl⟩, rfl, Store.le_refl _⟩, ⟨hil, more (fun q => by rw [ha] at q; cases q)⟩, hmu⟩)
      repeat' first | exact trivial | exact rfl | refine And.intro ?_ ?_
    | true =>
      refine onE ha ⟨i0, by show ((i : Nat) : Int) < (pl.length : Int); omega, b2, o2, hp2, q, trivial, hrd2, ?_⟩
      cases q with
      | true =>
        refine onF ⟨((i + 1 : Nat) : Int), wrap_i64 (by omega) (by omega), i + 1, ⟨⟨?_, rfl⟩, rfl, Store.le_refl _⟩, ⟨hil, more (fun _ => rfl)⟩, hmu⟩
        repeat' first | exact trivial | exact rfl | refine And.intro ?_ ?_
      | false =>
        refine onT ⟨rfl, false, rfl, ?_⟩
        have : Jd.wholeS cs pl = false := by
          unfold Jd.wholeS
          rw [List.all_eq_false]
          exact ⟨i, List.mem_range.2 hil, by rw [hx, hq]; simp [ha]⟩
        exact this.symm
  · have hil : i = cs.length := by
      have : ¬ ((i : Nat) : Int) < (((cs.map clC).length : Nat) : Int) := of_decide_eq_false h
      omega
    refine ⟨rfl, true, rfl, ?_⟩
    have : Jd.wholeS cs pl = true := by
      unfold Jd.wholeS
      rw [List.all_eq_true]
      intro j hj
      have hjl := List.mem_range.1 hj
      obtain ⟨x, hx⟩ : ∃ x, cs[j]? = some x := ⟨_, List.getElem?_eq_getElem hjl⟩
      have hil2 : j < pl.length := by omega
      obtain ⟨q, hq⟩ : ∃ q, pl[j]? = some q := ⟨_, List.getElem?_eq_getElem hil2⟩
      rw [hx, hq]
      cases q with
      | true => rfl
      | false =>
        cases ha : x.ans.isSome with
        | false => simp [ha]
        | true =>
          have := hinv j (by omega) x hx ha
          rw [hq] at this
          cases this
    exact this.symm

/-- Does call k let call i, which is x, come next? -/
def letsS (cs : Cs) (pl : List Bool) (i : Nat) (x : Jd.Cl Cd Ad) (k : Nat) : Bool := match cs[k]?, pl[k]? with
    | some y, some true => decide (k = i) || !decide (x.over < y.place)
    | some y, some false => decide (k = i) || !(y.ans.isSome && decide (y.over < x.place))
    | _, _ => true
theorem may_eq {cs : Cs} {pl : List Bool} {i : Nat} {x : Jd.Cl Cd Ad} (hx : cs[i]? = some x) (hp : pl[i]? = some false) : Jd.mayS cs pl i = (List.range cs.length).all (letsS cs pl i x) := by
  unfold Jd.mayS
  rw [hx, hp]
  show (List.range cs.length).all _ = _
  congr 1
  funext k
  unfold letsS
  cases cs[k]? with
  | none => rfl
  | some y =>
    cases pl[k]? with
    | none => rfl
    | some b => cases b <;> rfl
theorem may_spec (S : Store) (sb : Nat) (sp : Value) (pc : Hd) (m : Value) (cs : Cs) (hS : Srch S sb sp pc m cs) (pp : Hd) (pl : List Bool) (hpl : pl.length = pp.2.1) (hpr : RowRd S pp.1 .bool pl) (hlen : pl.length = cs.length) (i : Nat) (x : Jd.Cl Cd Ad) (hx : cs[i]? = some x) :
    Pure Tryd.prog 45 S [.pointer (some ⟨sb, 0, none⟩), slV pp, .int .i64 i] rB (fun _ b => b = Jd.mayS cs pl i) := by
  obtain ⟨p, n, c⟩ := pp
  simp only at hpl hpr
  subst hpl
  obtain ⟨pc, nc, cc⟩ := pc
  obtain ⟨hrd, hcl, hcr, hfew⟩ := hS
  simp only at hcl hcr
  subst hcl
  have hn : (cs.map clC).length = cs.length := List.length_map ..
  have hil := (List.getElem?_eq_some_iff.1 hx).1
  have hil2 : i < pl.length := by omega
  obtain ⟨q, hq⟩ : ∃ q, pl[i]? = some q := ⟨_, List.getElem?_eq_getElem hil2⟩
  obtain ⟨b, o, hp, hok, hrd1⟩ := row_at hcr (map_at hx)
  obtain ⟨b2, o2, hp2, hok2, hrd2⟩ := row_at hpr hq
  have i0 : (0 : Int) ≤ ((i : Nat) : Int) := Int.natCast_nonneg _
  refine pure_vc agrees Tryd.func45 rfl rfl (fun S S' q hle h => h) ?_
  refine ⟨(pc, (cs.map clC).length, cc), trivial, rd_field (f := 1) hrd rfl, i0, by show ((i : Nat) : Int) < ((cs.map clC).length : Int); omega, b, o, hp, clC x, hok, hrd1, i0, by show ((i : Nat) : Int) < (pl.length : Int); omega, b2, o2, hp2, q, trivial, hrd2, ?_⟩
  cases q with
  | true =>
    refine onT ⟨rfl, false, rfl, ?_⟩
    unfold Jd.mayS
    rw [hx, hq]
  | false =>
  rw [may_eq hx hq]
  refine onF ⟨(pc, (cs.map clC).length, cc), trivial, rd_field (f := 1) hrd rfl, ?_⟩
  refine ⟨[], [], Nat, [8, 9] ++ List.range' 27 38, fun k => [(26, rI k)], fun _ => [.box (shC.cs (clC x))], fun _ => S, fun k => k ≤ cs.length ∧ ∀ j < k, letsS cs pl i x j = true, fun k => cs.length - k, ?_⟩
  refine And.intro (Exists.intro 0 (And.intro (And.intro (And.intro ?_ rfl) (And.intro rfl (Store.le_refl _))) ⟨Nat.zero_le _, fun j h => by omega⟩)) ?_
  · repeat' first | exact trivial | exact rfl | refine And.intro ?_ ?_
  rintro k ⟨hk, hinv⟩
  have k0 : (0 : Int) ≤ ((k : Nat) : Int) := Int.natCast_nonneg _
  refine And.intro (fun h => ?_) (fun h => ?_)
  · have hkl : k < cs.length := by
      have : ((k : Nat) : Int) < (((cs.map clC).length : Nat) : Int) := of_decide_eq_true h
      omega
    obtain ⟨y, hy⟩ : ∃ y, cs[k]? = some y := ⟨_, List.getElem?_eq_getElem hkl⟩
    obtain ⟨b3, o3, hp3, hok3, hrd3⟩ := row_at hcr (map_at hy)
    have hkl2 : k < pl.length := by omega
    obtain ⟨q, hqk⟩ : ∃ q, pl[k]? = some q := ⟨_, List.getElem?_eq_getElem hkl2⟩
    obtain ⟨b4, o4, hp4, hok4, hrd4⟩ := row_at hpr hqk
    have hmu : cs.length - (k + 1) < cs.length - k := by omega
    have more : letsS cs pl i x k = true → ∀ j < k + 1, letsS cs pl i x j = true := by
      intro hl j hj
      by_cases e : j = k
      · rw [e]; exact hl
      · exact hinv j (by omega)
    have stop : letsS cs pl i x k = false → false = (List.range cs.length).all (letsS cs pl i x) := by
      intro hl
      symm
      rw [List.all_eq_false]
      exact ⟨k, List.mem_range.2 hkl, by rw [hl]; simp⟩
    have kb : ((k : Nat) : Int) < (pl.length : Int) := by omega
    refine ⟨k0, by show ((k : Nat) : Int) < ((cs.map clC).length : Int); omega, b3, o3, hp3, clC y, hok3, hrd3, ?_⟩
    by_cases e : k = i
    · refine onE (beq_iff_eq.2 (by rw [e])) ⟨((k + 1 : Nat) : Int), wrap_i64 (by omega) (by omega), k + 1, ⟨⟨?_, rfl⟩, rfl, Store.le_refl _⟩, ⟨hkl, more (by unfold letsS; rw [hy, hqk]; cases q <;> simp [e])⟩, hmu⟩
      repeat' first | exact trivial | exact rfl | refine And.intro ?_ ?_
    refine offE (beq_eq_false_iff_ne.2 (show ((k : Nat) : Int) ≠ ((i : Nat) : Int) by omega)) ⟨k0, kb, b4, o4, hp4, q, trivial, hrd4, ?_⟩
    cases q with
    | true =>
      refine onT ?_
      have hl : letsS cs pl i x k = !decide (x.over < y.place) := by unfold letsS; rw [hy, hqk]; simp [e]
      by_cases c : x.over < y.place
      · exact onE ((place_lt x y).trans (decide_eq_true c)) ⟨rfl, false, rfl, stop (by rw [hl, decide_eq_true c]; rfl)⟩
      · refine offE ((place_lt x y).trans (decide_eq_false c)) ⟨k0, kb, b4, o4, hp4, true, trivial, hrd4, onF (onF (onF ⟨((k + 1 : Nat) : Int), wrap_i64 (by omega) (by omega), k + 1, ⟨⟨?_, rfl⟩, rfl, Store.le_refl _⟩, ⟨hkl, more (by rw [hl, decide_eq_false c]; rfl)⟩, hmu⟩))⟩
        repeat' first | exact trivial | exact rfl | refine And.intro ?_ ?_
    | false =>
      refine onF (onF ⟨k0, kb, b4, o4, hp4, false, trivial, hrd4, onT ?_⟩)
      have hl : letsS cs pl i x k = !(y.ans.isSome && decide (y.over < x.place)) := by unfold letsS; rw [hy, hqk]; simp [e]
      cases ha : y.ans.isSome with
      | false =>
        refine offE ha (onF ⟨((k + 1 : Nat) : Int), wrap_i64 (by omega) (by omega), k + 1, ⟨⟨?_, rfl⟩, rfl, Store.le_refl _⟩, ⟨hkl, more (by rw [hl, ha]; rfl)⟩, hmu⟩)
        repeat' first | exact trivial | exact rfl | refine And.intro ?_ ?_
      | true =>
        refine onE ha ?_
        by_cases c : y.over < x.place
        · exact onE ((place_lt y x).trans (decide_eq_true c)) ⟨rfl, false, rfl, stop (by rw [hl, ha, decide_eq_true c]; rfl)⟩
        · refine offE ((place_lt y x).trans (decide_eq_false c)) ⟨((k + 1 : Nat) : Int), wrap_i64 (by omega) (by omega), k + 1, ⟨⟨?_, rfl⟩, rfl, Store.le_refl _⟩, ⟨hkl, more (by rw [hl, ha, decide_eq_false c]; rfl)⟩, hmu⟩
          repeat' first | exact trivial | exact rfl | refine And.intro ?_ ?_
  · have hkl : k = cs.length := by
      have : ¬ ((k : Nat) : Int) < (((cs.map clC).length : Nat) : Int) := of_decide_eq_false h
      omega
    refine ⟨rfl, true, rfl, ?_⟩
    have : (List.range cs.length).all (letsS cs pl i x) = true := by
      rw [List.all_eq_true]
      intro j hj
      exact hinv j (by have := List.mem_range.1 hj; omega)
    exact this.symm
end Go.Proofs.YtpfghndflegbaaaDoor
