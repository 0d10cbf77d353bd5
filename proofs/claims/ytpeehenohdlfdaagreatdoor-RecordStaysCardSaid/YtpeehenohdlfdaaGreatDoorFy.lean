/- law57: done, Great, Made. -/
import Derived.Test.YtpeehenohdlfdaaGreatDoorFx
import Derived.Test.YtpeehenohdlfdaaGreatDoorFk
namespace Go.Proofs.YtpeehenohdlfdaaGreatDoor
open Go Go.Vc
set_option maxRecDepth 100000
set_option maxHeartbeats 8000000

/-- An act as the law holds it: a call, an answer, a commit or a crash. -/
@[reducible] def vA (x : Ex) : Value := .agg #[.int .u8 x.1, .int .i64 x.2.1, .int .i64 x.2.2.1, .string x.2.2.2.1.1, slV x.2.2.2.1.2, .int .i64 x.2.2.2.2.1, .int .i64 x.2.2.2.2.2]
structure AIs (S : Store) (x : Ex) (a : Rc.Ev) : Prop where
  k : x.1 = a.k
  t : x.2.1 = a.t
  n : x.2.2.1 = a.n
  nm : x.2.2.2.1.1 = bs a.nm
  ar : NsIs S x.2.2.2.1.2 a.as
  er : x.2.2.2.2.1 = a.er
  va : x.2.2.2.2.2 = a.va
  few : a.nm.length ≤ 1000000000
  cnt : a.as.length ≤ 1000000
  lo : 0 ≤ a.k
  hi : a.k ≤ 255
  it : inI64 a.t
  i_n : inI64 a.n
  ie : inI64 a.er
  iv : inI64 a.va
theorem AIs.le {S S' : Store} (h : S.le S') {x a} (hx : AIs S x a) : AIs S' x a := ⟨hx.k, hx.t, hx.n, hx.nm, hx.ar.le h, hx.er, hx.va, hx.few, hx.cnt, hx.lo, hx.hi, hx.it, hx.i_n, hx.ie, hx.iv⟩
/-- The events behind one act. -/
def doneR (l : List Rc.Ev) (a : Rc.Ev) : List Rc.Ev := if a.k % 4 = 0 then (Rc.callR l a.t a.n a.nm a.as).1 else if a.k % 4 = 1 then (Rc.answerR l a.t a.er a.va).1 else if a.k % 4 = 2 then (Rc.commitR l a.t).1 else Rc.crashR l
@[reducible] def rDone (y : Hx × Hd × Bool) : SV := .tup [cH y.1, (false, [.v (slV y.2.1)]), (false, [.v (.bool y.2.2)])]
def DPost (r : List Rc.Ev) (S' : Store) (y : Hx × Hd × Bool) : Prop := HIs S' y.1 r ∧ LIs S' y.2.1 r ∧ y.2.2 = true
theorem DPost.le {S S' : Store} (h : S.le S') {r y} (hx : DPost r S y) : DPost r S' y := ⟨hx.1.le h, hx.2.1.le h, hx.2.2⟩
theorem done_spec (S : Store) (x : Hx) (q : Hd) (l : List Rc.Ev) (hx : HIs S x l) (hq : LIs S q l) (y : Ex) (a : Rc.Ev) (hy : AIs S y a) : Pure Tryz.prog 27 S [vH x, slV q, vA y] (A := Hx × Hd × Bool) rDone (fun S' z => DPost (doneR l a) S' z) := by
  have hll := Rc.hist_len hx.hs
  obtain ⟨yk, yt, yn, ⟨ynm, yq⟩, ye, yv⟩ := y
  have e1 : yk = a.k := hy.k
  have e2 : yt = a.t := hy.t
  have e3 : yn = a.n := hy.n
  have e4 : ynm = bs a.nm := hy.nm
  have e5 : ye = a.er := hy.er
  have e6 : yv = a.va := hy.va
  have hlo := hy.lo
  have hhi := hy.hi
  subst e1 e2 e3 e4 e5 e6
  refine pure_vc agrees Tryz.func27 rfl rfl (fun S S' q hle h => h.le hle) ?_
  refine ⟨by decide, a.k % 4, by show Int.tmod a.k 4 = a.k % 4; exact Int.tmod_eq_emod_of_nonneg hlo, ?_⟩
  by_cases h0 : a.k % 4 = 0
  · refine onE (beq_iff_eq.2 h0) ⟨⟨_, rfl, rfl, rfl⟩, .inl ⟨_, _, _, call_spec S x l hx a.t a.n hy.it hy.i_n a.nm hy.few yq a.as hy.ar hy.cnt, fun S1 z1 hS1 hz1 => ?_⟩⟩
    refine ⟨⟨_, rfl, rfl, rfl⟩, .inl ⟨_, _, _, refCall_spec S1 q l (hq.le hS1) (by omega) a.t a.n hy.it hy.i_n a.nm hy.few yq a.as (hy.ar.le hS1) hy.cnt, fun S2 z2 hS2 hz2 => ?_⟩⟩
    refine ⟨rfl, (z1.1, z2.1, z1.2 == z2.2), rfl, ?_⟩
    · have he : (z1.2 == z2.2) = true := beq_iff_eq.2 (hz1.2.trans hz2.2.symm)
      unfold doneR; rw [if_pos h0]; exact ⟨hz1.1.le hS2, hz2.1, he⟩
  refine offE (beq_eq_false_iff_ne.2 h0) ?_
  by_cases h1 : a.k % 4 = 1
  · refine onE (beq_iff_eq.2 h1) ⟨⟨_, rfl, rfl, rfl⟩, .inl ⟨_, _, _, answer_spec S x l hx a.t a.er a.va hy.it hy.ie hy.iv, fun S1 z1 hS1 hz1 => ?_⟩⟩
    refine ⟨⟨_, rfl, rfl, rfl⟩, .inl ⟨_, _, _, refAnswer_spec S1 q l (hq.le hS1) (by omega) a.t a.er a.va hy.it hy.ie hy.iv, fun S2 z2 hS2 hz2 => ?_⟩⟩
    refine ⟨rfl, (z1.1, z2.1, z1.2 == z2.2), rfl, ?_⟩
    · have he : (z1.2 == z2.2) = true := beq_iff_eq.2 (hz1.2.trans hz2.2.symm)
      unfold doneR; rw [if_neg h0, if_pos h1]; exact ⟨hz1.1.le hS2, hz2.1, he⟩
  refine offE (beq_eq_false_iff_ne.2 h1) ?_
  by_cases h2 : a.k % 4 = 2
  · refine onE (beq_iff_eq.2 h2) ⟨⟨_, rfl, rfl, rfl⟩, .inl ⟨_, _, _, commit_spec S x l hx a.t hy.it, fun S1 z1 hS1 hz1 => ?_⟩⟩
    refine ⟨⟨_, rfl, rfl, rfl⟩, .inl ⟨_, _, _, refCommit_spec S1 q l (hq.le hS1) (by omega) a.t hy.it, fun S2 z2 hS2 hz2 => ?_⟩⟩
    refine ⟨rfl, (z1.1, z2.1, z1.2 == z2.2), rfl, ?_⟩
    · have he : (z1.2 == z2.2) = true := beq_iff_eq.2 (hz1.2.trans hz2.2.symm)
      unfold doneR; rw [if_neg h0, if_neg h1, if_pos h2]; exact ⟨hz1.1.le hS2, hz2.1, he⟩
  refine offE (beq_eq_false_iff_ne.2 h2) ?_
  refine ⟨⟨_, rfl, rfl, rfl⟩, .inl ⟨_, _, _, crash_spec S x l hx, fun S1 z1 hS1 hz1 => ?_⟩⟩
  refine ⟨⟨_, rfl, rfl, rfl⟩, .inl ⟨_, _, _, refCrash_spec S1 q l (hq.le hS1) (by omega), fun S2 z2 hS2 hz2 => ?_⟩⟩
  refine ⟨rfl, (z1, z2, true), rfl, ?_⟩
  unfold doneR; rw [if_neg h0, if_neg h1, if_neg h2]; exact ⟨hz1.le hS2, hz2, rfl⟩
/-- The acts in memory. -/
def AsIs (S : Store) (q : Hd) (acs : List Rc.Ev) : Prop := ∃ L : List (Ex × Rc.Ev), L.map (·.2) = acs ∧ q.2.1 = L.length ∧ q.2.1 ≤ q.2.2 ∧ RowRd S q.1 shA (L.map (·.1)) ∧ ∀ z ∈ L, AIs S z.1 z.2
theorem AsIs.le {S S' : Store} (h : S.le S') {q acs} (hx : AsIs S q acs) : AsIs S' q acs := by
  obtain ⟨L, h1, h2, h3, h4, h5⟩ := hx
  exact ⟨L, h1, h2, h3, h4.le h, fun z hz => (h5 z hz).le h⟩
theorem as_len {S : Store} {q : Hd} {acs : List Rc.Ev} (h : AsIs S q acs) : q.2.1 = acs.length := by obtain ⟨L, rfl, h2, -⟩ := h; rw [List.length_map]; exact h2
theorem act_at {S : Store} {q : Hd} {l : List Rc.Ev} (h : AsIs S q l) {i : Nat} (hi : i < l.length) : ∃ (x : Ex) (e : Rc.Ev) (b o : Nat), l[i]? = some e ∧ AIs S x e ∧ q.1 = some ⟨b, o, none⟩ ∧ S.rd b (o + i * 7) (shA.enc x) := by
  obtain ⟨L, rfl, -, -, hr, hK⟩ := h
  rw [List.length_map] at hi
  obtain ⟨z, hz⟩ : ∃ z, L[i]? = some z := ⟨_, List.getElem?_eq_getElem hi⟩
  obtain ⟨b, o, hp, hok, hrd⟩ := row_at hr (i := i) (x := z.1) (by rw [List.getElem?_map, hz]; rfl)
  exact ⟨z.1, z.2, b, o, by rw [List.getElem?_map, hz]; rfl, hK z (List.mem_of_getElem? hz), hp, hrd⟩
/-- Acts as they come, of whatever size. -/
structure ARaw (S : Store) (x : Ex) (a : Rc.Ev) : Prop where
  k : x.1 = a.k
  t : x.2.1 = a.t
  n : x.2.2.1 = a.n
  nm : x.2.2.2.1.1 = bs a.nm
  ar : NsIs S x.2.2.2.1.2 a.as
  er : x.2.2.2.2.1 = a.er
  va : x.2.2.2.2.2 = a.va
  lo : 0 ≤ a.k
  hi : a.k ≤ 255
  it : inI64 a.t
  i_n : inI64 a.n
  ie : inI64 a.er
  iv : inI64 a.va
theorem ARaw.is {S : Store} {x : Ex} {a : Rc.Ev} (h : ARaw S x a) (h1 : a.nm.length ≤ 60) (h2 : a.as.length ≤ 20) : AIs S x a :=
  ⟨h.k, h.t, h.n, h.nm, h.ar, h.er, h.va, by omega, by omega, h.lo, h.hi, h.it, h.i_n, h.ie, h.iv⟩
theorem ARaw.le {S S' : Store} (h : S.le S') {x a} (hx : ARaw S x a) : ARaw S' x a := ⟨hx.k, hx.t, hx.n, hx.nm, hx.ar.le h, hx.er, hx.va, hx.lo, hx.hi, hx.it, hx.i_n, hx.ie, hx.iv⟩
def AsRaw (S : Store) (q : Hd) (acs : List Rc.Ev) : Prop := ∃ L : List (Ex × Rc.Ev), L.map (·.2) = acs ∧ q.2.1 = L.length ∧ q.2.1 ≤ q.2.2 ∧ RowRd S q.1 shA (L.map (·.1)) ∧ ∀ z ∈ L, ARaw S z.1 z.2
theorem AsRaw.le {S S' : Store} (h : S.le S') {q acs} (hx : AsRaw S q acs) : AsRaw S' q acs := by
  obtain ⟨L, h1, h2, h3, h4, h5⟩ := hx
  exact ⟨L, h1, h2, h3, h4.le h, fun z hz => (h5 z hz).le h⟩
theorem raw_len {S : Store} {q : Hd} {acs : List Rc.Ev} (h : AsRaw S q acs) : q.2.1 = acs.length := by obtain ⟨L, rfl, h2, -⟩ := h; rw [List.length_map]; exact h2
theorem raw_at {S : Store} {q : Hd} {l : List Rc.Ev} (h : AsRaw S q l) {i : Nat} (hi : i < l.length) : ∃ (x : Ex) (e : Rc.Ev) (b o : Nat), l[i]? = some e ∧ ARaw S x e ∧ q.1 = some ⟨b, o, none⟩ ∧ S.rd b (o + i * 7) (shA.enc x) := by
  obtain ⟨L, rfl, -, -, hr, hK⟩ := h
  rw [List.length_map] at hi
  obtain ⟨z, hz⟩ : ∃ z, L[i]? = some z := ⟨_, List.getElem?_eq_getElem hi⟩
  obtain ⟨b, o, hp, hok, hrd⟩ := row_at hr (i := i) (x := z.1) (by rw [List.getElem?_map, hz]; rfl)
  exact ⟨z.1, z.2, b, o, by rw [List.getElem?_map, hz]; rfl, hK z (List.mem_of_getElem? hz), hp, hrd⟩
theorem okA (x : Ex) : shA.ok x := ⟨trivial, trivial, trivial, ⟨trivial, trivial⟩, trivial, trivial⟩
def greatA (a : Rc.Ev) : Bool := decide (60 < a.nm.length) || decide (20 < a.as.length)
def greatR (acs : List Rc.Ev) : Bool := acs.any greatA || decide (60 < acs.length)
theorem AsRaw.is {S : Store} {q : Hd} {acs : List Rc.Ev} (h : AsRaw S q acs) (hg : greatR acs = false) : AsIs S q acs := by
  obtain ⟨L, rfl, h2, h3, h4, h5⟩ := h
  refine ⟨L, rfl, h2, h3, h4, fun z hz => ?_⟩
  unfold greatR at hg
  rw [Bool.or_eq_false_iff] at hg
  have hz2 : greatA z.2 = false := by
    have := List.any_eq_false.1 hg.1 z.2 (List.mem_map_of_mem hz)
    simpa using this
  unfold greatA at hz2
  rw [Bool.or_eq_false_iff] at hz2
  have e1 := of_decide_eq_false hz2.1
  have e2 := of_decide_eq_false hz2.2
  exact (h5 z hz).is (by omega) (by omega)
theorem great_spec (S : Store) (q : Hd) (acs : List Rc.Ev) (hq : AsRaw S q acs) (hn : acs.length ≤ 1000000000000000) : Pure Tryz.prog 10 S [slV q] (A := Unit) (fun _ => rB (greatR acs)) (fun _ _ => True) := by
  have hl := raw_len hq
  obtain ⟨p, n, c⟩ := q
  have hl : n = acs.length := hl
  subst hl
  refine pure_vc agrees Tryz.func10 rfl rfl (fun S S' q hle h => h) ?_
  refine ⟨[], [], Nat, [4] ++ List.range' 8 19, fun i => [(7, rI i)], fun _ => [], fun _ => S, fun i => i ≤ acs.length ∧ (acs.drop i).any greatA = acs.any greatA, fun i => acs.length - i, ?_⟩
  refine And.intro (Exists.intro 0 (And.intro (And.intro (And.intro ?_ rfl) (And.intro rfl (Store.le_refl _))) ⟨Nat.zero_le _, rfl⟩)) ?_
  · repeat' first | exact trivial | exact rfl | refine And.intro ?_ ?_
  rintro i ⟨hi, hinv⟩
  have hi : i ≤ acs.length := hi
  have i0 : (0 : Int) ≤ ((i : Nat) : Int) := Int.natCast_nonneg _
  refine And.intro (fun h => ?_) (fun h => ?_)
  · have hil : i < acs.length := by
      have : ((i : Nat) : Int) < ((acs.length : Nat) : Int) := of_decide_eq_true h
      omega
    obtain ⟨x, a, b, o, ha, hx, hp, hrd⟩ := raw_at hq hil
    obtain ⟨xk, xt, xn, ⟨xnm, xp, xl, xc⟩, xe, xv⟩ := x
    have hnm : xnm = bs a.nm := hx.nm
    have hln : xl = a.as.length := hx.ar.len
    subst hnm hln
    have hsz := bs_size a.nm
    have hdr : acs.drop i = a :: acs.drop (i + 1) := by
      rw [List.getElem?_eq_getElem hil] at ha
      rw [← Option.some.inj ha, List.getElem_cons_drop]
    rw [hdr, List.any_cons] at hinv
    refine ⟨i0, by show ((i : Nat) : Int) < ((acs.length : Nat) : Int); omega, b, o, hp, (xk, xt, xn, (bs a.nm, xp, a.as.length, xc), xe, xv), okA _, hrd, ?_⟩
    by_cases h1 : 60 < a.nm.length
    · refine onE (decide_eq_true (by show ((bs a.nm).size : Int) > 60; omega)) (onT ⟨rfl, (), ?_, trivial⟩)
      have : greatR acs = true := by
        unfold greatR; rw [← hinv]; unfold greatA; rw [decide_eq_true h1]; rfl
      rw [this]; rfl
    refine offE (decide_eq_false (by show ¬ ((bs a.nm).size : Int) > 60; omega)) ?_
    by_cases h2 : 20 < a.as.length
    · refine onE (decide_eq_true (by show ((a.as.length : Nat) : Int) > 20; omega)) ⟨rfl, (), ?_, trivial⟩
      have : greatR acs = true := by
        unfold greatR; rw [← hinv]; unfold greatA; rw [decide_eq_true h2]; simp
      rw [this]; rfl
    have hga : greatA a = false := by unfold greatA; rw [decide_eq_false h1, decide_eq_false h2]; rfl
    rw [hga, Bool.false_or] at hinv
    refine offE (decide_eq_false (by show ¬ ((a.as.length : Nat) : Int) > 20; omega)) ⟨((i + 1 : Nat) : Int), wrap_i64 (by omega) (by omega), i + 1, ⟨⟨?_, rfl⟩, rfl, Store.le_refl _⟩, ⟨hil, hinv⟩, by show acs.length - (i + 1) < acs.length - i; omega⟩
    repeat' first | exact trivial | exact rfl | refine And.intro ?_ ?_
  · have hil : i = acs.length := by
      have : ¬ ((i : Nat) : Int) < ((acs.length : Nat) : Int) := of_decide_eq_false h
      omega
    rw [hil, List.drop_length] at hinv
    refine ⟨rfl, (), ?_, trivial⟩
    have hg : greatR acs = decide (((acs.length : Nat) : Int) > 60) := by
      unfold greatR; rw [← hinv]
      show (false || decide (60 < acs.length)) = _
      rw [Bool.false_or]
      exact decide_eq_decide.2 (by omega)
    rw [hg]
    rfl
/-- The events behind some acts. -/
def madeR (acs : List Rc.Ev) : List Rc.Ev := acs.foldl doneR []
theorem made_step {acs : List Rc.Ev} {i : Nat} {a : Rc.Ev} (h : acs[i]? = some a) : madeR (acs.take (i + 1)) = doneR (madeR (acs.take i)) a := by
  unfold madeR
  rw [List.take_add_one, h]
  show List.foldl doneR [] (acs.take i ++ [a]) = _
  rw [List.foldl_append]; rfl
abbrev Qm := Nat × Hx × Hd × Store
theorem made_spec (S : Store) (q : Hd) (acs : List Rc.Ev) (hq : AsIs S q acs) (hn : acs.length ≤ 1000000000000000) : Pure Tryz.prog 12 S [slV q] (A := Hx × Hd × Bool) rDone (fun S' z => DPost (madeR acs) S' z) := by
  have hl := as_len hq
  obtain ⟨p, n, c⟩ := q
  have hl : n = acs.length := hl
  subst hl
  refine pure_vc agrees Tryz.func12 rfl rfl (fun S S' q hle h => h.le hle) ?_
  refine ⟨[], [], Qm, [8, 9, 10, 11] ++ List.range' 15 32, fun a => [(6, .c (.v (slV a.2.2.1))), (14, rI a.1)], fun a => [.box [.v (.slice none 0 0), .v (.map none), .v (.map none)], .box [.v (slV a.2.1.1), .v (.map a.2.1.2.1), .v (.map a.2.1.2.2)]], fun a => a.2.2.2,
    fun a => a.1 ≤ acs.length ∧ S.le a.2.2.2 ∧ HIs a.2.2.2 a.2.1 (madeR (acs.take a.1)) ∧ LIs a.2.2.2 a.2.2.1 (madeR (acs.take a.1)), fun a => acs.length - a.1, ?_⟩
  refine And.intro (Exists.intro (0, ((none, 0, 0), none, none), (none, 0, 0), S) (And.intro (And.intro (And.intro ?_ rfl) (And.intro rfl (Store.le_refl _))) ⟨Nat.zero_le _, Store.le_refl _, h_nil S, l_nil S⟩)) ?_
  · repeat' first | exact trivial | exact rfl | refine And.intro ?_ ?_
  rintro ⟨i, x, qr, Sa⟩ ⟨hi, hSa, hx, hr⟩
  have hi : i ≤ acs.length := hi
  have hSa : S.le Sa := hSa
  have hx : HIs Sa x (madeR (acs.take i)) := hx
  have hr : LIs Sa qr (madeR (acs.take i)) := hr
  have i0 : (0 : Int) ≤ ((i : Nat) : Int) := Int.natCast_nonneg _
  refine And.intro (fun h => ?_) (fun h => ?_)
  · have hil : i < acs.length := by
      have : ((i : Nat) : Int) < ((acs.length : Nat) : Int) := of_decide_eq_true h
      omega
    clear h
    obtain ⟨y, a, b, o, ha, hy, hp, hrd⟩ := act_at (hq.le hSa) hil
    have hst := made_step ha
    refine ⟨i0, by show ((i : Nat) : Int) < ((acs.length : Nat) : Int); omega, b, o, hp, y, okA _, hrd, ?_⟩
    refine ⟨⟨_, rfl, rfl, rfl⟩, .inl ⟨_, _, _, done_spec Sa x qr _ hx hr y a hy, fun S1 z hS1 hz => ?_⟩⟩
    obtain ⟨z1, z2, zb⟩ := z
    obtain ⟨hz1, hz2, hz3⟩ := hz
    have hz1 : HIs S1 z1 (doneR (madeR (acs.take i)) a) := hz1
    have hz2 : LIs S1 z2 (doneR (madeR (acs.take i)) a) := hz2
    have hz3 : zb = true := hz3
    subst hz3
    have hl1 := Rc.hist_len hz1.hs
    have hl0 := Rc.hist_len hx.hs
    refine offE rfl ⟨⟨_, rfl, rfl, rfl⟩, .inl ⟨_, _, _, events_spec S1 z1 _ hz1, fun S2 q2 hS2 hq2 => ?_⟩⟩
    refine ⟨⟨_, rfl, rfl, rfl⟩, .inl ⟨_, _, _, same_spec S2 q2 z2 _ hq2 (hz2.le hS2) (by omega), fun S3 _ hS3 _ => ?_⟩⟩
    have hSa3 : Sa.le S3 := Store.le_trans hS1 (Store.le_trans hS2 hS3)
    refine offE rfl ⟨⟨_, rfl, rfl, rfl⟩, .inl ⟨_, _, _, events_spec S3 x _ (hx.le hSa3), fun S4 q4 hS4 hq4 => ?_⟩⟩
    refine ⟨⟨_, rfl, rfl, rfl⟩, .inl ⟨_, _, _, same_spec S4 q4 qr _ hq4 (hr.le (Store.le_trans hSa3 hS4)) (by omega), fun S5 _ hS5 _ => ?_⟩⟩
    have h15 : S1.le S5 := Store.le_trans hS2 (Store.le_trans hS3 (Store.le_trans hS4 hS5))
    refine offE rfl ⟨((i + 1 : Nat) : Int), wrap_i64 (by omega) (by omega), (i + 1, z1, z2, S5), ⟨⟨?_, rfl⟩, rfl, Store.le_refl _⟩, ⟨hil, Store.le_trans hSa (Store.le_trans hS1 h15), ?_, ?_⟩, by show acs.length - (i + 1) < acs.length - i; omega⟩
    · repeat' first | exact trivial | exact rfl | refine And.intro ?_ ?_
    · show HIs S5 z1 (madeR (acs.take (i + 1))); rw [hst]; exact hz1.le h15
    · show LIs S5 z2 (madeR (acs.take (i + 1))); rw [hst]; exact hz2.le h15
  · have hil : i = acs.length := by
      have : ¬ ((i : Nat) : Int) < ((acs.length : Nat) : Int) := of_decide_eq_false h
      omega
    rw [hil, List.take_length] at hx hr
    exact ⟨rfl, (x, qr, true), rfl, hx, hr, rfl⟩
end Go.Proofs.YtpeehenohdlfdaaGreatDoor
