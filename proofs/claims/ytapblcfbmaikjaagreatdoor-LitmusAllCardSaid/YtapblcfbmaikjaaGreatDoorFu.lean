/- law09: a run of a test: what the store knows of it; act. -/
import Derived.Test.YtapblcfbmaikjaaGreatDoorFq
import Derived.Test.YtapblcfbmaikjaaGreatDoorFt
namespace Go.Proofs.YtapblcfbmaikjaaGreatDoor
open Go Go.Vc Go.Sort Go.RowKit Go.Maps
set_option maxRecDepth 100000
set_option maxHeartbeats 8000000

abbrev Ax := Int × Int × (Int × Int × Int) × Int × Int × Int
def okAct (a : Li.Act) : Prop := inI64 a.op ∧ inI64 a.loc ∧ okW a.old ∧ okW a.new
def AxIs (_ : Store) (x : Ax) (a : Li.Act) : Prop := x = (a.op, a.loc, a.old, a.new) ∧ okAct a
def ActsIs (S : Store) (q : Hd) (l : List Li.Act) : Prop := RowOf S shA AxIs q l
theorem ActsIs.le {S S' : Store} (h : S.le S') {q l} (hx : ActsIs S q l) : ActsIs S' q l := RowOf.le (S := S) (S' := S') (fun _ _ h => h) h hx
def ThIs (S : Store) (q : Hd) (T : List (List Li.Act)) : Prop := RowOf S .slice ActsIs q T
theorem ThIs.le {S S' : Store} (h : S.le S') {q l} (hx : ThIs S q l) : ThIs S' q l := RowOf.le (fun _ _ => ActsIs.le h) h hx
def BsIs (S : Store) (q : Hd) (e : List Bool) : Prop := q.2.1 = e.length ∧ e.length ≤ q.2.2 ∧ RowRd S q.1 shB e
theorem BsIs.le {S S' : Store} (h : S.le S') {q d} (hx : BsIs S q d) : BsIs S' q d := ⟨hx.1, hx.2.1, hx.2.2.le h⟩
def SsIs (S : Store) (q : Hd) (ss : List Li.Bs) : Prop := q.2.1 = ss.length ∧ ss.length ≤ q.2.2 ∧ RowRd S q.1 .str (ss.map bs)
theorem SsIs.le {S S' : Store} (h : S.le S') {q d} (hx : SsIs S q d) : SsIs S' q d := ⟨hx.1, hx.2.1, hx.2.2.le h⟩
def ToIs (S : Store) (q : Hd) (l : List (List Li.Wd)) : Prop := RowOf S .slice (fun S h ws => SsIs S h (ws.map Li.textW) ∧ ∀ w ∈ ws, okW w) q l
theorem ToIs.le {S S' : Store} (h : S.le S') {q l} (hx : ToIs S q l) : ToIs S' q l := RowOf.le (fun _ _ hz => ⟨hz.1.le h, hz.2⟩) h hx
abbrev Tz := Hd × Hd
abbrev Rx := Tz × Mcx × Hd × Hd × Hd
@[reducible] def vT (x : Tz) : Value := .agg #[slV x.1, slV x.2]
@[reducible] def cT (x : Tz) : List C := [.v (slV x.1), .v (slV x.2)]
@[reducible] def vR (x : Rx) : Value := .agg #[slV x.1.1, slV x.1.2, slV x.2.1.1.1, slV x.2.1.1.2, slV x.2.1.2.1.1, slV x.2.1.2.1.2.1, .map x.2.1.2.1.2.2, slV x.2.1.2.2.1, .int .i64 x.2.1.2.2.2, slV x.2.2.1, slV x.2.2.2.1, slV x.2.2.2.2]
@[reducible] def cR (x : Rx) : List C := [.v (slV x.1.1), .v (slV x.1.2), .v (slV x.2.1.1.1), .v (slV x.2.1.1.2), .v (slV x.2.1.2.1.1), .v (slV x.2.1.2.1.2.1), .v (.map x.2.1.2.1.2.2), .v (slV x.2.1.2.2.1), .v (.int .i64 x.2.1.2.2.2), .v (slV x.2.2.1), .v (slV x.2.2.2.1), .v (slV x.2.2.2.2)]
@[reducible] def rR (x : Rx) : SV := .agg (cR x)
structure RunIs (S : Store) (x : Rx) (T : List (List Li.Act)) (r : Li.Rn) (b : Nat) : Prop where
  th : ThIs S x.1.2 T
  m : ∃ d : List Nat, MachIs S x.2.1 r.s.m r.l d ∧ d.length = T.length ∧ ∀ i ∈ d, i ≤ b
  cr : 0 ≤ x.2.1.2.2.2 ∧ x.2.1.2.2.2 ≤ b
  did : DidIs S x.2.2.1 r.s.did
  ends : BsIs S x.2.2.2.1 r.ends
  told : ToIs S x.2.2.2.2 r.s.told
  hs : ∀ h ∈ r.s.m.ms, h.length ≤ b + 1
  st : r.l.st.length ≤ b
  tl : ∀ ws ∈ r.s.told, ws.length ≤ b
theorem RunIs.le {S S' : Store} (h : S.le S') {x T r b} (hx : RunIs S x T r b) : RunIs S' x T r b := by
  obtain ⟨h1, ⟨d, h2, h3, h4⟩, h5, h6, h7, h8, h9, h10, h11⟩ := hx
  exact ⟨h1.le h, ⟨d, h2.le h, h3, h4⟩, h5, h6.le h, h7.le h, h8.le h, h9, h10, h11⟩
theorem ThIs.small {S : Store} {q : Hd} {T : List (List Li.Act)} (h : ThIs S q T) {l : List Li.Act} (hl : l ∈ T) {a : Li.Act} (ha : a ∈ l) : okAct a := by
  obtain ⟨L, rfl, -, -, -, h5⟩ := h
  obtain ⟨z, hz, rfl⟩ := List.mem_map.1 hl
  obtain ⟨L', h1, -, -, -, h6⟩ := h5 z hz
  rw [← h1] at ha
  obtain ⟨y, hy, rfl⟩ := List.mem_map.1 ha
  exact (h6 y hy).2
@[reducible] def rAB (a : Li.Act) (b : Bool) : SV := .tup [(true, cAct a), (false, [.v (.bool b)])]
theorem act_some_spec (S : Store) (x : Rx) (T : List (List Li.Act)) (r : Li.Rn) (b n : Nat) (hx : RunIs S x T r b) (ho : Li.okR n T r) (hT4 : T.length ≤ 8) (k : Nat) (a : Li.Act) (ha : Li.actR T r k = some a) :
    Pure Tryz.prog 46 S [vR x, .int .i64 ((k : Int) + 1)] (A := Unit) (fun _ => rAB a true) (fun _ _ => True) := by
  obtain ⟨ha1, ha2⟩ := Li.actR_some ha
  obtain ⟨hk, hd, hm1, hm2⟩ := Li.act_some ha1
  obtain ⟨d1, d2, d3⟩ := hx.did
  obtain ⟨e1, e2, e3⟩ := hx.ends
  have t1 := hx.th.len
  have hdl := ho.s.dl
  have hel := ho.e
  obtain ⟨b1, o1, hp1, ok1, hrd1⟩ := row_at d3 (i := k) (x := ((r.s.did.getD k 0 : Nat) : Int)) (by rw [List.getElem?_map, List.getD_eq_getElem?_getD, List.getElem?_eq_getElem (by omega)]; rfl)
  obtain ⟨b2, o2, hp2, ok2, hrd2⟩ := row_at e3 (i := k) (x := false) (by rw [List.getD_eq_getElem?_getD, List.getElem?_eq_getElem (by omega)] at ha2; rw [List.getElem?_eq_getElem (by omega)]; exact congrArg some ha2)
  obtain ⟨hq, y, b3, o3, hy, hqy, hp3, ok3, hrd3⟩ := hx.th.at hk
  have ey : T.getD k [] = y := by rw [List.getD_eq_getElem?_getD, hy]; rfl
  rw [ey] at hd hm1
  have hql := hqy.len
  obtain ⟨ax, a', b4, o4, hja, ⟨hax, hoka⟩, hp4, ok4, hrd4⟩ := RowOf.at hqy hd
  have ea : a' = a := by
    unfold Li.actAt at ha1
    rw [ey, hja] at ha1
    exact Option.some.inj ha1
  subst ea hax
  obtain ⟨qp, qn, qc⟩ := hq
  have hql : qn = y.length := hql
  subst hql
  obtain ⟨ao, al, ⟨a1, a2, a3⟩, a4, a5, a6⟩ := a'
  obtain ⟨⟨tf, tq, tn, tc⟩, xm, ⟨dp, dn, dc⟩, ⟨ep, en, ec⟩, xt⟩ := x
  have d1 : dn = r.s.did.length := d1
  have e1 : en = r.ends.length := e1
  have t1 : tn = T.length := t1
  subst d1 e1 t1
  refine pure_vc agrees Tryz.func46 rfl rfl (fun S S' q hle h => h) ?_
  refine ⟨(k : Int), wk k (by omega), or46_2, [], oF46_2, by kernel_rfl, ?_⟩
  have k0 : (0 : Int) ≤ (k : Int) := Int.natCast_nonneg _
  have kd : (k : Int) < ((r.s.did.length : Nat) : Int) := by omega
  have ke : (k : Int) < ((r.ends.length : Nat) : Int) := by omega
  have kt : (k : Int) < ((T.length : Nat) : Int) := by omega
  have j0 : (0 : Int) ≤ ((r.s.did.getD k 0 : Nat) : Int) := Int.natCast_nonneg _
  have jy : ((r.s.did.getD k 0 : Nat) : Int) < ((y.length : Nat) : Int) := by omega
  refine offE (decide_eq_false (show ¬ (k : Int) < 0 by omega)) ?_
  refine offE (decide_eq_false (show ¬ (k : Int) ≥ ((r.s.did.length : Nat) : Int) by omega)) ?_
  refine ⟨k0, ke, b2, o2, hp2, false, ok2, hrd2, onF ?_⟩
  refine ⟨k0, kd, b1, o1, hp1, _, ok1, hrd1, k0, kt, b3, o3, hp3, ((qp, y.length, qc) : Hd), ok3, hrd3, ?_⟩
  refine offE (decide_eq_false (show ¬ ((r.s.did.getD k 0 : Nat) : Int) ≥ ((y.length : Nat) : Int) by omega)) ?_
  refine ⟨or46_4, [1], oF46_4, by kernel_rfl, ?_⟩
  refine ⟨k0, kt, b3, o3, hp3, ((qp, y.length, qc) : Hd), ok3, hrd3, k0, kd, b1, o1, hp1, _, ok1, hrd1, j0, jy, b4, o4, hp4, (ao, al, (a1, a2, a3), a4, a5, a6), ok4, hrd4, ?_⟩
  exact ⟨rfl, (), rfl, trivial⟩
def noAct : Li.Act := ⟨0, 0, (0, 0, 0), (0, 0, 0)⟩
theorem act_none_spec (S : Store) (x : Rx) (T : List (List Li.Act)) (r : Li.Rn) (b n : Nat) (hx : RunIs S x T r b) (ho : Li.okR n T r) (hT4 : T.length ≤ 8) (t : Int) (ht : inI64 t) (ha : 1 ≤ t → Li.actR T r (t - 1).toNat = none) :
    Pure Tryz.prog 46 S [vR x, .int .i64 t] (A := Unit) (fun _ => rAB noAct false) (fun _ _ => True) := by
  obtain ⟨d1, d2, d3⟩ := hx.did
  obtain ⟨e1, e2, e3⟩ := hx.ends
  have t1 := hx.th.len
  have hdl := ho.s.dl
  have hel := ho.e
  have hth := hx.th
  obtain ⟨⟨tf, tq, tn, tc⟩, xm, ⟨dp, dn, dc⟩, ⟨ep, en, ec⟩, xt⟩ := x
  have d1 : dn = r.s.did.length := d1
  have e1 : en = r.ends.length := e1
  have t1 : tn = T.length := t1
  subst d1 e1 t1
  refine pure_vc agrees Tryz.func46 rfl rfl (fun S S' q hle h => h) ?_
  obtain ⟨i, hi⟩ : ∃ i, IntKind.i64.wrap (t - 1) = i := ⟨_, rfl⟩
  have hiw : (t = -9223372036854775808 ∧ i = 9223372036854775807) ∨ i = t - 1 := by
    rw [wrap_i64_eq] at hi
    have := ht.1; have := ht.2
    omega
  refine ⟨i, hi, or46_2, [], oF46_2, by kernel_rfl, ?_⟩
  by_cases h1 : i < 0
  · refine onE (decide_eq_true h1) ?_
    repeat refine onT ?_
    exact ⟨rfl, (), rfl, trivial⟩
  refine offE (decide_eq_false h1) ?_
  by_cases h2 : i ≥ ((r.s.did.length : Nat) : Int)
  · refine onE (decide_eq_true h2) ?_
    repeat refine onT ?_
    exact ⟨rfl, (), rfl, trivial⟩
  refine offE (decide_eq_false h2) ?_
  obtain ⟨k, rfl⟩ : ∃ k : Nat, i = (k : Int) := ⟨i.toNat, by omega⟩
  have hk : k < T.length := by omega
  have hti : t - 1 = (k : Int) := by omega
  have ha := ha (by omega)
  rw [hti, Int.toNat_natCast] at ha
  have k0 : (0 : Int) ≤ (k : Int) := Int.natCast_nonneg _
  have kd : (k : Int) < ((r.s.did.length : Nat) : Int) := by omega
  have ke : (k : Int) < ((r.ends.length : Nat) : Int) := by omega
  have kt : (k : Int) < ((T.length : Nat) : Int) := by omega
  obtain ⟨b2, o2, hp2, ok2, hrd2⟩ := row_at e3 (i := k) (x := r.ends.getD k true) (by rw [List.getD_eq_getElem?_getD, List.getElem?_eq_getElem (by omega)]; rfl)
  refine ⟨k0, ke, b2, o2, hp2, r.ends.getD k true, ok2, hrd2, ?_⟩
  by_cases h3 : r.ends.getD k true = true
  · refine onE h3 ?_
    repeat refine onT ?_
    exact ⟨rfl, (), rfl, trivial⟩
  have h3 : r.ends.getD k true = false := by simpa using h3
  refine offE h3 ?_
  have ha1 : Li.actAt T r.s k = none := by
    unfold Li.actR at ha
    rw [h3] at ha
    exact ha
  have hd := Li.act_none ha1
  obtain ⟨b1, o1, hp1, ok1, hrd1⟩ := row_at d3 (i := k) (x := ((r.s.did.getD k 0 : Nat) : Int)) (by rw [List.getElem?_map, List.getD_eq_getElem?_getD, List.getElem?_eq_getElem (by omega)]; rfl)
  obtain ⟨⟨qp, qn, qc⟩, y, b3, o3, hy, hqy, hp3, ok3, hrd3⟩ := hth.at hk
  have ey : T.getD k [] = y := by rw [List.getD_eq_getElem?_getD, hy]; rfl
  rw [ey] at hd
  have hql : qn = y.length := hqy.len
  subst hql
  refine ⟨k0, kd, b1, o1, hp1, _, ok1, hrd1, k0, kt, b3, o3, hp3, ((qp, y.length, qc) : Hd), ok3, hrd3, ?_⟩
  refine onE (decide_eq_true (show ((r.s.did.getD k 0 : Nat) : Int) ≥ ((y.length : Nat) : Int) by omega)) ?_
  repeat refine onT ?_
  exact ⟨rfl, (), rfl, trivial⟩
end Go.Proofs.YtapblcfbmaikjaaGreatDoor
