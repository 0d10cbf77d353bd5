/- law09: the reference's search: choices (76), Step (77). -/
import Derived.Test.YtapblcfbmaikjaaGreatDoorGy
import Derived.Test.YtapblcfbmaikjaaGreatDoorGk
namespace Go.Proofs.YtapblcfbmaikjaaGreatDoor
open Go Go.Vc Go.Sort Go.RowKit Go.Maps
set_option maxRecDepth 100000
set_option maxHeartbeats 1000000

abbrev Rz := Mm × Hd × Hd
@[reducible] def vRz (x : Rz) : Value := .agg #[slV x.1.1, slV x.1.2, slV x.2.1, slV x.2.2]
@[reducible] def cRz (x : Rz) : List C := [.v (slV x.1.1), .v (slV x.1.2), .v (slV x.2.1), .v (slV x.2.2)]
@[reducible] def rRz (x : Rz) : SV := .agg (cRz x)
structure RzIs (S : Store) (x : Rz) (s : Li.St) : Prop where
  m : RmIs S x.1 s.m
  d : DidIs S x.2.1 s.did
  t : TdIs S x.2.2 s.told
theorem TdIs.le {S S' : Store} (h : S.le S') {q told} (hx : TdIs S q told) : TdIs S' q told := by
  obtain ⟨L, h1, h2, h3, h4⟩ := hx
  exact ⟨L, h1, h2, h3.le h, fun z hz => ⟨(h4 z hz).1, (h4 z hz).2.1.le h, (h4 z hz).2.2⟩⟩
theorem RzIs.le {S S' : Store} (h : S.le S') {x s} (hx : RzIs S x s) : RzIs S' x s := ⟨hx.m.le h, hx.d.le h, hx.t.le h⟩
/-- What the store knows of the act that a thread does next. -/
theorem act_at {S : Store} {q : Hd} {T : List (List Li.Act)} (hT : ThIs S q T) {s : Li.St} {k : Nat} {a : Li.Act} (ha : Li.actAt T s k = some a) :
    ∃ (yp : Option Addr) (yc b3 o3 b4 o4 : Nat), q.1 = some ⟨b3, o3, none⟩ ∧ Shape.slice.ok ((yp, (T.getD k []).length, yc) : Hd) ∧ S.rd b3 (o3 + k * Shape.slice.n) (Shape.slice.enc ((yp, (T.getD k []).length, yc) : Hd)) ∧
      yp = some ⟨b4, o4, none⟩ ∧ shA.ok ((a.op, a.loc, a.old, a.new) : Ax) ∧ S.rd b4 (o4 + s.did.getD k 0 * shA.n) (shA.enc ((a.op, a.loc, a.old, a.new) : Ax)) ∧ okAct a := by
  obtain ⟨hk, hd, hm1, hm2⟩ := Li.act_some ha
  obtain ⟨hq, y, b3, o3, hy, hqy, hp3, ok3, hrd3⟩ := hT.at hk
  have ey : T.getD k [] = y := by rw [List.getD_eq_getElem?_getD, hy]; rfl
  rw [ey] at hd hm1 ⊢
  have hql := hqy.len
  obtain ⟨ax, a', b4, o4, hja, ⟨hax, hoka⟩, hp4, ok4, hrd4⟩ := RowOf.at hqy hd
  have ea : a' = a := by
    unfold Li.actAt at ha
    rw [ey, hja] at ha
    exact Option.some.inj ha
  subst ea hax
  obtain ⟨qp, qn, qc⟩ := hq
  have hql : qn = y.length := hql
  subst hql
  exact ⟨qp, qc, b3, o3, b4, o4, hp3, ok3, hrd3, hp4, ok4, hrd4, hoka⟩
theorem did_at {S : Store} {q : Hd} {d : List Nat} (h : DidIs S q d) {k : Nat} (hk : k < d.length) : ∃ (b o : Nat), q.1 = some ⟨b, o, none⟩ ∧ shI.ok ((d.getD k 0 : Nat) : Int) ∧ S.rd b (o + k * shI.n) (shI.enc ((d.getD k 0 : Nat) : Int)) := by
  obtain ⟨b1, o1, hp1, ok1, hrd1⟩ := row_at h.2.2 (i := k) (x := ((d.getD k 0 : Nat) : Int)) (by rw [List.getElem?_map, List.getD_eq_getElem?_getD, List.getElem?_eq_getElem hk]; rfl)
  exact ⟨b1, o1, hp1, ok1, hrd1⟩
theorem rchoices_spec (S : Store) (x : Tz) (T : List (List Li.Act)) (hx : ThIs S x.2 T) (z : Rz) (s : Li.St) (hz : RzIs S z s) (n : Nat) (hf : fewM n s.m) (ho : Li.okS n T s) (hoT : Li.okT n T) (hT : T.length ≤ 8) (h8 : ∀ l ∈ T, l.length ≤ 8) (k : Nat) (a : Li.Act) (ha : Li.actAt T s k = some a) :
    Pure Tryz.prog 76 S [vT x, vRz z, .int .i64 ((k : Int) + 1)] (A := Unit) (fun _ => rI (Li.choicesS T s k : Nat)) (fun _ _ => True) := by
  obtain ⟨hk, hd, hm1, hm2⟩ := Li.act_some ha
  obtain ⟨yp, yc, b3, o3, b4, o4, e3, ok3, r3, e4, ok4, r4, oka⟩ := act_at hx ha
  have hdl := ho.dl
  obtain ⟨b1, o1, e1, ok1, r1⟩ := did_at hz.d (k := k) (by omega)
  have t1 := hx.len
  have d1 := hz.d.1
  have hn := hf.ok.len
  have hkv : k < s.m.vs.length := by rw [ho.vl]; exact hk
  have m1 := hz.m.vs.len
  have m2 := hz.m.ms.len
  have hzm := hz.m
  have hy8 := h8 _ hm2
  have hch : ∀ c, (if a.op = 1 ∨ a.op = 2 then (Li.hist s.m a.loc.toNat).length - (Li.seen s.m k).getD a.loc.toNat 0 else 1) = c → Li.choicesS T s k = c := fun c h => by unfold Li.choicesS; rw [ha]; exact h
  have hloc := Li.okA_of hoT ha
  obtain ⟨⟨fp, fn, fc⟩, ⟨tp, tn, tc⟩⟩ := x
  obtain ⟨⟨⟨p, np, pc⟩, ⟨p2, np2, pc2⟩⟩, ⟨dp, dn, dc⟩, ⟨op, on', oc⟩⟩ := z
  have t1 : tn = T.length := t1
  have d1 : dn = s.did.length := d1
  have m1 : np = s.m.vs.length := m1
  have m2 : np2 = s.m.ms.length := m2
  subst t1 d1 m1 m2
  obtain ⟨ao, al, ⟨a1, a2, a3⟩, a4, a5, a6⟩ := a
  refine pure_vc agrees Tryz.func76 rfl rfl (fun S S' q hle h => h) ?_
  have wk1 : IntKind.i64.wrap ((k : Int) + 1 - 1) = (k : Int) := by rw [wrap_i64 (by omega) (by omega)]; omega
  have k0 : (0 : Int) ≤ (k : Int) := Int.natCast_nonneg _
  have kd : (k : Int) < ((s.did.length : Nat) : Int) := by omega
  have kt : (k : Int) < ((T.length : Nat) : Int) := by omega
  have j0 : (0 : Int) ≤ ((s.did.getD k 0 : Nat) : Int) := Int.natCast_nonneg _
  have jy : ((s.did.getD k 0 : Nat) : Int) < (((T.getD k []).length : Nat) : Int) := by omega
  refine ⟨or76_1, [2], oF76_1, by kernel_rfl, ?_⟩
  refine ⟨(k : Int), wk1, (k : Int), wk1, k0, kt, b3, o3, e3, ((yp, (T.getD k []).length, yc) : Hd), ok3, r3, k0, kd, b1, o1, e1, ((s.did.getD k 0 : Nat) : Int), ok1, r1, j0, jy, b4, o4, e4, ((ao, al, (a1, a2, a3), a4, a5, a6) : Ax), ok4, r4, ?_⟩
  by_cases h1 : ao = 1
  case' pos => refine offE (bne_eq_false_iff_eq.2 h1) (onF ?_)
  case' neg =>
    refine onE (bne_iff_ne.2 h1) ?_
    by_cases h2 : ao = 2
    case' neg => exact onE (bne_iff_ne.2 h2) ⟨rfl, (), by rw [hch 1 (if_neg (fun q => q.elim h1 h2))]; rfl, trivial⟩
    case' pos => refine offE (bne_eq_false_iff_eq.2 h2) ?_
  all_goals
    have h12 : ao = 1 ∨ ao = 2 := by omega
    obtain ⟨lo, hlo, hlon⟩ : ∃ lo : Nat, al = (lo : Int) ∧ lo < n := by
      have hl := hloc.2.2
      have hl : ao ≠ 0 → ao ≠ 8 → 0 ≤ al ∧ al < (n : Int) := hl
      have := hl (by omega) (by omega)
      exact ⟨al.toNat, by omega, by omega⟩
    subst hlo
    obtain ⟨vp, vc, b5, o5, hp, hc', b6, o6, e5, ok5, r5, hvd, e6, ok6, r6, hhd, hsv⟩ := rm_at hzm hf hkv hlon
    have hal : lo < s.m.ms.length := by omega
    have hvl := hsv.1
    obtain ⟨b7, o7, e7, ok7, r7⟩ := did_at hvd (k := lo) (by omega)
    have hlt := hsv.2 lo hal
    have hlt : (Li.seen s.m k).getD lo 0 < (Li.hist s.m lo).length := hlt
    have hhl : (Li.hist s.m lo).length ≤ 100000 := hf.hist hlon
    have kv : (k : Int) < ((s.m.vs.length : Nat) : Int) := by omega
    have a0 : (0 : Int) ≤ (lo : Int) := Int.natCast_nonneg _
    have alm : (lo : Int) < ((s.m.ms.length : Nat) : Int) := by omega
    have alv : (lo : Int) < (((Li.seen s.m k).length : Nat) : Int) := by omega
    refine ⟨or76_4, [], oF76_4, by kernel_rfl, ?_⟩
    refine ⟨(k : Int), wk1, a0, alm, b6, o6, e6, ((hp, (Li.hist s.m lo).length, hc') : Hd), ok6, r6, k0, kv, b5, o5, e5, ((vp, (Li.seen s.m k).length, vc) : Hd), ok5, r5, a0, alv, b7, o7, e7, (((Li.seen s.m k).getD lo 0 : Nat) : Int), ok7, r7, ?_⟩
    have wd : IntKind.i64.wrap ((((Li.hist s.m lo).length : Nat) : Int) - (((Li.seen s.m k).getD lo 0 : Nat) : Int)) = (((Li.hist s.m lo).length - (Li.seen s.m k).getD lo 0 : Nat) : Int) := by rw [wrap_i64 (by omega) (by omega)]; omega
    refine ⟨(((Li.hist s.m lo).length - (Li.seen s.m k).getD lo 0 : Nat) : Int), wd, ?_⟩
    exact ⟨rfl, (), by rw [hch _ (if_pos h12)]; rfl, trivial⟩
theorem td_set {S : Store} {L : List (Hd × List Li.Wd)} {k : Nat} {x : Hd} {y : List Li.Wd} {p : Option Addr} {c : Nat} (hK : ∀ z ∈ L, WtIs S z.1 z.2) (hx : WtIs S x y) (hr : RowRd S p .slice ((L.map (·.1)).set k x)) : TdIs S (p, ((L.map (·.1)).set k x).length, c) ((L.map (·.2)).set k y) := by
  refine ⟨L.set k (x, y), by rw [List.map_set], by show ((L.map (·.1)).set k x).length = _; rw [List.length_set, List.length_set, List.length_map], by rw [List.map_set]; exact hr, fun z hz => ?_⟩
  rcases List.mem_or_eq_of_mem_set hz with hz | hz
  · exact hK z hz
  · rw [hz]; exact hx
theorem rstep_spec (S : Store) (x : Tz) (T : List (List Li.Act)) (hx : ThIs S x.2 T) (z : Rz) (s : Li.St) (hz : RzIs S z s) (n : Nat) (hf : fewM n s.m) (hn8 : n ≤ 8) (ho : Li.okS n T s) (hoT : Li.okT n T) (hT : T.length ≤ 8) (h8 : ∀ l ∈ T, l.length ≤ 8) (htl : ∀ ws ∈ s.told, ws.length ≤ 10000) (k : Nat) (a : Li.Act) (ha : Li.actAt T s k = some a) (c : Int) (hc : inI64 c) :
    Pure Tryz.prog 77 S [vT x, vRz z, .int .i64 ((k : Int) + 1), .int .i64 c] (A := Rz) rRz (fun S' y => RzIs S' y (Li.stepS T s k c)) := by
  obtain ⟨hk, hd, hm1, hm2⟩ := Li.act_some ha
  obtain ⟨yp, yc, b3, o3, b4, o4, e3, ok3, r3, e4, ok4, r4, oka⟩ := act_at hx ha
  have hdl := ho.dl
  obtain ⟨b1, o1, e1, ok1, r1⟩ := did_at hz.d (k := k) (by omega)
  have t1 := hx.len
  have d1 := hz.d.1
  have d3 := hz.d.2.2
  have hkv : k < s.m.vs.length := by rw [ho.vl]; exact hk
  have hy8 := h8 _ hm2
  have hdo := fun (S' : Store) (hS : S.le S') => rdo_spec S' z.1 s.m n (hz.m.le hS) hf hn8 k hkv a oka.2.2.2 (Li.okA_of hoT ha) c hc
  have han := fun (S' : Store) => answers_spec S' a.op
  obtain ⟨L, hL1, hL2, hL3, hL4⟩ := hz.t
  have hLl : L.length = T.length := by have := congrArg List.length hL1; rw [List.length_map] at this; rw [this]; exact ho.tl
  obtain ⟨H, hH⟩ : ∃ H : List Hd, H = L.map (·.1) := ⟨_, rfl⟩
  have hHl : H.length = T.length := by rw [hH, List.length_map, hLl]
  have hL3 : RowRd S z.2.2.1 .slice H := by rw [hH]; exact hL3
  obtain ⟨⟨u1, u2⟩, hu⟩ : ∃ u, L[k]? = some u := ⟨_, List.getElem?_eq_getElem (by omega)⟩
  have hu2 : s.told.getD k [] = u2 := by rw [← hL1, List.getD_eq_getElem?_getD, List.getElem?_map, hu]; rfl
  have hut := hL4 _ (List.mem_of_getElem? hu)
  have hul : u2.length ≤ 10000 := by
    rw [← hu2]
    exact htl _ (Li.getD_mem (by rw [ho.tl]; exact hk))
  have hHk : H[k]? = some u1 := by rw [hH, List.getElem?_map, hu]; rfl
  have hst : Li.stepS T s k c = ⟨(Li.doM s.m k a c).1, s.did.set k (s.did.getD k 0 + 1), if Li.tells a then s.told.set k (u2 ++ [(Li.doM s.m k a c).2]) else s.told⟩ := by unfold Li.stepS; rw [ha]; dsimp only; rw [hu2]
  have htls : Li.tells a = (decide (a.op = 1) || decide (a.op = 2) || decide (a.op = 5) || decide (a.op = 6)) := rfl
  have hle8 := ho.le k hk
  rw [hst]
  obtain ⟨⟨fp, fn, fc⟩, ⟨tp, tn, tc⟩⟩ := x
  obtain ⟨⟨⟨p, np, pc⟩, ⟨p2, np2, pc2⟩⟩, ⟨dp, dn, dc⟩, ⟨op, on', oc⟩⟩ := z
  have t1 : tn = T.length := t1
  have d1 : dn = s.did.length := d1
  have L2 : on' = L.length := hL2
  subst t1 d1 L2
  obtain ⟨ao, al, ⟨a1, a2, a3⟩, a4, a5, a6⟩ := a
  obtain ⟨u3, u4, u5⟩ := u1
  have hu1 : u4 = u2.length := hut.1
  subst hu1
  have hr5 : RowRd S u3 shW u2 := hut.2.1
  refine pure_vc agrees Tryz.func77 rfl rfl (fun S S' q hle h => h.le hle) ?_
  have wk1 : IntKind.i64.wrap ((k : Int) + 1 - 1) = (k : Int) := by rw [wrap_i64 (by omega) (by omega)]; omega
  have k0 : (0 : Int) ≤ (k : Int) := Int.natCast_nonneg _
  have kd : (k : Int) < ((s.did.length : Nat) : Int) := by omega
  have kt : (k : Int) < ((T.length : Nat) : Int) := by omega
  have j0 : (0 : Int) ≤ ((s.did.getD k 0 : Nat) : Int) := Int.natCast_nonneg _
  have jy : ((s.did.getD k 0 : Nat) : Int) < (((T.getD k []).length : Nat) : Int) := by omega
  refine ⟨or77_1, [], oF77_1, by kernel_rfl, ?_⟩
  refine offE (decide_eq_false (show ¬ (k : Int) + 1 < 1 by omega)) ?_
  refine offE (decide_eq_false (show ¬ (k : Int) + 1 > ((T.length : Nat) : Int) by omega)) ?_
  refine ⟨(k : Int), wk1, (k : Int), wk1, k0, kd, b1, o1, e1, ((s.did.getD k 0 : Nat) : Int), ok1, r1, k0, kt, b3, o3, e3, ((yp, (T.getD k []).length, yc) : Hd), ok3, r3, ?_⟩
  refine offE (decide_eq_false (show ¬ ((s.did.getD k 0 : Nat) : Int) ≥ (((T.getD k []).length : Nat) : Int) by omega)) ?_
  refine ⟨(k : Int), wk1, ?_⟩
  refine ⟨or77_4, [3], oF77_4, by kernel_rfl, ?_⟩
  refine ⟨k0, kt, b3, o3, e3, ((yp, (T.getD k []).length, yc) : Hd), ok3, r3, k0, kd, b1, o1, e1, ((s.did.getD k 0 : Nat) : Int), ok1, r1, j0, jy, b4, o4, e4, ((ao, al, (a1, a2, a3), a4, a5, a6) : Ax), ok4, r4, ?_⟩
  refine ⟨⟨_, rfl, rfl, rfl⟩, .inl ⟨_, _, _, hdo S (Store.le_refl _), fun S1 y hS1 hy => ?_⟩⟩
  obtain ⟨hy1, hy2, hy3⟩ := hy
  obtain ⟨⟨⟨y1, y2, y3⟩, ⟨y4, y5, y6⟩⟩, ⟨w1, w2, w3⟩, yb⟩ := y
  have hy2 : (w1, w2, w3) = (Li.doM s.m k ⟨ao, al, (a1, a2, a3), a4, a5, a6⟩ c).2 := hy2
  obtain ⟨V, hV⟩ : ∃ V : List Int, V = s.did.map fun i : Nat => (i : Int) := ⟨_, rfl⟩
  have hVl : V.length = s.did.length := by rw [hV, List.length_map]
  have hVk : V[k]? = some ((s.did.getD k 0 : Nat) : Int) := by rw [hV, List.getElem?_map, List.getD_eq_getElem?_getD, List.getElem?_eq_getElem (by omega)]; rfl
  have d3 : RowRd S dp shI V := by rw [hV]; exact d3
  refine ⟨V, src_of hVl.symm (d3.le hS1), fun _ _ => trivial, by show (0 + V.length) * 8 ≤ 140737488355328; omega, ?_⟩
  have kV : (k : Int) < ((([] ++ V : List Int).length : Nat) : Int) := by rw [List.nil_append]; omega
  have gV : ([] ++ V : List Int)[((k : Nat) : Int).toNat]? = some ((s.did.getD k 0 : Nat) : Int) := by rw [List.nil_append, Int.toNat_natCast]; exact hVk
  refine ⟨k0, kV, ((s.did.getD k 0 : Nat) : Int), gV, ((s.did.getD k 0 + 1 : Nat) : Int), by rw [wrap_i64 (by omega) (by omega)]; omega, k0, kV, ((s.did.getD k 0 : Nat) : Int), ((s.did.getD k 0 + 1 : Nat) : Int), gV, trivial, rfl, Nat.le_refl 1, ?_⟩
  refine ⟨H, src_of (by rw [hHl, hLl]) (hL3.le hS1), fun _ _ => trivial, by show (0 + H.length) * 24 ≤ 140737488355328; omega, ?_⟩
  have kH : (k : Int) < ((([] ++ H : List Hd).length : Nat) : Int) := by rw [List.nil_append]; omega
  have gH : ([] ++ H : List Hd)[((k : Nat) : Int).toNat]? = some ((u3, u2.length, u5) : Hd) := by rw [List.nil_append, Int.toNat_natCast]; exact hHk
  have dids : ∀ (S5 : Store) (p5 : Option Addr) (c5 : Nat), RowRd S5 p5 shI (V.set k ((s.did.getD k 0 + 1 : Nat) : Int)) → PForm p5 (V.set k ((s.did.getD k 0 + 1 : Nat) : Int)).length c5 → DidIs S5 (p5, (V.set k ((s.did.getD k 0 + 1 : Nat) : Int)).length, c5) (s.did.set k (s.did.getD k 0 + 1)) := fun S5 p5 c5 hr hpf => by
    have hc := pform_le hpf
    rw [List.length_set, hVl] at hc
    refine ⟨?_, ?_, ?_⟩
    · show (V.set k _).length = _; rw [List.length_set, List.length_set, hVl]
    · rw [List.length_set]; exact hc
    · show RowRd S5 p5 shI ((s.did.set k (s.did.getD k 0 + 1)).map fun i : Nat => (i : Int))
      rw [List.map_set, ← hV]; exact hr
  have hS1z : TdIs S1 (op, L.length, oc) s.told := hz.t.le hS1
  refine ⟨⟨_, rfl, rfl, rfl⟩, .inl ⟨_, _, _, han S1, fun S2 _ hS2 _ => ?_⟩⟩
  have hS02 := Store.le_trans hS1 hS2
  rw [htls]
  refine And.intro (fun hb => ?_) (fun hb => ?_)
  · rw [if_pos hb]
    have fin : ∀ (S5 S6 S7 : Store) (p5 : Option Addr) (c5 : Nat) (p6 : Option Addr) (c6 : Nat) (p7 : Option Addr) (c7 : Nat), S2.le S5 → RowRd S5 p5 shW (u2 ++ [((w1, w2, w3) : Li.Wd)]) → S5.le S6 → RowRd S6 p6 shI (V.set k ((s.did.getD k 0 + 1 : Nat) : Int)) → PForm p6 (V.set k ((s.did.getD k 0 + 1 : Nat) : Int)).length c6 → S6.le S7 → RowRd S7 p7 .slice (H.set k ((p5, (u2 ++ [((w1, w2, w3) : Li.Wd)]).length, c5) : Hd)) →
        RzIs S7 (((y1, y2, y3), (y4, y5, y6)), (p6, (V.set k ((s.did.getD k 0 + 1 : Nat) : Int)).length, c6), (p7, (H.set k ((p5, (u2 ++ [((w1, w2, w3) : Li.Wd)]).length, c5) : Hd)).length, c7)) ⟨(Li.doM s.m k ⟨ao, al, (a1, a2, a3), a4, a5, a6⟩ c).1, s.did.set k (s.did.getD k 0 + 1), s.told.set k (u2 ++ [(Li.doM s.m k ⟨ao, al, (a1, a2, a3), a4, a5, a6⟩ c).2])⟩ := fun S5 S6 S7 p5 c5 p6 c6 p7 c7 h5 r5 h6 r6 f6 h7 r7 => by
      have h27 := Store.le_trans h5 (Store.le_trans h6 h7)
      refine ⟨hy1.le (Store.le_trans hS2 h27), (dids S6 p6 c6 r6 f6).le h7, ?_⟩
      show TdIs S7 _ (s.told.set k (u2 ++ [(Li.doM s.m k _ c).2]))
      rw [← hy2, ← hL1]
      subst hH
      refine td_set (fun z hz => ?_) ?_ r7
      · obtain ⟨g1, g2, g3⟩ := hL4 z hz
        exact ⟨g1, g2.le (Store.le_trans hS02 h27), g3⟩
      · refine ⟨rfl, r5.le (Store.le_trans h6 h7), fun w hw => ?_⟩
        rcases List.mem_append.1 hw with hw | hw
        · exact hut.2.2 w hw
        · simp only [List.mem_singleton] at hw
          rw [hw]; exact hy3
    refine ⟨or77_10, [7, 8, 9, 10], oF77_10, by kernel_rfl, ?_⟩
    repeat' (first
      | exact trivial
      | refine ⟨k0, kH, ?_⟩
      | refine ⟨((u3, u2.length, u5) : Hd), gH, ?_⟩
      | refine ⟨u2, src_of rfl (hr5.le hS02), fun _ _ => ⟨trivial, trivial, trivial⟩, (by show (0 + u2.length) * 16 ≤ 140737488355328; omega), ?_⟩
      | refine ⟨[((w1, w2, w3) : Li.Wd)], ⟨rfl, rfl⟩, fun _ _ => ⟨trivial, trivial, trivial⟩, (by show (u2.length + 1) * 16 ≤ 140737488355328; omega), ?_⟩
      | refine And.intro ?_ ?_)
    all_goals
      intro p5 c5 S5 hS5 hr5' hpf5
      refine ⟨((u3, u2.length, u5) : Hd), ((p5, (u2 ++ [((w1, w2, w3) : Li.Wd)]).length, c5) : Hd), gH, trivial, rfl, Nat.le_refl 1, ?_⟩
      intro p6 c6 S6 hS6 hr6 hpf6 p7 c7 S7 hS7 hr7 hpf7
      exact ⟨rfl, _, rfl, fin S5 S6 S7 p5 c5 p6 c6 p7 c7 hS5 hr5' hS6 hr6 hpf6.1 hS7 hr7⟩
  · rw [if_neg (by rw [hb]; decide)]
    intro p6 c6 S6 hS6 hr6 hpf6 p7 c7 S7 hS7 hr7 hpf7
    refine ⟨rfl, (((y1, y2, y3), (y4, y5, y6)), (p6, (V.set k ((s.did.getD k 0 + 1 : Nat) : Int)).length, c6), (p7, H.length, c7)), rfl, ?_, ?_, ?_⟩
    · exact hy1.le (Store.le_trans hS2 (Store.le_trans hS6 hS7))
    · exact (dids S6 p6 c6 hr6 hpf6.1).le hS7
    · refine ⟨L, hL1, ?_, ?_, fun z hz => ?_⟩
      · rw [hH, List.length_map]
      · rw [← hH]; exact hr7
      · obtain ⟨g1, g2, g3⟩ := hL4 z hz
        exact ⟨g1, g2.le (Store.le_trans hS02 (Store.le_trans hS6 hS7)), g3⟩
end Go.Proofs.YtapblcfbmaikjaaGreatDoor
