/- law09: the law's own run (22). -/
import Derived.Test.YtapblcfbmaikjaaGreatDoorGp
import Derived.Test.YtapblcfbmaikjaaGreatDoorGu
namespace Go.Proofs.YtapblcfbmaikjaaGreatDoor
open Go Go.Vc Go.Sort Go.RowKit Go.Maps
set_option maxRecDepth 100000
set_option maxHeartbeats 16000000

theorem pick_dead {T : List (List Li.Act)} {r : Li.Rn} {pa pb pc : Int} (h2 : pa ≠ 2) (h : 1 ≤ pb → r.ends.length ≤ (pb - 1).toNat ∨ r.ends[(pb - 1).toNat]? = some true) : Li.pickR T r (pa, pb, pc) = r := by
  unfold Li.pickR
  show (if pa = 0 then (if 1 ≤ pb then Li.stepR T r (pb - 1).toNat pc else r) else if pa = 1 then (if 1 ≤ pb then Li.stopR r (pb - 1).toNat else r) else if pa = 2 then Li.crashR T r pc else r) = r
  by_cases hb : 1 ≤ pb
  · have h := h hb
    have hst : Li.stepR T r (pb - 1).toNat pc = r := stepR_none (by
      unfold Li.actR
      rw [if_pos]
      rw [List.getD_eq_getElem?_getD]
      rcases h with h | h
      · rw [List.getElem?_eq_none h]; rfl
      · rw [h]; rfl)
    have hso : Li.stopR r (pb - 1).toNat = r := by
      rcases h with h | h
      · exact ends_set h
      · exact ends_same h
    rw [if_pos hb, if_pos hb, hst, hso, if_neg h2]
    split
    · rfl
    · split <;> rfl
  · rw [if_neg hb, if_neg hb, if_neg h2]
    split
    · rfl
    · split <;> rfl
theorem pick_other {T : List (List Li.Act)} {r : Li.Rn} {pa pb pc : Int} (h0 : pa ≠ 0) (h1 : pa ≠ 1) (h2 : pa ≠ 2) : Li.pickR T r (pa, pb, pc) = r := by
  unfold Li.pickR
  rw [if_neg h0, if_neg h1, if_neg h2]
theorem pick_stop {T : List (List Li.Act)} {r : Li.Rn} {k : Nat} {pc : Int} : Li.pickR T r (1, (k : Int) + 1, pc) = Li.stopR r k := by
  unfold Li.pickR
  rw [if_neg (show ¬ (1 : Int) = 0 by decide), if_pos rfl, if_pos (by show 1 ≤ (k : Int) + 1; omega)]
  congr 1
  show ((k : Int) + 1 - 1).toNat = k
  omega
theorem pick_step {T : List (List Li.Act)} {r : Li.Rn} {k : Nat} {pc : Int} : Li.pickR T r (0, (k : Int) + 1, pc) = Li.stepR T r k pc := by
  unfold Li.pickR
  rw [if_pos rfl, if_pos (by show 1 ≤ (k : Int) + 1; omega)]
  have : ((0, (k : Int) + 1, pc) : Li.Pk).2.1 - 1 = (k : Int) := by show (k : Int) + 1 - 1 = k; omega
  rw [this, Int.toNat_natCast]
theorem pick_crash {T : List (List Li.Act)} {r : Li.Rn} {pb pc : Int} : Li.pickR T r (2, pb, pc) = Li.crashR T r pc := by
  unfold Li.pickR
  rw [if_neg (show ¬ (2 : Int) = 0 by decide), if_neg (show ¬ (2 : Int) = 1 by decide), if_pos rfl]
theorem stepR_all {T : List (List Li.Act)} {r : Li.Rn} {k : Nat} {a : Li.Act} {c : Int} (ha : Li.actR T r k = some a) : (Li.stepR T r k c).s.did = r.s.did.set k (r.s.did.getD k 0 + 1) ∧ (Li.stepR T r k c).s.told = (if Li.tells a then r.s.told.set k (r.s.told.getD k [] ++ [(Li.doM r.s.m k a c).2]) else r.s.told) ∧ (Li.stepR T r k c).ends = r.ends := by
  obtain ⟨ha1, ha2⟩ := Li.actR_some ha
  unfold Li.stepR
  rw [ha]
  show (Li.stepS T r.s k c).did = _ ∧ (Li.stepS T r.s k c).told = _ ∧ r.ends = r.ends
  unfold Li.stepS
  rw [ha1]
  exact ⟨rfl, rfl, rfl⟩
theorem stopped_set {e : List Bool} {i : Nat} (h : i < e.length) : (stopped e i).set i true = stopped e (i + 1) := by
  have := stopped_succ h
  unfold endI at this
  rw [if_pos (by omega)] at this
  rw [← this]
  congr 1
  omega
@[reducible] def iI (l : List Nat) : List Int := l.map fun i : Nat => (i : Int)
@[reducible] def hdL (es : List HL) : List Hd := es.map (·.1)
@[reducible] def tbx (fp : Option Addr) (fc : Nat) (p : Option Addr) (c : Nat) (first : List Li.Wd) (T : List (List Li.Act)) : Res := .box [.v (.slice fp first.length fc), .v (.slice p T.length c)]
@[reducible] def rs0 (t : Res) (z : Mcx) (d : List Int) (q : List Hd) (e : List Bool) (L : List Li.Pk) : List Res := [t, .box (cMc z), .row shI 3 d, .row .slice 22 q, .row shB 4 e, .row shP 58 L]
@[reducible] def rp0 (t : Res) (z : Mcx) (d : List Int) (q : List Hd) (e : List Bool) (L : List Li.Pk) (po : List (Value × List Li.Wd)) : List Res := [t, .box (cMc z), .row shI 3 d, .row .slice 22 q, .row shB 4 e, .row shP 58 L, .pool shW 35 po]
@[reducible] def rs1 (t : Res) (z : Mcx) (d : List Int) (q : List Hd) (e : List Bool) (L : List Li.Pk) : List Res := [t, .box (cMc z), .row shI 3 d, .row shB 4 e, .row .slice 22 q, .row shP 58 L]
@[reducible] def rp1 (t : Res) (z : Mcx) (d : List Int) (q : List Hd) (e : List Bool) (L : List Li.Pk) (po : List (Value × List Li.Wd)) : List Res := [t, .box (cMc z), .row shI 3 d, .row shB 4 e, .row .slice 22 q, .row shP 58 L, .pool shW 35 po]
@[reducible] def rs2 (t : Res) (z : Mcx) (d : List Int) (q : List Hd) (e : List Bool) (L : List Li.Pk) : List Res := [t, .box (cMc z), .row .slice 22 q, .row shI 3 d, .row shB 4 e, .row shP 58 L]
@[reducible] def rp2 (t : Res) (z : Mcx) (d : List Int) (q : List Hd) (e : List Bool) (L : List Li.Pk) (po : List (Value × List Li.Wd)) : List Res := [t, .box (cMc z), .row .slice 22 q, .row shI 3 d, .row shB 4 e, .row shP 58 L, .pool shW 35 po]
@[reducible] def rs3 (t : Res) (z : Mcx) (d : List Int) (q : List Hd) (e : List Bool) (L : List Li.Pk) : List Res := [t, .box (cMc z), .row .slice 22 q, .row shB 4 e, .row shI 3 d, .row shP 58 L]
@[reducible] def rp3 (t : Res) (z : Mcx) (d : List Int) (q : List Hd) (e : List Bool) (L : List Li.Pk) (po : List (Value × List Li.Wd)) : List Res := [t, .box (cMc z), .row .slice 22 q, .row shB 4 e, .row shI 3 d, .row shP 58 L, .pool shW 35 po]
@[reducible] def rs4 (t : Res) (z : Mcx) (d : List Int) (q : List Hd) (e : List Bool) (L : List Li.Pk) : List Res := [t, .box (cMc z), .row shB 4 e, .row shI 3 d, .row .slice 22 q, .row shP 58 L]
@[reducible] def rp4 (t : Res) (z : Mcx) (d : List Int) (q : List Hd) (e : List Bool) (L : List Li.Pk) (po : List (Value × List Li.Wd)) : List Res := [t, .box (cMc z), .row shB 4 e, .row shI 3 d, .row .slice 22 q, .row shP 58 L, .pool shW 35 po]
@[reducible] def rs5 (t : Res) (z : Mcx) (d : List Int) (q : List Hd) (e : List Bool) (L : List Li.Pk) : List Res := [t, .box (cMc z), .row shB 4 e, .row .slice 22 q, .row shI 3 d, .row shP 58 L]
@[reducible] def rp5 (t : Res) (z : Mcx) (d : List Int) (q : List Hd) (e : List Bool) (L : List Li.Pk) (po : List (Value × List Li.Wd)) : List Res := [t, .box (cMc z), .row shB 4 e, .row .slice 22 q, .row shI 3 d, .row shP 58 L, .pool shW 35 po]
theorem at_facts {S : Store} {p : Option Addr} {c k : Nat} {first : List Li.Wd} {T : List (List Li.Act)} {r : Li.Rn} (hth : ThIs S (p, T.length, c) T) (hg : Li.Good first T) (hor : Li.okR first.length T r) (hkT : k < T.length) :
    ∃ (yp : Option Addr) (yc : Nat) (y : List Li.Act) (b o d : Nat), p = some ⟨b, o, none⟩ ∧ Shape.slice.ok ((yp, y.length, yc) : Hd) ∧ S.rd b (o + k * Shape.slice.n) (Shape.slice.enc ((yp, y.length, yc) : Hd)) ∧ RowRd S yp shA (y.map axOf) ∧ (∀ a ∈ y, okAct a) ∧ T.getD k [] = y ∧ y.length ≤ 6 ∧ d = r.s.did.getD k 0 ∧ (iI r.s.did)[(k : Int).toNat]? = some (d : Int) ∧ (k : Int) < (((iI r.s.did).length : Nat) : Int) ∧ d ≤ y.length := by
  obtain ⟨⟨yp, yn, yc⟩, y, b, o, hy, hqy, hp, hyok, hrd⟩ := hth.at (i := k) hkT
  obtain ⟨hyl, hyc, hyr, hyo⟩ := acts_row hqy
  have hyl : yn = y.length := hyl
  subst hyl
  have hyT : T.getD k [] = y := by rw [List.getD_eq_getElem?_getD, hy]; rfl
  have hdl0 := hor.s.dl
  have hdk : r.s.did[k]? = some (r.s.did.getD k 0) := by rw [List.getD_eq_getElem?_getD, List.getElem?_eq_getElem (by rw [hdl0]; exact hkT)]; rfl
  exact ⟨yp, yc, y, b, o, _, hp, hyok, hrd, hyr, hyo, hyT, hg.six y (List.mem_of_getElem? hy), rfl, by rw [Int.toNat_natCast, List.getElem?_map, hdk]; rfl, by rw [List.length_map, hdl0]; omega, by have := hor.s.le k hkT; rw [hyT] at this; exact this⟩
theorem act_facts {S : Store} {yp : Option Addr} {k d : Nat} {y : List Li.Act} {T : List (List Li.Act)} {r : Li.Rn} (hyr : RowRd S yp shA (y.map axOf)) (hyo : ∀ a ∈ y, okAct a) (hyT : T.getD k [] = y) (hd : d = r.s.did.getD k 0) (hdy : d < y.length) (heb : r.ends[k]? = some false) :
    ∃ (a : Li.Act) (b o : Nat), yp = some ⟨b, o, none⟩ ∧ shA.ok (axOf a) ∧ S.rd b (o + d * shA.n) (shA.enc (axOf a)) ∧ Li.actR T r k = some a ∧ okAct a := by
  obtain ⟨a, ha⟩ : ∃ a, y[d]? = some a := ⟨_, List.getElem?_eq_getElem hdy⟩
  obtain ⟨b3, o3, e3, ok3, hr3⟩ := row_at hyr (i := d) (x := axOf a) (by rw [List.getElem?_map, ha]; rfl)
  refine ⟨a, b3, o3, e3, ok3, hr3, ?_, hyo a (List.mem_of_getElem? ha)⟩
  unfold Li.actR
  rw [if_neg (by rw [List.getD_eq_getElem?_getD, heb]; decide)]
  unfold Li.actAt; rw [hyT, ← hd]; exact ha
theorem act_over {k d : Nat} {y : List Li.Act} {T : List (List Li.Act)} {r : Li.Rn} (hyT : T.getD k [] = y) (hd : d = r.s.did.getD k 0) (hdy : y.length ≤ d) : Li.actR T r k = none := by
  unfold Li.actR
  split
  · rfl
  · unfold Li.actAt; rw [hyT, ← hd]; exact List.getElem?_eq_none hdy
theorem es_facts {es : List HL} {k m : Nat} {told : List (List Li.Wd)} (hes : es.map (·.2) = told) (hok : ∀ e ∈ es, okE e) (hk : k < es.length) (htl : ∀ ws ∈ told, ws.length ≤ m ∧ ∀ w ∈ ws, okW w) :
    ∃ A e B, es = A ++ e :: B ∧ A.length = k ∧ e.1.2.1 = e.2.length ∧ e.2.length ≤ m ∧ (hdL (A ++ e :: B))[((A.length : Nat) : Int).toNat]? = some e.1 ∧ ((A.length : Nat) : Int) < (((hdL (A ++ e :: B)).length : Nat) : Int) ∧ ((pvs (A ++ e :: B) = pvs A ++ (Value.slice e.1.1 e.2.length e.1.2.2, e.2) :: pvs B) ∨ ((e.1.1 = none ∧ e.1.2.1 = 0 ∧ e.1.2.2 = 0) ∧ pvs (A ++ e :: B) = pvs A ++ pvs B)) := by
  obtain ⟨A, e, B, rfl, rfl⟩ := split_at hk
  have heo := hok e (by simp)
  refine ⟨A, e, B, rfl, rfl, heo.1, (htl e.2 (by rw [← hes]; simp)).1, by rw [Int.toNat_natCast]; simp, by rw [List.length_map]; omega, ?_⟩
  cases hn : e.1.1.isNone with
  | true =>
    have := heo.2.1 (by simpa using hn)
    exact .inr ⟨⟨by rw [this.1], by rw [this.1], by rw [this.1]⟩, by rw [pvs_append, pvs_none hn]⟩
  | false => exact .inl (by rw [pvs_append, pvs_some hn, ← heo.1])
theorem told_eq {A B : List HL} {e : HL} {p' : Option Addr} {c' : Nat} {w : Li.Wd} (h1 : e.1.2.1 = e.2.length) (hf : PForm p' (e.1.2.1 + 1) c') : pvs A ++ (Value.slice p' (e.1.2.1 + 1) c', e.2.take e.1.2.1 ++ [w]) :: pvs B = pvs (A ++ (((p', e.1.2.1 + 1, c') : Hd), e.2 ++ [w]) :: B) := by
  rw [pvs_append, pvs_some (pf_some hf).1, h1, List.take_length]
/-- What holds at the head of the walk's loop. -/
structure AtIs (S1 Sz : Store) (first : List Li.Wd) (T : List (List Li.Act)) (L : List Li.Pk) (m : Nat) (r : Li.Rn) (es : List HL) (z : Mcx) : Prop where
  le : m ≤ L.length
  run : r = Li.runR T (Li.beginR first T) (L.take m)
  told : es.map (·.2) = r.s.told
  ok : ∀ e ∈ es, okE e
  st : S1.le Sz
  mz : MzIs Sz z T r m
theorem AtIs.skip {S1 Sz first T L m r es z p} (h : AtIs S1 Sz first T L m r es z) (hp : L[m]? = some p) (hk : Li.pickR T r p = r) : AtIs S1 Sz first T L (m + 1) r es z := by
  have := (List.getElem?_eq_some_iff.1 hp).1
  exact ⟨by omega, by rw [runR_succ hp, ← h.run, hk], h.told, h.ok, h.st, h.mz.up (Nat.le_succ _)⟩
theorem AtIs.next {S1 Sz S2 first T L m r es z p r' es' z'} (h : AtIs S1 Sz first T L m r es z) (hp : L[m]? = some p) (hk : Li.pickR T r p = r') (ht : es'.map (·.2) = r'.s.told) (ho : ∀ e ∈ es', okE e) (hs : Sz.le S2) (hm : MzIs S2 z' T r' (m + 1)) : AtIs S1 S2 first T L (m + 1) r' es' z' := by
  have := (List.getElem?_eq_some_iff.1 hp).1
  exact ⟨by omega, by rw [runR_succ hp, ← h.run, hk], ht, ho, Store.le_trans h.st hs, hm⟩
theorem run_spec (S : Store) (x : Tz) (first : List Li.Wd) (T : List (List Li.Act)) (hx : TestIs S x first T) (hg : Li.Good first T) (q : Hd) (l : List Li.Pk) (hq : PksIs S q l) (hl : l.length ≤ 200) :
    Pure Tryz.prog 22 S [vT x, slV q] (A := Unit) (fun _ => rS (bs (Li.textR (Li.runR T (Li.beginR first T) (l ++ Li.tailR T (Li.lens T)))))) (fun _ _ => True) := by
  have hth0 := hx.t
  have f1 := hx.f.len
  have htl := hx.t.len
  have hql := hq.len
  have g1 := hg.f4
  have g0 := hg.f1
  have g2 := hg.t4
  have g3 := hg.t1
  have h8 : ∀ l ∈ T, l.length ≤ 8 := fun l hl => by have := hg.six l hl; omega
  have hTo : ∀ l ∈ T, ∀ a ∈ l, okAct a := fun l hl a ha => hx.t.small hl ha
  have hnew := znew_spec S T.length g3 (by omega) x.1 first hx.f (by omega) (by omega)
  obtain ⟨⟨fp, fn, fc⟩, ⟨p, n, c⟩⟩ := x
  have f1 : fn = first.length := f1
  have htl : n = T.length := htl
  obtain ⟨qp, qn, qc⟩ := q
  have hql : qn = l.length := hql
  subst f1 htl hql
  refine pure_vc agrees Tryz.func22 rfl rfl (fun S S' q hle h => h) ?_
  refine ⟨⟨_, rfl, rfl, rfl⟩, .inl ⟨_, _, _, hnew, fun S1 z0 hS1 hz0 => ?_⟩⟩
  have hzb := mz_begin hz0
  have hth := hth0.le hS1
  have hqr : RowRd S1 qp shP l := hq.row.le hS1
  obtain ⟨zz, hzz⟩ : ∃ zz, zz = z0 := ⟨_, rfl⟩
  rw [← hzz] at hzb
  obtain ⟨⟨⟨y1, y2, y3⟩, ⟨y4, y5, y6⟩⟩, ⟨⟨⟨u1, u2, u3⟩, ⟨u4, u5, u6⟩, ub⟩, ⟨⟨v1, v2, v3⟩, vi⟩⟩⟩ := z0
  obtain ⟨L, hL⟩ : ∃ L, L = l ++ tk T T.length := ⟨_, rfl⟩
  have hLn : L.length ≤ 264 := by
    rw [hL, List.length_append]
    have := tk_len h8 T.length
    omega
  have hLo : ∀ p ∈ L, inI64 p.2.1 ∧ inI64 p.2.2 := fun p hp => by
    rw [hL] at hp
    rcases List.mem_append.1 hp with hp | hp
    · exact (hq.ok p hp).2
    · refine ⟨(tk_ok (by omega) p hp).2, ?_⟩
      obtain ⟨k, -, hp⟩ := List.mem_flatMap.1 hp
      obtain ⟨_, -, rfl⟩ := List.mem_map.1 hp
      exact i_0
  have e0 : l ++ tk T 0 = l := List.append_nil l
  have e1 : ∀ i, l ++ tk T i ++ reps i 0 = l ++ tk T i := fun i => List.append_nil _
  have e2 : ∀ i j, l ++ tk T i ++ reps i j ++ [((0, (i : Int) + 1, 0) : Li.Pk)] = l ++ tk T i ++ reps i (j + 1) := fun i j => by rw [reps_succ, ← List.append_assoc]
  have e3 : ∀ i (y : List Li.Act), T[i]? = some y → l ++ tk T i ++ reps i y.length = l ++ tk T (i + 1) := fun i y hy => by rw [tk_succ, lens_at hy, ← List.append_assoc]
  have nl : ∀ i j, (l ++ tk T i ++ reps i j).length = l.length + (tk T i).length + j := fun i j => by rw [List.length_append, List.length_append, reps_len]
  have hb0 : iI (Li.beginR first T).s.did = List.replicate T.length (0 : Int) := List.map_replicate ..
  have hb1 : hdL (List.replicate T.length (((none, 0, 0) : Hd), ([] : List Li.Wd))) = List.replicate T.length ((none, 0, 0) : Hd) := List.map_replicate ..
  refine ⟨or22_3, [], oF22_3, by kernel_rfl, ?_⟩
  have mk1 : (T.length : Int) ≤ 140737488355328 := by omega
  repeat' (first
    | exact trivial
    | refine ⟨Int.natCast_nonneg _, Int.le_refl _, (by first | (show (8 : Int) * (T.length : Int) ≤ 140737488355328; omega) | (show (1 : Int) * (T.length : Int) ≤ 140737488355328; omega) | (show (24 : Int) * (T.length : Int) ≤ 140737488355328; omega)), mk1, ?_⟩
    | refine And.intro ?_ ?_)
  · refine ⟨l, src_of rfl hqr, fun _ _ => ⟨trivial, trivial, trivial⟩, by show (0 + l.length) * 24 ≤ 140737488355328; omega, ?_⟩
    refine ⟨[], [], Nat, [13] ++ List.range' 40 22, fun i => [(12, rI (i + 1))], fun i => rs0 (tbx fp fc p c first T) (((y1, y2, y3), (y4, y5, y6)), (((u1, u2, u3), (u4, u5, u6), ub), ((v1, v2, v3), vi))) (List.replicate T.length 0) (List.replicate T.length (none, 0, 0)) (List.replicate T.length false) (l ++ tk T i), fun _ => S1, fun i => i ≤ T.length, fun i => T.length - i, ?_⟩
    refine And.intro (Exists.intro 0 (And.intro (And.intro (And.intro ?_ rfl) (And.intro ?_ (Store.le_refl _))) (Nat.zero_le _))) ?_
    · repeat' first | exact trivial | exact rfl | refine And.intro ?_ ?_
    · show _ = rs0 (tbx fp fc p c first T) (((y1, y2, y3), (y4, y5, y6)), (((u1, u2, u3), (u4, u5, u6), ub), ((v1, v2, v3), vi))) (List.replicate T.length 0) (List.replicate T.length (none, 0, 0)) (List.replicate T.length false) (l ++ tk T 0)
      rw [e0]; rfl
    intro i (hi : i ≤ T.length)
    have htk8 := tk_len h8 i
    refine And.intro (fun h1 => ?_) (fun h1 => ?_)
    · have h1 : (i : Int) + 1 ≤ ((T.length : Nat) : Int) := of_decide_eq_true h1
      obtain ⟨⟨yp, yn, yc⟩, y, b, o, hy, hqy, hp, hok, hrd⟩ := hth.at (i := i) (by omega)
      have hyl : yn = y.length := hqy.len
      subst hyl
      have hy8 := h8 y (List.mem_of_getElem? hy)
      refine ⟨[], [], Nat, [40] ++ List.range' 46 16, fun j => [(13, rI j)], fun j => rs0 (tbx fp fc p c first T) (((y1, y2, y3), (y4, y5, y6)), (((u1, u2, u3), (u4, u5, u6), ub), ((v1, v2, v3), vi))) (List.replicate T.length 0) (List.replicate T.length (none, 0, 0)) (List.replicate T.length false) (l ++ tk T i ++ reps i j), fun _ => S1, fun j => j ≤ y.length, fun j => y.length - j, ?_⟩
      refine And.intro (Exists.intro 0 (And.intro (And.intro (And.intro ?_ rfl) (And.intro ?_ (Store.le_refl _))) (Nat.zero_le _))) ?_
      · repeat' first | exact trivial | exact rfl | refine And.intro ?_ ?_
      · show _ = rs0 (tbx fp fc p c first T) (((y1, y2, y3), (y4, y5, y6)), (((u1, u2, u3), (u4, u5, u6), ub), ((v1, v2, v3), vi))) (List.replicate T.length 0) (List.replicate T.length (none, 0, 0)) (List.replicate T.length false) (l ++ tk T i ++ reps i 0)
        rw [e1]; rfl
      intro j (hj : j ≤ y.length)
      have nl := nl i j
      refine ⟨(i : Int), by rw [wrap_i64 (by omega) (by omega)]; omega, Int.natCast_nonneg _, by show (i : Int) < ((T.length : Nat) : Int); omega, b, o, hp, ((yp, y.length, yc) : Hd), hok, hrd, ?_⟩
      refine And.intro (fun h2 => ?_) (fun h2 => ?_)
      · have h2 : (j : Int) < ((y.length : Nat) : Int) := of_decide_eq_true h2
        refine ⟨[((0, (i : Int) + 1, 0) : Li.Pk)], ⟨rfl, rfl⟩, fun _ _ => ⟨trivial, trivial, trivial⟩, by show ((l ++ tk T i ++ reps i j).length + 1) * 24 ≤ 140737488355328; omega, ?_⟩
        refine ⟨(((j + 1 : Nat)) : Int), wrap_i64 (by omega) (by omega), j + 1, ⟨⟨?_, rfl⟩, ?_, Store.le_refl _⟩, by show j + 1 ≤ _; omega, by show y.length - (j + 1) < y.length - j; omega⟩
        · repeat' first | exact trivial | exact rfl | refine And.intro ?_ ?_
        · show _ = rs0 (tbx fp fc p c first T) (((y1, y2, y3), (y4, y5, y6)), (((u1, u2, u3), (u4, u5, u6), ub), ((v1, v2, v3), vi))) (List.replicate T.length 0) (List.replicate T.length (none, 0, 0)) (List.replicate T.length false) (l ++ tk T i ++ reps i (j + 1))
          rw [← e2]; rfl
      · have h2 : ¬ (j : Int) < ((y.length : Nat) : Int) := of_decide_eq_false h2
        have hjy : j = y.length := by omega
        refine ⟨((i + 1 : Nat) : Int) + 1, by rw [wrap_i64 (by omega) (by omega)]; omega, i + 1, ⟨⟨?_, rfl⟩, ?_, Store.le_refl _⟩, by show i + 1 ≤ _; omega, by show T.length - (i + 1) < T.length - i; omega⟩
        · repeat' first | exact trivial | exact rfl | refine And.intro ?_ ?_
        · show _ = rs0 (tbx fp fc p c first T) (((y1, y2, y3), (y4, y5, y6)), (((u1, u2, u3), (u4, u5, u6), ub), ((v1, v2, v3), vi))) (List.replicate T.length 0) (List.replicate T.length (none, 0, 0)) (List.replicate T.length false) (l ++ tk T (i + 1))
          rw [← e3 i y hy, ← hjy]; rfl
    have h1 : ¬ (i : Int) + 1 ≤ ((T.length : Nat) : Int) := of_decide_eq_false h1
    have hil : i = T.length := by omega
    subst hil
    refine ⟨[], [(100000, shW, 35)], Nat × Li.Rn × List HL × Mcx × Store, List.range' 15 7 ++ List.range' 62 106, fun a => [(14, rI a.1)], fun a => rp0 (tbx fp fc p c first T) a.2.2.2.1 (iI a.2.1.s.did) (hdL a.2.2.1) (a.2.1.ends) L (pvs a.2.2.1), fun a => a.2.2.2.2, fun a => AtIs S1 a.2.2.2.2 first T L a.1 a.2.1 a.2.2.1 a.2.2.2.1, fun a => L.length - a.1, ?_⟩
    refine And.intro (Exists.intro (0, Li.beginR first T, List.replicate T.length ((none, 0, 0), []), (((y1, y2, y3), (y4, y5, y6)), (((u1, u2, u3), (u4, u5, u6), ub), ((v1, v2, v3), vi))), S1) (And.intro (And.intro (And.intro ?_ rfl) (And.intro ?_ (Store.le_refl _))) ⟨Nat.zero_le _, rfl, List.map_replicate .., ?_, Store.le_refl _, by rw [← hzz]; exact hzb⟩)) ?_
    · repeat' first | exact trivial | exact rfl | refine And.intro ?_ ?_
    · show _ = rp0 (tbx fp fc p c first T) (((y1, y2, y3), (y4, y5, y6)), (((u1, u2, u3), (u4, u5, u6), ub), ((v1, v2, v3), vi))) (iI (Li.beginR first T).s.did) (hdL (List.replicate T.length (((none, 0, 0) : Hd), ([] : List Li.Wd)))) ((Li.beginR first T).ends) L (pvs (List.replicate T.length ((none, 0, 0), [])))
      rw [hb0, hb1, pvs_rep, hL]; rfl
    · intro e he
      rw [(List.mem_replicate.1 he).2]
      exact ⟨rfl, fun _ => ⟨rfl, rfl⟩, Nat.le_refl _, fun w hw => by cases hw⟩
    rintro ⟨m, r, es, z, Sz⟩ (hat : AtIs S1 Sz first T L m r es z)
    obtain ⟨hm, hr, hes, hok, hSz, hz⟩ := id hat
    have hor : Li.okR first.length T r := by rw [hr]; exact Li.runR_ok hg.ok _ (Li.beginR_ok first T)
    have hel : es.length = T.length := by have := congrArg List.length hes; rw [List.length_map, hor.s.tl] at this; exact this
    have hene := hor.e
    refine And.intro (fun h1 => ?_) (fun h1 => ?_)
    · have h1 : (m : Int) < ((L.length : Nat) : Int) := of_decide_eq_true h1
      obtain ⟨⟨pa, pb, pc⟩, hpk⟩ : ∃ pk, L[m]? = some pk := ⟨_, List.getElem?_eq_getElem (by omega)⟩
      obtain ⟨hpo, hpc⟩ := hLo _ (List.mem_of_getElem? hpk)
      obtain ⟨t, ht, htc⟩ := wrap_pred (x := pb) hpo
      have mu : L.length - (m + 1) < L.length - m := by omega
      have wm : IntKind.i64.wrap ((m : Int) + 1) = ((m + 1 : Nat) : Int) := wrap_i64 (by omega) (by omega)
      refine ⟨Int.natCast_nonneg _, h1, ((pa, pb, pc) : Li.Pk), hpk, ?_⟩
      by_cases c2 : pa = 2
      · refine onE (beq_iff_eq.2 c2) ?_
        refine ⟨⟨_, rfl, rfl, rfl⟩, .inl ⟨_, _, _, mz_crash_spec Sz z T r m first.length hz hor (by omega) (by omega) g3 (by omega) (by omega) pc hpc, fun S2 zy hS2 hzy => ?_⟩⟩
        refine ⟨[], [], Nat, List.range' 79 8, fun i => [(16, rI i)], fun i => rp0 (tbx fp fc p c first T) zy (iI r.s.did) (hdL es) (stopped r.ends i) L (pvs es) ++ [.box [.v (.int .i64 pa), .v (.int .i64 pb), .v (.int .i64 pc)]], fun _ => S2, fun i => i ≤ T.length, fun i => T.length - i, ?_⟩
        refine And.intro (Exists.intro 0 (And.intro (And.intro (And.intro ?_ rfl) (And.intro ?_ (Store.le_refl _))) (Nat.zero_le _))) ?_
        · repeat' first | exact trivial | exact rfl | refine And.intro ?_ ?_
        · have : stopped r.ends 0 = r.ends := by unfold stopped; simp
          show _ = rp0 (tbx fp fc p c first T) zy (iI r.s.did) (hdL es) (stopped r.ends 0) L (pvs es) ++ _
          rw [this]; rfl
        intro i (hi : i ≤ T.length)
        have hsl := stopped_len r.ends i
        refine And.intro (fun h3 => ?_) (fun h3 => ?_)
        · have h3 : (i : Int) < ((T.length : Nat) : Int) := of_decide_eq_true h3
          obtain ⟨eb, heb⟩ : ∃ eb, (stopped r.ends i)[i]? = some eb := ⟨_, List.getElem?_eq_getElem (by omega)⟩
          refine ⟨Int.natCast_nonneg _, by show (i : Int) < (((stopped r.ends i).length : Nat) : Int); omega, eb, true, heb, trivial, rfl, Nat.le_refl 1, ?_⟩
          refine ⟨(((i + 1 : Nat)) : Int), wrap_i64 (by omega) (by omega), i + 1, ⟨⟨?_, rfl⟩, ?_, Store.le_refl _⟩, by show i + 1 ≤ _; omega, by show T.length - (i + 1) < T.length - i; omega⟩
          · repeat' first | exact trivial | exact rfl | refine And.intro ?_ ?_
          · show rp0 (tbx fp fc p c first T) zy (iI r.s.did) (hdL es) ((stopped r.ends i).set i true) L (pvs es) ++ _ = _
            rw [stopped_set (by omega)]; rfl
        have h3 : ¬ (i : Int) < ((T.length : Nat) : Int) := of_decide_eq_false h3
        have hiT : i = r.ends.length := by omega
        refine ⟨_, wm, (m + 1, Li.crashR T r pc, es, zy, S2), ⟨⟨?_, rfl⟩, ?_, Store.le_refl _⟩, hat.next hpk (by rw [c2]; exact pick_crash) hes hok hS2 hzy, mu⟩
        · repeat' first | exact trivial | exact rfl | refine And.intro ?_ ?_
        · show rp0 (tbx fp fc p c first T) zy (iI r.s.did) (hdL es) (stopped r.ends i) L (pvs es) = _
          rw [hiT, stopped_all]; rfl
      refine offE (beq_eq_false_iff_ne.2 c2) ?_
      refine ⟨t, ht, ?_⟩
      by_cases k1 : t < 0
      · refine onE (decide_eq_true k1) ?_
        repeat refine onT ?_
        refine ⟨_, wm, (m + 1, r, es, z, Sz), ⟨⟨?_, rfl⟩, rfl, Store.le_refl _⟩, hat.skip hpk (pick_dead c2 (fun q => by omega)), mu⟩
        repeat' first | exact trivial | exact rfl | refine And.intro ?_ ?_
      refine offE (decide_eq_false k1) ?_
      by_cases k2 : t ≥ ((T.length : Nat) : Int)
      · refine onE (decide_eq_true k2) ?_
        repeat refine onT ?_
        refine ⟨_, wm, (m + 1, r, es, z, Sz), ⟨⟨?_, rfl⟩, rfl, Store.le_refl _⟩, hat.skip hpk (pick_dead c2 (fun q => .inl (by omega))), mu⟩
        repeat' first | exact trivial | exact rfl | refine And.intro ?_ ?_
      refine offE (decide_eq_false k2) ?_
      obtain ⟨k, rfl⟩ : ∃ k : Nat, t = (k : Int) := ⟨t.toNat, by omega⟩
      obtain rfl : pb = (k : Int) + 1 := by omega
      have hkT : k < T.length := by omega
      have kz : (0 : Int) ≤ (k : Int) := Int.natCast_nonneg _
      have kT : (k : Int) < ((T.length : Nat) : Int) := by omega
      have hke : (k : Int) < ((r.ends.length : Nat) : Int) := by omega
      obtain ⟨eb, heb⟩ : ∃ eb, r.ends[k]? = some eb := ⟨_, List.getElem?_eq_getElem (by omega)⟩
      refine ⟨kz, hke, eb, heb, ?_⟩
      cases eb with
      | true =>
        refine onT ?_
        refine ⟨_, wm, (m + 1, r, es, z, Sz), ⟨⟨?_, rfl⟩, rfl, Store.le_refl _⟩, hat.skip hpk (pick_dead c2 (fun q => .inr (by rw [show (k : Int) + 1 - 1 = (k : Int) by omega, Int.toNat_natCast]; exact heb))), mu⟩
        repeat' first | exact trivial | exact rfl | refine And.intro ?_ ?_
      | false =>
      refine onF ?_
      by_cases c1 : pa = 1
      · refine onE (beq_iff_eq.2 c1) ⟨kz, hke, false, true, heb, trivial, rfl, Nat.le_refl 1, ?_⟩
        refine ⟨or22_26, [], oF22_26, by kernel_rfl, ?_⟩
        refine onE (bne_iff_ne.2 (show pa ≠ 0 by omega)) ?_
        repeat refine onT ?_
        refine ⟨_, wm, (m + 1, Li.stopR r k, es, z, Sz), ⟨⟨?_, rfl⟩, rfl, Store.le_refl _⟩, hat.next hpk (by rw [c1]; exact pick_stop) hes hok (Store.le_refl _) ((hz.same (r' := Li.stopR r k) rfl rfl).up (Nat.le_succ _)), mu⟩
        repeat' first | exact trivial | exact rfl | refine And.intro ?_ ?_
      refine offE (beq_eq_false_iff_ne.2 c1) ?_
      refine ⟨or22_26, [], oF22_26, by kernel_rfl, ?_⟩
      by_cases c0 : ¬ pa = 0
      · refine onE (bne_iff_ne.2 c0) ?_
        repeat refine onT ?_
        refine ⟨_, wm, (m + 1, r, es, z, Sz), ⟨⟨?_, rfl⟩, rfl, Store.le_refl _⟩, hat.skip hpk (pick_other c0 c1 c2), mu⟩
        repeat' first | exact trivial | exact rfl | refine And.intro ?_ ?_
      obtain rfl : pa = 0 := Decidable.not_not.1 c0
      refine offE (bne_eq_false_iff_eq.2 rfl) ?_
      obtain ⟨yp, yc, y, b, o, d, hp, hyok, hrd, hyr, hyo, hyT, hy6, hd, hdm, hdl, hd8⟩ := at_facts (hth.le hSz) hg hor hkT
      refine ⟨kz, hdl, (d : Int), hdm, kz, kT, b, o, hp, ((yp, y.length, yc) : Hd), hyok, fun S' hle _ => Store.rd_le hle hrd, ?_⟩
      by_cases k3 : (d : Int) ≥ ((y.length : Nat) : Int)
      · refine onE (decide_eq_true k3) ?_
        refine ⟨_, wm, (m + 1, r, es, z, Sz), ⟨⟨?_, rfl⟩, rfl, Store.le_refl _⟩, hat.skip hpk (pick_step.trans (stepR_none (act_over hyT hd (by omega)))), mu⟩
        repeat' first | exact trivial | exact rfl | refine And.intro ?_ ?_
      refine offE (decide_eq_false k3) ?_
      obtain ⟨a, b3, o3, e3, ok3, hr3, hact, haok⟩ := act_facts hyr hyo hyT hd (by omega) heb
      obtain ⟨st1, st2, st3⟩ := stepR_all (c := pc) hact
      have hdo := mz_do_spec Sz z T r m first.length hz hor hg.ok (by omega) (by omega) (by omega) k a hact haok.2.2.2 pc hpc
      obtain ⟨w00, hw00⟩ : ∃ w, w = (Li.doM r.s.m k a pc).2 := ⟨_, rfl⟩
      rw [← hw00] at hdo st2
      obtain ⟨ao, al, ⟨a1, a2, a3⟩, a4, a5, a6⟩ := a
      refine ⟨or22_27, [8], oF22_27, by kernel_rfl, ?_⟩
      refine ⟨kz, kT, b, o, hp, ((yp, y.length, yc) : Hd), hyok, fun S' hle _ => Store.rd_le hle hrd, kz, hdl, (d : Int), hdm, Int.natCast_nonneg _, by show (d : Int) < ((y.length : Nat) : Int); omega, b3, o3, e3, ((ao, al, (a1, a2, a3), a4, a5, a6) : Ax), ok3, fun S' hle _ => Store.rd_le hle hr3, ?_⟩
      refine ⟨⟨_, rfl, rfl, rfl⟩, .inl ⟨_, _, _, hdo, fun S2 zy hS2 hzy => ?_⟩⟩
      obtain ⟨zy, ⟨w1, w2, w3⟩, zb⟩ := zy
      obtain ⟨(hm1 : MzIs S2 zy T (Li.stepR T r k pc) (m + 1)), (hm2 : ((w1, w2, w3) : Li.Wd) = w00), (hm3 : okW (w1, w2, w3))⟩ := hzy
      refine ⟨kz, hdl, (d : Int), hdm, ((d + 1 : Nat) : Int), wrap_i64 (by omega) (by omega), kz, hdl, (d : Int), ((d + 1 : Nat) : Int), hdm, trivial, rfl, Nat.le_refl 1, ?_⟩
      obtain ⟨A, e, B, rfl, rfl, heo1, hew, hget, hel2, hps⟩ := es_facts (k := k) hes hok (show k < es.length by omega) hz.tl
      refine ⟨⟨_, rfl, rfl, rfl⟩, .inl ⟨_, _, _, tell_spec S2 ao, fun S3 _ hS3 _ => ?_⟩⟩
      refine And.intro (fun (hte : Li.tells ⟨ao, al, (a1, a2, a3), a4, a5, a6⟩ = true) => ?_) (fun (hte : Li.tells ⟨ao, al, (a1, a2, a3), a4, a5, a6⟩ = false) => ?_)
      · rw [if_pos hte] at st2
        refine ⟨or22_32, [3, 6], oF22_32, by kernel_rfl, ?_⟩
        refine ⟨kz, hel2, e.1, hget, .inr (.inl ⟨6, ⟨rfl, rfl, rfl⟩, pvs A, pvs B, e.1.1, e.1.2.1, e.1.2.2, e.2, [((w1, w2, w3) : Li.Wd)], rfl, Nat.le_of_eq heo1, hps, ⟨rfl, rfl⟩, fun _ _ => ⟨trivial, trivial, trivial⟩, by show (e.1.2.1 + 1) * 16 ≤ 140737488355328; omega, fun p' c' hf => ⟨kz, hel2, e.1, ((p', e.1.2.1 + 1, c') : Hd), hget, trivial, rfl, Nat.le_refl 1, ?_⟩⟩)⟩
        refine ⟨_, wm, (m + 1, Li.stepR T r A.length pc, A ++ (((p', e.1.2.1 + 1, c') : Hd), e.2 ++ [((w1, w2, w3) : Li.Wd)]) :: B, zy, S3), ⟨⟨?_, rfl⟩, ?_, Store.le_refl _⟩, hat.next hpk pick_step (by rw [st2, upd_2, hes, ← hm2]) (upd_ok hok hf hm3) (Store.le_trans hS2 hS3) (hm1.le hS3), mu⟩
        · repeat' first | exact trivial | exact rfl | refine And.intro ?_ ?_
        · show rp0 (tbx fp fc p c first T) zy ((iI r.s.did).set A.length ((d + 1 : Nat) : Int)) ((hdL (A ++ e :: B)).set A.length (p', e.1.2.1 + 1, c')) (r.ends) L (pvs A ++ (Value.slice p' (e.1.2.1 + 1) c', e.2.take e.1.2.1 ++ [((w1, w2, w3) : Li.Wd)]) :: pvs B) = rp0 (tbx fp fc p c first T) zy (iI (Li.stepR T r A.length pc).s.did) (hdL (A ++ (((p', e.1.2.1 + 1, c') : Hd), e.2 ++ [((w1, w2, w3) : Li.Wd)]) :: B)) ((Li.stepR T r A.length pc).ends) L (pvs (A ++ (((p', e.1.2.1 + 1, c') : Hd), e.2 ++ [((w1, w2, w3) : Li.Wd)]) :: B))
          rw [st1, st3, ← hd, map_set_nat, ← told_eq heo1 hf, upd_1 A B e _ (e.2 ++ [((w1, w2, w3) : Li.Wd)])]
      · rw [if_neg (by rw [hte]; decide)] at st2
        refine ⟨_, wm, (m + 1, Li.stepR T r A.length pc, A ++ e :: B, zy, S3), ⟨⟨?_, rfl⟩, ?_, Store.le_refl _⟩, hat.next hpk pick_step (by rw [st2]; exact hes) hok (Store.le_trans hS2 hS3) (hm1.le hS3), mu⟩
        · repeat' first | exact trivial | exact rfl | refine And.intro ?_ ?_
        · show rp0 (tbx fp fc p c first T) zy ((iI r.s.did).set A.length ((d + 1 : Nat) : Int)) (hdL (A ++ e :: B)) (r.ends) L (pvs (A ++ e :: B)) = rp0 (tbx fp fc p c first T) zy (iI (Li.stepR T r A.length pc).s.did) (hdL (A ++ e :: B)) ((Li.stepR T r A.length pc).ends) L (pvs (A ++ e :: B))
          rw [st1, st3, ← hd, map_set_nat]
    · have h1 : ¬ (m : Int) < ((L.length : Nat) : Int) := of_decide_eq_false h1
      have hml : m = L.length := by omega
      rw [hml, List.take_length] at hr
      refine ⟨⟨_, rfl, rfl, rfl⟩, .inl ⟨_, _, _, mz_words_spec Sz z T r m first.length hz hor (by omega) (by omega) (by omega), fun S2 wq hS2 hwq => ?_⟩⟩
      obtain ⟨wp, wn, wc⟩ := wq
      obtain ⟨(rfl : wn = (Li.lasts r.s.m).length), j2, (j3 : RowRd S2 wp shW (Li.lasts r.s.m)), j4⟩ := ws_row hwq
      refine ⟨⟨_, rfl, rfl, rfl⟩, .inr (.inr (.inl fun p5 c5 S5 hS5 hr5 hpf5 S7 hS7 hpool => ?_))⟩
      have htx := rtexto_spec S7 (p5, es.length, c5) (wp, (Li.lasts r.s.m).length, wc) r.s.told (Li.lasts r.s.m) (by rw [← hes]; exact td_of hok (hr5.le hS7) hpool) ⟨rfl, (j3.le hS5).le hS7, j4⟩ (by rw [hor.s.tl]; omega) (fun y hy => by have := (hz.tl y hy).1; omega) (by unfold Li.lasts; rw [List.length_map, hor.s.m.len]; omega)
      rw [← (List.length_map .. : (hdL es).length = es.length)] at htx
      refine ⟨_, _, _, htx, fun S8 _ hS8 _ S9 hS9 _ => ⟨rfl, (), ?_, trivial⟩⟩
      show rS _ = rS _
      rw [hr, hL]; rfl
  · refine ⟨l, src_of rfl hqr, fun _ _ => ⟨trivial, trivial, trivial⟩, by show (0 + l.length) * 24 ≤ 140737488355328; omega, ?_⟩
    refine ⟨[], [], Nat, [13] ++ List.range' 40 22, fun i => [(12, rI (i + 1))], fun i => rs1 (tbx fp fc p c first T) (((y1, y2, y3), (y4, y5, y6)), (((u1, u2, u3), (u4, u5, u6), ub), ((v1, v2, v3), vi))) (List.replicate T.length 0) (List.replicate T.length (none, 0, 0)) (List.replicate T.length false) (l ++ tk T i), fun _ => S1, fun i => i ≤ T.length, fun i => T.length - i, ?_⟩
    refine And.intro (Exists.intro 0 (And.intro (And.intro (And.intro ?_ rfl) (And.intro ?_ (Store.le_refl _))) (Nat.zero_le _))) ?_
    · repeat' first | exact trivial | exact rfl | refine And.intro ?_ ?_
    · show _ = rs1 (tbx fp fc p c first T) (((y1, y2, y3), (y4, y5, y6)), (((u1, u2, u3), (u4, u5, u6), ub), ((v1, v2, v3), vi))) (List.replicate T.length 0) (List.replicate T.length (none, 0, 0)) (List.replicate T.length false) (l ++ tk T 0)
      rw [e0]; rfl
    intro i (hi : i ≤ T.length)
    have htk8 := tk_len h8 i
    refine And.intro (fun h1 => ?_) (fun h1 => ?_)
    · have h1 : (i : Int) + 1 ≤ ((T.length : Nat) : Int) := of_decide_eq_true h1
      obtain ⟨⟨yp, yn, yc⟩, y, b, o, hy, hqy, hp, hok, hrd⟩ := hth.at (i := i) (by omega)
      have hyl : yn = y.length := hqy.len
      subst hyl
      have hy8 := h8 y (List.mem_of_getElem? hy)
      refine ⟨[], [], Nat, [40] ++ List.range' 46 16, fun j => [(13, rI j)], fun j => rs1 (tbx fp fc p c first T) (((y1, y2, y3), (y4, y5, y6)), (((u1, u2, u3), (u4, u5, u6), ub), ((v1, v2, v3), vi))) (List.replicate T.length 0) (List.replicate T.length (none, 0, 0)) (List.replicate T.length false) (l ++ tk T i ++ reps i j), fun _ => S1, fun j => j ≤ y.length, fun j => y.length - j, ?_⟩
      refine And.intro (Exists.intro 0 (And.intro (And.intro (And.intro ?_ rfl) (And.intro ?_ (Store.le_refl _))) (Nat.zero_le _))) ?_
      · repeat' first | exact trivial | exact rfl | refine And.intro ?_ ?_
      · show _ = rs1 (tbx fp fc p c first T) (((y1, y2, y3), (y4, y5, y6)), (((u1, u2, u3), (u4, u5, u6), ub), ((v1, v2, v3), vi))) (List.replicate T.length 0) (List.replicate T.length (none, 0, 0)) (List.replicate T.length false) (l ++ tk T i ++ reps i 0)
        rw [e1]; rfl
      intro j (hj : j ≤ y.length)
      have nl := nl i j
      refine ⟨(i : Int), by rw [wrap_i64 (by omega) (by omega)]; omega, Int.natCast_nonneg _, by show (i : Int) < ((T.length : Nat) : Int); omega, b, o, hp, ((yp, y.length, yc) : Hd), hok, hrd, ?_⟩
      refine And.intro (fun h2 => ?_) (fun h2 => ?_)
      · have h2 : (j : Int) < ((y.length : Nat) : Int) := of_decide_eq_true h2
        refine ⟨[((0, (i : Int) + 1, 0) : Li.Pk)], ⟨rfl, rfl⟩, fun _ _ => ⟨trivial, trivial, trivial⟩, by show ((l ++ tk T i ++ reps i j).length + 1) * 24 ≤ 140737488355328; omega, ?_⟩
        refine ⟨(((j + 1 : Nat)) : Int), wrap_i64 (by omega) (by omega), j + 1, ⟨⟨?_, rfl⟩, ?_, Store.le_refl _⟩, by show j + 1 ≤ _; omega, by show y.length - (j + 1) < y.length - j; omega⟩
        · repeat' first | exact trivial | exact rfl | refine And.intro ?_ ?_
        · show _ = rs1 (tbx fp fc p c first T) (((y1, y2, y3), (y4, y5, y6)), (((u1, u2, u3), (u4, u5, u6), ub), ((v1, v2, v3), vi))) (List.replicate T.length 0) (List.replicate T.length (none, 0, 0)) (List.replicate T.length false) (l ++ tk T i ++ reps i (j + 1))
          rw [← e2]; rfl
      · have h2 : ¬ (j : Int) < ((y.length : Nat) : Int) := of_decide_eq_false h2
        have hjy : j = y.length := by omega
        refine ⟨((i + 1 : Nat) : Int) + 1, by rw [wrap_i64 (by omega) (by omega)]; omega, i + 1, ⟨⟨?_, rfl⟩, ?_, Store.le_refl _⟩, by show i + 1 ≤ _; omega, by show T.length - (i + 1) < T.length - i; omega⟩
        · repeat' first | exact trivial | exact rfl | refine And.intro ?_ ?_
        · show _ = rs1 (tbx fp fc p c first T) (((y1, y2, y3), (y4, y5, y6)), (((u1, u2, u3), (u4, u5, u6), ub), ((v1, v2, v3), vi))) (List.replicate T.length 0) (List.replicate T.length (none, 0, 0)) (List.replicate T.length false) (l ++ tk T (i + 1))
          rw [← e3 i y hy, ← hjy]; rfl
    have h1 : ¬ (i : Int) + 1 ≤ ((T.length : Nat) : Int) := of_decide_eq_false h1
    have hil : i = T.length := by omega
    subst hil
    refine ⟨[], [(100000, shW, 35)], Nat × Li.Rn × List HL × Mcx × Store, List.range' 15 7 ++ List.range' 62 106, fun a => [(14, rI a.1)], fun a => rp1 (tbx fp fc p c first T) a.2.2.2.1 (iI a.2.1.s.did) (hdL a.2.2.1) (a.2.1.ends) L (pvs a.2.2.1), fun a => a.2.2.2.2, fun a => AtIs S1 a.2.2.2.2 first T L a.1 a.2.1 a.2.2.1 a.2.2.2.1, fun a => L.length - a.1, ?_⟩
    refine And.intro (Exists.intro (0, Li.beginR first T, List.replicate T.length ((none, 0, 0), []), (((y1, y2, y3), (y4, y5, y6)), (((u1, u2, u3), (u4, u5, u6), ub), ((v1, v2, v3), vi))), S1) (And.intro (And.intro (And.intro ?_ rfl) (And.intro ?_ (Store.le_refl _))) ⟨Nat.zero_le _, rfl, List.map_replicate .., ?_, Store.le_refl _, by rw [← hzz]; exact hzb⟩)) ?_
    · repeat' first | exact trivial | exact rfl | refine And.intro ?_ ?_
    · show _ = rp1 (tbx fp fc p c first T) (((y1, y2, y3), (y4, y5, y6)), (((u1, u2, u3), (u4, u5, u6), ub), ((v1, v2, v3), vi))) (iI (Li.beginR first T).s.did) (hdL (List.replicate T.length (((none, 0, 0) : Hd), ([] : List Li.Wd)))) ((Li.beginR first T).ends) L (pvs (List.replicate T.length ((none, 0, 0), [])))
      rw [hb0, hb1, pvs_rep, hL]; rfl
    · intro e he
      rw [(List.mem_replicate.1 he).2]
      exact ⟨rfl, fun _ => ⟨rfl, rfl⟩, Nat.le_refl _, fun w hw => by cases hw⟩
    rintro ⟨m, r, es, z, Sz⟩ (hat : AtIs S1 Sz first T L m r es z)
    obtain ⟨hm, hr, hes, hok, hSz, hz⟩ := id hat
    have hor : Li.okR first.length T r := by rw [hr]; exact Li.runR_ok hg.ok _ (Li.beginR_ok first T)
    have hel : es.length = T.length := by have := congrArg List.length hes; rw [List.length_map, hor.s.tl] at this; exact this
    have hene := hor.e
    refine And.intro (fun h1 => ?_) (fun h1 => ?_)
    · have h1 : (m : Int) < ((L.length : Nat) : Int) := of_decide_eq_true h1
      obtain ⟨⟨pa, pb, pc⟩, hpk⟩ : ∃ pk, L[m]? = some pk := ⟨_, List.getElem?_eq_getElem (by omega)⟩
      obtain ⟨hpo, hpc⟩ := hLo _ (List.mem_of_getElem? hpk)
      obtain ⟨t, ht, htc⟩ := wrap_pred (x := pb) hpo
      have mu : L.length - (m + 1) < L.length - m := by omega
      have wm : IntKind.i64.wrap ((m : Int) + 1) = ((m + 1 : Nat) : Int) := wrap_i64 (by omega) (by omega)
      refine ⟨Int.natCast_nonneg _, h1, ((pa, pb, pc) : Li.Pk), hpk, ?_⟩
      by_cases c2 : pa = 2
      · refine onE (beq_iff_eq.2 c2) ?_
        refine ⟨⟨_, rfl, rfl, rfl⟩, .inl ⟨_, _, _, mz_crash_spec Sz z T r m first.length hz hor (by omega) (by omega) g3 (by omega) (by omega) pc hpc, fun S2 zy hS2 hzy => ?_⟩⟩
        refine ⟨[], [], Nat, List.range' 79 8, fun i => [(16, rI i)], fun i => rp1 (tbx fp fc p c first T) zy (iI r.s.did) (hdL es) (stopped r.ends i) L (pvs es) ++ [.box [.v (.int .i64 pa), .v (.int .i64 pb), .v (.int .i64 pc)]], fun _ => S2, fun i => i ≤ T.length, fun i => T.length - i, ?_⟩
        refine And.intro (Exists.intro 0 (And.intro (And.intro (And.intro ?_ rfl) (And.intro ?_ (Store.le_refl _))) (Nat.zero_le _))) ?_
        · repeat' first | exact trivial | exact rfl | refine And.intro ?_ ?_
        · have : stopped r.ends 0 = r.ends := by unfold stopped; simp
          show _ = rp1 (tbx fp fc p c first T) zy (iI r.s.did) (hdL es) (stopped r.ends 0) L (pvs es) ++ _
          rw [this]; rfl
        intro i (hi : i ≤ T.length)
        have hsl := stopped_len r.ends i
        refine And.intro (fun h3 => ?_) (fun h3 => ?_)
        · have h3 : (i : Int) < ((T.length : Nat) : Int) := of_decide_eq_true h3
          obtain ⟨eb, heb⟩ : ∃ eb, (stopped r.ends i)[i]? = some eb := ⟨_, List.getElem?_eq_getElem (by omega)⟩
          refine ⟨Int.natCast_nonneg _, by show (i : Int) < (((stopped r.ends i).length : Nat) : Int); omega, eb, true, heb, trivial, rfl, Nat.le_refl 1, ?_⟩
          refine ⟨(((i + 1 : Nat)) : Int), wrap_i64 (by omega) (by omega), i + 1, ⟨⟨?_, rfl⟩, ?_, Store.le_refl _⟩, by show i + 1 ≤ _; omega, by show T.length - (i + 1) < T.length - i; omega⟩
          · repeat' first | exact trivial | exact rfl | refine And.intro ?_ ?_
          · show rp1 (tbx fp fc p c first T) zy (iI r.s.did) (hdL es) ((stopped r.ends i).set i true) L (pvs es) ++ _ = _
            rw [stopped_set (by omega)]; rfl
        have h3 : ¬ (i : Int) < ((T.length : Nat) : Int) := of_decide_eq_false h3
        have hiT : i = r.ends.length := by omega
        refine ⟨_, wm, (m + 1, Li.crashR T r pc, es, zy, S2), ⟨⟨?_, rfl⟩, ?_, Store.le_refl _⟩, hat.next hpk (by rw [c2]; exact pick_crash) hes hok hS2 hzy, mu⟩
        · repeat' first | exact trivial | exact rfl | refine And.intro ?_ ?_
        · show rp1 (tbx fp fc p c first T) zy (iI r.s.did) (hdL es) (stopped r.ends i) L (pvs es) = _
          rw [hiT, stopped_all]; rfl
      refine offE (beq_eq_false_iff_ne.2 c2) ?_
      refine ⟨t, ht, ?_⟩
      by_cases k1 : t < 0
      · refine onE (decide_eq_true k1) ?_
        repeat refine onT ?_
        refine ⟨_, wm, (m + 1, r, es, z, Sz), ⟨⟨?_, rfl⟩, rfl, Store.le_refl _⟩, hat.skip hpk (pick_dead c2 (fun q => by omega)), mu⟩
        repeat' first | exact trivial | exact rfl | refine And.intro ?_ ?_
      refine offE (decide_eq_false k1) ?_
      by_cases k2 : t ≥ ((T.length : Nat) : Int)
      · refine onE (decide_eq_true k2) ?_
        repeat refine onT ?_
        refine ⟨_, wm, (m + 1, r, es, z, Sz), ⟨⟨?_, rfl⟩, rfl, Store.le_refl _⟩, hat.skip hpk (pick_dead c2 (fun q => .inl (by omega))), mu⟩
        repeat' first | exact trivial | exact rfl | refine And.intro ?_ ?_
      refine offE (decide_eq_false k2) ?_
      obtain ⟨k, rfl⟩ : ∃ k : Nat, t = (k : Int) := ⟨t.toNat, by omega⟩
      obtain rfl : pb = (k : Int) + 1 := by omega
      have hkT : k < T.length := by omega
      have kz : (0 : Int) ≤ (k : Int) := Int.natCast_nonneg _
      have kT : (k : Int) < ((T.length : Nat) : Int) := by omega
      have hke : (k : Int) < ((r.ends.length : Nat) : Int) := by omega
      obtain ⟨eb, heb⟩ : ∃ eb, r.ends[k]? = some eb := ⟨_, List.getElem?_eq_getElem (by omega)⟩
      refine ⟨kz, hke, eb, heb, ?_⟩
      cases eb with
      | true =>
        refine onT ?_
        refine ⟨_, wm, (m + 1, r, es, z, Sz), ⟨⟨?_, rfl⟩, rfl, Store.le_refl _⟩, hat.skip hpk (pick_dead c2 (fun q => .inr (by rw [show (k : Int) + 1 - 1 = (k : Int) by omega, Int.toNat_natCast]; exact heb))), mu⟩
        repeat' first | exact trivial | exact rfl | refine And.intro ?_ ?_
      | false =>
      refine onF ?_
      by_cases c1 : pa = 1
      · refine onE (beq_iff_eq.2 c1) ⟨kz, hke, false, true, heb, trivial, rfl, Nat.le_refl 1, ?_⟩
        refine ⟨or22_26, [], oF22_26, by kernel_rfl, ?_⟩
        refine onE (bne_iff_ne.2 (show pa ≠ 0 by omega)) ?_
        repeat refine onT ?_
        refine ⟨_, wm, (m + 1, Li.stopR r k, es, z, Sz), ⟨⟨?_, rfl⟩, rfl, Store.le_refl _⟩, hat.next hpk (by rw [c1]; exact pick_stop) hes hok (Store.le_refl _) ((hz.same (r' := Li.stopR r k) rfl rfl).up (Nat.le_succ _)), mu⟩
        repeat' first | exact trivial | exact rfl | refine And.intro ?_ ?_
      refine offE (beq_eq_false_iff_ne.2 c1) ?_
      refine ⟨or22_26, [], oF22_26, by kernel_rfl, ?_⟩
      by_cases c0 : ¬ pa = 0
      · refine onE (bne_iff_ne.2 c0) ?_
        repeat refine onT ?_
        refine ⟨_, wm, (m + 1, r, es, z, Sz), ⟨⟨?_, rfl⟩, rfl, Store.le_refl _⟩, hat.skip hpk (pick_other c0 c1 c2), mu⟩
        repeat' first | exact trivial | exact rfl | refine And.intro ?_ ?_
      obtain rfl : pa = 0 := Decidable.not_not.1 c0
      refine offE (bne_eq_false_iff_eq.2 rfl) ?_
      obtain ⟨yp, yc, y, b, o, d, hp, hyok, hrd, hyr, hyo, hyT, hy6, hd, hdm, hdl, hd8⟩ := at_facts (hth.le hSz) hg hor hkT
      refine ⟨kz, hdl, (d : Int), hdm, kz, kT, b, o, hp, ((yp, y.length, yc) : Hd), hyok, fun S' hle _ => Store.rd_le hle hrd, ?_⟩
      by_cases k3 : (d : Int) ≥ ((y.length : Nat) : Int)
      · refine onE (decide_eq_true k3) ?_
        refine ⟨_, wm, (m + 1, r, es, z, Sz), ⟨⟨?_, rfl⟩, rfl, Store.le_refl _⟩, hat.skip hpk (pick_step.trans (stepR_none (act_over hyT hd (by omega)))), mu⟩
        repeat' first | exact trivial | exact rfl | refine And.intro ?_ ?_
      refine offE (decide_eq_false k3) ?_
      obtain ⟨a, b3, o3, e3, ok3, hr3, hact, haok⟩ := act_facts hyr hyo hyT hd (by omega) heb
      obtain ⟨st1, st2, st3⟩ := stepR_all (c := pc) hact
      have hdo := mz_do_spec Sz z T r m first.length hz hor hg.ok (by omega) (by omega) (by omega) k a hact haok.2.2.2 pc hpc
      obtain ⟨w00, hw00⟩ : ∃ w, w = (Li.doM r.s.m k a pc).2 := ⟨_, rfl⟩
      rw [← hw00] at hdo st2
      obtain ⟨ao, al, ⟨a1, a2, a3⟩, a4, a5, a6⟩ := a
      refine ⟨or22_27, [8], oF22_27, by kernel_rfl, ?_⟩
      refine ⟨kz, kT, b, o, hp, ((yp, y.length, yc) : Hd), hyok, fun S' hle _ => Store.rd_le hle hrd, kz, hdl, (d : Int), hdm, Int.natCast_nonneg _, by show (d : Int) < ((y.length : Nat) : Int); omega, b3, o3, e3, ((ao, al, (a1, a2, a3), a4, a5, a6) : Ax), ok3, fun S' hle _ => Store.rd_le hle hr3, ?_⟩
      refine ⟨⟨_, rfl, rfl, rfl⟩, .inl ⟨_, _, _, hdo, fun S2 zy hS2 hzy => ?_⟩⟩
      obtain ⟨zy, ⟨w1, w2, w3⟩, zb⟩ := zy
      obtain ⟨(hm1 : MzIs S2 zy T (Li.stepR T r k pc) (m + 1)), (hm2 : ((w1, w2, w3) : Li.Wd) = w00), (hm3 : okW (w1, w2, w3))⟩ := hzy
      refine ⟨kz, hdl, (d : Int), hdm, ((d + 1 : Nat) : Int), wrap_i64 (by omega) (by omega), kz, hdl, (d : Int), ((d + 1 : Nat) : Int), hdm, trivial, rfl, Nat.le_refl 1, ?_⟩
      obtain ⟨A, e, B, rfl, rfl, heo1, hew, hget, hel2, hps⟩ := es_facts (k := k) hes hok (show k < es.length by omega) hz.tl
      refine ⟨⟨_, rfl, rfl, rfl⟩, .inl ⟨_, _, _, tell_spec S2 ao, fun S3 _ hS3 _ => ?_⟩⟩
      refine And.intro (fun (hte : Li.tells ⟨ao, al, (a1, a2, a3), a4, a5, a6⟩ = true) => ?_) (fun (hte : Li.tells ⟨ao, al, (a1, a2, a3), a4, a5, a6⟩ = false) => ?_)
      · rw [if_pos hte] at st2
        refine ⟨or22_32, [4, 6], oF22_32, by kernel_rfl, ?_⟩
        refine ⟨kz, hel2, e.1, hget, .inr (.inl ⟨6, ⟨rfl, rfl, rfl⟩, pvs A, pvs B, e.1.1, e.1.2.1, e.1.2.2, e.2, [((w1, w2, w3) : Li.Wd)], rfl, Nat.le_of_eq heo1, hps, ⟨rfl, rfl⟩, fun _ _ => ⟨trivial, trivial, trivial⟩, by show (e.1.2.1 + 1) * 16 ≤ 140737488355328; omega, fun p' c' hf => ⟨kz, hel2, e.1, ((p', e.1.2.1 + 1, c') : Hd), hget, trivial, rfl, Nat.le_refl 1, ?_⟩⟩)⟩
        refine ⟨_, wm, (m + 1, Li.stepR T r A.length pc, A ++ (((p', e.1.2.1 + 1, c') : Hd), e.2 ++ [((w1, w2, w3) : Li.Wd)]) :: B, zy, S3), ⟨⟨?_, rfl⟩, ?_, Store.le_refl _⟩, hat.next hpk pick_step (by rw [st2, upd_2, hes, ← hm2]) (upd_ok hok hf hm3) (Store.le_trans hS2 hS3) (hm1.le hS3), mu⟩
        · repeat' first | exact trivial | exact rfl | refine And.intro ?_ ?_
        · show rp1 (tbx fp fc p c first T) zy ((iI r.s.did).set A.length ((d + 1 : Nat) : Int)) ((hdL (A ++ e :: B)).set A.length (p', e.1.2.1 + 1, c')) (r.ends) L (pvs A ++ (Value.slice p' (e.1.2.1 + 1) c', e.2.take e.1.2.1 ++ [((w1, w2, w3) : Li.Wd)]) :: pvs B) = rp1 (tbx fp fc p c first T) zy (iI (Li.stepR T r A.length pc).s.did) (hdL (A ++ (((p', e.1.2.1 + 1, c') : Hd), e.2 ++ [((w1, w2, w3) : Li.Wd)]) :: B)) ((Li.stepR T r A.length pc).ends) L (pvs (A ++ (((p', e.1.2.1 + 1, c') : Hd), e.2 ++ [((w1, w2, w3) : Li.Wd)]) :: B))
          rw [st1, st3, ← hd, map_set_nat, ← told_eq heo1 hf, upd_1 A B e _ (e.2 ++ [((w1, w2, w3) : Li.Wd)])]
      · rw [if_neg (by rw [hte]; decide)] at st2
        refine ⟨_, wm, (m + 1, Li.stepR T r A.length pc, A ++ e :: B, zy, S3), ⟨⟨?_, rfl⟩, ?_, Store.le_refl _⟩, hat.next hpk pick_step (by rw [st2]; exact hes) hok (Store.le_trans hS2 hS3) (hm1.le hS3), mu⟩
        · repeat' first | exact trivial | exact rfl | refine And.intro ?_ ?_
        · show rp1 (tbx fp fc p c first T) zy ((iI r.s.did).set A.length ((d + 1 : Nat) : Int)) (hdL (A ++ e :: B)) (r.ends) L (pvs (A ++ e :: B)) = rp1 (tbx fp fc p c first T) zy (iI (Li.stepR T r A.length pc).s.did) (hdL (A ++ e :: B)) ((Li.stepR T r A.length pc).ends) L (pvs (A ++ e :: B))
          rw [st1, st3, ← hd, map_set_nat]
    · have h1 : ¬ (m : Int) < ((L.length : Nat) : Int) := of_decide_eq_false h1
      have hml : m = L.length := by omega
      rw [hml, List.take_length] at hr
      refine ⟨⟨_, rfl, rfl, rfl⟩, .inl ⟨_, _, _, mz_words_spec Sz z T r m first.length hz hor (by omega) (by omega) (by omega), fun S2 wq hS2 hwq => ?_⟩⟩
      obtain ⟨wp, wn, wc⟩ := wq
      obtain ⟨(rfl : wn = (Li.lasts r.s.m).length), j2, (j3 : RowRd S2 wp shW (Li.lasts r.s.m)), j4⟩ := ws_row hwq
      refine ⟨⟨_, rfl, rfl, rfl⟩, .inr (.inr (.inl fun p5 c5 S5 hS5 hr5 hpf5 S7 hS7 hpool => ?_))⟩
      have htx := rtexto_spec S7 (p5, es.length, c5) (wp, (Li.lasts r.s.m).length, wc) r.s.told (Li.lasts r.s.m) (by rw [← hes]; exact td_of hok (hr5.le hS7) hpool) ⟨rfl, (j3.le hS5).le hS7, j4⟩ (by rw [hor.s.tl]; omega) (fun y hy => by have := (hz.tl y hy).1; omega) (by unfold Li.lasts; rw [List.length_map, hor.s.m.len]; omega)
      rw [← (List.length_map .. : (hdL es).length = es.length)] at htx
      refine ⟨_, _, _, htx, fun S8 _ hS8 _ S9 hS9 _ => ⟨rfl, (), ?_, trivial⟩⟩
      show rS _ = rS _
      rw [hr, hL]; rfl
  · refine ⟨l, src_of rfl hqr, fun _ _ => ⟨trivial, trivial, trivial⟩, by show (0 + l.length) * 24 ≤ 140737488355328; omega, ?_⟩
    refine ⟨[], [], Nat, [13] ++ List.range' 40 22, fun i => [(12, rI (i + 1))], fun i => rs2 (tbx fp fc p c first T) (((y1, y2, y3), (y4, y5, y6)), (((u1, u2, u3), (u4, u5, u6), ub), ((v1, v2, v3), vi))) (List.replicate T.length 0) (List.replicate T.length (none, 0, 0)) (List.replicate T.length false) (l ++ tk T i), fun _ => S1, fun i => i ≤ T.length, fun i => T.length - i, ?_⟩
    refine And.intro (Exists.intro 0 (And.intro (And.intro (And.intro ?_ rfl) (And.intro ?_ (Store.le_refl _))) (Nat.zero_le _))) ?_
    · repeat' first | exact trivial | exact rfl | refine And.intro ?_ ?_
    · show _ = rs2 (tbx fp fc p c first T) (((y1, y2, y3), (y4, y5, y6)), (((u1, u2, u3), (u4, u5, u6), ub), ((v1, v2, v3), vi))) (List.replicate T.length 0) (List.replicate T.length (none, 0, 0)) (List.replicate T.length false) (l ++ tk T 0)
      rw [e0]; rfl
    intro i (hi : i ≤ T.length)
    have htk8 := tk_len h8 i
    refine And.intro (fun h1 => ?_) (fun h1 => ?_)
    · have h1 : (i : Int) + 1 ≤ ((T.length : Nat) : Int) := of_decide_eq_true h1
      obtain ⟨⟨yp, yn, yc⟩, y, b, o, hy, hqy, hp, hok, hrd⟩ := hth.at (i := i) (by omega)
      have hyl : yn = y.length := hqy.len
      subst hyl
      have hy8 := h8 y (List.mem_of_getElem? hy)
      refine ⟨[], [], Nat, [40] ++ List.range' 46 16, fun j => [(13, rI j)], fun j => rs2 (tbx fp fc p c first T) (((y1, y2, y3), (y4, y5, y6)), (((u1, u2, u3), (u4, u5, u6), ub), ((v1, v2, v3), vi))) (List.replicate T.length 0) (List.replicate T.length (none, 0, 0)) (List.replicate T.length false) (l ++ tk T i ++ reps i j), fun _ => S1, fun j => j ≤ y.length, fun j => y.length - j, ?_⟩
      refine And.intro (Exists.intro 0 (And.intro (And.intro (And.intro ?_ rfl) (And.intro ?_ (Store.le_refl _))) (Nat.zero_le _))) ?_
      · repeat' first | exact trivial | exact rfl | refine And.intro ?_ ?_
      · show _ = rs2 (tbx fp fc p c first T) (((y1, y2, y3), (y4, y5, y6)), (((u1, u2, u3), (u4, u5, u6), ub), ((v1, v2, v3), vi))) (List.replicate T.length 0) (List.replicate T.length (none, 0, 0)) (List.replicate T.length false) (l ++ tk T i ++ reps i 0)
        rw [e1]; rfl
      intro j (hj : j ≤ y.length)
      have nl := nl i j
      refine ⟨(i : Int), by rw [wrap_i64 (by omega) (by omega)]; omega, Int.natCast_nonneg _, by show (i : Int) < ((T.length : Nat) : Int); omega, b, o, hp, ((yp, y.length, yc) : Hd), hok, hrd, ?_⟩
      refine And.intro (fun h2 => ?_) (fun h2 => ?_)
      · have h2 : (j : Int) < ((y.length : Nat) : Int) := of_decide_eq_true h2
        refine ⟨[((0, (i : Int) + 1, 0) : Li.Pk)], ⟨rfl, rfl⟩, fun _ _ => ⟨trivial, trivial, trivial⟩, by show ((l ++ tk T i ++ reps i j).length + 1) * 24 ≤ 140737488355328; omega, ?_⟩
        refine ⟨(((j + 1 : Nat)) : Int), wrap_i64 (by omega) (by omega), j + 1, ⟨⟨?_, rfl⟩, ?_, Store.le_refl _⟩, by show j + 1 ≤ _; omega, by show y.length - (j + 1) < y.length - j; omega⟩
        · repeat' first | exact trivial | exact rfl | refine And.intro ?_ ?_
        · show _ = rs2 (tbx fp fc p c first T) (((y1, y2, y3), (y4, y5, y6)), (((u1, u2, u3), (u4, u5, u6), ub), ((v1, v2, v3), vi))) (List.replicate T.length 0) (List.replicate T.length (none, 0, 0)) (List.replicate T.length false) (l ++ tk T i ++ reps i (j + 1))
          rw [← e2]; rfl
      · have h2 : ¬ (j : Int) < ((y.length : Nat) : Int) := of_decide_eq_false h2
        have hjy : j = y.length := by omega
        refine ⟨((i + 1 : Nat) : Int) + 1, by rw [wrap_i64 (by omega) (by omega)]; omega, i + 1, ⟨⟨?_, rfl⟩, ?_, Store.le_refl _⟩, by show i + 1 ≤ _; omega, by show T.length - (i + 1) < T.length - i; omega⟩
        · repeat' first | exact trivial | exact rfl | refine And.intro ?_ ?_
        · show _ = rs2 (tbx fp fc p c first T) (((y1, y2, y3), (y4, y5, y6)), (((u1, u2, u3), (u4, u5, u6), ub), ((v1, v2, v3), vi))) (List.replicate T.length 0) (List.replicate T.length (none, 0, 0)) (List.replicate T.length false) (l ++ tk T (i + 1))
          rw [← e3 i y hy, ← hjy]; rfl
    have h1 : ¬ (i : Int) + 1 ≤ ((T.length : Nat) : Int) := of_decide_eq_false h1
    have hil : i = T.length := by omega
    subst hil
    refine ⟨[], [(100000, shW, 35)], Nat × Li.Rn × List HL × Mcx × Store, List.range' 15 7 ++ List.range' 62 106, fun a => [(14, rI a.1)], fun a => rp2 (tbx fp fc p c first T) a.2.2.2.1 (iI a.2.1.s.did) (hdL a.2.2.1) (a.2.1.ends) L (pvs a.2.2.1), fun a => a.2.2.2.2, fun a => AtIs S1 a.2.2.2.2 first T L a.1 a.2.1 a.2.2.1 a.2.2.2.1, fun a => L.length - a.1, ?_⟩
    refine And.intro (Exists.intro (0, Li.beginR first T, List.replicate T.length ((none, 0, 0), []), (((y1, y2, y3), (y4, y5, y6)), (((u1, u2, u3), (u4, u5, u6), ub), ((v1, v2, v3), vi))), S1) (And.intro (And.intro (And.intro ?_ rfl) (And.intro ?_ (Store.le_refl _))) ⟨Nat.zero_le _, rfl, List.map_replicate .., ?_, Store.le_refl _, by rw [← hzz]; exact hzb⟩)) ?_
    · repeat' first | exact trivial | exact rfl | refine And.intro ?_ ?_
    · show _ = rp2 (tbx fp fc p c first T) (((y1, y2, y3), (y4, y5, y6)), (((u1, u2, u3), (u4, u5, u6), ub), ((v1, v2, v3), vi))) (iI (Li.beginR first T).s.did) (hdL (List.replicate T.length (((none, 0, 0) : Hd), ([] : List Li.Wd)))) ((Li.beginR first T).ends) L (pvs (List.replicate T.length ((none, 0, 0), [])))
      rw [hb0, hb1, pvs_rep, hL]; rfl
    · intro e he
      rw [(List.mem_replicate.1 he).2]
      exact ⟨rfl, fun _ => ⟨rfl, rfl⟩, Nat.le_refl _, fun w hw => by cases hw⟩
    rintro ⟨m, r, es, z, Sz⟩ (hat : AtIs S1 Sz first T L m r es z)
    obtain ⟨hm, hr, hes, hok, hSz, hz⟩ := id hat
    have hor : Li.okR first.length T r := by rw [hr]; exact Li.runR_ok hg.ok _ (Li.beginR_ok first T)
    have hel : es.length = T.length := by have := congrArg List.length hes; rw [List.length_map, hor.s.tl] at this; exact this
    have hene := hor.e
    refine And.intro (fun h1 => ?_) (fun h1 => ?_)
    · have h1 : (m : Int) < ((L.length : Nat) : Int) := of_decide_eq_true h1
      obtain ⟨⟨pa, pb, pc⟩, hpk⟩ : ∃ pk, L[m]? = some pk := ⟨_, List.getElem?_eq_getElem (by omega)⟩
      obtain ⟨hpo, hpc⟩ := hLo _ (List.mem_of_getElem? hpk)
      obtain ⟨t, ht, htc⟩ := wrap_pred (x := pb) hpo
      have mu : L.length - (m + 1) < L.length - m := by omega
      have wm : IntKind.i64.wrap ((m : Int) + 1) = ((m + 1 : Nat) : Int) := wrap_i64 (by omega) (by omega)
      refine ⟨Int.natCast_nonneg _, h1, ((pa, pb, pc) : Li.Pk), hpk, ?_⟩
      by_cases c2 : pa = 2
      · refine onE (beq_iff_eq.2 c2) ?_
        refine ⟨⟨_, rfl, rfl, rfl⟩, .inl ⟨_, _, _, mz_crash_spec Sz z T r m first.length hz hor (by omega) (by omega) g3 (by omega) (by omega) pc hpc, fun S2 zy hS2 hzy => ?_⟩⟩
        refine ⟨[], [], Nat, List.range' 79 8, fun i => [(16, rI i)], fun i => rp2 (tbx fp fc p c first T) zy (iI r.s.did) (hdL es) (stopped r.ends i) L (pvs es) ++ [.box [.v (.int .i64 pa), .v (.int .i64 pb), .v (.int .i64 pc)]], fun _ => S2, fun i => i ≤ T.length, fun i => T.length - i, ?_⟩
        refine And.intro (Exists.intro 0 (And.intro (And.intro (And.intro ?_ rfl) (And.intro ?_ (Store.le_refl _))) (Nat.zero_le _))) ?_
        · repeat' first | exact trivial | exact rfl | refine And.intro ?_ ?_
        · have : stopped r.ends 0 = r.ends := by unfold stopped; simp
          show _ = rp2 (tbx fp fc p c first T) zy (iI r.s.did) (hdL es) (stopped r.ends 0) L (pvs es) ++ _
          rw [this]; rfl
        intro i (hi : i ≤ T.length)
        have hsl := stopped_len r.ends i
        refine And.intro (fun h3 => ?_) (fun h3 => ?_)
        · have h3 : (i : Int) < ((T.length : Nat) : Int) := of_decide_eq_true h3
          obtain ⟨eb, heb⟩ : ∃ eb, (stopped r.ends i)[i]? = some eb := ⟨_, List.getElem?_eq_getElem (by omega)⟩
          refine ⟨Int.natCast_nonneg _, by show (i : Int) < (((stopped r.ends i).length : Nat) : Int); omega, eb, true, heb, trivial, rfl, Nat.le_refl 1, ?_⟩
          refine ⟨(((i + 1 : Nat)) : Int), wrap_i64 (by omega) (by omega), i + 1, ⟨⟨?_, rfl⟩, ?_, Store.le_refl _⟩, by show i + 1 ≤ _; omega, by show T.length - (i + 1) < T.length - i; omega⟩
          · repeat' first | exact trivial | exact rfl | refine And.intro ?_ ?_
          · show rp2 (tbx fp fc p c first T) zy (iI r.s.did) (hdL es) ((stopped r.ends i).set i true) L (pvs es) ++ _ = _
            rw [stopped_set (by omega)]; rfl
        have h3 : ¬ (i : Int) < ((T.length : Nat) : Int) := of_decide_eq_false h3
        have hiT : i = r.ends.length := by omega
        refine ⟨_, wm, (m + 1, Li.crashR T r pc, es, zy, S2), ⟨⟨?_, rfl⟩, ?_, Store.le_refl _⟩, hat.next hpk (by rw [c2]; exact pick_crash) hes hok hS2 hzy, mu⟩
        · repeat' first | exact trivial | exact rfl | refine And.intro ?_ ?_
        · show rp2 (tbx fp fc p c first T) zy (iI r.s.did) (hdL es) (stopped r.ends i) L (pvs es) = _
          rw [hiT, stopped_all]; rfl
      refine offE (beq_eq_false_iff_ne.2 c2) ?_
      refine ⟨t, ht, ?_⟩
      by_cases k1 : t < 0
      · refine onE (decide_eq_true k1) ?_
        repeat refine onT ?_
        refine ⟨_, wm, (m + 1, r, es, z, Sz), ⟨⟨?_, rfl⟩, rfl, Store.le_refl _⟩, hat.skip hpk (pick_dead c2 (fun q => by omega)), mu⟩
        repeat' first | exact trivial | exact rfl | refine And.intro ?_ ?_
      refine offE (decide_eq_false k1) ?_
      by_cases k2 : t ≥ ((T.length : Nat) : Int)
      · refine onE (decide_eq_true k2) ?_
        repeat refine onT ?_
        refine ⟨_, wm, (m + 1, r, es, z, Sz), ⟨⟨?_, rfl⟩, rfl, Store.le_refl _⟩, hat.skip hpk (pick_dead c2 (fun q => .inl (by omega))), mu⟩
        repeat' first | exact trivial | exact rfl | refine And.intro ?_ ?_
      refine offE (decide_eq_false k2) ?_
      obtain ⟨k, rfl⟩ : ∃ k : Nat, t = (k : Int) := ⟨t.toNat, by omega⟩
      obtain rfl : pb = (k : Int) + 1 := by omega
      have hkT : k < T.length := by omega
      have kz : (0 : Int) ≤ (k : Int) := Int.natCast_nonneg _
      have kT : (k : Int) < ((T.length : Nat) : Int) := by omega
      have hke : (k : Int) < ((r.ends.length : Nat) : Int) := by omega
      obtain ⟨eb, heb⟩ : ∃ eb, r.ends[k]? = some eb := ⟨_, List.getElem?_eq_getElem (by omega)⟩
      refine ⟨kz, hke, eb, heb, ?_⟩
      cases eb with
      | true =>
        refine onT ?_
        refine ⟨_, wm, (m + 1, r, es, z, Sz), ⟨⟨?_, rfl⟩, rfl, Store.le_refl _⟩, hat.skip hpk (pick_dead c2 (fun q => .inr (by rw [show (k : Int) + 1 - 1 = (k : Int) by omega, Int.toNat_natCast]; exact heb))), mu⟩
        repeat' first | exact trivial | exact rfl | refine And.intro ?_ ?_
      | false =>
      refine onF ?_
      by_cases c1 : pa = 1
      · refine onE (beq_iff_eq.2 c1) ⟨kz, hke, false, true, heb, trivial, rfl, Nat.le_refl 1, ?_⟩
        refine ⟨or22_26, [], oF22_26, by kernel_rfl, ?_⟩
        refine onE (bne_iff_ne.2 (show pa ≠ 0 by omega)) ?_
        repeat refine onT ?_
        refine ⟨_, wm, (m + 1, Li.stopR r k, es, z, Sz), ⟨⟨?_, rfl⟩, rfl, Store.le_refl _⟩, hat.next hpk (by rw [c1]; exact pick_stop) hes hok (Store.le_refl _) ((hz.same (r' := Li.stopR r k) rfl rfl).up (Nat.le_succ _)), mu⟩
        repeat' first | exact trivial | exact rfl | refine And.intro ?_ ?_
      refine offE (beq_eq_false_iff_ne.2 c1) ?_
      refine ⟨or22_26, [], oF22_26, by kernel_rfl, ?_⟩
      by_cases c0 : ¬ pa = 0
      · refine onE (bne_iff_ne.2 c0) ?_
        repeat refine onT ?_
        refine ⟨_, wm, (m + 1, r, es, z, Sz), ⟨⟨?_, rfl⟩, rfl, Store.le_refl _⟩, hat.skip hpk (pick_other c0 c1 c2), mu⟩
        repeat' first | exact trivial | exact rfl | refine And.intro ?_ ?_
      obtain rfl : pa = 0 := Decidable.not_not.1 c0
      refine offE (bne_eq_false_iff_eq.2 rfl) ?_
      obtain ⟨yp, yc, y, b, o, d, hp, hyok, hrd, hyr, hyo, hyT, hy6, hd, hdm, hdl, hd8⟩ := at_facts (hth.le hSz) hg hor hkT
      refine ⟨kz, hdl, (d : Int), hdm, kz, kT, b, o, hp, ((yp, y.length, yc) : Hd), hyok, fun S' hle _ => Store.rd_le hle hrd, ?_⟩
      by_cases k3 : (d : Int) ≥ ((y.length : Nat) : Int)
      · refine onE (decide_eq_true k3) ?_
        refine ⟨_, wm, (m + 1, r, es, z, Sz), ⟨⟨?_, rfl⟩, rfl, Store.le_refl _⟩, hat.skip hpk (pick_step.trans (stepR_none (act_over hyT hd (by omega)))), mu⟩
        repeat' first | exact trivial | exact rfl | refine And.intro ?_ ?_
      refine offE (decide_eq_false k3) ?_
      obtain ⟨a, b3, o3, e3, ok3, hr3, hact, haok⟩ := act_facts hyr hyo hyT hd (by omega) heb
      obtain ⟨st1, st2, st3⟩ := stepR_all (c := pc) hact
      have hdo := mz_do_spec Sz z T r m first.length hz hor hg.ok (by omega) (by omega) (by omega) k a hact haok.2.2.2 pc hpc
      obtain ⟨w00, hw00⟩ : ∃ w, w = (Li.doM r.s.m k a pc).2 := ⟨_, rfl⟩
      rw [← hw00] at hdo st2
      obtain ⟨ao, al, ⟨a1, a2, a3⟩, a4, a5, a6⟩ := a
      refine ⟨or22_27, [8], oF22_27, by kernel_rfl, ?_⟩
      refine ⟨kz, kT, b, o, hp, ((yp, y.length, yc) : Hd), hyok, fun S' hle _ => Store.rd_le hle hrd, kz, hdl, (d : Int), hdm, Int.natCast_nonneg _, by show (d : Int) < ((y.length : Nat) : Int); omega, b3, o3, e3, ((ao, al, (a1, a2, a3), a4, a5, a6) : Ax), ok3, fun S' hle _ => Store.rd_le hle hr3, ?_⟩
      refine ⟨⟨_, rfl, rfl, rfl⟩, .inl ⟨_, _, _, hdo, fun S2 zy hS2 hzy => ?_⟩⟩
      obtain ⟨zy, ⟨w1, w2, w3⟩, zb⟩ := zy
      obtain ⟨(hm1 : MzIs S2 zy T (Li.stepR T r k pc) (m + 1)), (hm2 : ((w1, w2, w3) : Li.Wd) = w00), (hm3 : okW (w1, w2, w3))⟩ := hzy
      refine ⟨kz, hdl, (d : Int), hdm, ((d + 1 : Nat) : Int), wrap_i64 (by omega) (by omega), kz, hdl, (d : Int), ((d + 1 : Nat) : Int), hdm, trivial, rfl, Nat.le_refl 1, ?_⟩
      obtain ⟨A, e, B, rfl, rfl, heo1, hew, hget, hel2, hps⟩ := es_facts (k := k) hes hok (show k < es.length by omega) hz.tl
      refine ⟨⟨_, rfl, rfl, rfl⟩, .inl ⟨_, _, _, tell_spec S2 ao, fun S3 _ hS3 _ => ?_⟩⟩
      refine And.intro (fun (hte : Li.tells ⟨ao, al, (a1, a2, a3), a4, a5, a6⟩ = true) => ?_) (fun (hte : Li.tells ⟨ao, al, (a1, a2, a3), a4, a5, a6⟩ = false) => ?_)
      · rw [if_pos hte] at st2
        refine ⟨or22_32, [2, 6], oF22_32, by kernel_rfl, ?_⟩
        refine ⟨kz, hel2, e.1, hget, .inr (.inl ⟨6, ⟨rfl, rfl, rfl⟩, pvs A, pvs B, e.1.1, e.1.2.1, e.1.2.2, e.2, [((w1, w2, w3) : Li.Wd)], rfl, Nat.le_of_eq heo1, hps, ⟨rfl, rfl⟩, fun _ _ => ⟨trivial, trivial, trivial⟩, by show (e.1.2.1 + 1) * 16 ≤ 140737488355328; omega, fun p' c' hf => ⟨kz, hel2, e.1, ((p', e.1.2.1 + 1, c') : Hd), hget, trivial, rfl, Nat.le_refl 1, ?_⟩⟩)⟩
        refine ⟨_, wm, (m + 1, Li.stepR T r A.length pc, A ++ (((p', e.1.2.1 + 1, c') : Hd), e.2 ++ [((w1, w2, w3) : Li.Wd)]) :: B, zy, S3), ⟨⟨?_, rfl⟩, ?_, Store.le_refl _⟩, hat.next hpk pick_step (by rw [st2, upd_2, hes, ← hm2]) (upd_ok hok hf hm3) (Store.le_trans hS2 hS3) (hm1.le hS3), mu⟩
        · repeat' first | exact trivial | exact rfl | refine And.intro ?_ ?_
        · show rp2 (tbx fp fc p c first T) zy ((iI r.s.did).set A.length ((d + 1 : Nat) : Int)) ((hdL (A ++ e :: B)).set A.length (p', e.1.2.1 + 1, c')) (r.ends) L (pvs A ++ (Value.slice p' (e.1.2.1 + 1) c', e.2.take e.1.2.1 ++ [((w1, w2, w3) : Li.Wd)]) :: pvs B) = rp2 (tbx fp fc p c first T) zy (iI (Li.stepR T r A.length pc).s.did) (hdL (A ++ (((p', e.1.2.1 + 1, c') : Hd), e.2 ++ [((w1, w2, w3) : Li.Wd)]) :: B)) ((Li.stepR T r A.length pc).ends) L (pvs (A ++ (((p', e.1.2.1 + 1, c') : Hd), e.2 ++ [((w1, w2, w3) : Li.Wd)]) :: B))
          rw [st1, st3, ← hd, map_set_nat, ← told_eq heo1 hf, upd_1 A B e _ (e.2 ++ [((w1, w2, w3) : Li.Wd)])]
      · rw [if_neg (by rw [hte]; decide)] at st2
        refine ⟨_, wm, (m + 1, Li.stepR T r A.length pc, A ++ e :: B, zy, S3), ⟨⟨?_, rfl⟩, ?_, Store.le_refl _⟩, hat.next hpk pick_step (by rw [st2]; exact hes) hok (Store.le_trans hS2 hS3) (hm1.le hS3), mu⟩
        · repeat' first | exact trivial | exact rfl | refine And.intro ?_ ?_
        · show rp2 (tbx fp fc p c first T) zy ((iI r.s.did).set A.length ((d + 1 : Nat) : Int)) (hdL (A ++ e :: B)) (r.ends) L (pvs (A ++ e :: B)) = rp2 (tbx fp fc p c first T) zy (iI (Li.stepR T r A.length pc).s.did) (hdL (A ++ e :: B)) ((Li.stepR T r A.length pc).ends) L (pvs (A ++ e :: B))
          rw [st1, st3, ← hd, map_set_nat]
    · have h1 : ¬ (m : Int) < ((L.length : Nat) : Int) := of_decide_eq_false h1
      have hml : m = L.length := by omega
      rw [hml, List.take_length] at hr
      refine ⟨⟨_, rfl, rfl, rfl⟩, .inl ⟨_, _, _, mz_words_spec Sz z T r m first.length hz hor (by omega) (by omega) (by omega), fun S2 wq hS2 hwq => ?_⟩⟩
      obtain ⟨wp, wn, wc⟩ := wq
      obtain ⟨(rfl : wn = (Li.lasts r.s.m).length), j2, (j3 : RowRd S2 wp shW (Li.lasts r.s.m)), j4⟩ := ws_row hwq
      refine ⟨⟨_, rfl, rfl, rfl⟩, .inr (.inr (.inl fun p5 c5 S5 hS5 hr5 hpf5 S7 hS7 hpool => ?_))⟩
      have htx := rtexto_spec S7 (p5, es.length, c5) (wp, (Li.lasts r.s.m).length, wc) r.s.told (Li.lasts r.s.m) (by rw [← hes]; exact td_of hok (hr5.le hS7) hpool) ⟨rfl, (j3.le hS5).le hS7, j4⟩ (by rw [hor.s.tl]; omega) (fun y hy => by have := (hz.tl y hy).1; omega) (by unfold Li.lasts; rw [List.length_map, hor.s.m.len]; omega)
      rw [← (List.length_map .. : (hdL es).length = es.length)] at htx
      refine ⟨_, _, _, htx, fun S8 _ hS8 _ S9 hS9 _ => ⟨rfl, (), ?_, trivial⟩⟩
      show rS _ = rS _
      rw [hr, hL]; rfl
  · refine ⟨l, src_of rfl hqr, fun _ _ => ⟨trivial, trivial, trivial⟩, by show (0 + l.length) * 24 ≤ 140737488355328; omega, ?_⟩
    refine ⟨[], [], Nat, [13] ++ List.range' 40 22, fun i => [(12, rI (i + 1))], fun i => rs3 (tbx fp fc p c first T) (((y1, y2, y3), (y4, y5, y6)), (((u1, u2, u3), (u4, u5, u6), ub), ((v1, v2, v3), vi))) (List.replicate T.length 0) (List.replicate T.length (none, 0, 0)) (List.replicate T.length false) (l ++ tk T i), fun _ => S1, fun i => i ≤ T.length, fun i => T.length - i, ?_⟩
    refine And.intro (Exists.intro 0 (And.intro (And.intro (And.intro ?_ rfl) (And.intro ?_ (Store.le_refl _))) (Nat.zero_le _))) ?_
    · repeat' first | exact trivial | exact rfl | refine And.intro ?_ ?_
    · show _ = rs3 (tbx fp fc p c first T) (((y1, y2, y3), (y4, y5, y6)), (((u1, u2, u3), (u4, u5, u6), ub), ((v1, v2, v3), vi))) (List.replicate T.length 0) (List.replicate T.length (none, 0, 0)) (List.replicate T.length false) (l ++ tk T 0)
      rw [e0]; rfl
    intro i (hi : i ≤ T.length)
    have htk8 := tk_len h8 i
    refine And.intro (fun h1 => ?_) (fun h1 => ?_)
    · have h1 : (i : Int) + 1 ≤ ((T.length : Nat) : Int) := of_decide_eq_true h1
      obtain ⟨⟨yp, yn, yc⟩, y, b, o, hy, hqy, hp, hok, hrd⟩ := hth.at (i := i) (by omega)
      have hyl : yn = y.length := hqy.len
      subst hyl
      have hy8 := h8 y (List.mem_of_getElem? hy)
      refine ⟨[], [], Nat, [40] ++ List.range' 46 16, fun j => [(13, rI j)], fun j => rs3 (tbx fp fc p c first T) (((y1, y2, y3), (y4, y5, y6)), (((u1, u2, u3), (u4, u5, u6), ub), ((v1, v2, v3), vi))) (List.replicate T.length 0) (List.replicate T.length (none, 0, 0)) (List.replicate T.length false) (l ++ tk T i ++ reps i j), fun _ => S1, fun j => j ≤ y.length, fun j => y.length - j, ?_⟩
      refine And.intro (Exists.intro 0 (And.intro (And.intro (And.intro ?_ rfl) (And.intro ?_ (Store.le_refl _))) (Nat.zero_le _))) ?_
      · repeat' first | exact trivial | exact rfl | refine And.intro ?_ ?_
      · show _ = rs3 (tbx fp fc p c first T) (((y1, y2, y3), (y4, y5, y6)), (((u1, u2, u3), (u4, u5, u6), ub), ((v1, v2, v3), vi))) (List.replicate T.length 0) (List.replicate T.length (none, 0, 0)) (List.replicate T.length false) (l ++ tk T i ++ reps i 0)
        rw [e1]; rfl
      intro j (hj : j ≤ y.length)
      have nl := nl i j
      refine ⟨(i : Int), by rw [wrap_i64 (by omega) (by omega)]; omega, Int.natCast_nonneg _, by show (i : Int) < ((T.length : Nat) : Int); omega, b, o, hp, ((yp, y.length, yc) : Hd), hok, hrd, ?_⟩
      refine And.intro (fun h2 => ?_) (fun h2 => ?_)
      · have h2 : (j : Int) < ((y.length : Nat) : Int) := of_decide_eq_true h2
        refine ⟨[((0, (i : Int) + 1, 0) : Li.Pk)], ⟨rfl, rfl⟩, fun _ _ => ⟨trivial, trivial, trivial⟩, by show ((l ++ tk T i ++ reps i j).length + 1) * 24 ≤ 140737488355328; omega, ?_⟩
        refine ⟨(((j + 1 : Nat)) : Int), wrap_i64 (by omega) (by omega), j + 1, ⟨⟨?_, rfl⟩, ?_, Store.le_refl _⟩, by show j + 1 ≤ _; omega, by show y.length - (j + 1) < y.length - j; omega⟩
        · repeat' first | exact trivial | exact rfl | refine And.intro ?_ ?_
        · show _ = rs3 (tbx fp fc p c first T) (((y1, y2, y3), (y4, y5, y6)), (((u1, u2, u3), (u4, u5, u6), ub), ((v1, v2, v3), vi))) (List.replicate T.length 0) (List.replicate T.length (none, 0, 0)) (List.replicate T.length false) (l ++ tk T i ++ reps i (j + 1))
          rw [← e2]; rfl
      · have h2 : ¬ (j : Int) < ((y.length : Nat) : Int) := of_decide_eq_false h2
        have hjy : j = y.length := by omega
        refine ⟨((i + 1 : Nat) : Int) + 1, by rw [wrap_i64 (by omega) (by omega)]; omega, i + 1, ⟨⟨?_, rfl⟩, ?_, Store.le_refl _⟩, by show i + 1 ≤ _; omega, by show T.length - (i + 1) < T.length - i; omega⟩
        · repeat' first | exact trivial | exact rfl | refine And.intro ?_ ?_
        · show _ = rs3 (tbx fp fc p c first T) (((y1, y2, y3), (y4, y5, y6)), (((u1, u2, u3), (u4, u5, u6), ub), ((v1, v2, v3), vi))) (List.replicate T.length 0) (List.replicate T.length (none, 0, 0)) (List.replicate T.length false) (l ++ tk T (i + 1))
          rw [← e3 i y hy, ← hjy]; rfl
    have h1 : ¬ (i : Int) + 1 ≤ ((T.length : Nat) : Int) := of_decide_eq_false h1
    have hil : i = T.length := by omega
    subst hil
    refine ⟨[], [(100000, shW, 35)], Nat × Li.Rn × List HL × Mcx × Store, List.range' 15 7 ++ List.range' 62 106, fun a => [(14, rI a.1)], fun a => rp3 (tbx fp fc p c first T) a.2.2.2.1 (iI a.2.1.s.did) (hdL a.2.2.1) (a.2.1.ends) L (pvs a.2.2.1), fun a => a.2.2.2.2, fun a => AtIs S1 a.2.2.2.2 first T L a.1 a.2.1 a.2.2.1 a.2.2.2.1, fun a => L.length - a.1, ?_⟩
    refine And.intro (Exists.intro (0, Li.beginR first T, List.replicate T.length ((none, 0, 0), []), (((y1, y2, y3), (y4, y5, y6)), (((u1, u2, u3), (u4, u5, u6), ub), ((v1, v2, v3), vi))), S1) (And.intro (And.intro (And.intro ?_ rfl) (And.intro ?_ (Store.le_refl _))) ⟨Nat.zero_le _, rfl, List.map_replicate .., ?_, Store.le_refl _, by rw [← hzz]; exact hzb⟩)) ?_
    · repeat' first | exact trivial | exact rfl | refine And.intro ?_ ?_
    · show _ = rp3 (tbx fp fc p c first T) (((y1, y2, y3), (y4, y5, y6)), (((u1, u2, u3), (u4, u5, u6), ub), ((v1, v2, v3), vi))) (iI (Li.beginR first T).s.did) (hdL (List.replicate T.length (((none, 0, 0) : Hd), ([] : List Li.Wd)))) ((Li.beginR first T).ends) L (pvs (List.replicate T.length ((none, 0, 0), [])))
      rw [hb0, hb1, pvs_rep, hL]; rfl
    · intro e he
      rw [(List.mem_replicate.1 he).2]
      exact ⟨rfl, fun _ => ⟨rfl, rfl⟩, Nat.le_refl _, fun w hw => by cases hw⟩
    rintro ⟨m, r, es, z, Sz⟩ (hat : AtIs S1 Sz first T L m r es z)
    obtain ⟨hm, hr, hes, hok, hSz, hz⟩ := id hat
    have hor : Li.okR first.length T r := by rw [hr]; exact Li.runR_ok hg.ok _ (Li.beginR_ok first T)
    have hel : es.length = T.length := by have := congrArg List.length hes; rw [List.length_map, hor.s.tl] at this; exact this
    have hene := hor.e
    refine And.intro (fun h1 => ?_) (fun h1 => ?_)
    · have h1 : (m : Int) < ((L.length : Nat) : Int) := of_decide_eq_true h1
      obtain ⟨⟨pa, pb, pc⟩, hpk⟩ : ∃ pk, L[m]? = some pk := ⟨_, List.getElem?_eq_getElem (by omega)⟩
      obtain ⟨hpo, hpc⟩ := hLo _ (List.mem_of_getElem? hpk)
      obtain ⟨t, ht, htc⟩ := wrap_pred (x := pb) hpo
      have mu : L.length - (m + 1) < L.length - m := by omega
      have wm : IntKind.i64.wrap ((m : Int) + 1) = ((m + 1 : Nat) : Int) := wrap_i64 (by omega) (by omega)
      refine ⟨Int.natCast_nonneg _, h1, ((pa, pb, pc) : Li.Pk), hpk, ?_⟩
      by_cases c2 : pa = 2
      · refine onE (beq_iff_eq.2 c2) ?_
        refine ⟨⟨_, rfl, rfl, rfl⟩, .inl ⟨_, _, _, mz_crash_spec Sz z T r m first.length hz hor (by omega) (by omega) g3 (by omega) (by omega) pc hpc, fun S2 zy hS2 hzy => ?_⟩⟩
        refine ⟨[], [], Nat, List.range' 79 8, fun i => [(16, rI i)], fun i => rp3 (tbx fp fc p c first T) zy (iI r.s.did) (hdL es) (stopped r.ends i) L (pvs es) ++ [.box [.v (.int .i64 pa), .v (.int .i64 pb), .v (.int .i64 pc)]], fun _ => S2, fun i => i ≤ T.length, fun i => T.length - i, ?_⟩
        refine And.intro (Exists.intro 0 (And.intro (And.intro (And.intro ?_ rfl) (And.intro ?_ (Store.le_refl _))) (Nat.zero_le _))) ?_
        · repeat' first | exact trivial | exact rfl | refine And.intro ?_ ?_
        · have : stopped r.ends 0 = r.ends := by unfold stopped; simp
          show _ = rp3 (tbx fp fc p c first T) zy (iI r.s.did) (hdL es) (stopped r.ends 0) L (pvs es) ++ _
          rw [this]; rfl
        intro i (hi : i ≤ T.length)
        have hsl := stopped_len r.ends i
        refine And.intro (fun h3 => ?_) (fun h3 => ?_)
        · have h3 : (i : Int) < ((T.length : Nat) : Int) := of_decide_eq_true h3
          obtain ⟨eb, heb⟩ : ∃ eb, (stopped r.ends i)[i]? = some eb := ⟨_, List.getElem?_eq_getElem (by omega)⟩
          refine ⟨Int.natCast_nonneg _, by show (i : Int) < (((stopped r.ends i).length : Nat) : Int); omega, eb, true, heb, trivial, rfl, Nat.le_refl 1, ?_⟩
          refine ⟨(((i + 1 : Nat)) : Int), wrap_i64 (by omega) (by omega), i + 1, ⟨⟨?_, rfl⟩, ?_, Store.le_refl _⟩, by show i + 1 ≤ _; omega, by show T.length - (i + 1) < T.length - i; omega⟩
          · repeat' first | exact trivial | exact rfl | refine And.intro ?_ ?_
          · show rp3 (tbx fp fc p c first T) zy (iI r.s.did) (hdL es) ((stopped r.ends i).set i true) L (pvs es) ++ _ = _
            rw [stopped_set (by omega)]; rfl
        have h3 : ¬ (i : Int) < ((T.length : Nat) : Int) := of_decide_eq_false h3
        have hiT : i = r.ends.length := by omega
        refine ⟨_, wm, (m + 1, Li.crashR T r pc, es, zy, S2), ⟨⟨?_, rfl⟩, ?_, Store.le_refl _⟩, hat.next hpk (by rw [c2]; exact pick_crash) hes hok hS2 hzy, mu⟩
        · repeat' first | exact trivial | exact rfl | refine And.intro ?_ ?_
        · show rp3 (tbx fp fc p c first T) zy (iI r.s.did) (hdL es) (stopped r.ends i) L (pvs es) = _
          rw [hiT, stopped_all]; rfl
      refine offE (beq_eq_false_iff_ne.2 c2) ?_
      refine ⟨t, ht, ?_⟩
      by_cases k1 : t < 0
      · refine onE (decide_eq_true k1) ?_
        repeat refine onT ?_
        refine ⟨_, wm, (m + 1, r, es, z, Sz), ⟨⟨?_, rfl⟩, rfl, Store.le_refl _⟩, hat.skip hpk (pick_dead c2 (fun q => by omega)), mu⟩
        repeat' first | exact trivial | exact rfl | refine And.intro ?_ ?_
      refine offE (decide_eq_false k1) ?_
      by_cases k2 : t ≥ ((T.length : Nat) : Int)
      · refine onE (decide_eq_true k2) ?_
        repeat refine onT ?_
        refine ⟨_, wm, (m + 1, r, es, z, Sz), ⟨⟨?_, rfl⟩, rfl, Store.le_refl _⟩, hat.skip hpk (pick_dead c2 (fun q => .inl (by omega))), mu⟩
        repeat' first | exact trivial | exact rfl | refine And.intro ?_ ?_
      refine offE (decide_eq_false k2) ?_
      obtain ⟨k, rfl⟩ : ∃ k : Nat, t = (k : Int) := ⟨t.toNat, by omega⟩
      obtain rfl : pb = (k : Int) + 1 := by omega
      have hkT : k < T.length := by omega
      have kz : (0 : Int) ≤ (k : Int) := Int.natCast_nonneg _
      have kT : (k : Int) < ((T.length : Nat) : Int) := by omega
      have hke : (k : Int) < ((r.ends.length : Nat) : Int) := by omega
      obtain ⟨eb, heb⟩ : ∃ eb, r.ends[k]? = some eb := ⟨_, List.getElem?_eq_getElem (by omega)⟩
      refine ⟨kz, hke, eb, heb, ?_⟩
      cases eb with
      | true =>
        refine onT ?_
        refine ⟨_, wm, (m + 1, r, es, z, Sz), ⟨⟨?_, rfl⟩, rfl, Store.le_refl _⟩, hat.skip hpk (pick_dead c2 (fun q => .inr (by rw [show (k : Int) + 1 - 1 = (k : Int) by omega, Int.toNat_natCast]; exact heb))), mu⟩
        repeat' first | exact trivial | exact rfl | refine And.intro ?_ ?_
      | false =>
      refine onF ?_
      by_cases c1 : pa = 1
      · refine onE (beq_iff_eq.2 c1) ⟨kz, hke, false, true, heb, trivial, rfl, Nat.le_refl 1, ?_⟩
        refine ⟨or22_26, [], oF22_26, by kernel_rfl, ?_⟩
        refine onE (bne_iff_ne.2 (show pa ≠ 0 by omega)) ?_
        repeat refine onT ?_
        refine ⟨_, wm, (m + 1, Li.stopR r k, es, z, Sz), ⟨⟨?_, rfl⟩, rfl, Store.le_refl _⟩, hat.next hpk (by rw [c1]; exact pick_stop) hes hok (Store.le_refl _) ((hz.same (r' := Li.stopR r k) rfl rfl).up (Nat.le_succ _)), mu⟩
        repeat' first | exact trivial | exact rfl | refine And.intro ?_ ?_
      refine offE (beq_eq_false_iff_ne.2 c1) ?_
      refine ⟨or22_26, [], oF22_26, by kernel_rfl, ?_⟩
      by_cases c0 : ¬ pa = 0
      · refine onE (bne_iff_ne.2 c0) ?_
        repeat refine onT ?_
        refine ⟨_, wm, (m + 1, r, es, z, Sz), ⟨⟨?_, rfl⟩, rfl, Store.le_refl _⟩, hat.skip hpk (pick_other c0 c1 c2), mu⟩
        repeat' first | exact trivial | exact rfl | refine And.intro ?_ ?_
      obtain rfl : pa = 0 := Decidable.not_not.1 c0
      refine offE (bne_eq_false_iff_eq.2 rfl) ?_
      obtain ⟨yp, yc, y, b, o, d, hp, hyok, hrd, hyr, hyo, hyT, hy6, hd, hdm, hdl, hd8⟩ := at_facts (hth.le hSz) hg hor hkT
      refine ⟨kz, hdl, (d : Int), hdm, kz, kT, b, o, hp, ((yp, y.length, yc) : Hd), hyok, fun S' hle _ => Store.rd_le hle hrd, ?_⟩
      by_cases k3 : (d : Int) ≥ ((y.length : Nat) : Int)
      · refine onE (decide_eq_true k3) ?_
        refine ⟨_, wm, (m + 1, r, es, z, Sz), ⟨⟨?_, rfl⟩, rfl, Store.le_refl _⟩, hat.skip hpk (pick_step.trans (stepR_none (act_over hyT hd (by omega)))), mu⟩
        repeat' first | exact trivial | exact rfl | refine And.intro ?_ ?_
      refine offE (decide_eq_false k3) ?_
      obtain ⟨a, b3, o3, e3, ok3, hr3, hact, haok⟩ := act_facts hyr hyo hyT hd (by omega) heb
      obtain ⟨st1, st2, st3⟩ := stepR_all (c := pc) hact
      have hdo := mz_do_spec Sz z T r m first.length hz hor hg.ok (by omega) (by omega) (by omega) k a hact haok.2.2.2 pc hpc
      obtain ⟨w00, hw00⟩ : ∃ w, w = (Li.doM r.s.m k a pc).2 := ⟨_, rfl⟩
      rw [← hw00] at hdo st2
      obtain ⟨ao, al, ⟨a1, a2, a3⟩, a4, a5, a6⟩ := a
      refine ⟨or22_27, [8], oF22_27, by kernel_rfl, ?_⟩
      refine ⟨kz, kT, b, o, hp, ((yp, y.length, yc) : Hd), hyok, fun S' hle _ => Store.rd_le hle hrd, kz, hdl, (d : Int), hdm, Int.natCast_nonneg _, by show (d : Int) < ((y.length : Nat) : Int); omega, b3, o3, e3, ((ao, al, (a1, a2, a3), a4, a5, a6) : Ax), ok3, fun S' hle _ => Store.rd_le hle hr3, ?_⟩
      refine ⟨⟨_, rfl, rfl, rfl⟩, .inl ⟨_, _, _, hdo, fun S2 zy hS2 hzy => ?_⟩⟩
      obtain ⟨zy, ⟨w1, w2, w3⟩, zb⟩ := zy
      obtain ⟨(hm1 : MzIs S2 zy T (Li.stepR T r k pc) (m + 1)), (hm2 : ((w1, w2, w3) : Li.Wd) = w00), (hm3 : okW (w1, w2, w3))⟩ := hzy
      refine ⟨kz, hdl, (d : Int), hdm, ((d + 1 : Nat) : Int), wrap_i64 (by omega) (by omega), kz, hdl, (d : Int), ((d + 1 : Nat) : Int), hdm, trivial, rfl, Nat.le_refl 1, ?_⟩
      obtain ⟨A, e, B, rfl, rfl, heo1, hew, hget, hel2, hps⟩ := es_facts (k := k) hes hok (show k < es.length by omega) hz.tl
      refine ⟨⟨_, rfl, rfl, rfl⟩, .inl ⟨_, _, _, tell_spec S2 ao, fun S3 _ hS3 _ => ?_⟩⟩
      refine And.intro (fun (hte : Li.tells ⟨ao, al, (a1, a2, a3), a4, a5, a6⟩ = true) => ?_) (fun (hte : Li.tells ⟨ao, al, (a1, a2, a3), a4, a5, a6⟩ = false) => ?_)
      · rw [if_pos hte] at st2
        refine ⟨or22_32, [2, 6], oF22_32, by kernel_rfl, ?_⟩
        refine ⟨kz, hel2, e.1, hget, .inr (.inl ⟨6, ⟨rfl, rfl, rfl⟩, pvs A, pvs B, e.1.1, e.1.2.1, e.1.2.2, e.2, [((w1, w2, w3) : Li.Wd)], rfl, Nat.le_of_eq heo1, hps, ⟨rfl, rfl⟩, fun _ _ => ⟨trivial, trivial, trivial⟩, by show (e.1.2.1 + 1) * 16 ≤ 140737488355328; omega, fun p' c' hf => ⟨kz, hel2, e.1, ((p', e.1.2.1 + 1, c') : Hd), hget, trivial, rfl, Nat.le_refl 1, ?_⟩⟩)⟩
        refine ⟨_, wm, (m + 1, Li.stepR T r A.length pc, A ++ (((p', e.1.2.1 + 1, c') : Hd), e.2 ++ [((w1, w2, w3) : Li.Wd)]) :: B, zy, S3), ⟨⟨?_, rfl⟩, ?_, Store.le_refl _⟩, hat.next hpk pick_step (by rw [st2, upd_2, hes, ← hm2]) (upd_ok hok hf hm3) (Store.le_trans hS2 hS3) (hm1.le hS3), mu⟩
        · repeat' first | exact trivial | exact rfl | refine And.intro ?_ ?_
        · show rp3 (tbx fp fc p c first T) zy ((iI r.s.did).set A.length ((d + 1 : Nat) : Int)) ((hdL (A ++ e :: B)).set A.length (p', e.1.2.1 + 1, c')) (r.ends) L (pvs A ++ (Value.slice p' (e.1.2.1 + 1) c', e.2.take e.1.2.1 ++ [((w1, w2, w3) : Li.Wd)]) :: pvs B) = rp3 (tbx fp fc p c first T) zy (iI (Li.stepR T r A.length pc).s.did) (hdL (A ++ (((p', e.1.2.1 + 1, c') : Hd), e.2 ++ [((w1, w2, w3) : Li.Wd)]) :: B)) ((Li.stepR T r A.length pc).ends) L (pvs (A ++ (((p', e.1.2.1 + 1, c') : Hd), e.2 ++ [((w1, w2, w3) : Li.Wd)]) :: B))
          rw [st1, st3, ← hd, map_set_nat, ← told_eq heo1 hf, upd_1 A B e _ (e.2 ++ [((w1, w2, w3) : Li.Wd)])]
      · rw [if_neg (by rw [hte]; decide)] at st2
        refine ⟨_, wm, (m + 1, Li.stepR T r A.length pc, A ++ e :: B, zy, S3), ⟨⟨?_, rfl⟩, ?_, Store.le_refl _⟩, hat.next hpk pick_step (by rw [st2]; exact hes) hok (Store.le_trans hS2 hS3) (hm1.le hS3), mu⟩
        · repeat' first | exact trivial | exact rfl | refine And.intro ?_ ?_
        · show rp3 (tbx fp fc p c first T) zy ((iI r.s.did).set A.length ((d + 1 : Nat) : Int)) (hdL (A ++ e :: B)) (r.ends) L (pvs (A ++ e :: B)) = rp3 (tbx fp fc p c first T) zy (iI (Li.stepR T r A.length pc).s.did) (hdL (A ++ e :: B)) ((Li.stepR T r A.length pc).ends) L (pvs (A ++ e :: B))
          rw [st1, st3, ← hd, map_set_nat]
    · have h1 : ¬ (m : Int) < ((L.length : Nat) : Int) := of_decide_eq_false h1
      have hml : m = L.length := by omega
      rw [hml, List.take_length] at hr
      refine ⟨⟨_, rfl, rfl, rfl⟩, .inl ⟨_, _, _, mz_words_spec Sz z T r m first.length hz hor (by omega) (by omega) (by omega), fun S2 wq hS2 hwq => ?_⟩⟩
      obtain ⟨wp, wn, wc⟩ := wq
      obtain ⟨(rfl : wn = (Li.lasts r.s.m).length), j2, (j3 : RowRd S2 wp shW (Li.lasts r.s.m)), j4⟩ := ws_row hwq
      refine ⟨⟨_, rfl, rfl, rfl⟩, .inr (.inr (.inl fun p5 c5 S5 hS5 hr5 hpf5 S7 hS7 hpool => ?_))⟩
      have htx := rtexto_spec S7 (p5, es.length, c5) (wp, (Li.lasts r.s.m).length, wc) r.s.told (Li.lasts r.s.m) (by rw [← hes]; exact td_of hok (hr5.le hS7) hpool) ⟨rfl, (j3.le hS5).le hS7, j4⟩ (by rw [hor.s.tl]; omega) (fun y hy => by have := (hz.tl y hy).1; omega) (by unfold Li.lasts; rw [List.length_map, hor.s.m.len]; omega)
      rw [← (List.length_map .. : (hdL es).length = es.length)] at htx
      refine ⟨_, _, _, htx, fun S8 _ hS8 _ S9 hS9 _ => ⟨rfl, (), ?_, trivial⟩⟩
      show rS _ = rS _
      rw [hr, hL]; rfl
  · refine ⟨l, src_of rfl hqr, fun _ _ => ⟨trivial, trivial, trivial⟩, by show (0 + l.length) * 24 ≤ 140737488355328; omega, ?_⟩
    refine ⟨[], [], Nat, [13] ++ List.range' 40 22, fun i => [(12, rI (i + 1))], fun i => rs4 (tbx fp fc p c first T) (((y1, y2, y3), (y4, y5, y6)), (((u1, u2, u3), (u4, u5, u6), ub), ((v1, v2, v3), vi))) (List.replicate T.length 0) (List.replicate T.length (none, 0, 0)) (List.replicate T.length false) (l ++ tk T i), fun _ => S1, fun i => i ≤ T.length, fun i => T.length - i, ?_⟩
    refine And.intro (Exists.intro 0 (And.intro (And.intro (And.intro ?_ rfl) (And.intro ?_ (Store.le_refl _))) (Nat.zero_le _))) ?_
    · repeat' first | exact trivial | exact rfl | refine And.intro ?_ ?_
    · show _ = rs4 (tbx fp fc p c first T) (((y1, y2, y3), (y4, y5, y6)), (((u1, u2, u3), (u4, u5, u6), ub), ((v1, v2, v3), vi))) (List.replicate T.length 0) (List.replicate T.length (none, 0, 0)) (List.replicate T.length false) (l ++ tk T 0)
      rw [e0]; rfl
    intro i (hi : i ≤ T.length)
    have htk8 := tk_len h8 i
    refine And.intro (fun h1 => ?_) (fun h1 => ?_)
    · have h1 : (i : Int) + 1 ≤ ((T.length : Nat) : Int) := of_decide_eq_true h1
      obtain ⟨⟨yp, yn, yc⟩, y, b, o, hy, hqy, hp, hok, hrd⟩ := hth.at (i := i) (by omega)
      have hyl : yn = y.length := hqy.len
      subst hyl
      have hy8 := h8 y (List.mem_of_getElem? hy)
      refine ⟨[], [], Nat, [40] ++ List.range' 46 16, fun j => [(13, rI j)], fun j => rs4 (tbx fp fc p c first T) (((y1, y2, y3), (y4, y5, y6)), (((u1, u2, u3), (u4, u5, u6), ub), ((v1, v2, v3), vi))) (List.replicate T.length 0) (List.replicate T.length (none, 0, 0)) (List.replicate T.length false) (l ++ tk T i ++ reps i j), fun _ => S1, fun j => j ≤ y.length, fun j => y.length - j, ?_⟩
      refine And.intro (Exists.intro 0 (And.intro (And.intro (And.intro ?_ rfl) (And.intro ?_ (Store.le_refl _))) (Nat.zero_le _))) ?_
      · repeat' first | exact trivial | exact rfl | refine And.intro ?_ ?_
      · show _ = rs4 (tbx fp fc p c first T) (((y1, y2, y3), (y4, y5, y6)), (((u1, u2, u3), (u4, u5, u6), ub), ((v1, v2, v3), vi))) (List.replicate T.length 0) (List.replicate T.length (none, 0, 0)) (List.replicate T.length false) (l ++ tk T i ++ reps i 0)
        rw [e1]; rfl
      intro j (hj : j ≤ y.length)
      have nl := nl i j
      refine ⟨(i : Int), by rw [wrap_i64 (by omega) (by omega)]; omega, Int.natCast_nonneg _, by show (i : Int) < ((T.length : Nat) : Int); omega, b, o, hp, ((yp, y.length, yc) : Hd), hok, hrd, ?_⟩
      refine And.intro (fun h2 => ?_) (fun h2 => ?_)
      · have h2 : (j : Int) < ((y.length : Nat) : Int) := of_decide_eq_true h2
        refine ⟨[((0, (i : Int) + 1, 0) : Li.Pk)], ⟨rfl, rfl⟩, fun _ _ => ⟨trivial, trivial, trivial⟩, by show ((l ++ tk T i ++ reps i j).length + 1) * 24 ≤ 140737488355328; omega, ?_⟩
        refine ⟨(((j + 1 : Nat)) : Int), wrap_i64 (by omega) (by omega), j + 1, ⟨⟨?_, rfl⟩, ?_, Store.le_refl _⟩, by show j + 1 ≤ _; omega, by show y.length - (j + 1) < y.length - j; omega⟩
        · repeat' first | exact trivial | exact rfl | refine And.intro ?_ ?_
        · show _ = rs4 (tbx fp fc p c first T) (((y1, y2, y3), (y4, y5, y6)), (((u1, u2, u3), (u4, u5, u6), ub), ((v1, v2, v3), vi))) (List.replicate T.length 0) (List.replicate T.length (none, 0, 0)) (List.replicate T.length false) (l ++ tk T i ++ reps i (j + 1))
          rw [← e2]; rfl
      · have h2 : ¬ (j : Int) < ((y.length : Nat) : Int) := of_decide_eq_false h2
        have hjy : j = y.length := by omega
        refine ⟨((i + 1 : Nat) : Int) + 1, by rw [wrap_i64 (by omega) (by omega)]; omega, i + 1, ⟨⟨?_, rfl⟩, ?_, Store.le_refl _⟩, by show i + 1 ≤ _; omega, by show T.length - (i + 1) < T.length - i; omega⟩
        · repeat' first | exact trivial | exact rfl | refine And.intro ?_ ?_
        · show _ = rs4 (tbx fp fc p c first T) (((y1, y2, y3), (y4, y5, y6)), (((u1, u2, u3), (u4, u5, u6), ub), ((v1, v2, v3), vi))) (List.replicate T.length 0) (List.replicate T.length (none, 0, 0)) (List.replicate T.length false) (l ++ tk T (i + 1))
          rw [← e3 i y hy, ← hjy]; rfl
    have h1 : ¬ (i : Int) + 1 ≤ ((T.length : Nat) : Int) := of_decide_eq_false h1
    have hil : i = T.length := by omega
    subst hil
    refine ⟨[], [(100000, shW, 35)], Nat × Li.Rn × List HL × Mcx × Store, List.range' 15 7 ++ List.range' 62 106, fun a => [(14, rI a.1)], fun a => rp4 (tbx fp fc p c first T) a.2.2.2.1 (iI a.2.1.s.did) (hdL a.2.2.1) (a.2.1.ends) L (pvs a.2.2.1), fun a => a.2.2.2.2, fun a => AtIs S1 a.2.2.2.2 first T L a.1 a.2.1 a.2.2.1 a.2.2.2.1, fun a => L.length - a.1, ?_⟩
    refine And.intro (Exists.intro (0, Li.beginR first T, List.replicate T.length ((none, 0, 0), []), (((y1, y2, y3), (y4, y5, y6)), (((u1, u2, u3), (u4, u5, u6), ub), ((v1, v2, v3), vi))), S1) (And.intro (And.intro (And.intro ?_ rfl) (And.intro ?_ (Store.le_refl _))) ⟨Nat.zero_le _, rfl, List.map_replicate .., ?_, Store.le_refl _, by rw [← hzz]; exact hzb⟩)) ?_
    · repeat' first | exact trivial | exact rfl | refine And.intro ?_ ?_
    · show _ = rp4 (tbx fp fc p c first T) (((y1, y2, y3), (y4, y5, y6)), (((u1, u2, u3), (u4, u5, u6), ub), ((v1, v2, v3), vi))) (iI (Li.beginR first T).s.did) (hdL (List.replicate T.length (((none, 0, 0) : Hd), ([] : List Li.Wd)))) ((Li.beginR first T).ends) L (pvs (List.replicate T.length ((none, 0, 0), [])))
      rw [hb0, hb1, pvs_rep, hL]; rfl
    · intro e he
      rw [(List.mem_replicate.1 he).2]
      exact ⟨rfl, fun _ => ⟨rfl, rfl⟩, Nat.le_refl _, fun w hw => by cases hw⟩
    rintro ⟨m, r, es, z, Sz⟩ (hat : AtIs S1 Sz first T L m r es z)
    obtain ⟨hm, hr, hes, hok, hSz, hz⟩ := id hat
    have hor : Li.okR first.length T r := by rw [hr]; exact Li.runR_ok hg.ok _ (Li.beginR_ok first T)
    have hel : es.length = T.length := by have := congrArg List.length hes; rw [List.length_map, hor.s.tl] at this; exact this
    have hene := hor.e
    refine And.intro (fun h1 => ?_) (fun h1 => ?_)
    · have h1 : (m : Int) < ((L.length : Nat) : Int) := of_decide_eq_true h1
      obtain ⟨⟨pa, pb, pc⟩, hpk⟩ : ∃ pk, L[m]? = some pk := ⟨_, List.getElem?_eq_getElem (by omega)⟩
      obtain ⟨hpo, hpc⟩ := hLo _ (List.mem_of_getElem? hpk)
      obtain ⟨t, ht, htc⟩ := wrap_pred (x := pb) hpo
      have mu : L.length - (m + 1) < L.length - m := by omega
      have wm : IntKind.i64.wrap ((m : Int) + 1) = ((m + 1 : Nat) : Int) := wrap_i64 (by omega) (by omega)
      refine ⟨Int.natCast_nonneg _, h1, ((pa, pb, pc) : Li.Pk), hpk, ?_⟩
      by_cases c2 : pa = 2
      · refine onE (beq_iff_eq.2 c2) ?_
        refine ⟨⟨_, rfl, rfl, rfl⟩, .inl ⟨_, _, _, mz_crash_spec Sz z T r m first.length hz hor (by omega) (by omega) g3 (by omega) (by omega) pc hpc, fun S2 zy hS2 hzy => ?_⟩⟩
        refine ⟨[], [], Nat, List.range' 79 8, fun i => [(16, rI i)], fun i => rp4 (tbx fp fc p c first T) zy (iI r.s.did) (hdL es) (stopped r.ends i) L (pvs es) ++ [.box [.v (.int .i64 pa), .v (.int .i64 pb), .v (.int .i64 pc)]], fun _ => S2, fun i => i ≤ T.length, fun i => T.length - i, ?_⟩
        refine And.intro (Exists.intro 0 (And.intro (And.intro (And.intro ?_ rfl) (And.intro ?_ (Store.le_refl _))) (Nat.zero_le _))) ?_
        · repeat' first | exact trivial | exact rfl | refine And.intro ?_ ?_
        · have : stopped r.ends 0 = r.ends := by unfold stopped; simp
          show _ = rp4 (tbx fp fc p c first T) zy (iI r.s.did) (hdL es) (stopped r.ends 0) L (pvs es) ++ _
          rw [this]; rfl
        intro i (hi : i ≤ T.length)
        have hsl := stopped_len r.ends i
        refine And.intro (fun h3 => ?_) (fun h3 => ?_)
        · have h3 : (i : Int) < ((T.length : Nat) : Int) := of_decide_eq_true h3
          obtain ⟨eb, heb⟩ : ∃ eb, (stopped r.ends i)[i]? = some eb := ⟨_, List.getElem?_eq_getElem (by omega)⟩
          refine ⟨Int.natCast_nonneg _, by show (i : Int) < (((stopped r.ends i).length : Nat) : Int); omega, eb, true, heb, trivial, rfl, Nat.le_refl 1, ?_⟩
          refine ⟨(((i + 1 : Nat)) : Int), wrap_i64 (by omega) (by omega), i + 1, ⟨⟨?_, rfl⟩, ?_, Store.le_refl _⟩, by show i + 1 ≤ _; omega, by show T.length - (i + 1) < T.length - i; omega⟩
          · repeat' first | exact trivial | exact rfl | refine And.intro ?_ ?_
          · show rp4 (tbx fp fc p c first T) zy (iI r.s.did) (hdL es) ((stopped r.ends i).set i true) L (pvs es) ++ _ = _
            rw [stopped_set (by omega)]; rfl
        have h3 : ¬ (i : Int) < ((T.length : Nat) : Int) := of_decide_eq_false h3
        have hiT : i = r.ends.length := by omega
        refine ⟨_, wm, (m + 1, Li.crashR T r pc, es, zy, S2), ⟨⟨?_, rfl⟩, ?_, Store.le_refl _⟩, hat.next hpk (by rw [c2]; exact pick_crash) hes hok hS2 hzy, mu⟩
        · repeat' first | exact trivial | exact rfl | refine And.intro ?_ ?_
        · show rp4 (tbx fp fc p c first T) zy (iI r.s.did) (hdL es) (stopped r.ends i) L (pvs es) = _
          rw [hiT, stopped_all]; rfl
      refine offE (beq_eq_false_iff_ne.2 c2) ?_
      refine ⟨t, ht, ?_⟩
      by_cases k1 : t < 0
      · refine onE (decide_eq_true k1) ?_
        repeat refine onT ?_
        refine ⟨_, wm, (m + 1, r, es, z, Sz), ⟨⟨?_, rfl⟩, rfl, Store.le_refl _⟩, hat.skip hpk (pick_dead c2 (fun q => by omega)), mu⟩
        repeat' first | exact trivial | exact rfl | refine And.intro ?_ ?_
      refine offE (decide_eq_false k1) ?_
      by_cases k2 : t ≥ ((T.length : Nat) : Int)
      · refine onE (decide_eq_true k2) ?_
        repeat refine onT ?_
        refine ⟨_, wm, (m + 1, r, es, z, Sz), ⟨⟨?_, rfl⟩, rfl, Store.le_refl _⟩, hat.skip hpk (pick_dead c2 (fun q => .inl (by omega))), mu⟩
        repeat' first | exact trivial | exact rfl | refine And.intro ?_ ?_
      refine offE (decide_eq_false k2) ?_
      obtain ⟨k, rfl⟩ : ∃ k : Nat, t = (k : Int) := ⟨t.toNat, by omega⟩
      obtain rfl : pb = (k : Int) + 1 := by omega
      have hkT : k < T.length := by omega
      have kz : (0 : Int) ≤ (k : Int) := Int.natCast_nonneg _
      have kT : (k : Int) < ((T.length : Nat) : Int) := by omega
      have hke : (k : Int) < ((r.ends.length : Nat) : Int) := by omega
      obtain ⟨eb, heb⟩ : ∃ eb, r.ends[k]? = some eb := ⟨_, List.getElem?_eq_getElem (by omega)⟩
      refine ⟨kz, hke, eb, heb, ?_⟩
      cases eb with
      | true =>
        refine onT ?_
        refine ⟨_, wm, (m + 1, r, es, z, Sz), ⟨⟨?_, rfl⟩, rfl, Store.le_refl _⟩, hat.skip hpk (pick_dead c2 (fun q => .inr (by rw [show (k : Int) + 1 - 1 = (k : Int) by omega, Int.toNat_natCast]; exact heb))), mu⟩
        repeat' first | exact trivial | exact rfl | refine And.intro ?_ ?_
      | false =>
      refine onF ?_
      by_cases c1 : pa = 1
      · refine onE (beq_iff_eq.2 c1) ⟨kz, hke, false, true, heb, trivial, rfl, Nat.le_refl 1, ?_⟩
        refine ⟨or22_26, [], oF22_26, by kernel_rfl, ?_⟩
        refine onE (bne_iff_ne.2 (show pa ≠ 0 by omega)) ?_
        repeat refine onT ?_
        refine ⟨_, wm, (m + 1, Li.stopR r k, es, z, Sz), ⟨⟨?_, rfl⟩, rfl, Store.le_refl _⟩, hat.next hpk (by rw [c1]; exact pick_stop) hes hok (Store.le_refl _) ((hz.same (r' := Li.stopR r k) rfl rfl).up (Nat.le_succ _)), mu⟩
        repeat' first | exact trivial | exact rfl | refine And.intro ?_ ?_
      refine offE (beq_eq_false_iff_ne.2 c1) ?_
      refine ⟨or22_26, [], oF22_26, by kernel_rfl, ?_⟩
      by_cases c0 : ¬ pa = 0
      · refine onE (bne_iff_ne.2 c0) ?_
        repeat refine onT ?_
        refine ⟨_, wm, (m + 1, r, es, z, Sz), ⟨⟨?_, rfl⟩, rfl, Store.le_refl _⟩, hat.skip hpk (pick_other c0 c1 c2), mu⟩
        repeat' first | exact trivial | exact rfl | refine And.intro ?_ ?_
      obtain rfl : pa = 0 := Decidable.not_not.1 c0
      refine offE (bne_eq_false_iff_eq.2 rfl) ?_
      obtain ⟨yp, yc, y, b, o, d, hp, hyok, hrd, hyr, hyo, hyT, hy6, hd, hdm, hdl, hd8⟩ := at_facts (hth.le hSz) hg hor hkT
      refine ⟨kz, hdl, (d : Int), hdm, kz, kT, b, o, hp, ((yp, y.length, yc) : Hd), hyok, fun S' hle _ => Store.rd_le hle hrd, ?_⟩
      by_cases k3 : (d : Int) ≥ ((y.length : Nat) : Int)
      · refine onE (decide_eq_true k3) ?_
        refine ⟨_, wm, (m + 1, r, es, z, Sz), ⟨⟨?_, rfl⟩, rfl, Store.le_refl _⟩, hat.skip hpk (pick_step.trans (stepR_none (act_over hyT hd (by omega)))), mu⟩
        repeat' first | exact trivial | exact rfl | refine And.intro ?_ ?_
      refine offE (decide_eq_false k3) ?_
      obtain ⟨a, b3, o3, e3, ok3, hr3, hact, haok⟩ := act_facts hyr hyo hyT hd (by omega) heb
      obtain ⟨st1, st2, st3⟩ := stepR_all (c := pc) hact
      have hdo := mz_do_spec Sz z T r m first.length hz hor hg.ok (by omega) (by omega) (by omega) k a hact haok.2.2.2 pc hpc
      obtain ⟨w00, hw00⟩ : ∃ w, w = (Li.doM r.s.m k a pc).2 := ⟨_, rfl⟩
      rw [← hw00] at hdo st2
      obtain ⟨ao, al, ⟨a1, a2, a3⟩, a4, a5, a6⟩ := a
      refine ⟨or22_27, [8], oF22_27, by kernel_rfl, ?_⟩
      refine ⟨kz, kT, b, o, hp, ((yp, y.length, yc) : Hd), hyok, fun S' hle _ => Store.rd_le hle hrd, kz, hdl, (d : Int), hdm, Int.natCast_nonneg _, by show (d : Int) < ((y.length : Nat) : Int); omega, b3, o3, e3, ((ao, al, (a1, a2, a3), a4, a5, a6) : Ax), ok3, fun S' hle _ => Store.rd_le hle hr3, ?_⟩
      refine ⟨⟨_, rfl, rfl, rfl⟩, .inl ⟨_, _, _, hdo, fun S2 zy hS2 hzy => ?_⟩⟩
      obtain ⟨zy, ⟨w1, w2, w3⟩, zb⟩ := zy
      obtain ⟨(hm1 : MzIs S2 zy T (Li.stepR T r k pc) (m + 1)), (hm2 : ((w1, w2, w3) : Li.Wd) = w00), (hm3 : okW (w1, w2, w3))⟩ := hzy
      refine ⟨kz, hdl, (d : Int), hdm, ((d + 1 : Nat) : Int), wrap_i64 (by omega) (by omega), kz, hdl, (d : Int), ((d + 1 : Nat) : Int), hdm, trivial, rfl, Nat.le_refl 1, ?_⟩
      obtain ⟨A, e, B, rfl, rfl, heo1, hew, hget, hel2, hps⟩ := es_facts (k := k) hes hok (show k < es.length by omega) hz.tl
      refine ⟨⟨_, rfl, rfl, rfl⟩, .inl ⟨_, _, _, tell_spec S2 ao, fun S3 _ hS3 _ => ?_⟩⟩
      refine And.intro (fun (hte : Li.tells ⟨ao, al, (a1, a2, a3), a4, a5, a6⟩ = true) => ?_) (fun (hte : Li.tells ⟨ao, al, (a1, a2, a3), a4, a5, a6⟩ = false) => ?_)
      · rw [if_pos hte] at st2
        refine ⟨or22_32, [4, 6], oF22_32, by kernel_rfl, ?_⟩
        refine ⟨kz, hel2, e.1, hget, .inr (.inl ⟨6, ⟨rfl, rfl, rfl⟩, pvs A, pvs B, e.1.1, e.1.2.1, e.1.2.2, e.2, [((w1, w2, w3) : Li.Wd)], rfl, Nat.le_of_eq heo1, hps, ⟨rfl, rfl⟩, fun _ _ => ⟨trivial, trivial, trivial⟩, by show (e.1.2.1 + 1) * 16 ≤ 140737488355328; omega, fun p' c' hf => ⟨kz, hel2, e.1, ((p', e.1.2.1 + 1, c') : Hd), hget, trivial, rfl, Nat.le_refl 1, ?_⟩⟩)⟩
        refine ⟨_, wm, (m + 1, Li.stepR T r A.length pc, A ++ (((p', e.1.2.1 + 1, c') : Hd), e.2 ++ [((w1, w2, w3) : Li.Wd)]) :: B, zy, S3), ⟨⟨?_, rfl⟩, ?_, Store.le_refl _⟩, hat.next hpk pick_step (by rw [st2, upd_2, hes, ← hm2]) (upd_ok hok hf hm3) (Store.le_trans hS2 hS3) (hm1.le hS3), mu⟩
        · repeat' first | exact trivial | exact rfl | refine And.intro ?_ ?_
        · show rp4 (tbx fp fc p c first T) zy ((iI r.s.did).set A.length ((d + 1 : Nat) : Int)) ((hdL (A ++ e :: B)).set A.length (p', e.1.2.1 + 1, c')) (r.ends) L (pvs A ++ (Value.slice p' (e.1.2.1 + 1) c', e.2.take e.1.2.1 ++ [((w1, w2, w3) : Li.Wd)]) :: pvs B) = rp4 (tbx fp fc p c first T) zy (iI (Li.stepR T r A.length pc).s.did) (hdL (A ++ (((p', e.1.2.1 + 1, c') : Hd), e.2 ++ [((w1, w2, w3) : Li.Wd)]) :: B)) ((Li.stepR T r A.length pc).ends) L (pvs (A ++ (((p', e.1.2.1 + 1, c') : Hd), e.2 ++ [((w1, w2, w3) : Li.Wd)]) :: B))
          rw [st1, st3, ← hd, map_set_nat, ← told_eq heo1 hf, upd_1 A B e _ (e.2 ++ [((w1, w2, w3) : Li.Wd)])]
      · rw [if_neg (by rw [hte]; decide)] at st2
        refine ⟨_, wm, (m + 1, Li.stepR T r A.length pc, A ++ e :: B, zy, S3), ⟨⟨?_, rfl⟩, ?_, Store.le_refl _⟩, hat.next hpk pick_step (by rw [st2]; exact hes) hok (Store.le_trans hS2 hS3) (hm1.le hS3), mu⟩
        · repeat' first | exact trivial | exact rfl | refine And.intro ?_ ?_
        · show rp4 (tbx fp fc p c first T) zy ((iI r.s.did).set A.length ((d + 1 : Nat) : Int)) (hdL (A ++ e :: B)) (r.ends) L (pvs (A ++ e :: B)) = rp4 (tbx fp fc p c first T) zy (iI (Li.stepR T r A.length pc).s.did) (hdL (A ++ e :: B)) ((Li.stepR T r A.length pc).ends) L (pvs (A ++ e :: B))
          rw [st1, st3, ← hd, map_set_nat]
    · have h1 : ¬ (m : Int) < ((L.length : Nat) : Int) := of_decide_eq_false h1
      have hml : m = L.length := by omega
      rw [hml, List.take_length] at hr
      refine ⟨⟨_, rfl, rfl, rfl⟩, .inl ⟨_, _, _, mz_words_spec Sz z T r m first.length hz hor (by omega) (by omega) (by omega), fun S2 wq hS2 hwq => ?_⟩⟩
      obtain ⟨wp, wn, wc⟩ := wq
      obtain ⟨(rfl : wn = (Li.lasts r.s.m).length), j2, (j3 : RowRd S2 wp shW (Li.lasts r.s.m)), j4⟩ := ws_row hwq
      refine ⟨⟨_, rfl, rfl, rfl⟩, .inr (.inr (.inl fun p5 c5 S5 hS5 hr5 hpf5 S7 hS7 hpool => ?_))⟩
      have htx := rtexto_spec S7 (p5, es.length, c5) (wp, (Li.lasts r.s.m).length, wc) r.s.told (Li.lasts r.s.m) (by rw [← hes]; exact td_of hok (hr5.le hS7) hpool) ⟨rfl, (j3.le hS5).le hS7, j4⟩ (by rw [hor.s.tl]; omega) (fun y hy => by have := (hz.tl y hy).1; omega) (by unfold Li.lasts; rw [List.length_map, hor.s.m.len]; omega)
      rw [← (List.length_map .. : (hdL es).length = es.length)] at htx
      refine ⟨_, _, _, htx, fun S8 _ hS8 _ S9 hS9 _ => ⟨rfl, (), ?_, trivial⟩⟩
      show rS _ = rS _
      rw [hr, hL]; rfl
  · refine ⟨l, src_of rfl hqr, fun _ _ => ⟨trivial, trivial, trivial⟩, by show (0 + l.length) * 24 ≤ 140737488355328; omega, ?_⟩
    refine ⟨[], [], Nat, [13] ++ List.range' 40 22, fun i => [(12, rI (i + 1))], fun i => rs5 (tbx fp fc p c first T) (((y1, y2, y3), (y4, y5, y6)), (((u1, u2, u3), (u4, u5, u6), ub), ((v1, v2, v3), vi))) (List.replicate T.length 0) (List.replicate T.length (none, 0, 0)) (List.replicate T.length false) (l ++ tk T i), fun _ => S1, fun i => i ≤ T.length, fun i => T.length - i, ?_⟩
    refine And.intro (Exists.intro 0 (And.intro (And.intro (And.intro ?_ rfl) (And.intro ?_ (Store.le_refl _))) (Nat.zero_le _))) ?_
    · repeat' first | exact trivial | exact rfl | refine And.intro ?_ ?_
    · show _ = rs5 (tbx fp fc p c first T) (((y1, y2, y3), (y4, y5, y6)), (((u1, u2, u3), (u4, u5, u6), ub), ((v1, v2, v3), vi))) (List.replicate T.length 0) (List.replicate T.length (none, 0, 0)) (List.replicate T.length false) (l ++ tk T 0)
      rw [e0]; rfl
    intro i (hi : i ≤ T.length)
    have htk8 := tk_len h8 i
    refine And.intro (fun h1 => ?_) (fun h1 => ?_)
    · have h1 : (i : Int) + 1 ≤ ((T.length : Nat) : Int) := of_decide_eq_true h1
      obtain ⟨⟨yp, yn, yc⟩, y, b, o, hy, hqy, hp, hok, hrd⟩ := hth.at (i := i) (by omega)
      have hyl : yn = y.length := hqy.len
      subst hyl
      have hy8 := h8 y (List.mem_of_getElem? hy)
      refine ⟨[], [], Nat, [40] ++ List.range' 46 16, fun j => [(13, rI j)], fun j => rs5 (tbx fp fc p c first T) (((y1, y2, y3), (y4, y5, y6)), (((u1, u2, u3), (u4, u5, u6), ub), ((v1, v2, v3), vi))) (List.replicate T.length 0) (List.replicate T.length (none, 0, 0)) (List.replicate T.length false) (l ++ tk T i ++ reps i j), fun _ => S1, fun j => j ≤ y.length, fun j => y.length - j, ?_⟩
      refine And.intro (Exists.intro 0 (And.intro (And.intro (And.intro ?_ rfl) (And.intro ?_ (Store.le_refl _))) (Nat.zero_le _))) ?_
      · repeat' first | exact trivial | exact rfl | refine And.intro ?_ ?_
      · show _ = rs5 (tbx fp fc p c first T) (((y1, y2, y3), (y4, y5, y6)), (((u1, u2, u3), (u4, u5, u6), ub), ((v1, v2, v3), vi))) (List.replicate T.length 0) (List.replicate T.length (none, 0, 0)) (List.replicate T.length false) (l ++ tk T i ++ reps i 0)
        rw [e1]; rfl
      intro j (hj : j ≤ y.length)
      have nl := nl i j
      refine ⟨(i : Int), by rw [wrap_i64 (by omega) (by omega)]; omega, Int.natCast_nonneg _, by show (i : Int) < ((T.length : Nat) : Int); omega, b, o, hp, ((yp, y.length, yc) : Hd), hok, hrd, ?_⟩
      refine And.intro (fun h2 => ?_) (fun h2 => ?_)
      · have h2 : (j : Int) < ((y.length : Nat) : Int) := of_decide_eq_true h2
        refine ⟨[((0, (i : Int) + 1, 0) : Li.Pk)], ⟨rfl, rfl⟩, fun _ _ => ⟨trivial, trivial, trivial⟩, by show ((l ++ tk T i ++ reps i j).length + 1) * 24 ≤ 140737488355328; omega, ?_⟩
        refine ⟨(((j + 1 : Nat)) : Int), wrap_i64 (by omega) (by omega), j + 1, ⟨⟨?_, rfl⟩, ?_, Store.le_refl _⟩, by show j + 1 ≤ _; omega, by show y.length - (j + 1) < y.length - j; omega⟩
        · repeat' first | exact trivial | exact rfl | refine And.intro ?_ ?_
        · show _ = rs5 (tbx fp fc p c first T) (((y1, y2, y3), (y4, y5, y6)), (((u1, u2, u3), (u4, u5, u6), ub), ((v1, v2, v3), vi))) (List.replicate T.length 0) (List.replicate T.length (none, 0, 0)) (List.replicate T.length false) (l ++ tk T i ++ reps i (j + 1))
          rw [← e2]; rfl
      · have h2 : ¬ (j : Int) < ((y.length : Nat) : Int) := of_decide_eq_false h2
        have hjy : j = y.length := by omega
        refine ⟨((i + 1 : Nat) : Int) + 1, by rw [wrap_i64 (by omega) (by omega)]; omega, i + 1, ⟨⟨?_, rfl⟩, ?_, Store.le_refl _⟩, by show i + 1 ≤ _; omega, by show T.length - (i + 1) < T.length - i; omega⟩
        · repeat' first | exact trivial | exact rfl | refine And.intro ?_ ?_
        · show _ = rs5 (tbx fp fc p c first T) (((y1, y2, y3), (y4, y5, y6)), (((u1, u2, u3), (u4, u5, u6), ub), ((v1, v2, v3), vi))) (List.replicate T.length 0) (List.replicate T.length (none, 0, 0)) (List.replicate T.length false) (l ++ tk T (i + 1))
          rw [← e3 i y hy, ← hjy]; rfl
    have h1 : ¬ (i : Int) + 1 ≤ ((T.length : Nat) : Int) := of_decide_eq_false h1
    have hil : i = T.length := by omega
    subst hil
    refine ⟨[], [(100000, shW, 35)], Nat × Li.Rn × List HL × Mcx × Store, List.range' 15 7 ++ List.range' 62 106, fun a => [(14, rI a.1)], fun a => rp5 (tbx fp fc p c first T) a.2.2.2.1 (iI a.2.1.s.did) (hdL a.2.2.1) (a.2.1.ends) L (pvs a.2.2.1), fun a => a.2.2.2.2, fun a => AtIs S1 a.2.2.2.2 first T L a.1 a.2.1 a.2.2.1 a.2.2.2.1, fun a => L.length - a.1, ?_⟩
    refine And.intro (Exists.intro (0, Li.beginR first T, List.replicate T.length ((none, 0, 0), []), (((y1, y2, y3), (y4, y5, y6)), (((u1, u2, u3), (u4, u5, u6), ub), ((v1, v2, v3), vi))), S1) (And.intro (And.intro (And.intro ?_ rfl) (And.intro ?_ (Store.le_refl _))) ⟨Nat.zero_le _, rfl, List.map_replicate .., ?_, Store.le_refl _, by rw [← hzz]; exact hzb⟩)) ?_
    · repeat' first | exact trivial | exact rfl | refine And.intro ?_ ?_
    · show _ = rp5 (tbx fp fc p c first T) (((y1, y2, y3), (y4, y5, y6)), (((u1, u2, u3), (u4, u5, u6), ub), ((v1, v2, v3), vi))) (iI (Li.beginR first T).s.did) (hdL (List.replicate T.length (((none, 0, 0) : Hd), ([] : List Li.Wd)))) ((Li.beginR first T).ends) L (pvs (List.replicate T.length ((none, 0, 0), [])))
      rw [hb0, hb1, pvs_rep, hL]; rfl
    · intro e he
      rw [(List.mem_replicate.1 he).2]
      exact ⟨rfl, fun _ => ⟨rfl, rfl⟩, Nat.le_refl _, fun w hw => by cases hw⟩
    rintro ⟨m, r, es, z, Sz⟩ (hat : AtIs S1 Sz first T L m r es z)
    obtain ⟨hm, hr, hes, hok, hSz, hz⟩ := id hat
    have hor : Li.okR first.length T r := by rw [hr]; exact Li.runR_ok hg.ok _ (Li.beginR_ok first T)
    have hel : es.length = T.length := by have := congrArg List.length hes; rw [List.length_map, hor.s.tl] at this; exact this
    have hene := hor.e
    refine And.intro (fun h1 => ?_) (fun h1 => ?_)
    · have h1 : (m : Int) < ((L.length : Nat) : Int) := of_decide_eq_true h1
      obtain ⟨⟨pa, pb, pc⟩, hpk⟩ : ∃ pk, L[m]? = some pk := ⟨_, List.getElem?_eq_getElem (by omega)⟩
      obtain ⟨hpo, hpc⟩ := hLo _ (List.mem_of_getElem? hpk)
      obtain ⟨t, ht, htc⟩ := wrap_pred (x := pb) hpo
      have mu : L.length - (m + 1) < L.length - m := by omega
      have wm : IntKind.i64.wrap ((m : Int) + 1) = ((m + 1 : Nat) : Int) := wrap_i64 (by omega) (by omega)
      refine ⟨Int.natCast_nonneg _, h1, ((pa, pb, pc) : Li.Pk), hpk, ?_⟩
      by_cases c2 : pa = 2
      · refine onE (beq_iff_eq.2 c2) ?_
        refine ⟨⟨_, rfl, rfl, rfl⟩, .inl ⟨_, _, _, mz_crash_spec Sz z T r m first.length hz hor (by omega) (by omega) g3 (by omega) (by omega) pc hpc, fun S2 zy hS2 hzy => ?_⟩⟩
        refine ⟨[], [], Nat, List.range' 79 8, fun i => [(16, rI i)], fun i => rp5 (tbx fp fc p c first T) zy (iI r.s.did) (hdL es) (stopped r.ends i) L (pvs es) ++ [.box [.v (.int .i64 pa), .v (.int .i64 pb), .v (.int .i64 pc)]], fun _ => S2, fun i => i ≤ T.length, fun i => T.length - i, ?_⟩
        refine And.intro (Exists.intro 0 (And.intro (And.intro (And.intro ?_ rfl) (And.intro ?_ (Store.le_refl _))) (Nat.zero_le _))) ?_
        · repeat' first | exact trivial | exact rfl | refine And.intro ?_ ?_
        · have : stopped r.ends 0 = r.ends := by unfold stopped; simp
          show _ = rp5 (tbx fp fc p c first T) zy (iI r.s.did) (hdL es) (stopped r.ends 0) L (pvs es) ++ _
          rw [this]; rfl
        intro i (hi : i ≤ T.length)
        have hsl := stopped_len r.ends i
        refine And.intro (fun h3 => ?_) (fun h3 => ?_)
        · have h3 : (i : Int) < ((T.length : Nat) : Int) := of_decide_eq_true h3
          obtain ⟨eb, heb⟩ : ∃ eb, (stopped r.ends i)[i]? = some eb := ⟨_, List.getElem?_eq_getElem (by omega)⟩
          refine ⟨Int.natCast_nonneg _, by show (i : Int) < (((stopped r.ends i).length : Nat) : Int); omega, eb, true, heb, trivial, rfl, Nat.le_refl 1, ?_⟩
          refine ⟨(((i + 1 : Nat)) : Int), wrap_i64 (by omega) (by omega), i + 1, ⟨⟨?_, rfl⟩, ?_, Store.le_refl _⟩, by show i + 1 ≤ _; omega, by show T.length - (i + 1) < T.length - i; omega⟩
          · repeat' first | exact trivial | exact rfl | refine And.intro ?_ ?_
          · show rp5 (tbx fp fc p c first T) zy (iI r.s.did) (hdL es) ((stopped r.ends i).set i true) L (pvs es) ++ _ = _
            rw [stopped_set (by omega)]; rfl
        have h3 : ¬ (i : Int) < ((T.length : Nat) : Int) := of_decide_eq_false h3
        have hiT : i = r.ends.length := by omega
        refine ⟨_, wm, (m + 1, Li.crashR T r pc, es, zy, S2), ⟨⟨?_, rfl⟩, ?_, Store.le_refl _⟩, hat.next hpk (by rw [c2]; exact pick_crash) hes hok hS2 hzy, mu⟩
        · repeat' first | exact trivial | exact rfl | refine And.intro ?_ ?_
        · show rp5 (tbx fp fc p c first T) zy (iI r.s.did) (hdL es) (stopped r.ends i) L (pvs es) = _
          rw [hiT, stopped_all]; rfl
      refine offE (beq_eq_false_iff_ne.2 c2) ?_
      refine ⟨t, ht, ?_⟩
      by_cases k1 : t < 0
      · refine onE (decide_eq_true k1) ?_
        repeat refine onT ?_
        refine ⟨_, wm, (m + 1, r, es, z, Sz), ⟨⟨?_, rfl⟩, rfl, Store.le_refl _⟩, hat.skip hpk (pick_dead c2 (fun q => by omega)), mu⟩
        repeat' first | exact trivial | exact rfl | refine And.intro ?_ ?_
      refine offE (decide_eq_false k1) ?_
      by_cases k2 : t ≥ ((T.length : Nat) : Int)
      · refine onE (decide_eq_true k2) ?_
        repeat refine onT ?_
        refine ⟨_, wm, (m + 1, r, es, z, Sz), ⟨⟨?_, rfl⟩, rfl, Store.le_refl _⟩, hat.skip hpk (pick_dead c2 (fun q => .inl (by omega))), mu⟩
        repeat' first | exact trivial | exact rfl | refine And.intro ?_ ?_
      refine offE (decide_eq_false k2) ?_
      obtain ⟨k, rfl⟩ : ∃ k : Nat, t = (k : Int) := ⟨t.toNat, by omega⟩
      obtain rfl : pb = (k : Int) + 1 := by omega
      have hkT : k < T.length := by omega
      have kz : (0 : Int) ≤ (k : Int) := Int.natCast_nonneg _
      have kT : (k : Int) < ((T.length : Nat) : Int) := by omega
      have hke : (k : Int) < ((r.ends.length : Nat) : Int) := by omega
      obtain ⟨eb, heb⟩ : ∃ eb, r.ends[k]? = some eb := ⟨_, List.getElem?_eq_getElem (by omega)⟩
      refine ⟨kz, hke, eb, heb, ?_⟩
      cases eb with
      | true =>
        refine onT ?_
        refine ⟨_, wm, (m + 1, r, es, z, Sz), ⟨⟨?_, rfl⟩, rfl, Store.le_refl _⟩, hat.skip hpk (pick_dead c2 (fun q => .inr (by rw [show (k : Int) + 1 - 1 = (k : Int) by omega, Int.toNat_natCast]; exact heb))), mu⟩
        repeat' first | exact trivial | exact rfl | refine And.intro ?_ ?_
      | false =>
      refine onF ?_
      by_cases c1 : pa = 1
      · refine onE (beq_iff_eq.2 c1) ⟨kz, hke, false, true, heb, trivial, rfl, Nat.le_refl 1, ?_⟩
        refine ⟨or22_26, [], oF22_26, by kernel_rfl, ?_⟩
        refine onE (bne_iff_ne.2 (show pa ≠ 0 by omega)) ?_
        repeat refine onT ?_
        refine ⟨_, wm, (m + 1, Li.stopR r k, es, z, Sz), ⟨⟨?_, rfl⟩, rfl, Store.le_refl _⟩, hat.next hpk (by rw [c1]; exact pick_stop) hes hok (Store.le_refl _) ((hz.same (r' := Li.stopR r k) rfl rfl).up (Nat.le_succ _)), mu⟩
        repeat' first | exact trivial | exact rfl | refine And.intro ?_ ?_
      refine offE (beq_eq_false_iff_ne.2 c1) ?_
      refine ⟨or22_26, [], oF22_26, by kernel_rfl, ?_⟩
      by_cases c0 : ¬ pa = 0
      · refine onE (bne_iff_ne.2 c0) ?_
        repeat refine onT ?_
        refine ⟨_, wm, (m + 1, r, es, z, Sz), ⟨⟨?_, rfl⟩, rfl, Store.le_refl _⟩, hat.skip hpk (pick_other c0 c1 c2), mu⟩
        repeat' first | exact trivial | exact rfl | refine And.intro ?_ ?_
      obtain rfl : pa = 0 := Decidable.not_not.1 c0
      refine offE (bne_eq_false_iff_eq.2 rfl) ?_
      obtain ⟨yp, yc, y, b, o, d, hp, hyok, hrd, hyr, hyo, hyT, hy6, hd, hdm, hdl, hd8⟩ := at_facts (hth.le hSz) hg hor hkT
      refine ⟨kz, hdl, (d : Int), hdm, kz, kT, b, o, hp, ((yp, y.length, yc) : Hd), hyok, fun S' hle _ => Store.rd_le hle hrd, ?_⟩
      by_cases k3 : (d : Int) ≥ ((y.length : Nat) : Int)
      · refine onE (decide_eq_true k3) ?_
        refine ⟨_, wm, (m + 1, r, es, z, Sz), ⟨⟨?_, rfl⟩, rfl, Store.le_refl _⟩, hat.skip hpk (pick_step.trans (stepR_none (act_over hyT hd (by omega)))), mu⟩
        repeat' first | exact trivial | exact rfl | refine And.intro ?_ ?_
      refine offE (decide_eq_false k3) ?_
      obtain ⟨a, b3, o3, e3, ok3, hr3, hact, haok⟩ := act_facts hyr hyo hyT hd (by omega) heb
      obtain ⟨st1, st2, st3⟩ := stepR_all (c := pc) hact
      have hdo := mz_do_spec Sz z T r m first.length hz hor hg.ok (by omega) (by omega) (by omega) k a hact haok.2.2.2 pc hpc
      obtain ⟨w00, hw00⟩ : ∃ w, w = (Li.doM r.s.m k a pc).2 := ⟨_, rfl⟩
      rw [← hw00] at hdo st2
      obtain ⟨ao, al, ⟨a1, a2, a3⟩, a4, a5, a6⟩ := a
      refine ⟨or22_27, [8], oF22_27, by kernel_rfl, ?_⟩
      refine ⟨kz, kT, b, o, hp, ((yp, y.length, yc) : Hd), hyok, fun S' hle _ => Store.rd_le hle hrd, kz, hdl, (d : Int), hdm, Int.natCast_nonneg _, by show (d : Int) < ((y.length : Nat) : Int); omega, b3, o3, e3, ((ao, al, (a1, a2, a3), a4, a5, a6) : Ax), ok3, fun S' hle _ => Store.rd_le hle hr3, ?_⟩
      refine ⟨⟨_, rfl, rfl, rfl⟩, .inl ⟨_, _, _, hdo, fun S2 zy hS2 hzy => ?_⟩⟩
      obtain ⟨zy, ⟨w1, w2, w3⟩, zb⟩ := zy
      obtain ⟨(hm1 : MzIs S2 zy T (Li.stepR T r k pc) (m + 1)), (hm2 : ((w1, w2, w3) : Li.Wd) = w00), (hm3 : okW (w1, w2, w3))⟩ := hzy
      refine ⟨kz, hdl, (d : Int), hdm, ((d + 1 : Nat) : Int), wrap_i64 (by omega) (by omega), kz, hdl, (d : Int), ((d + 1 : Nat) : Int), hdm, trivial, rfl, Nat.le_refl 1, ?_⟩
      obtain ⟨A, e, B, rfl, rfl, heo1, hew, hget, hel2, hps⟩ := es_facts (k := k) hes hok (show k < es.length by omega) hz.tl
      refine ⟨⟨_, rfl, rfl, rfl⟩, .inl ⟨_, _, _, tell_spec S2 ao, fun S3 _ hS3 _ => ?_⟩⟩
      refine And.intro (fun (hte : Li.tells ⟨ao, al, (a1, a2, a3), a4, a5, a6⟩ = true) => ?_) (fun (hte : Li.tells ⟨ao, al, (a1, a2, a3), a4, a5, a6⟩ = false) => ?_)
      · rw [if_pos hte] at st2
        refine ⟨or22_32, [3, 6], oF22_32, by kernel_rfl, ?_⟩
        refine ⟨kz, hel2, e.1, hget, .inr (.inl ⟨6, ⟨rfl, rfl, rfl⟩, pvs A, pvs B, e.1.1, e.1.2.1, e.1.2.2, e.2, [((w1, w2, w3) : Li.Wd)], rfl, Nat.le_of_eq heo1, hps, ⟨rfl, rfl⟩, fun _ _ => ⟨trivial, trivial, trivial⟩, by show (e.1.2.1 + 1) * 16 ≤ 140737488355328; omega, fun p' c' hf => ⟨kz, hel2, e.1, ((p', e.1.2.1 + 1, c') : Hd), hget, trivial, rfl, Nat.le_refl 1, ?_⟩⟩)⟩
        refine ⟨_, wm, (m + 1, Li.stepR T r A.length pc, A ++ (((p', e.1.2.1 + 1, c') : Hd), e.2 ++ [((w1, w2, w3) : Li.Wd)]) :: B, zy, S3), ⟨⟨?_, rfl⟩, ?_, Store.le_refl _⟩, hat.next hpk pick_step (by rw [st2, upd_2, hes, ← hm2]) (upd_ok hok hf hm3) (Store.le_trans hS2 hS3) (hm1.le hS3), mu⟩
        · repeat' first | exact trivial | exact rfl | refine And.intro ?_ ?_
        · show rp5 (tbx fp fc p c first T) zy ((iI r.s.did).set A.length ((d + 1 : Nat) : Int)) ((hdL (A ++ e :: B)).set A.length (p', e.1.2.1 + 1, c')) (r.ends) L (pvs A ++ (Value.slice p' (e.1.2.1 + 1) c', e.2.take e.1.2.1 ++ [((w1, w2, w3) : Li.Wd)]) :: pvs B) = rp5 (tbx fp fc p c first T) zy (iI (Li.stepR T r A.length pc).s.did) (hdL (A ++ (((p', e.1.2.1 + 1, c') : Hd), e.2 ++ [((w1, w2, w3) : Li.Wd)]) :: B)) ((Li.stepR T r A.length pc).ends) L (pvs (A ++ (((p', e.1.2.1 + 1, c') : Hd), e.2 ++ [((w1, w2, w3) : Li.Wd)]) :: B))
          rw [st1, st3, ← hd, map_set_nat, ← told_eq heo1 hf, upd_1 A B e _ (e.2 ++ [((w1, w2, w3) : Li.Wd)])]
      · rw [if_neg (by rw [hte]; decide)] at st2
        refine ⟨_, wm, (m + 1, Li.stepR T r A.length pc, A ++ e :: B, zy, S3), ⟨⟨?_, rfl⟩, ?_, Store.le_refl _⟩, hat.next hpk pick_step (by rw [st2]; exact hes) hok (Store.le_trans hS2 hS3) (hm1.le hS3), mu⟩
        · repeat' first | exact trivial | exact rfl | refine And.intro ?_ ?_
        · show rp5 (tbx fp fc p c first T) zy ((iI r.s.did).set A.length ((d + 1 : Nat) : Int)) (hdL (A ++ e :: B)) (r.ends) L (pvs (A ++ e :: B)) = rp5 (tbx fp fc p c first T) zy (iI (Li.stepR T r A.length pc).s.did) (hdL (A ++ e :: B)) ((Li.stepR T r A.length pc).ends) L (pvs (A ++ e :: B))
          rw [st1, st3, ← hd, map_set_nat]
    · have h1 : ¬ (m : Int) < ((L.length : Nat) : Int) := of_decide_eq_false h1
      have hml : m = L.length := by omega
      rw [hml, List.take_length] at hr
      refine ⟨⟨_, rfl, rfl, rfl⟩, .inl ⟨_, _, _, mz_words_spec Sz z T r m first.length hz hor (by omega) (by omega) (by omega), fun S2 wq hS2 hwq => ?_⟩⟩
      obtain ⟨wp, wn, wc⟩ := wq
      obtain ⟨(rfl : wn = (Li.lasts r.s.m).length), j2, (j3 : RowRd S2 wp shW (Li.lasts r.s.m)), j4⟩ := ws_row hwq
      refine ⟨⟨_, rfl, rfl, rfl⟩, .inr (.inr (.inl fun p5 c5 S5 hS5 hr5 hpf5 S7 hS7 hpool => ?_))⟩
      have htx := rtexto_spec S7 (p5, es.length, c5) (wp, (Li.lasts r.s.m).length, wc) r.s.told (Li.lasts r.s.m) (by rw [← hes]; exact td_of hok (hr5.le hS7) hpool) ⟨rfl, (j3.le hS5).le hS7, j4⟩ (by rw [hor.s.tl]; omega) (fun y hy => by have := (hz.tl y hy).1; omega) (by unfold Li.lasts; rw [List.length_map, hor.s.m.len]; omega)
      rw [← (List.length_map .. : (hdL es).length = es.length)] at htx
      refine ⟨_, _, _, htx, fun S8 _ hS8 _ S9 hS9 _ => ⟨rfl, (), ?_, trivial⟩⟩
      show rS _ = rS _
      rw [hr, hL]; rfl
end Go.Proofs.YtapblcfbmaikjaaGreatDoor
