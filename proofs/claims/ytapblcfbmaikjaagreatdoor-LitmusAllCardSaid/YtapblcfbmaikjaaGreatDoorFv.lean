/- law09: a run of a test: step. -/
import Derived.Test.YtapblcfbmaikjaaGreatDoorFu
namespace Go.Proofs.YtapblcfbmaikjaaGreatDoor
open Go Go.Vc Go.Sort Go.RowKit Go.Maps
set_option maxRecDepth 100000
set_option maxHeartbeats 8000000

theorem tclone_spec (S : Store) (q : Hd) (xs : List Hd) (hl : q.2.1 = xs.length) (hne : 0 < xs.length) (hr : RowRd S q.1 .slice xs) (hn : xs.length ≤ 1000) : SpecN Tryz.prog 59 S [slV q] (A := Unit) (fun _ => .c (.ref 0)) (fun _ => [.row .slice 38 xs]) (fun _ _ => True) := by
  obtain ⟨p, n, c⟩ := q
  have hl : n = xs.length := hl
  subst hl
  have hr : RowRd S p .slice xs := hr
  refine specN_vc agrees Tryz.func59 rfl rfl (fun _ _ _ _ h => h) ?_
  cases hp : p with
  | none =>
    subst hp
    rcases hr.1 with e | ⟨b, o, e, -⟩
    · exfalso; rw [e] at hne; simp at hne
    · cases e
  | some a =>
    subst hp
    exact onF ⟨xs, src_of rfl hr, fun y hy => hr.2 y hy, by show (0 + xs.length) * 24 ≤ 140737488355328; omega, [0], (), rfl, rfl, rfl, trivial⟩
theorem eclone_spec (S : Store) (q : Hd) (xs : List Bool) (hl : q.2.1 = xs.length) (hne : 0 < xs.length) (hr : RowRd S q.1 shB xs) (hn : xs.length ≤ 1000) : SpecN Tryz.prog 89 S [slV q] (A := Unit) (fun _ => .c (.ref 0)) (fun _ => [.row shB 4 xs]) (fun _ _ => True) := by
  obtain ⟨p, n, c⟩ := q
  have hl : n = xs.length := hl
  subst hl
  have hr : RowRd S p shB xs := hr
  refine specN_vc agrees Tryz.func89 rfl rfl (fun _ _ _ _ h => h) ?_
  cases hp : p with
  | none =>
    subst hp
    rcases hr.1 with e | ⟨b, o, e, -⟩
    · exfalso; rw [e] at hne; simp at hne
    · cases e
  | some a =>
    subst hp
    exact onF ⟨xs, src_of rfl hr, fun y hy => hr.2 y hy, by show (0 + xs.length) * 1 ≤ 140737488355328; omega, [0], (), rfl, rfl, rfl, trivial⟩
theorem sclip_spec (S : Store) (q : Hd) (h : List Li.Bs) (hq : SsIs S q h) : Pure Tryz.prog 61 S [slV q] (A := Hd) rSl (fun S' q => SsIs S' q h ∧ q.2.2 = h.length) := by
  obtain ⟨hl, hc, hr⟩ := hq
  obtain ⟨p, n, c⟩ := q
  have hl : n = h.length := hl
  subst hl
  refine pure_vc agrees Tryz.func61 rfl rfl (fun S S' q hle h => ⟨h.1.le hle, h.2⟩) ?_
  refine ⟨Int.natCast_nonneg _, Int.natCast_nonneg _, Nat.zero_le _, Nat.le_refl _, hc, rfl, (p, h.length, h.length), ?_, ⟨rfl, Nat.le_refl _, hr⟩, rfl⟩
  show SV.c (C.v (Value.slice p h.length h.length)) = SV.c (C.v (Value.slice (if h.length = 0 then p else Option.map (fun p => addrAdd p (0 * 1)) p) h.length h.length))
  by_cases h0 : h.length = 0
  · rw [if_pos h0]
  · rw [if_neg h0]
    rcases hr.1 with e | ⟨b, o, e, -⟩
    · exfalso; apply h0; exact List.length_eq_zero_iff.2 (List.map_eq_nil_iff.1 e)
    · have e : p = some ⟨b, o, none⟩ := e
      subst e; rfl
theorem tells_spec (S : Store) (a : Li.Act) : Pure Tryz.prog 60 S [vAct a] (A := Unit) (fun _ => rB (Li.tells a)) (fun _ _ => True) := by
  obtain ⟨o, lo, ⟨o1, o2, o3⟩, ⟨n1, n2, n3⟩⟩ := a
  refine pure_vc agrees Tryz.func60 rfl rfl (fun S S' q hle h => h) ?_
  have e : Li.tells ⟨o, lo, (o1, o2, o3), (n1, n2, n3)⟩ = (((decide (o = 1) || decide (o = 2)) || decide (o = 5)) || decide (o = 6)) := rfl
  rw [e]
  by_cases h1 : o = 1
  · refine onE (beq_iff_eq.2 h1) ?_
    repeat refine onT ?_
    exact ⟨rfl, (), by show rB _ = rB true; simp [h1], trivial⟩
  refine offE (beq_eq_false_iff_ne.2 h1) ?_
  by_cases h2 : o = 2
  · refine onE (beq_iff_eq.2 h2) ?_
    repeat refine onT ?_
    exact ⟨rfl, (), by show rB _ = rB true; simp [h2], trivial⟩
  refine offE (beq_eq_false_iff_ne.2 h2) ?_
  by_cases h5 : o = 5
  · refine onE (beq_iff_eq.2 h5) ?_
    repeat refine onT ?_
    exact ⟨rfl, (), by show rB _ = rB true; simp [h5], trivial⟩
  refine offE (beq_eq_false_iff_ne.2 h5) ?_
  refine ⟨rfl, (), ?_, trivial⟩
  show rB _ = rB (o == 6)
  rw [show (o == 6) = decide (o = 6) from by rw [Bool.eq_iff_iff]; simp]
  simp [h1, h2, h5]
theorem do_hist {m : Li.Mem} {B : Nat} (hB : ∀ h ∈ m.ms, h.length ≤ B) (k : Nat) (a : Li.Act) (c : Int) : ∀ h ∈ (Li.doM m k a c).1.ms, h.length ≤ B + 1 := by
  have up : ∀ h ∈ m.ms, h.length ≤ B + 1 := fun h hh => Nat.le_succ_of_le (hB h hh)
  have ad : ∀ (m' : Li.Mem) (loc : Nat) (w : Li.Wd) (j : Bool), m'.ms = m.ms → ∀ h ∈ (Li.addsM m' k loc w j).ms, h.length ≤ B + 1 := fun m' loc w j e h hh => by
    have hh : h ∈ m'.ms.set loc _ := hh
    rcases List.mem_or_eq_of_mem_set hh with hh | hh
    · rw [e] at hh; exact up h hh
    · subst hh
      rw [List.length_append]
      have : (Li.hist m' loc).length ≤ B := by
        unfold Li.hist
        rw [e]
        by_cases hl : loc < m.ms.length
        · exact hB _ (Li.getD_mem hl)
        · rw [List.getD_eq_getElem?_getD, List.getElem?_eq_none (by omega)]; exact Nat.zero_le _
      simp; omega
  intro h hh
  unfold Li.doM at hh
  split at hh
  · exact up h hh
  split at hh
  · exact up h hh
  split at hh
  · exact ad m _ _ _ rfl h hh
  split at hh
  · exact ad m _ _ _ rfl h hh
  split at hh
  · exact up h hh
  split at hh
  · unfold Li.swapM at hh
    split at hh
    · exact ad (Li.lookM m k _).1 _ _ _ rfl h hh
    · exact up h hh
  · exact up h hh
theorem ln_len (l : Li.Ln) (m : Li.Mem) (k : Nat) (a : Li.Act) : (Li.lnDo l m k a).st.length ≤ l.st.length + 1 := by
  have st : ∀ (x : Nat) (w : Li.Wd), (Li.storeL l x w).st.length ≤ l.st.length + 1 := fun x w => by
    show (l.st ++ [(x, w)]).length ≤ _
    rw [List.length_append]; exact Nat.le_refl _
  unfold Li.lnDo
  split
  · exact st _ _
  split
  · split
    · exact st _ _
    · exact Nat.le_succ _
  split
  · exact Nat.le_succ _
  split
  · exact Nat.le_succ _
  · exact Nat.le_succ _
theorem RunIs.up {S : Store} {x T r b b'} (h : RunIs S x T r b) (hb : b ≤ b') : RunIs S x T r b' := by
  obtain ⟨h1, ⟨d, h2, h3, h4⟩, h5, h6, h7, h8, h9, h10, h11⟩ := h
  exact ⟨h1, ⟨d, h2, h3, fun i hi => Nat.le_trans (h4 i hi) hb⟩, ⟨h5.1, by have := h5.2; omega⟩, h6, h7, h8, fun h hh => by have := h9 h hh; omega, by omega, fun ws hw => Nat.le_trans (h11 ws hw) hb⟩
/-- One step of a run: thread t may be any number. -/
def stepI (T : List (List Li.Act)) (r : Li.Rn) (t : Int) (c : Int) : Li.Rn := if 1 ≤ t then Li.stepR T r (t - 1).toNat c else r
theorem step_none_spec (S : Store) (x : Rx) (T : List (List Li.Act)) (r : Li.Rn) (b n : Nat) (hx : RunIs S x T r b) (ho : Li.okR n T r) (hT4 : T.length ≤ 8) (t : Int) (ht : inI64 t) (c : Int) (ha : 1 ≤ t → Li.actR T r (t - 1).toNat = none) :
    Pure Tryz.prog 35 S [vR x, .int .i64 t, .int .i64 c] (A := Unit) (fun _ => rR x) (fun _ _ => True) := by
  have h := act_none_spec S x T r b n hx ho hT4 t ht ha
  obtain ⟨⟨⟨z1, z2, z3⟩, ⟨tq, tn, tc⟩⟩, ⟨⟨⟨p, np, c1⟩, ⟨p2, n2, c2⟩⟩, ⟨⟨⟨fp, fn, fc⟩, ⟨p3, n3, c3⟩, b3⟩, ⟨⟨sp, sn, sc⟩, ei⟩⟩⟩, ⟨dp, dn, dc⟩, ⟨ep, en, ec⟩, ⟨op, on', oc⟩⟩ := x
  refine pure_vc agrees Tryz.func35 rfl rfl (fun S S' q hle h => h) ?_
  refine ⟨⟨_, rfl, rfl, rfl⟩, .inl ⟨_, _, _, h, fun S1 _ hS1 _ => onT ⟨rfl, (), rfl, trivial⟩⟩⟩
theorem step_some_spec (S : Store) (hLt : Lt S) (x : Rx) (T : List (List Li.Act)) (r : Li.Rn) (b n : Nat) (hx : RunIs S x T r b) (ho : Li.okR n T r) (hoT : Li.okT n T) (hn : n ≤ 8) (hT4 : T.length ≤ 8) (h8 : ∀ l ∈ T, l.length ≤ 8) (hb : b ≤ 10000) (k : Nat) (a : Li.Act) (ha : Li.actR T r k = some a) (c : Int) (hc : inI64 c) :
    Pure Tryz.prog 35 S [vR x, .int .i64 ((k : Int) + 1), .int .i64 c] (A := Rx) rR (fun S' y => RunIs S' y T (Li.stepR T r k c) (b + 1)) := by
  obtain ⟨ha1, ha2⟩ := Li.actR_some ha
  obtain ⟨hk, hd, hm1, hm2⟩ := Li.act_some ha1
  have hact := act_some_spec S x T r b n hx ho hT4 k a ha
  obtain ⟨d, hM, hdl, hdb⟩ := hx.m
  have hcr := hx.cr
  have hth := hx.th
  have hends := hx.ends
  have hok := hx.th.small hm2 hm1
  have hf : fewM n r.s.m := ⟨ho.s.m, by omega, by rw [ho.s.vl]; omega, fun h hh => by have := hx.hs h hh; omega⟩
  have hdo := fun (S' : Store) (hS : S.le S') => do_spec S' x.2.1 n r.s.m r.l d (hM.m.le hS) (hM.l.le hS) (hM.d.le hS) (by rw [hdl, ho.s.vl]) (fun i hi => by have := hdb i hi; omega) hf ho.l hn (by have := hx.st; omega) k (by rw [ho.s.vl]; exact hk) (by omega) a (Li.okA_of hoT ha1) hok.2.2.2 c hc
  obtain ⟨q1, q2, q3⟩ := hx.did
  obtain ⟨L, hL1, hL2, hL3, hL4, hL5⟩ := hx.told.data
  have hdl2 := ho.s.dl
  have htl := ho.s.tl
  have hd6 : r.s.did.getD k 0 ≤ 1000000 := by have := h8 _ hm2; omega
  have hdk : (r.s.did.map fun i : Nat => (i : Int))[k]? = some ((r.s.did.getD k 0 : Nat) : Int) := by
    rw [List.getElem?_map, List.getD_eq_getElem?_getD, List.getElem?_eq_getElem (by omega)]; rfl
  have w2 : IntKind.i64.wrap (((r.s.did.getD k 0 : Nat) : Int) + 1) = ((r.s.did.getD k 0 + 1 : Nat) : Int) := by rw [wrap_i64 (by omega) (by omega)]; omega
  obtain ⟨xs, hxs⟩ : ∃ xs : List Hd, xs = L.map (·.1) := ⟨_, rfl⟩
  have hxl : xs.length = T.length := by rw [hxs, List.length_map, hL2, htl]
  have hL4 : RowRd S x.2.2.2.2.1 .slice xs := by rw [hxs]; exact hL4
  have hkx : k < xs.length := by omega
  have hz : L[k]? = some L[k] := List.getElem?_eq_getElem (by rw [← hL2] at htl; omega)
  obtain ⟨⟨⟨qp, qn, qc⟩, ws⟩, hzz⟩ : ∃ z, L[k] = z := ⟨_, rfl⟩
  rw [hzz] at hz
  obtain ⟨hss, hwo⟩ := hL5 _ (List.mem_of_getElem? hz)
  have hss : SsIs S (qp, qn, qc) (ws.map Li.textW) := hss
  have hxk : xs[k]? = some (qp, qn, qc) := by rw [hxs, List.getElem?_map, hz]; rfl
  have hwk : r.s.told.getD k [] = ws := by rw [← hL1, List.getD_eq_getElem?_getD, List.getElem?_map, hz]; rfl
  have hstep : Li.stepR T r k c = ⟨⟨(Li.doM r.s.m k a c).1, r.s.did.set k (r.s.did.getD k 0 + 1), if Li.tells a then r.s.told.set k (ws ++ [(Li.doM r.s.m k a c).2]) else r.s.told⟩, Li.lnDo r.l r.s.m k a, r.ends⟩ := by
    unfold Li.stepR
    rw [ha]
    show Li.Rn.mk (Li.stepS T r.s k c) _ _ = _
    unfold Li.stepS
    rw [ha1, hwk]
  have hwl : ws.length ≤ b := by
    have : r.s.told.getD k [] ∈ r.s.told := Li.getD_mem (by omega)
    rw [hwk] at this; exact hx.tl _ this
  have htl0 := hx.tl
  have hhs := do_hist hx.hs k a c
  have hst := ln_len r.l r.s.m k a
  have hst0 := hx.st
  obtain ⟨⟨⟨z1, z2, z3⟩, ⟨tq, tn, tc⟩⟩, ⟨⟨⟨p, np, c1⟩, ⟨p2, n2, c2⟩⟩, ⟨⟨⟨fp, fn, fc⟩, ⟨p3, n3, c3⟩, b3⟩, ⟨⟨sp, sn, sc⟩, ei⟩⟩⟩, ⟨dp, dn, dc⟩, ⟨ep, en, ec⟩, ⟨op, on', oc⟩⟩ := x
  have q1 : dn = r.s.did.length := q1
  subst q1
  have hL3 : on' = T.length := hL3.trans htl
  subst hL3
  obtain ⟨ao, al, ⟨a1, a2, a3⟩, a4, a5, a6⟩ := a
  refine pure_vc agrees Tryz.func35 rfl rfl (fun S S' q hle h => h.le hle) ?_
  refine ⟨⟨_, rfl, rfl, rfl⟩, .inl ⟨_, _, _, hact, fun S1 _ hS1 _ => onF ?_⟩⟩
  refine ⟨⟨_, rfl, rfl, rfl⟩, .inl ⟨_, _, _, hdo S1 hS1, fun S2 y hS2 hy => ?_⟩⟩
  have hS02 := Store.le_trans hS1 hS2
  refine ⟨(k : Int), wk k (by omega), ?_⟩
  have k0 : (0 : Int) ≤ (k : Int) := Int.natCast_nonneg _
  have hic := fun (S' : Store) (hS : S2.le S') => iclone_spec S' (dp, r.s.did.length, dc) (r.s.did.map fun i : Nat => (i : Int)) (List.length_map ..).symm (by rw [List.length_map]; omega) (q3.le (Store.le_trans hS02 hS)) (by rw [List.length_map]; omega)
  have htc := fun (S' : Store) (hS : S2.le S') => tclone_spec S' (op, T.length, oc) xs hxl.symm (by omega) (hL4.le (Store.le_trans hS02 hS)) (by omega)
  obtain ⟨⟨⟨⟨y1, y2, y3⟩, ⟨y4, y5, y6⟩⟩, ⟨⟨⟨u1, u2, u3⟩, ⟨u4, u5, u6⟩, ub⟩, ⟨⟨v1, v2, v3⟩, vi⟩⟩⟩, ⟨g1, g2, g3⟩, gb⟩ := y
  have hokg : okW (g1, g2, g3) := hy.gw.2
  have hgw : ((g1, g2, g3) : Li.Wd) = (Li.doM r.s.m k ⟨ao, al, (a1, a2, a3), a4, a5, a6⟩ c).2 := hy.gw.1
  have hve : vi = ei := hy.ge
  subst hve
  have fin : ∀ (S5 S6 : Store) (p5 : Option Addr) (c5 : Nat) (p6 : Option Addr) (c6 : Nat) (tl : List Hd) (L' : List (Hd × List Li.Wd)), S2.le S5 → S5.le S6 → tl.length = T.length → L'.map (·.1) = tl → L'.map (·.2) = (if Li.tells ⟨ao, al, (a1, a2, a3), a4, a5, a6⟩ then r.s.told.set k (ws ++ [(Li.doM r.s.m k ⟨ao, al, (a1, a2, a3), a4, a5, a6⟩ c).2]) else r.s.told) → (∀ z ∈ L', SsIs S6 z.1 (z.2.map Li.textW) ∧ ∀ w ∈ z.2, okW w) →
      PForm p5 ((r.s.did.map fun i : Nat => (i : Int)).set k ((r.s.did.getD k 0 + 1 : Nat) : Int)).length c5 → RowRd S5 p5 shI ((r.s.did.map fun i : Nat => (i : Int)).set k ((r.s.did.getD k 0 + 1 : Nat) : Int)) → PForm p6 tl.length c6 → RowRd S6 p6 .slice tl →
      RunIs S6 (((z1, z2, z3), (tq, tn, tc)), (((y1, y2, y3), (y4, y5, y6)), (((u1, u2, u3), (u4, u5, u6), ub), ((v1, v2, v3), vi))), (p5, ((r.s.did.map fun i : Nat => (i : Int)).set k ((r.s.did.getD k 0 + 1 : Nat) : Int)).length, c5), (ep, en, ec), (p6, tl.length, c6)) T (Li.stepR T r k c) (b + 1) := fun S5 S6 p5 c5 p6 c6 tl L' h5 h6 htl' hL1' hL2' hL3' hp5 hr5 hp6 hr6 => by
    have h26 := Store.le_trans h5 h6
    have h06 := Store.le_trans hS02 h26
    rw [hstep]
    refine ⟨hth.le h06, ⟨d.set k (d.getD k 0 + 1), ⟨hy.gm.le h26, hy.gl.le h26, hy.gd.le h26⟩, by rw [List.length_set]; exact hdl, fun i hi => ?_⟩, ⟨hcr.1, by have : vi ≤ b := hcr.2; show vi ≤ ((b + 1 : Nat) : Int); omega⟩, (did_end _ rfl hp5 hr5).le h6, hends.le h06, ?_, hhs, by show (Li.lnDo _ _ _ _).st.length ≤ b + 1; omega, fun v hv => ?_⟩
    · rcases List.mem_or_eq_of_mem_set hi with hi | hi
      · have := hdb i hi; omega
      · have := hdb _ (Li.getD_mem (d := 0) (show k < d.length by omega))
        omega
    · subst hL1'
      exact ⟨L', hL2', by show (L'.map (·.1)).length = _; rw [List.length_map], pform_le hp6, hr6, hL3'⟩
    · have hv : v ∈ (if Li.tells ⟨ao, al, (a1, a2, a3), a4, a5, a6⟩ = true then r.s.told.set k (ws ++ [(Li.doM r.s.m k ⟨ao, al, (a1, a2, a3), a4, a5, a6⟩ c).2]) else r.s.told) := hv
      split at hv
      · rcases List.mem_or_eq_of_mem_set hv with hv | hv
        · exact Nat.le_succ_of_le (htl0 v hv)
        · subst hv; rw [List.length_append]; show ws.length + 1 ≤ b + 1; omega
      · exact Nat.le_succ_of_le (htl0 v hv)
  refine ⟨or35_6, [5, 6, 7], oF35_6, by kernel_rfl, ?_⟩
  refine And.intro ⟨⟨_, rfl, rfl, rfl⟩, .inr (.inr (.inr (.inr (.inl ⟨_, _, _, _, hic S2 (Store.le_refl _), fun S3 _ hS3 _ => And.intro ⟨⟨_, rfl, rfl, rfl⟩, .inr (.inr (.inr (.inr (.inl ⟨_, _, _, _, htc S3 hS3, fun S4 _ hS4 _ => ?_⟩))))⟩ (And.intro ⟨⟨_, rfl, rfl, rfl⟩, .inr (.inr (.inr (.inr (.inl ⟨_, _, _, _, htc S3 hS3, fun S4 _ hS4 _ => ?_⟩))))⟩ trivial)⟩))))⟩ (And.intro ⟨⟨_, rfl, rfl, rfl⟩, .inr (.inr (.inr (.inr (.inl ⟨_, _, _, _, hic S2 (Store.le_refl _), fun S3 _ hS3 _ => ⟨⟨_, rfl, rfl, rfl⟩, .inr (.inr (.inr (.inr (.inl ⟨_, _, _, _, htc S3 hS3, fun S4 _ hS4 _ => ?_⟩))))⟩⟩))))⟩ trivial)
  · refine ⟨k0, by show (k : Int) < (((r.s.did.map fun i : Nat => (i : Int)).length : Nat) : Int); rw [List.length_map]; omega, _, hdk, _, w2, k0, by show (k : Int) < (((r.s.did.map fun i : Nat => (i : Int)).length : Nat) : Int); rw [List.length_map]; omega, _, ((r.s.did.getD k 0 + 1 : Nat) : Int), hdk, trivial, rfl, by show 0 + 1 ≤ 1; decide, ?_⟩
    have hS24 := Store.le_trans hS3 hS4
    refine ⟨⟨_, rfl, rfl, rfl⟩, .inl ⟨_, _, _, tells_spec S4 ⟨ao, al, (a1, a2, a3), a4, a5, a6⟩, fun S5 _ hS5 _ => ?_⟩⟩
    have hS25 := Store.le_trans hS24 hS5
    refine And.intro (fun h1 => ?_) (fun h1 => ?_)
    · refine ⟨or35_9, [6, 9], oF35_9, by kernel_rfl, ?_⟩
      have kx : (k : Int) < ((xs.length : Nat) : Int) := by omega
      refine ⟨k0, kx, ((qp, qn, qc) : Hd), hxk, ?_⟩
      repeat' (first
        | exact trivial
        | refine ⟨⟨_, rfl, rfl, rfl⟩, .inl ⟨_, _, _, sclip_spec S5 (qp, qn, qc) (ws.map Li.textW) (hss.le (Store.le_trans hS02 hS25)), fun S6 q6 hS6 hq6 => ?_⟩⟩
        | refine ⟨⟨_, rfl, rfl, rfl⟩, .inl ⟨_, _, _, text_spec S6 (hLt.le (Store.le_trans hS02 (Store.le_trans hS25 hS6))) (g1, g2, g3) hokg, fun S7 _ hS7 _ => ?_⟩⟩
        | refine And.intro ?_ ?_)
      all_goals
        have hS27 := Store.le_trans hS25 (Store.le_trans hS6 hS7)
        obtain ⟨qp6, qn6, qc6⟩ := q6
        obtain ⟨⟨f1, f2, hr6⟩, hq6c⟩ := hq6
        have f1 : qn6 = (ws.map Li.textW).length := f1
        have hq6c : qc6 = (ws.map Li.textW).length := hq6c
        subst f1 hq6c
        have hr6 : RowRd S6 qp6 .str ((ws.map Li.textW).map bs) := hr6
        have fine : ∀ (S8 S9 S10 : Store) (p8 : Option Addr) (c8 : Nat) (p5 : Option Addr) (c5 : Nat) (p6 : Option Addr) (c6 : Nat) (ys : List ByteArray), ys = (ws.map Li.textW).map bs ++ [bs (Li.textW (g1, g2, g3))] → S7.le S8 → RowRd S8 p8 .str ys → PForm p8 ys.length c8 → S8.le S9 → S9.le S10 →
            PForm p5 ((r.s.did.map fun i : Nat => (i : Int)).set k ((r.s.did.getD k 0 + 1 : Nat) : Int)).length c5 → RowRd S9 p5 shI ((r.s.did.map fun i : Nat => (i : Int)).set k ((r.s.did.getD k 0 + 1 : Nat) : Int)) → PForm p6 (xs.set k (p8, ys.length, c8)).length c6 → RowRd S10 p6 .slice (xs.set k (p8, ys.length, c8)) →
            RunIs S10 (((z1, z2, z3), (tq, tn, tc)), (((y1, y2, y3), (y4, y5, y6)), (((u1, u2, u3), (u4, u5, u6), ub), ((v1, v2, v3), vi))), (p5, ((r.s.did.map fun i : Nat => (i : Int)).set k ((r.s.did.getD k 0 + 1 : Nat) : Int)).length, c5), (ep, en, ec), (p6, (xs.set k (p8, ys.length, c8)).length, c6)) T (Li.stepR T r k c) (b + 1) := fun S8 S9 S10 p8 c8 p5 c5 p6 c6 ys hys h78 hr8 hp8 h89 h910 hp5 hr5 hp6 hr6' => by
          subst hys
          refine fin S9 S10 p5 c5 p6 c6 _ (L.set k ((p8, ((ws.map Li.textW).map bs ++ [bs (Li.textW (g1, g2, g3))]).length, c8), ws ++ [(g1, g2, g3)])) (Store.le_trans hS27 (Store.le_trans h78 h89)) h910 (by rw [List.length_set]; exact hxl) (by rw [List.map_set, ← hxs]) (by rw [List.map_set, hL1, if_pos h1, hgw]) (fun z hz => ?_) hp5 hr5 hp6 hr6'
          rcases List.mem_or_eq_of_mem_set hz with hz | hz
          · exact ⟨(hL5 z hz).1.le (Store.le_trans (Store.le_trans hS02 hS27) (Store.le_trans h78 (Store.le_trans h89 h910))), (hL5 z hz).2⟩
          · subst hz
            refine ⟨⟨by simp, ?_, ?_⟩, fun w hw => ?_⟩
            · have := pform_le hp8
              simp at this ⊢; exact this
            · rw [List.map_append, List.map_append]; exact hr8.le (Store.le_trans h89 h910)
            · rcases List.mem_append.1 hw with hw | hw
              · exact hwo w hw
              · simp only [List.mem_singleton] at hw; subst hw; exact hokg
        cases qp6 with
        | none =>
          have hw0 : ws = [] := by
            rcases hr6.1 with e | ⟨b, o, e, -⟩
            · simpa using e
            · cases e
          subst hw0
          refine .inl ⟨rfl, [bs (Li.textW (g1, g2, g3))], ⟨rfl, rfl⟩, fun _ _ => trivial, by show 1 * 16 ≤ 140737488355328; decide, ?_⟩
          refine ⟨k0, kx, fun p8 c8 S8 hS8 hr8 hpf8 => ⟨_, ((p8, 1, c8) : Hd), hxk, trivial, rfl, by show 0 + 1 ≤ 1; decide, ?_⟩⟩
          intro p5 c5 S9 hS9 hr9 hpf9 p6 c6 S10 hS10 hr10 hpf10
          exact ⟨rfl, (((z1, z2, z3), (tq, tn, tc)), (((y1, y2, y3), (y4, y5, y6)), (((u1, u2, u3), (u4, u5, u6), ub), ((v1, v2, v3), vi))), (p5, ((r.s.did.map fun i : Nat => (i : Int)).set k ((r.s.did.getD k 0 + 1 : Nat) : Int)).length, c5), (ep, en, ec), (p6, (xs.set k (p8, 1, c8)).length, c6)), rfl, fine S8 S9 S10 p8 c8 p5 c5 p6 c6 [bs (Li.textW (g1, g2, g3))] rfl hS8 hr8 hpf8.1 hS9 hS10 hpf9.1 hr9 hpf10.1 hr10⟩
        | some ad =>
          refine .inr (.inr (.inl ⟨ad, (ws.map Li.textW).length, (ws.map Li.textW).length, (ws.map Li.textW).map bs, [bs (Li.textW (g1, g2, g3))], rfl, List.length_map .., Nat.le_refl _, Nat.lt_succ_self _, hr6.le hS7, ⟨rfl, rfl⟩, fun _ _ => trivial, by show ((ws.map Li.textW).length + 1) * 16 ≤ 140737488355328; rw [List.length_map]; omega, ?_⟩))
          refine ⟨k0, kx, fun p8 c8 S8 hS8 hr8 hpf8 => ⟨_, ((p8, ((ws.map Li.textW).map bs ++ [bs (Li.textW (g1, g2, g3))]).length, c8) : Hd), hxk, trivial, rfl, by show 0 + 1 ≤ 1; decide, ?_⟩⟩
          intro p5 c5 S9 hS9 hr9 hpf9 p6 c6 S10 hS10 hr10 hpf10
          exact ⟨rfl, (((z1, z2, z3), (tq, tn, tc)), (((y1, y2, y3), (y4, y5, y6)), (((u1, u2, u3), (u4, u5, u6), ub), ((v1, v2, v3), vi))), (p5, ((r.s.did.map fun i : Nat => (i : Int)).set k ((r.s.did.getD k 0 + 1 : Nat) : Int)).length, c5), (ep, en, ec), (p6, (xs.set k (p8, ((ws.map Li.textW).map bs ++ [bs (Li.textW (g1, g2, g3))]).length, c8)).length, c6)), rfl, fine S8 S9 S10 p8 c8 p5 c5 p6 c6 _ rfl hS8 hr8 hpf8.1 hS9 hS10 hpf9.1 hr9 hpf10.1 hr10⟩
    · intro p5 c5 S6 hS6 hr6 hpf6 p6 c6 S7 hS7 hr7 hpf7
      have h07 := Store.le_trans hS02 (Store.le_trans hS25 (Store.le_trans hS6 hS7))
      exact ⟨rfl, (((z1, z2, z3), (tq, tn, tc)), (((y1, y2, y3), (y4, y5, y6)), (((u1, u2, u3), (u4, u5, u6), ub), ((v1, v2, v3), vi))), (p5, ((r.s.did.map fun i : Nat => (i : Int)).set k ((r.s.did.getD k 0 + 1 : Nat) : Int)).length, c5), (ep, en, ec), (p6, xs.length, c6)), rfl, fin S6 S7 p5 c5 p6 c6 xs L (Store.le_trans hS25 hS6) hS7 hxl hxs.symm (by rw [h1]; exact hL1) (fun z hz => ⟨(hL5 z hz).1.le h07, (hL5 z hz).2⟩) hpf6.1 hr6 hpf7.1 hr7⟩
  · refine ⟨k0, by show (k : Int) < (((r.s.did.map fun i : Nat => (i : Int)).length : Nat) : Int); rw [List.length_map]; omega, _, hdk, _, w2, k0, by show (k : Int) < (((r.s.did.map fun i : Nat => (i : Int)).length : Nat) : Int); rw [List.length_map]; omega, _, ((r.s.did.getD k 0 + 1 : Nat) : Int), hdk, trivial, rfl, by show 0 + 1 ≤ 1; decide, ?_⟩
    have hS24 := Store.le_trans hS3 hS4
    refine ⟨⟨_, rfl, rfl, rfl⟩, .inl ⟨_, _, _, tells_spec S4 ⟨ao, al, (a1, a2, a3), a4, a5, a6⟩, fun S5 _ hS5 _ => ?_⟩⟩
    have hS25 := Store.le_trans hS24 hS5
    refine And.intro (fun h1 => ?_) (fun h1 => ?_)
    · refine ⟨or35_9, [7, 9], oF35_9, by kernel_rfl, ?_⟩
      have kx : (k : Int) < ((xs.length : Nat) : Int) := by omega
      refine ⟨k0, kx, ((qp, qn, qc) : Hd), hxk, ?_⟩
      repeat' (first
        | exact trivial
        | refine ⟨⟨_, rfl, rfl, rfl⟩, .inl ⟨_, _, _, sclip_spec S5 (qp, qn, qc) (ws.map Li.textW) (hss.le (Store.le_trans hS02 hS25)), fun S6 q6 hS6 hq6 => ?_⟩⟩
        | refine ⟨⟨_, rfl, rfl, rfl⟩, .inl ⟨_, _, _, text_spec S6 (hLt.le (Store.le_trans hS02 (Store.le_trans hS25 hS6))) (g1, g2, g3) hokg, fun S7 _ hS7 _ => ?_⟩⟩
        | refine And.intro ?_ ?_)
      all_goals
        have hS27 := Store.le_trans hS25 (Store.le_trans hS6 hS7)
        obtain ⟨qp6, qn6, qc6⟩ := q6
        obtain ⟨⟨f1, f2, hr6⟩, hq6c⟩ := hq6
        have f1 : qn6 = (ws.map Li.textW).length := f1
        have hq6c : qc6 = (ws.map Li.textW).length := hq6c
        subst f1 hq6c
        have hr6 : RowRd S6 qp6 .str ((ws.map Li.textW).map bs) := hr6
        have fine : ∀ (S8 S9 S10 : Store) (p8 : Option Addr) (c8 : Nat) (p5 : Option Addr) (c5 : Nat) (p6 : Option Addr) (c6 : Nat) (ys : List ByteArray), ys = (ws.map Li.textW).map bs ++ [bs (Li.textW (g1, g2, g3))] → S7.le S8 → RowRd S8 p8 .str ys → PForm p8 ys.length c8 → S8.le S9 → S9.le S10 →
            PForm p5 ((r.s.did.map fun i : Nat => (i : Int)).set k ((r.s.did.getD k 0 + 1 : Nat) : Int)).length c5 → RowRd S9 p5 shI ((r.s.did.map fun i : Nat => (i : Int)).set k ((r.s.did.getD k 0 + 1 : Nat) : Int)) → PForm p6 (xs.set k (p8, ys.length, c8)).length c6 → RowRd S10 p6 .slice (xs.set k (p8, ys.length, c8)) →
            RunIs S10 (((z1, z2, z3), (tq, tn, tc)), (((y1, y2, y3), (y4, y5, y6)), (((u1, u2, u3), (u4, u5, u6), ub), ((v1, v2, v3), vi))), (p5, ((r.s.did.map fun i : Nat => (i : Int)).set k ((r.s.did.getD k 0 + 1 : Nat) : Int)).length, c5), (ep, en, ec), (p6, (xs.set k (p8, ys.length, c8)).length, c6)) T (Li.stepR T r k c) (b + 1) := fun S8 S9 S10 p8 c8 p5 c5 p6 c6 ys hys h78 hr8 hp8 h89 h910 hp5 hr5 hp6 hr6' => by
          subst hys
          refine fin S9 S10 p5 c5 p6 c6 _ (L.set k ((p8, ((ws.map Li.textW).map bs ++ [bs (Li.textW (g1, g2, g3))]).length, c8), ws ++ [(g1, g2, g3)])) (Store.le_trans hS27 (Store.le_trans h78 h89)) h910 (by rw [List.length_set]; exact hxl) (by rw [List.map_set, ← hxs]) (by rw [List.map_set, hL1, if_pos h1, hgw]) (fun z hz => ?_) hp5 hr5 hp6 hr6'
          rcases List.mem_or_eq_of_mem_set hz with hz | hz
          · exact ⟨(hL5 z hz).1.le (Store.le_trans (Store.le_trans hS02 hS27) (Store.le_trans h78 (Store.le_trans h89 h910))), (hL5 z hz).2⟩
          · subst hz
            refine ⟨⟨by simp, ?_, ?_⟩, fun w hw => ?_⟩
            · have := pform_le hp8
              simp at this ⊢; exact this
            · rw [List.map_append, List.map_append]; exact hr8.le (Store.le_trans h89 h910)
            · rcases List.mem_append.1 hw with hw | hw
              · exact hwo w hw
              · simp only [List.mem_singleton] at hw; subst hw; exact hokg
        cases qp6 with
        | none =>
          have hw0 : ws = [] := by
            rcases hr6.1 with e | ⟨b, o, e, -⟩
            · simpa using e
            · cases e
          subst hw0
          refine .inl ⟨rfl, [bs (Li.textW (g1, g2, g3))], ⟨rfl, rfl⟩, fun _ _ => trivial, by show 1 * 16 ≤ 140737488355328; decide, ?_⟩
          refine ⟨k0, kx, fun p8 c8 S8 hS8 hr8 hpf8 => ⟨_, ((p8, 1, c8) : Hd), hxk, trivial, rfl, by show 0 + 1 ≤ 1; decide, ?_⟩⟩
          intro p5 c5 S9 hS9 hr9 hpf9 p6 c6 S10 hS10 hr10 hpf10
          exact ⟨rfl, (((z1, z2, z3), (tq, tn, tc)), (((y1, y2, y3), (y4, y5, y6)), (((u1, u2, u3), (u4, u5, u6), ub), ((v1, v2, v3), vi))), (p5, ((r.s.did.map fun i : Nat => (i : Int)).set k ((r.s.did.getD k 0 + 1 : Nat) : Int)).length, c5), (ep, en, ec), (p6, (xs.set k (p8, 1, c8)).length, c6)), rfl, fine S8 S9 S10 p8 c8 p5 c5 p6 c6 [bs (Li.textW (g1, g2, g3))] rfl hS8 hr8 hpf8.1 hS9 hS10 hpf9.1 hr9 hpf10.1 hr10⟩
        | some ad =>
          refine .inr (.inr (.inl ⟨ad, (ws.map Li.textW).length, (ws.map Li.textW).length, (ws.map Li.textW).map bs, [bs (Li.textW (g1, g2, g3))], rfl, List.length_map .., Nat.le_refl _, Nat.lt_succ_self _, hr6.le hS7, ⟨rfl, rfl⟩, fun _ _ => trivial, by show ((ws.map Li.textW).length + 1) * 16 ≤ 140737488355328; rw [List.length_map]; omega, ?_⟩))
          refine ⟨k0, kx, fun p8 c8 S8 hS8 hr8 hpf8 => ⟨_, ((p8, ((ws.map Li.textW).map bs ++ [bs (Li.textW (g1, g2, g3))]).length, c8) : Hd), hxk, trivial, rfl, by show 0 + 1 ≤ 1; decide, ?_⟩⟩
          intro p5 c5 S9 hS9 hr9 hpf9 p6 c6 S10 hS10 hr10 hpf10
          exact ⟨rfl, (((z1, z2, z3), (tq, tn, tc)), (((y1, y2, y3), (y4, y5, y6)), (((u1, u2, u3), (u4, u5, u6), ub), ((v1, v2, v3), vi))), (p5, ((r.s.did.map fun i : Nat => (i : Int)).set k ((r.s.did.getD k 0 + 1 : Nat) : Int)).length, c5), (ep, en, ec), (p6, (xs.set k (p8, ((ws.map Li.textW).map bs ++ [bs (Li.textW (g1, g2, g3))]).length, c8)).length, c6)), rfl, fine S8 S9 S10 p8 c8 p5 c5 p6 c6 _ rfl hS8 hr8 hpf8.1 hS9 hS10 hpf9.1 hr9 hpf10.1 hr10⟩
    · intro p5 c5 S6 hS6 hr6 hpf6 p6 c6 S7 hS7 hr7 hpf7
      have h07 := Store.le_trans hS02 (Store.le_trans hS25 (Store.le_trans hS6 hS7))
      exact ⟨rfl, (((z1, z2, z3), (tq, tn, tc)), (((y1, y2, y3), (y4, y5, y6)), (((u1, u2, u3), (u4, u5, u6), ub), ((v1, v2, v3), vi))), (p5, ((r.s.did.map fun i : Nat => (i : Int)).set k ((r.s.did.getD k 0 + 1 : Nat) : Int)).length, c5), (ep, en, ec), (p6, xs.length, c6)), rfl, fin S6 S7 p5 c5 p6 c6 xs L (Store.le_trans hS25 hS6) hS7 hxl hxs.symm (by rw [h1]; exact hL1) (fun z hz => ⟨(hL5 z hz).1.le h07, (hL5 z hz).2⟩) hpf6.1 hr6 hpf7.1 hr7⟩
  · refine ⟨k0, by show (k : Int) < (((r.s.did.map fun i : Nat => (i : Int)).length : Nat) : Int); rw [List.length_map]; omega, _, hdk, _, w2, k0, by show (k : Int) < (((r.s.did.map fun i : Nat => (i : Int)).length : Nat) : Int); rw [List.length_map]; omega, _, ((r.s.did.getD k 0 + 1 : Nat) : Int), hdk, trivial, rfl, by show 0 + 1 ≤ 1; decide, ?_⟩
    have hS24 := Store.le_trans hS3 hS4
    refine ⟨⟨_, rfl, rfl, rfl⟩, .inl ⟨_, _, _, tells_spec S4 ⟨ao, al, (a1, a2, a3), a4, a5, a6⟩, fun S5 _ hS5 _ => ?_⟩⟩
    have hS25 := Store.le_trans hS24 hS5
    refine And.intro (fun h1 => ?_) (fun h1 => ?_)
    · refine ⟨or35_9, [7, 9], oF35_9, by kernel_rfl, ?_⟩
      have kx : (k : Int) < ((xs.length : Nat) : Int) := by omega
      refine ⟨k0, kx, ((qp, qn, qc) : Hd), hxk, ?_⟩
      repeat' (first
        | exact trivial
        | refine ⟨⟨_, rfl, rfl, rfl⟩, .inl ⟨_, _, _, sclip_spec S5 (qp, qn, qc) (ws.map Li.textW) (hss.le (Store.le_trans hS02 hS25)), fun S6 q6 hS6 hq6 => ?_⟩⟩
        | refine ⟨⟨_, rfl, rfl, rfl⟩, .inl ⟨_, _, _, text_spec S6 (hLt.le (Store.le_trans hS02 (Store.le_trans hS25 hS6))) (g1, g2, g3) hokg, fun S7 _ hS7 _ => ?_⟩⟩
        | refine And.intro ?_ ?_)
      all_goals
        have hS27 := Store.le_trans hS25 (Store.le_trans hS6 hS7)
        obtain ⟨qp6, qn6, qc6⟩ := q6
        obtain ⟨⟨f1, f2, hr6⟩, hq6c⟩ := hq6
        have f1 : qn6 = (ws.map Li.textW).length := f1
        have hq6c : qc6 = (ws.map Li.textW).length := hq6c
        subst f1 hq6c
        have hr6 : RowRd S6 qp6 .str ((ws.map Li.textW).map bs) := hr6
        have fine : ∀ (S8 S9 S10 : Store) (p8 : Option Addr) (c8 : Nat) (p5 : Option Addr) (c5 : Nat) (p6 : Option Addr) (c6 : Nat) (ys : List ByteArray), ys = (ws.map Li.textW).map bs ++ [bs (Li.textW (g1, g2, g3))] → S7.le S8 → RowRd S8 p8 .str ys → PForm p8 ys.length c8 → S8.le S9 → S9.le S10 →
            PForm p5 ((r.s.did.map fun i : Nat => (i : Int)).set k ((r.s.did.getD k 0 + 1 : Nat) : Int)).length c5 → RowRd S9 p5 shI ((r.s.did.map fun i : Nat => (i : Int)).set k ((r.s.did.getD k 0 + 1 : Nat) : Int)) → PForm p6 (xs.set k (p8, ys.length, c8)).length c6 → RowRd S10 p6 .slice (xs.set k (p8, ys.length, c8)) →
            RunIs S10 (((z1, z2, z3), (tq, tn, tc)), (((y1, y2, y3), (y4, y5, y6)), (((u1, u2, u3), (u4, u5, u6), ub), ((v1, v2, v3), vi))), (p5, ((r.s.did.map fun i : Nat => (i : Int)).set k ((r.s.did.getD k 0 + 1 : Nat) : Int)).length, c5), (ep, en, ec), (p6, (xs.set k (p8, ys.length, c8)).length, c6)) T (Li.stepR T r k c) (b + 1) := fun S8 S9 S10 p8 c8 p5 c5 p6 c6 ys hys h78 hr8 hp8 h89 h910 hp5 hr5 hp6 hr6' => by
          subst hys
          refine fin S9 S10 p5 c5 p6 c6 _ (L.set k ((p8, ((ws.map Li.textW).map bs ++ [bs (Li.textW (g1, g2, g3))]).length, c8), ws ++ [(g1, g2, g3)])) (Store.le_trans hS27 (Store.le_trans h78 h89)) h910 (by rw [List.length_set]; exact hxl) (by rw [List.map_set, ← hxs]) (by rw [List.map_set, hL1, if_pos h1, hgw]) (fun z hz => ?_) hp5 hr5 hp6 hr6'
          rcases List.mem_or_eq_of_mem_set hz with hz | hz
          · exact ⟨(hL5 z hz).1.le (Store.le_trans (Store.le_trans hS02 hS27) (Store.le_trans h78 (Store.le_trans h89 h910))), (hL5 z hz).2⟩
          · subst hz
            refine ⟨⟨by simp, ?_, ?_⟩, fun w hw => ?_⟩
            · have := pform_le hp8
              simp at this ⊢; exact this
            · rw [List.map_append, List.map_append]; exact hr8.le (Store.le_trans h89 h910)
            · rcases List.mem_append.1 hw with hw | hw
              · exact hwo w hw
              · simp only [List.mem_singleton] at hw; subst hw; exact hokg
        cases qp6 with
        | none =>
          have hw0 : ws = [] := by
            rcases hr6.1 with e | ⟨b, o, e, -⟩
            · simpa using e
            · cases e
          subst hw0
          refine .inl ⟨rfl, [bs (Li.textW (g1, g2, g3))], ⟨rfl, rfl⟩, fun _ _ => trivial, by show 1 * 16 ≤ 140737488355328; decide, ?_⟩
          refine ⟨k0, kx, fun p8 c8 S8 hS8 hr8 hpf8 => ⟨_, ((p8, 1, c8) : Hd), hxk, trivial, rfl, by show 0 + 1 ≤ 1; decide, ?_⟩⟩
          intro p5 c5 S9 hS9 hr9 hpf9 p6 c6 S10 hS10 hr10 hpf10
          exact ⟨rfl, (((z1, z2, z3), (tq, tn, tc)), (((y1, y2, y3), (y4, y5, y6)), (((u1, u2, u3), (u4, u5, u6), ub), ((v1, v2, v3), vi))), (p5, ((r.s.did.map fun i : Nat => (i : Int)).set k ((r.s.did.getD k 0 + 1 : Nat) : Int)).length, c5), (ep, en, ec), (p6, (xs.set k (p8, 1, c8)).length, c6)), rfl, fine S8 S9 S10 p8 c8 p5 c5 p6 c6 [bs (Li.textW (g1, g2, g3))] rfl hS8 hr8 hpf8.1 hS9 hS10 hpf9.1 hr9 hpf10.1 hr10⟩
        | some ad =>
          refine .inr (.inr (.inl ⟨ad, (ws.map Li.textW).length, (ws.map Li.textW).length, (ws.map Li.textW).map bs, [bs (Li.textW (g1, g2, g3))], rfl, List.length_map .., Nat.le_refl _, Nat.lt_succ_self _, hr6.le hS7, ⟨rfl, rfl⟩, fun _ _ => trivial, by show ((ws.map Li.textW).length + 1) * 16 ≤ 140737488355328; rw [List.length_map]; omega, ?_⟩))
          refine ⟨k0, kx, fun p8 c8 S8 hS8 hr8 hpf8 => ⟨_, ((p8, ((ws.map Li.textW).map bs ++ [bs (Li.textW (g1, g2, g3))]).length, c8) : Hd), hxk, trivial, rfl, by show 0 + 1 ≤ 1; decide, ?_⟩⟩
          intro p5 c5 S9 hS9 hr9 hpf9 p6 c6 S10 hS10 hr10 hpf10
          exact ⟨rfl, (((z1, z2, z3), (tq, tn, tc)), (((y1, y2, y3), (y4, y5, y6)), (((u1, u2, u3), (u4, u5, u6), ub), ((v1, v2, v3), vi))), (p5, ((r.s.did.map fun i : Nat => (i : Int)).set k ((r.s.did.getD k 0 + 1 : Nat) : Int)).length, c5), (ep, en, ec), (p6, (xs.set k (p8, ((ws.map Li.textW).map bs ++ [bs (Li.textW (g1, g2, g3))]).length, c8)).length, c6)), rfl, fine S8 S9 S10 p8 c8 p5 c5 p6 c6 _ rfl hS8 hr8 hpf8.1 hS9 hS10 hpf9.1 hr9 hpf10.1 hr10⟩
    · intro p5 c5 S6 hS6 hr6 hpf6 p6 c6 S7 hS7 hr7 hpf7
      have h07 := Store.le_trans hS02 (Store.le_trans hS25 (Store.le_trans hS6 hS7))
      exact ⟨rfl, (((z1, z2, z3), (tq, tn, tc)), (((y1, y2, y3), (y4, y5, y6)), (((u1, u2, u3), (u4, u5, u6), ub), ((v1, v2, v3), vi))), (p5, ((r.s.did.map fun i : Nat => (i : Int)).set k ((r.s.did.getD k 0 + 1 : Nat) : Int)).length, c5), (ep, en, ec), (p6, xs.length, c6)), rfl, fin S6 S7 p5 c5 p6 c6 xs L (Store.le_trans hS25 hS6) hS7 hxl hxs.symm (by rw [h1]; exact hL1) (fun z hz => ⟨(hL5 z hz).1.le h07, (hL5 z hz).2⟩) hpf6.1 hr6 hpf7.1 hr7⟩
theorem pure_as {f : FuncId} {S : Store} {args : List Value} {A B : Type} {out : A → SV} {out' : B → SV} {Post : Store → A → Prop} {Post' : Store → B → Prop} (h : Pure Tryz.prog f S args out Post) (g : A → B) (he : ∀ a, out a = out' (g a)) (hp : ∀ S' a, S.le S' → Post S' a → Post' S' (g a)) : Pure Tryz.prog f S args out' Post' := by
  intro w hw
  refine (h w hw).mono ?_
  rintro e w' ⟨v, x, S', rfl, hv, h1, h2, h3, h4, h5⟩
  exact ⟨v, g x, S', rfl, by rw [← he]; exact hv, h1, h2, h3, h4, hp S' x h1 h5⟩
/-- One step, whatever the thread. -/
theorem step_spec (S : Store) (hLt : Lt S) (x : Rx) (T : List (List Li.Act)) (r : Li.Rn) (b n : Nat) (hx : RunIs S x T r b) (ho : Li.okR n T r) (hoT : Li.okT n T) (hn : n ≤ 8) (hT4 : T.length ≤ 8) (h8 : ∀ l ∈ T, l.length ≤ 8) (hb : b ≤ 10000) (t : Int) (ht : inI64 t) (c : Int) (hc : inI64 c) :
    Pure Tryz.prog 35 S [vR x, .int .i64 t, .int .i64 c] (A := Rx) rR (fun S' y => RunIs S' y T (stepI T r t c) (b + 1)) := by
  by_cases h1 : 1 ≤ t
  · obtain ⟨k, hk⟩ : ∃ k : Nat, t = (k : Int) + 1 := ⟨(t - 1).toNat, by omega⟩
    have e : (t - 1).toNat = k := by omega
    have es : stepI T r t c = Li.stepR T r k c := by unfold stepI; rw [if_pos h1, e]
    rw [es]
    cases ha : Li.actR T r k with
    | some a => rw [hk]; exact step_some_spec S hLt x T r b n hx ho hoT hn hT4 h8 hb k a ha c hc
    | none =>
      refine pure_as (step_none_spec S x T r b n hx ho hT4 t ht c (fun _ => by rw [e]; exact ha)) (fun _ => x) (fun _ => rfl) (fun S' _ hS _ => ?_)
      have : Li.stepR T r k c = r := by unfold Li.stepR; rw [ha]
      rw [this]; exact (hx.le hS).up (Nat.le_succ _)
  · have es : stepI T r t c = r := if_neg h1
    rw [es]
    exact pure_as (step_none_spec S x T r b n hx ho hT4 t ht c (fun q => absurd q h1)) (fun _ => x) (fun _ => rfl) (fun S' _ hS _ => (hx.le hS).up (Nat.le_succ _))
end Go.Proofs.YtapblcfbmaikjaaGreatDoor
