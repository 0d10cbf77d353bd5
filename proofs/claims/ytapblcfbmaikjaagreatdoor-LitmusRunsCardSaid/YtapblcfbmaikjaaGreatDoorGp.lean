/- law09: what a machine holds in a run, and what Do, Crash and Words make of it. -/
import Derived.Test.YtapblcfbmaikjaaGreatDoorGt
namespace Go.Proofs.YtapblcfbmaikjaaGreatDoor
open Go Go.Vc Go.Sort Go.RowKit Go.Maps
set_option maxRecDepth 100000
set_option maxHeartbeats 8000000

structure MzIs (S : Store) (z : Mcx) (T : List (List Li.Act)) (r : Li.Rn) (b : Nat) : Prop where
  m : ∃ d : List Nat, MachIs S z r.s.m r.l d ∧ d.length = T.length ∧ ∀ i ∈ d, i ≤ b
  cr : 0 ≤ z.2.2.2 ∧ z.2.2.2 ≤ b
  hs : ∀ h ∈ r.s.m.ms, h.length ≤ b + 1
  st : r.l.st.length ≤ b
  tl : ∀ ws ∈ r.s.told, ws.length ≤ b ∧ ∀ w ∈ ws, okW w
theorem MzIs.le {S S' : Store} (h : S.le S') {z T r b} (hx : MzIs S z T r b) : MzIs S' z T r b := by
  obtain ⟨⟨d, h2, h3, h4⟩, h5, h9, h10, h11⟩ := hx
  exact ⟨⟨d, h2.le h, h3, h4⟩, h5, h9, h10, h11⟩
theorem MzIs.up {S : Store} {z T r b b'} (h : MzIs S z T r b) (hb : b ≤ b') : MzIs S z T r b' := by
  obtain ⟨⟨d, h2, h3, h4⟩, h5, h9, h10, h11⟩ := h
  exact ⟨⟨d, h2, h3, fun i hi => Nat.le_trans (h4 i hi) hb⟩, ⟨h5.1, by have := h5.2; omega⟩, fun h hh => by have := h9 h hh; omega, Nat.le_trans h10 hb, fun w hw => ⟨Nat.le_trans (h11 w hw).1 hb, (h11 w hw).2⟩⟩
theorem MzIs.same {S : Store} {z T b} {r r' : Li.Rn} (h : MzIs S z T r b) (h1 : r'.s = r.s) (h2 : r'.l = r.l) : MzIs S z T r' b := by
  obtain ⟨m, cr, hs, st, tl⟩ := h
  exact ⟨by rw [h1, h2]; exact m, cr, by rw [h1]; exact hs, by rw [h2]; exact st, by rw [h1]; exact tl⟩
theorem mz_begin {S : Store} {z : Mcx} {first : List Li.Wd} {T : List (List Li.Act)} (h : MachIs S z (Li.initM first T.length) (Li.newL first) (List.replicate T.length 0) ∧ z.2.2.2 = 0) : MzIs S z T (Li.beginR first T) 0 := by
  refine ⟨⟨_, h.1, List.length_replicate .., fun i hi => by rw [(List.mem_replicate.1 hi).2]; exact Nat.le_refl _⟩, ⟨by rw [h.2]; exact Int.le_refl _, by rw [h.2]; exact Int.le_refl _⟩, fun l hl => ?_, Nat.le_refl _, fun ws hws => ?_⟩
  · obtain ⟨w, -, rfl⟩ := List.mem_map.1 hl
    exact Nat.le_refl _
  · have hws : ws ∈ List.replicate T.length ([] : List Li.Wd) := hws
    rw [(List.mem_replicate.1 hws).2]
    exact ⟨Nat.le_refl _, fun w hw => by cases hw⟩
theorem mz_few {S : Store} {z : Mcx} {T : List (List Li.Act)} {r : Li.Rn} {b n : Nat} (hz : MzIs S z T r b) (ho : Li.okR n T r) (hn : n ≤ 8) (hT : T.length ≤ 8) (hb : b ≤ 10000) : fewM n r.s.m := ⟨ho.s.m, by omega, by rw [ho.s.vl]; omega, fun h hh => by have := hz.hs h hh; omega⟩
theorem mz_do_spec (S : Store) (z : Mcx) (T : List (List Li.Act)) (r : Li.Rn) (b n : Nat) (hz : MzIs S z T r b) (ho : Li.okR n T r) (hoT : Li.okT n T) (hn : n ≤ 8) (hT : T.length ≤ 8) (hb : b ≤ 10000) (k : Nat) (a : Li.Act) (ha : Li.actR T r k = some a) (hw : okW a.new) (c : Int) (hc : inI64 c) :
    Pure Tryz.prog 39 S [vMc z, .int .i64 ((k : Int) + 1), vAct a, .int .i64 c] (A := Mcx × Li.Wd × Bool) rDo (fun S' y => MzIs S' y.1 T (Li.stepR T r k c) (b + 1) ∧ y.2.1 = (Li.doM r.s.m k a c).2 ∧ okW y.2.1) := by
  obtain ⟨ha1, ha2⟩ := Li.actR_some ha
  obtain ⟨hk, hd, hm1, hm2⟩ := Li.act_some ha1
  have hf := mz_few hz ho hn hT hb
  obtain ⟨⟨d, hM, hdl, hdb⟩, hcr, hhs, hst, htl⟩ := hz
  have hdo := do_spec S z n r.s.m r.l d hM.m hM.l hM.d (by rw [hdl, ho.s.vl]) (fun i hi => by have := hdb i hi; omega) hf ho.l hn (by omega) k (by rw [ho.s.vl]; exact hk) (by omega) a (Li.okA_of hoT ha1) hw c hc
  refine pure_as hdo id (fun _ => rfl) fun S' y _ hy => ?_
  have hhs' := do_hist hhs k a c
  have hst' := ln_len r.l r.s.m k a
  have hstep : Li.stepR T r k c = ⟨⟨(Li.doM r.s.m k a c).1, r.s.did.set k (r.s.did.getD k 0 + 1), if Li.tells a then r.s.told.set k (r.s.told.getD k [] ++ [(Li.doM r.s.m k a c).2]) else r.s.told⟩, Li.lnDo r.l r.s.m k a, r.ends⟩ := by
    unfold Li.stepR
    rw [ha]
    show Li.Rn.mk (Li.stepS T r.s k c) _ _ = _
    unfold Li.stepS
    rw [ha1]
  rw [hstep]
  refine ⟨⟨⟨d.set k (d.getD k 0 + 1), ⟨hy.gm, hy.gl, hy.gd⟩, by rw [List.length_set]; exact hdl, fun i hi => ?_⟩, ⟨by have := hy.ge; show 0 ≤ y.1.2.2.2; rw [this]; exact hcr.1, by have := hy.ge; show y.1.2.2.2 ≤ _; rw [this]; have := hcr.2; omega⟩, hhs', by show (Li.lnDo _ _ _ _).st.length ≤ b + 1; omega, fun v hv => ?_⟩, hy.gw.1, hy.gw.2⟩
  · rcases List.mem_or_eq_of_mem_set hi with hi | hi
    · have := hdb i hi; omega
    · have := hdb _ (Li.getD_mem (d := 0) (show k < d.length by omega))
      omega
  · have hv : v ∈ (if Li.tells a = true then r.s.told.set k (r.s.told.getD k [] ++ [(Li.doM r.s.m k a c).2]) else r.s.told) := hv
    split at hv
    · rcases List.mem_or_eq_of_mem_set hv with hv | hv
      · exact ⟨Nat.le_succ_of_le (htl v hv).1, (htl v hv).2⟩
      · subst hv
        have := htl _ (Li.getD_mem (d := []) (show k < r.s.told.length by rw [ho.s.tl]; exact hk))
        refine ⟨by rw [List.length_append]; show _ + 1 ≤ b + 1; omega, fun w hw => ?_⟩
        rcases List.mem_append.1 hw with hw | hw
        · exact this.2 w hw
        · simp only [List.mem_singleton] at hw
          rw [hw, ← hy.gw.1]; exact hy.gw.2
    · exact ⟨Nat.le_succ_of_le (htl v hv).1, (htl v hv).2⟩
theorem mz_crash_spec (S : Store) (z : Mcx) (T : List (List Li.Act)) (r : Li.Rn) (b n : Nat) (hz : MzIs S z T r b) (ho : Li.okR n T r) (hn0 : 0 < n) (hn : n ≤ 8) (hT1 : 0 < T.length) (hT : T.length ≤ 8) (hb : b ≤ 10000) (c : Int) (hc : inI64 c) :
    Pure Tryz.prog 38 S [vMc z, .int .i64 c] (A := Mcx) rMc (fun S' y => MzIs S' y T (Li.crashR T r c) (b + 1)) := by
  have hf := mz_few hz ho hn hT hb
  obtain ⟨⟨d, hM, hdl, hdb⟩, hcr, hhs, hst, htl⟩ := hz
  have hcrs := zcrash_spec S z n r.s.m r.l d hM hf ho.l hn0 hn (by rw [ho.s.vl]; exact hT1) (by rw [ho.s.vl]; exact hT) (by rw [hdl, ho.s.vl]) (by omega) ⟨hcr.1, by have := hcr.2; omega⟩ c hc
  refine pure_as hcrs id (fun _ => rfl) fun S' y _ hy => ?_
  obtain ⟨hy1, hy2⟩ := hy
  rw [ho.s.vl] at hy1
  refine ⟨⟨d, hy1, hdl, fun i hi => Nat.le_succ_of_le (hdb i hi)⟩, ⟨by have h1 := hcr.1; show 0 ≤ y.2.2.2; omega, by have h1 := hcr.2; show y.2.2.2 ≤ ((b + 1 : Nat) : Int); omega⟩, fun h hh => ?_, Nat.zero_le _, fun ws hws => ⟨Nat.le_succ_of_le (htl ws hws).1, (htl ws hws).2⟩⟩
  obtain ⟨w, -, rfl⟩ := List.mem_map.1 hh
  show 1 ≤ b + 1 + 1; omega
theorem mz_words_spec (S : Store) (z : Mcx) (T : List (List Li.Act)) (r : Li.Rn) (b n : Nat) (hz : MzIs S z T r b) (ho : Li.okR n T r) (hn : n ≤ 8) (hT : T.length ≤ 8) (hb : b ≤ 10000) :
    Pure Tryz.prog 42 S [vMc z] (A := Hd) rSl (fun S' q => WsIs S' q (Li.lasts r.s.m)) := by
  have hf := mz_few hz ho hn hT hb
  obtain ⟨d, hM, -, -⟩ := hz.m
  exact words_spec S z n r.s.m hM.m hf hn
theorem runR_succ {T : List (List Li.Act)} {r : Li.Rn} {L : List Li.Pk} {m : Nat} {p : Li.Pk} (h : L[m]? = some p) : Li.runR T r (L.take (m + 1)) = Li.pickR T (Li.runR T r (L.take m)) p := by
  unfold Li.runR
  rw [List.take_add_one, h, List.foldl_append]; rfl
theorem stepR_none {T : List (List Li.Act)} {r : Li.Rn} {k : Nat} {c : Int} (h : Li.actR T r k = none) : Li.stepR T r k c = r := by unfold Li.stepR; rw [h]
theorem ends_set {r : Li.Rn} {k : Nat} (h : r.ends.length ≤ k) : Li.stopR r k = r := by
  unfold Li.stopR
  rw [List.set_eq_of_length_le h]
theorem ends_same {r : Li.Rn} {k : Nat} (h : r.ends[k]? = some true) : Li.stopR r k = r := by
  unfold Li.stopR
  have : r.ends.set k true = r.ends := by
    apply List.ext_getElem?
    intro j
    rw [List.getElem?_set]
    by_cases hj : k = j
    · subst hj
      rw [if_pos rfl, h]
      have := (List.getElem?_eq_some_iff.1 h).1
      rw [if_pos this]
    · rw [if_neg hj]
  rw [this]
end Go.Proofs.YtapblcfbmaikjaaGreatDoor
