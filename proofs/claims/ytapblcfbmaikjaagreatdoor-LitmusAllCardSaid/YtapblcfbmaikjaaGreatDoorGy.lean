/- law09: the reference's memory: Store (147), Swap (149), Do (117). -/
import Derived.Test.YtapblcfbmaikjaaGreatDoorGx
namespace Go.Proofs.YtapblcfbmaikjaaGreatDoor
open Go Go.Vc Go.Sort Go.RowKit Go.Maps
set_option maxRecDepth 100000
set_option maxHeartbeats 1000000

def or147_6x : Vc.Ord := (.op 1 (.op 4 (.op 5 (.calm 2 [2, 3, 6, 7, 9] (.alt 0 (.alt 3 (.alt 6 (.op 7 (.op 8 (.op 9 .done))) (.alt 8 (.op 6 (.op 7 (.op 9 .done))) .stop)) (.alt 8 (.op 3 (.op 6 (.op 7 (.op 9 .done)))) .stop)) (.alt 3 (.alt 0 (.alt 6 (.op 7 (.op 8 (.op 9 .done))) (.alt 8 (.op 6 (.op 7 (.op 9 .done))) .stop)) (.alt 6 (.calm 0 [0, 7, 9] (.op 7 (.op 8 (.op 9 .done)))) (.alt 8 (.alt 0 (.op 6 (.op 7 (.op 9 .done))) (.alt 6 (.calm 0 [0, 7, 9] (.op 7 (.op 9 .done))) .stop)) .stop))) (.alt 8 (.alt 0 (.op 3 (.op 6 (.op 7 (.op 9 .done)))) (.alt 3 (.alt 0 (.op 6 (.op 7 (.op 9 .done))) (.alt 6 (.calm 0 [0, 7, 9] (.op 7 (.op 9 .done))) .stop)) .stop)) .stop)))))))
def oF147_6x : List Nat := [0]
theorem rstore_spec (S : Store) (x : Mm) (m : Li.Mem) (n : Nat) (hx : RmIs S x m) (hf : fewM n m) (hn8 : n ≤ 8) (k a : Nat) (hk : k < m.vs.length) (ha : a < n) (w : Li.Wd) (hw : okW w) (whole : Bool) :
    Pure Tryz.prog 147 S [vMem x, .int .i64 ((k : Int) + 1), .int .i64 (a : Int), vW w, .bool whole] (A := Mm) rME (fun S' y => RmIs S' y (Li.addsM m k a w whole)) := by
  have hn := hf.ok.len
  have hal : a < m.ms.length := by rw [hn]; exact ha
  have hn4 := hf.n4
  have hvs := hf.vs
  have hwr := rwrong_spec S x m hx k a hk hal
  have hkn := fun (S' : Store) (hS : S.le S') => rknow_spec S' x m (hx.le hS) hvs k hk
  obtain ⟨vp, vc, b1, o1, hp, hc', b2, o2, e1, ok1, r1, hvd, e2, ok2, r2, hhd, hsv⟩ := rm_at hx hf hk ha
  have hlt := hsv.2 a hal
  have hvl := hsv.1
  have hhl : (Li.hist m a).length ≤ 100000 := hf.hist ha
  have hlt : (Li.seen m k).getD a 0 < (Li.hist m a).length := hlt
  have hx1 := hx.vs.len
  have hx2 := hx.ms.len
  obtain ⟨⟨p, np, pc⟩, ⟨p2, np2, pc2⟩⟩ := x
  have hx1 : np = m.vs.length := hx1
  have hx2 : np2 = m.ms.length := hx2
  have e1 : p = some ⟨b1, o1, none⟩ := e1
  have e2 : p2 = some ⟨b2, o2, none⟩ := e2
  subst hx1 hx2
  have hav : a < (Li.seen m k).length := by rw [hvl]; exact hal
  have hws : Li.withV (Li.seen m k) a (Li.hist m a).length = (Li.seen m k).set a (Li.hist m a).length := with_set (by omega) hav
  have hwz : Li.withV (List.replicate m.ms.length 0) a (Li.hist m a).length = (List.replicate m.ms.length 0).set a (Li.hist m a).length := with_set (by rw [List.getD_eq_getElem?_getD, List.getElem?_replicate, if_pos hal]; exact Nat.zero_le _) (by rw [List.length_replicate]; exact hal)
  have hadd : Li.addsM m k a w whole = ⟨m.ms.set a (Li.hist m a ++ [⟨w, if whole then (Li.seen m k).set a (Li.hist m a).length else (List.replicate m.ms.length 0).set a (Li.hist m a).length⟩]), m.vs.set k ((Li.seen m k).set a (Li.hist m a).length)⟩ := by unfold Li.addsM; rw [hws, hwz]
  rw [hadd]
  have hset : ((Li.seen m k).set a (Li.hist m a).length).length = m.ms.length := by rw [List.length_set]; exact hvl
  obtain ⟨w1, w2, w3⟩ := w
  refine pure_vc agrees Tryz.func147 rfl rfl (fun S S' q hle h => h.le hle) ?_
  refine ⟨⟨_, rfl, rfl, rfl⟩, .inl ⟨_, _, _, hwr, fun S1 _ h1 _ => onF ?_⟩⟩
  have kz : (0 : Int) ≤ (k : Int) := Int.natCast_nonneg _
  have az : (0 : Int) ≤ (a : Int) := Int.natCast_nonneg _
  have kl : (k : Int) < ((m.vs.length : Nat) : Int) := by omega
  have al : (a : Int) < ((m.ms.length : Nat) : Int) := by omega
  refine ⟨az, al, b2, o2, e2, ((hp, (Li.hist m a).length, hc') : Hd), ok2, Store.rd_le h1 r2, ?_⟩
  refine ⟨(k : Int), by rw [wrap_i64 (by omega) (by omega)]; omega, kz, kl, b1, o1, e1, ((vp, (Li.seen m k).length, vc) : Hd), ok1, Store.rd_le h1 r1, ?_⟩
  refine ⟨⟨_, rfl, rfl, rfl⟩, .inl ⟨_, _, _, rwith_spec S1 (vp, (Li.seen m k).length, vc) (Li.seen m k) (hvd.le h1) (by omega) a (Li.hist m a).length hav, fun S3 q3 h3 hq3 => ?_⟩⟩
  have h03 := Store.le_trans h1 h3
  obtain ⟨q31, q32, q33⟩ := q3
  have q3l : q32 = m.ms.length := by have := hq3.1; rw [List.length_set, hvl] at this; exact this
  subst q3l
  have hq3 : DidIs S3 (q31, m.ms.length, q33) ((Li.seen m k).set a (Li.hist m a).length) := hq3
  have hzl : (List.replicate m.ms.length 0).length = m.ms.length := List.length_replicate ..
  have hz : ∀ (S5 : Store) (p5 : Option Addr) (c5 : Nat), RowRd S5 p5 shI (List.replicate m.ms.length (0 : Int)) → PForm p5 (List.replicate m.ms.length (0 : Int)).length c5 → DidIs S5 (p5, (List.replicate m.ms.length (0 : Int)).length, c5) (List.replicate m.ms.length 0) := fun S5 p5 c5 r5 f5 => by
    have hc := pform_le f5
    rw [List.length_replicate] at hc
    exact ⟨by rw [List.length_replicate, List.length_replicate], by rw [List.length_replicate]; exact hc, by rw [List.map_replicate]; exact r5⟩
  refine ⟨or147_6x, [3, 4], oF147_6x, by kernel_rfl, ?_⟩
  have mk8 : (8 : Int) * (m.ms.length : Int) ≤ 140737488355328 := by omega
  have mk1 : (m.ms.length : Int) ≤ 140737488355328 := by omega
  have fin : ∀ (S6 S7 S8 : Store) (q6 : Hd) (y7 y8 : Mm) (v : List Nat), S6.le S7 → S7.le S8 → RmIs S8 y8 ⟨m.ms.set a (Li.hist m a ++ [⟨(w1, w2, w3), v⟩]), m.vs.set k ((Li.seen m k).set a (Li.hist m a).length)⟩ → v = (if whole then (Li.seen m k).set a (Li.hist m a).length else (List.replicate m.ms.length 0).set a (Li.hist m a).length) → RmIs S8 y8 ⟨m.ms.set a (Li.hist m a ++ [⟨(w1, w2, w3), if whole then (Li.seen m k).set a (Li.hist m a).length else (List.replicate m.ms.length 0).set a (Li.hist m a).length⟩]), m.vs.set k ((Li.seen m k).set a (Li.hist m a).length)⟩ := fun S6 S7 S8 q6 y7 y8 v _ _ h e => by rw [← e]; exact h
  repeat' (first
    | exact trivial
    | refine ⟨Int.natCast_nonneg _, Int.le_refl _, mk8, mk1, ?_⟩
    | refine ⟨⟨_, rfl, rfl, rfl⟩, .inl fun p5 c5 S5 hS5 hr5 hpf5 => ⟨_, _, _, rwith_spec S5 (p5, (List.replicate m.ms.length (0 : Int)).length, c5) (List.replicate m.ms.length 0) (hz S5 p5 c5 hr5 hpf5.1) (by rw [hzl]; omega) a (Li.hist m a).length (by rw [hzl]; exact hal), fun S6 q6 h6 hq6 => ?_⟩⟩
    | refine And.intro ?_ ?_)
  all_goals
    have h06 := Store.le_trans h03 (Store.le_trans hS5 h6)
    have h36 := Store.le_trans hS5 h6
    obtain ⟨q61, q62, q63⟩ := q6
    have hget : Li.hist (⟨m.ms, m.vs.set k ((Li.seen m k).set a (Li.hist m a).length)⟩ : Li.Mem) a = Li.hist m a := rfl
    have hgF := fun (S7 : Store) (y7 : Mm) (h7 : S6.le S7) (hy7 : RmIs S7 y7 ⟨m.ms, m.vs.set k ((Li.seen m k).set a (Li.hist m a).length)⟩) => radd_spec S7 y7 _ hy7 (by show m.ms.length ≤ 1000; omega) a hal (by rw [hget]; exact hhl) (((w1, w2, w3), (q61, q62, q63)) : Gx) ⟨(w1, w2, w3), (List.replicate m.ms.length 0).set a (Li.hist m a).length⟩ ⟨rfl, hw, hq6.le h7⟩
    have hgT := fun (S7 : Store) (y7 : Mm) (h7 : S6.le S7) (hy7 : RmIs S7 y7 ⟨m.ms, m.vs.set k ((Li.seen m k).set a (Li.hist m a).length)⟩) => radd_spec S7 y7 _ hy7 (by show m.ms.length ≤ 1000; omega) a hal (by rw [hget]; exact hhl) (((w1, w2, w3), (q31, m.ms.length, q33)) : Gx) ⟨(w1, w2, w3), (Li.seen m k).set a (Li.hist m a).length⟩ ⟨rfl, hw, (hq3.le h36).le h7⟩
    have hknS := hkn S6 h06 (q31, m.ms.length, q33) _ (hq3.le h36)
    intro hwh
    first
    | have hwt : whole = true := hwh
      subst hwt
      refine ⟨or147_9, [2], oF147_9, by kernel_rfl, ?_⟩
      refine ⟨⟨_, rfl, rfl, rfl⟩, .inl ⟨_, _, _, hknS, fun S7 y7 h7 hy7 => ?_⟩⟩
      refine ⟨⟨_, rfl, rfl, rfl⟩, .inl ⟨_, _, _, hgT S7 y7 h7 hy7, fun S8 y8 h8 hy8 => ?_⟩⟩
      exact ⟨rfl, y8, rfl, hy8⟩
    | have hwt : whole = false := hwh
      subst hwt
      refine ⟨or147_9, [2], oF147_9, by kernel_rfl, ?_⟩
      refine ⟨⟨_, rfl, rfl, rfl⟩, .inl ⟨_, _, _, hknS, fun S7 y7 h7 hy7 => ?_⟩⟩
      refine ⟨⟨_, rfl, rfl, rfl⟩, .inl ⟨_, _, _, hgF S7 y7 h7 hy7, fun S8 y8 h8 hy8 => ?_⟩⟩
      exact ⟨rfl, y8, rfl, hy8⟩
def RsPost (m : Li.Mem) (k a : Nat) (old new : Li.Wd) (S' : Store) (y : Mm × Li.Wd × Bool) : Prop := RmIs S' y.1 (Li.swapM m k a old new).1 ∧ y.2.1 = (Li.swapM m k a old new).2 ∧ okW y.2.1
theorem RsPost.le {S S' : Store} (h : S.le S') {m k a old new y} (hx : RsPost m k a old new S y) : RsPost m k a old new S' y := ⟨hx.1.le h, hx.2⟩
theorem word_eq (w1 w2 w3 o1 o2 o3 : Int) : (!((w1 == o1) && ((w2 == o2) && ((w3 == o3) && true)))) = !decide ((w1, w2, w3) = (o1, o2, o3)) := by
  have : ((w1 == o1) && ((w2 == o2) && ((w3 == o3) && true))) = decide ((w1, w2, w3) = (o1, o2, o3)) := by
    by_cases q : (w1, w2, w3) = (o1, o2, o3)
    · have e1 : w1 = o1 := congrArg Prod.fst q
      have e2 : w2 = o2 := congrArg (fun z : Li.Wd => z.2.1) q
      have e3 : w3 = o3 := congrArg (fun z : Li.Wd => z.2.2) q
      rw [decide_eq_true q, beq_iff_eq.2 e1, beq_iff_eq.2 e2, beq_iff_eq.2 e3]; rfl
    · rw [decide_eq_false q]
      refine Bool.eq_false_iff.2 fun z => q ?_
      rw [Bool.and_eq_true, Bool.and_eq_true, Bool.and_eq_true] at z
      rw [beq_iff_eq.1 z.1, beq_iff_eq.1 z.2.1, beq_iff_eq.1 z.2.2.1]
  rw [this]
theorem rswap_spec (S : Store) (x : Mm) (m : Li.Mem) (n : Nat) (hx : RmIs S x m) (hf : fewM n m) (hn8 : n ≤ 8) (k a : Nat) (hk : k < m.vs.length) (ha : a < n) (old new : Li.Wd) (hw : okW new) :
    Pure Tryz.prog 149 S [vMem x, .int .i64 ((k : Int) + 1), .int .i64 (a : Int), vW old, vW new] (A := Mm × Li.Wd × Bool) rMWBE (fun S' y => RsPost m k a old new S' y) := by
  have hpos := Li.hist_pos hf.ok ha
  have hn4 := hf.n4
  have hn := hf.ok.len
  have hal : a < m.ms.length := by rw [hn]; exact ha
  have hf2 : fewM n (Li.lookM m k a).1 := few_finds hf hk ha (by omega) true
  have hk2 : k < (Li.lookM m k a).1.vs.length := by rw [(Li.look_ok hf.ok hk ha).2]; exact hk
  have hlk := rlook_spec S x m n hx hf k a hk ha
  have hms : (Li.lookM m k a).1.ms = m.ms := rfl
  have hhl : (Li.hist m a).length ≤ 100000 := hf.hist ha
  obtain ⟨vp0, vc0, b10, o10, hp, hc', b2, o2, e10, ok10, r10, hvd0, e2, ok2, r2, hhd, hsv0⟩ := rm_at hx hf hk ha
  have hx2 := hx.ms.len
  have hv2 := hf2.vs
  obtain ⟨⟨p, np, pc⟩, ⟨p2, np2, pc2⟩⟩ := x
  have hx2 : np2 = m.ms.length := hx2
  have e2 : p2 = some ⟨b2, o2, none⟩ := e2
  subst hx2
  obtain ⟨q1, q2, q3⟩ := old
  obtain ⟨n1, n2, n3⟩ := new
  refine pure_vc agrees Tryz.func149 rfl rfl (fun S S' q hle h => h.le hle) ?_
  refine ⟨⟨_, rfl, rfl, rfl⟩, .inl ⟨_, _, _, hlk, fun S1 z hS1 hz => offE rfl ?_⟩⟩
  obtain ⟨z1, w1, w2, w3⟩ := z
  obtain ⟨hz1, hz2, hz3⟩ := hz
  have hz1 : RmIs S1 z1 (Li.lookM m k a).1 := hz1
  have hz2 : (w1, w2, w3) = (Li.lookM m k a).2 := hz2
  have hz3 : okW (w1, w2, w3) := hz3
  have hb := word_eq w1 w2 w3 q1 q2 q3
  by_cases heq : (w1, w2, w3) = (q1, q2, q3)
  · have hold : (Li.lookM m k a).2 = (q1, q2, q3) := hz2.symm.trans heq
    have hsw : Li.swapM m k a (q1, q2, q3) (n1, n2, n3) = (Li.addsM (Li.lookM m k a).1 k a (n1, n2, n3) true, (Li.lookM m k a).2) := by unfold Li.swapM; rw [if_pos hold]
    obtain ⟨vp, vc, b1, o1, hp', hc2, b3, o3, e1, ok1, r1, hvd, e3, ok3, r3, hhd2, hsv⟩ := rm_at hz1 hf2 hk2 ha
    have hkn := fun (S' : Store) (hS : S1.le S') => rknow_spec S' z1 (Li.lookM m k a).1 (hz1.le hS) hv2 k hk2
    obtain ⟨m2, hm2⟩ : ∃ m2, m2 = (Li.lookM m k a).1 := ⟨_, rfl⟩
    rw [← hm2] at hf2 hk2 hms hz1 hsw ok1 r1 hvd hsv hkn hv2
    have hh2 : Li.hist m2 a = Li.hist m a := by unfold Li.hist; rw [hms]
    have hlt := hsv.2 a (by rw [hms]; exact hal)
    have hlt : (Li.seen m2 k).getD a 0 < (Li.hist m2 a).length := hlt
    have hvl : (Li.seen m2 k).length = m.ms.length := by rw [hsv.1, hms]
    have hav : a < (Li.seen m2 k).length := by rw [hvl]; exact hal
    have hws : Li.withV (Li.seen m2 k) a (Li.hist m2 a).length = (Li.seen m2 k).set a (Li.hist m2 a).length := with_set (by omega) hav
    have hadd : Li.addsM m2 k a (n1, n2, n3) true = ⟨m2.ms.set a (Li.hist m2 a ++ [⟨(n1, n2, n3), (Li.seen m2 k).set a (Li.hist m2 a).length⟩]), m2.vs.set k ((Li.seen m2 k).set a (Li.hist m2 a).length)⟩ := by unfold Li.addsM; rw [hws]; rfl
    have hz11 := hz1.vs.len
    obtain ⟨⟨y1, y2, y3⟩, ⟨y4, y5, y6⟩⟩ := z1
    have hz11 : y2 = m2.vs.length := hz11
    have e1 : y1 = some ⟨b1, o1, none⟩ := e1
    subst hz11
    have kz : (0 : Int) ≤ (k : Int) := Int.natCast_nonneg _
    have az : (0 : Int) ≤ (a : Int) := Int.natCast_nonneg _
    have kl : (k : Int) < ((m2.vs.length : Nat) : Int) := by omega
    have al : (a : Int) < ((m.ms.length : Nat) : Int) := by omega
    refine offE (hb.trans (by rw [decide_eq_true heq]; rfl)) ?_
    refine ⟨az, al, b2, o2, e2, ((hp, (Li.hist m a).length, hc') : Hd), ok2, Store.rd_le hS1 r2, ?_⟩
    refine ⟨(k : Int), by rw [wrap_i64 (by omega) (by omega)]; omega, kz, kl, b1, o1, e1, ((vp, (Li.seen m2 k).length, vc) : Hd), ok1, r1, ?_⟩
    refine ⟨⟨_, rfl, rfl, rfl⟩, .inl ⟨_, _, _, rwith_spec S1 (vp, (Li.seen m2 k).length, vc) (Li.seen m2 k) hvd (by omega) a (Li.hist m a).length hav, fun S3 q3 h3 hq3 => ?_⟩⟩
    obtain ⟨q31, q32, q33⟩ := q3
    have fin : ∀ (S8 : Store) (y8 : Mm), RmIs S8 y8 ⟨m2.ms.set a (Li.hist m2 a ++ [⟨(n1, n2, n3), (Li.seen m2 k).set a (Li.hist m a).length⟩]), m2.vs.set k ((Li.seen m2 k).set a (Li.hist m a).length)⟩ → RsPost m k a (q1, q2, q3) (n1, n2, n3) S8 (y8, (w1, w2, w3), true) := fun S8 y8 hy8 => by
      refine ⟨?_, by rw [hsw]; exact hz2, hz3⟩
      rw [hsw]
      show RmIs S8 y8 (Li.addsM m2 k a (n1, n2, n3) true)
      rw [hadd, hh2]
      rw [hh2] at hy8
      exact hy8
    have hms5 : (⟨m2.ms, m2.vs.set k ((Li.seen m2 k).set a (Li.hist m a).length)⟩ : Li.Mem).ms.length ≤ 1000 := by show m2.ms.length ≤ 1000; rw [hms]; omega
    have hal5 : a < (⟨m2.ms, m2.vs.set k ((Li.seen m2 k).set a (Li.hist m a).length)⟩ : Li.Mem).ms.length := by show a < m2.ms.length; rw [hms]; exact hal
    have hhl5 : (Li.hist (⟨m2.ms, m2.vs.set k ((Li.seen m2 k).set a (Li.hist m a).length)⟩ : Li.Mem) a).length ≤ 100000 := by show (Li.hist m2 a).length ≤ 100000; rw [hh2]; exact hhl
    have had := fun (S4 : Store) (y4 : Mm) (h4 : S3.le S4) (hy4 : RmIs S4 y4 ⟨m2.ms, m2.vs.set k ((Li.seen m2 k).set a (Li.hist m a).length)⟩) => radd_spec S4 y4 _ hy4 hms5 a hal5 hhl5 (((n1, n2, n3), (q31, q32, q33)) : Gx) ⟨(n1, n2, n3), (Li.seen m2 k).set a (Li.hist m a).length⟩ ⟨rfl, hw, hq3.le h4⟩
    refine ⟨or149_6, [3, 4], oF149_6, by kernel_rfl, ?_⟩
    repeat' (first
      | exact trivial
      | refine ⟨⟨_, rfl, rfl, rfl⟩, .inl ⟨_, _, _, hkn S3 h3 (q31, q32, q33) _ hq3, fun S4 y4 h4 hy4 => ?_⟩⟩
      | refine ⟨⟨_, rfl, rfl, rfl⟩, .inl ⟨_, _, _, had S4 y4 h4 hy4, fun S8 y8 h8 hy8 => ?_⟩⟩
      | exact ⟨rfl, (y8, (w1, w2, w3), true), rfl, fin S8 y8 hy8⟩
      | refine And.intro ?_ ?_)
  · have hold : ¬ (Li.lookM m k a).2 = (q1, q2, q3) := fun q => heq (hz2.trans q)
    have hsw : Li.swapM m k a (q1, q2, q3) (n1, n2, n3) = Li.lookM m k a := by unfold Li.swapM; rw [if_neg hold]
    have fin : RsPost m k a (q1, q2, q3) (n1, n2, n3) S1 (z1, (w1, w2, w3), false) := ⟨by rw [hsw]; exact hz1, by rw [hsw]; exact hz2, hz3⟩
    refine onE (hb.trans (by rw [decide_eq_false heq]; rfl)) ⟨or149_3, [3, 4], oF149_3, by kernel_rfl, ?_⟩
    exact And.intro ⟨rfl, (z1, (w1, w2, w3), false), rfl, fin⟩ (And.intro ⟨rfl, (z1, (w1, w2, w3), false), rfl, fin⟩ trivial)
def RdPost (m : Li.Mem) (k : Nat) (a : Li.Act) (c : Int) (S' : Store) (y : Mm × Li.Wd × Bool) : Prop := RmIs S' y.1 (Li.doM m k a c).1 ∧ y.2.1 = (Li.doM m k a c).2 ∧ okW y.2.1
theorem RdPost.le {S S' : Store} (h : S.le S') {m k a c y} (hx : RdPost m k a c S y) : RdPost m k a c S' y := ⟨hx.1.le h, hx.2⟩
theorem rdo_spec (S : Store) (x : Mm) (m : Li.Mem) (n : Nat) (hx : RmIs S x m) (hf : fewM n m) (hn8 : n ≤ 8) (k : Nat) (hk : k < m.vs.length) (a : Li.Act) (hw : okW a.new) (ha : Li.okA n a) (c : Int) (hc : inI64 c) :
    Pure Tryz.prog 117 S [vMem x, .int .i64 ((k : Int) + 1), vAct a, .int .i64 c] (A := Mm × Li.Wd × Bool) rMWBE (fun S' y => RdPost m k a c S' y) := by
  obtain ⟨h0, h8, hloc⟩ := ha
  have hld := fun (lo : Nat) (hlt : lo < n) j => rload_spec S x m n hx hf k lo hk hlt j c hc
  have hlk := fun (lo : Nat) (hlt : lo < n) => rlook_spec S x m n hx hf k lo hk hlt
  have hst := fun (lo : Nat) (hlt : lo < n) j => rstore_spec S x m n hx hf hn8 k lo hk hlt a.new hw j
  have hsw := fun (lo : Nat) (hlt : lo < n) => rswap_spec S x m n hx hf hn8 k lo hk hlt a.old a.new hw
  obtain ⟨⟨p, np, c1⟩, ⟨p2, n2, c2⟩⟩ := x
  obtain ⟨o, l, ⟨o1, o2, o3⟩, ⟨n1, n2', n3⟩⟩ := a
  refine pure_vc agrees Tryz.func117 rfl rfl (fun S S' q hle h => h.le hle) ?_
  have ho : o = 0 ∨ o = 1 ∨ o = 2 ∨ o = 3 ∨ o = 4 ∨ o = 5 ∨ o = 6 ∨ o = 7 ∨ o = 8 := by
    have h0 : 0 ≤ o := h0
    have h8 : o ≤ 8 := h8
    omega
  have rest : (o = 0 ∨ o = 7 ∨ o = 8) → RdPost m k ⟨o, l, (o1, o2, o3), (n1, n2', n3)⟩ c S (((p, np, c1), (p2, n2, c2)), (0, 0, 0), false) := fun h => by
    have : Li.doM m k ⟨o, l, (o1, o2, o3), (n1, n2', n3)⟩ c = (m, (0, 0, 0)) := by rcases h with e | e | e <;> subst e <;> rfl
    unfold RdPost; rw [this]; exact ⟨hx, rfl, okW_0⟩
  rcases ho with e | e | e | e | e | e | e | e | e
  · subst e
    exact offE rfl (offE rfl (offE rfl (offE rfl (offE rfl (offE rfl ⟨rfl, (((p, np, c1), (p2, n2, c2)), (0, 0, 0), false), rfl, rest (.inl rfl)⟩)))))
  · obtain ⟨lo, hlo⟩ : ∃ lo : Nat, l = (lo : Int) := ⟨l.toNat, by have := (hloc (by show o ≠ 0; omega) (by show o ≠ 8; omega)).1; have this : 0 ≤ l := this; omega⟩
    have hlt : lo < n := by have := (hloc (by show o ≠ 0; omega) (by show o ≠ 8; omega)).2; have this : l < (n : Int) := this; omega
    subst e hlo
    refine onE rfl (onT ⟨⟨_, rfl, rfl, rfl⟩, .inl ⟨_, _, _, hld lo hlt false, fun S1 z hS1 hz => ?_⟩⟩)
    refine ⟨or117_5, [2, 3], oF117_5, by kernel_rfl, ?_⟩
    exact And.intro ⟨rfl, (z.1, z.2, true), rfl, hz⟩ (And.intro ⟨rfl, (z.1, z.2, true), rfl, hz⟩ trivial)
  · obtain ⟨lo, hlo⟩ : ∃ lo : Nat, l = (lo : Int) := ⟨l.toNat, by have := (hloc (by show o ≠ 0; omega) (by show o ≠ 8; omega)).1; have this : 0 ≤ l := this; omega⟩
    have hlt : lo < n := by have := (hloc (by show o ≠ 0; omega) (by show o ≠ 8; omega)).2; have this : l < (n : Int) := this; omega
    subst e hlo
    refine offE rfl (onE rfl ⟨⟨_, rfl, rfl, rfl⟩, .inl ⟨_, _, _, hld lo hlt true, fun S1 z hS1 hz => ?_⟩⟩)
    refine ⟨or117_5, [2, 3], oF117_5, by kernel_rfl, ?_⟩
    exact And.intro ⟨rfl, (z.1, z.2, true), rfl, hz⟩ (And.intro ⟨rfl, (z.1, z.2, true), rfl, hz⟩ trivial)
  · obtain ⟨lo, hlo⟩ : ∃ lo : Nat, l = (lo : Int) := ⟨l.toNat, by have := (hloc (by show o ≠ 0; omega) (by show o ≠ 8; omega)).1; have this : 0 ≤ l := this; omega⟩
    have hlt : lo < n := by have := (hloc (by show o ≠ 0; omega) (by show o ≠ 8; omega)).2; have this : l < (n : Int) := this; omega
    subst e hlo
    refine offE rfl (offE rfl (onE rfl (onT ⟨⟨_, rfl, rfl, rfl⟩, .inl ⟨_, _, _, hst lo hlt false, fun S1 z hS1 hz => ?_⟩⟩)))
    exact ⟨rfl, (z, (0, 0, 0), true), rfl, hz, rfl, okW_0⟩
  · obtain ⟨lo, hlo⟩ : ∃ lo : Nat, l = (lo : Int) := ⟨l.toNat, by have := (hloc (by show o ≠ 0; omega) (by show o ≠ 8; omega)).1; have this : 0 ≤ l := this; omega⟩
    have hlt : lo < n := by have := (hloc (by show o ≠ 0; omega) (by show o ≠ 8; omega)).2; have this : l < (n : Int) := this; omega
    subst e hlo
    refine offE rfl (offE rfl (offE rfl (onE rfl ⟨⟨_, rfl, rfl, rfl⟩, .inl ⟨_, _, _, hst lo hlt true, fun S1 z hS1 hz => ?_⟩⟩)))
    exact ⟨rfl, (z, (0, 0, 0), true), rfl, hz, rfl, okW_0⟩
  · obtain ⟨lo, hlo⟩ : ∃ lo : Nat, l = (lo : Int) := ⟨l.toNat, by have := (hloc (by show o ≠ 0; omega) (by show o ≠ 8; omega)).1; have this : 0 ≤ l := this; omega⟩
    have hlt : lo < n := by have := (hloc (by show o ≠ 0; omega) (by show o ≠ 8; omega)).2; have this : l < (n : Int) := this; omega
    subst e hlo
    refine offE rfl (offE rfl (offE rfl (offE rfl (onE rfl ⟨⟨_, rfl, rfl, rfl⟩, .inl ⟨_, _, _, hlk lo hlt, fun S1 z hS1 hz => ?_⟩⟩))))
    refine ⟨or117_12, [2, 3], oF117_12, by kernel_rfl, ?_⟩
    exact And.intro ⟨rfl, (z.1, z.2, true), rfl, hz⟩ (And.intro ⟨rfl, (z.1, z.2, true), rfl, hz⟩ trivial)
  · obtain ⟨lo, hlo⟩ : ∃ lo : Nat, l = (lo : Int) := ⟨l.toNat, by have := (hloc (by show o ≠ 0; omega) (by show o ≠ 8; omega)).1; have this : 0 ≤ l := this; omega⟩
    have hlt : lo < n := by have := (hloc (by show o ≠ 0; omega) (by show o ≠ 8; omega)).2; have this : l < (n : Int) := this; omega
    subst e hlo
    refine offE rfl (offE rfl (offE rfl (offE rfl (offE rfl (onE rfl ⟨⟨_, rfl, rfl, rfl⟩, .inl ⟨_, _, _, hsw lo hlt, fun S1 z hS1 hz => ?_⟩⟩)))))
    exact ⟨rfl, z, rfl, hz⟩
  · subst e
    exact offE rfl (offE rfl (offE rfl (offE rfl (offE rfl (offE rfl ⟨rfl, (((p, np, c1), (p2, n2, c2)), (0, 0, 0), false), rfl, rest (.inr (.inl rfl))⟩)))))
  · subst e
    exact offE rfl (offE rfl (offE rfl (offE rfl (offE rfl (offE rfl ⟨rfl, (((p, np, c1), (p2, n2, c2)), (0, 0, 0), false), rfl, rest (.inr (.inr rfl))⟩)))))
end Go.Proofs.YtapblcfbmaikjaaGreatDoor
