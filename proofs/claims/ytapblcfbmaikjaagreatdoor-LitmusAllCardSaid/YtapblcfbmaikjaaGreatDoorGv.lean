/- law09: the reference's memory: Load (146), Look (148), answers (118). -/
import Derived.Test.YtapblcfbmaikjaaGreatDoorGs
namespace Go.Proofs.YtapblcfbmaikjaaGreatDoor
open Go Go.Vc Go.Sort Go.RowKit Go.Maps
set_option maxRecDepth 100000
set_option maxHeartbeats 8000000

theorem with_set {v : List Nat} {a i : Nat} (h : v.getD a 0 ≤ i) (ha : a < v.length) : Li.withV v a i = v.set a i := by
  unfold Li.withV
  split
  · have e : i = v[a] := by
      have : v.getD a 0 = v[a] := by rw [List.getD_eq_getElem?_getD, List.getElem?_eq_getElem ha]; rfl
      omega
    rw [e, List.set_getElem_self]
  · rfl
@[reducible] def rLd (x : Mm × Li.Wd) : SV := .tup [(true, cMem x.1), (true, cW x.2), (false, [.v (.int .i64 0)])]
/-- What the reference knows of a thread and of a place. -/
theorem rm_at {S : Store} {x : Mm} {m : Li.Mem} {n : Nat} (hx : RmIs S x m) (hf : fewM n m) {k a : Nat} (hk : k < m.vs.length) (ha : a < n) :
    ∃ (vp : Option Addr) (vc b1 o1 : Nat) (hp : Option Addr) (hc b2 o2 : Nat), x.1.1 = some ⟨b1, o1, none⟩ ∧ Shape.slice.ok ((vp, (Li.seen m k).length, vc) : Hd) ∧ S.rd b1 (o1 + k * Shape.slice.n) (Shape.slice.enc ((vp, (Li.seen m k).length, vc) : Hd)) ∧ DidIs S (vp, (Li.seen m k).length, vc) (Li.seen m k) ∧
      x.2.1 = some ⟨b2, o2, none⟩ ∧ Shape.slice.ok ((hp, (Li.hist m a).length, hc) : Hd) ∧ S.rd b2 (o2 + a * Shape.slice.n) (Shape.slice.enc ((hp, (Li.hist m a).length, hc) : Hd)) ∧ RhIs S (hp, (Li.hist m a).length, hc) (Li.hist m a) ∧ Li.okV m.ms (Li.seen m k) := by
  have hal : a < m.ms.length := by rw [hf.ok.len]; exact ha
  obtain ⟨⟨vp, vn, vc⟩, v, b1, o1, hv, hvd, e1, ok1, r1⟩ := hx.vs.at (i := k) hk
  obtain ⟨⟨hp, hn, hc⟩, h, b2, o2, hh, hhd, e2, ok2, r2⟩ := hx.ms.at (i := a) hal
  have ev : Li.seen m k = v := by unfold Li.seen; rw [List.getD_eq_getElem?_getD, hv]; rfl
  have eh : Li.hist m a = h := by unfold Li.hist; rw [List.getD_eq_getElem?_getD, hh]; rfl
  have hvn : vn = v.length := hvd.1
  have hhn : hn = h.length := hhd.len
  subst hvn hhn
  have hsv := Li.seen_ok hf.ok (t := k) hk
  rw [ev, eh]
  rw [ev] at hsv
  exact ⟨vp, vc, b1, o1, hp, hc, b2, o2, e1, ok1, r1, hvd, e2, ok2, r2, hhd, hsv⟩
theorem g_at {S : Store} {hp : Option Addr} {hc : Nat} {h : List Li.Msg} (hh : RhIs S (hp, h.length, hc) h) {i : Nat} (hi : i < h.length) :
    ∃ (gp : Option Addr) (gc b o : Nat), hp = some ⟨b, o, none⟩ ∧ shRg.ok (((h.getD i Li.dm).w, (gp, (h.getD i Li.dm).v.length, gc)) : Gx) ∧ S.rd b (o + i * shRg.n) (shRg.enc (((h.getD i Li.dm).w, (gp, (h.getD i Li.dm).v.length, gc)) : Gx)) ∧ DidIs S (gp, (h.getD i Li.dm).v.length, gc) (h.getD i Li.dm).v ∧ okW (h.getD i Li.dm).w := by
  obtain ⟨⟨w, ⟨gp, gn, gc⟩⟩, g, b, o, hg, ⟨hw, hwo, hgd⟩, e, ok, r⟩ := hh.at (i := i) hi
  have eg : h.getD i Li.dm = g := by rw [List.getD_eq_getElem?_getD, hg]; rfl
  have hw : w = g.w := hw
  have hgn : gn = g.v.length := hgd.1
  subst hw hgn
  rw [eg]
  exact ⟨gp, gc, b, o, e, ok, r, hgd, hwo⟩
theorem rload_spec (S : Store) (x : Mm) (m : Li.Mem) (n : Nat) (hx : RmIs S x m) (hf : fewM n m) (k a : Nat) (hk : k < m.vs.length) (ha : a < n) (j : Bool) (c : Int) (hc : inI64 c) :
    Pure Tryz.prog 146 S [vMem x, .int .i64 ((k : Int) + 1), .int .i64 (a : Int), .bool j, .int .i64 c] (A := Mm × Li.Wd) rLd (fun S' y => RmIs S' y.1 (Li.loadM m k a j c).1 ∧ y.2 = (Li.loadM m k a j c).2 ∧ okW y.2) := by
  have hn := hf.ok.len
  have hal : a < m.ms.length := by rw [hn]; exact ha
  have hn4 := hf.n4
  have hvs := hf.vs
  have hwr := rwrong_spec S x m hx k a hk hal
  have hkn := fun (S' : Store) (hS : S.le S') => rknow_spec S' x m (hx.le hS) hvs k hk
  obtain ⟨vp, vc, b1, o1, hp, hc', b2, o2, e1, ok1, r1, hvd, e2, ok2, r2, hhd, hsv⟩ := rm_at hx hf hk ha
  have hlt := hsv.2 a hal
  have hvl := hsv.1
  have hhl : (Li.hist m a).length ≤ 100000 := hf.hist ha
  have hlt : (Li.seen m k).getD a 0 < (Li.hist m a).length := hlt
  have hpk := Li.pick_lt c hlt
  obtain ⟨i, hi⟩ : ∃ i, i = Li.pickI (Li.hist m a).length ((Li.seen m k).getD a 0) c := ⟨_, rfl⟩
  rw [← hi] at hpk
  have hld : Li.loadM m k a j c = Li.finds m k a i j := by unfold Li.loadM; rw [hi]
  obtain ⟨gp, gc, b3, o3, e3, ok3, r3, hgd, hgw⟩ := g_at hhd hpk.1
  have hx1 := hx.vs.len
  have hx2 := hx.ms.len
  obtain ⟨⟨p, np, pc⟩, ⟨p2, np2, pc2⟩⟩ := x
  have hx1 : np = m.vs.length := hx1
  have hx2 : np2 = m.ms.length := hx2
  have e1 : p = some ⟨b1, o1, none⟩ := e1
  have e2 : p2 = some ⟨b2, o2, none⟩ := e2
  subst hx1 hx2
  have hav : a < (Li.seen m k).length := by rw [hvl]; exact hal
  have hgv : ((Li.seen m k).map fun i : Nat => (i : Int))[a]? = some (((Li.seen m k).getD a 0 : Nat) : Int) := by rw [List.getElem?_map, List.getD_eq_getElem?_getD, List.getElem?_eq_getElem hav]; rfl
  obtain ⟨b4, o4, e4, ok4, r4⟩ := row_at (sh := shI) hvd.2.2 hgv
  have hgl : ((Li.hist m a).getD i Li.dm).v.length = (Li.seen m k).length := by
    have := (hf.ok.msg _ (Li.getD_mem (d := []) hal) _ (Li.getD_mem (d := Li.dm) hpk.1)).1
    rw [hvl]; exact this
  have hws : Li.withV (Li.seen m k) a i = (Li.seen m k).set a i := with_set hpk.2 hav
  refine pure_vc agrees Tryz.func146 rfl rfl (fun S S' q hle h => ⟨h.1.le hle, h.2⟩) ?_
  refine ⟨⟨_, rfl, rfl, rfl⟩, .inl ⟨_, _, _, hwr, fun S1 _ h1 _ => onF ?_⟩⟩
  have kz : (0 : Int) ≤ (k : Int) := Int.natCast_nonneg _
  have az : (0 : Int) ≤ (a : Int) := Int.natCast_nonneg _
  have kl : (k : Int) < ((m.vs.length : Nat) : Int) := by omega
  have al : (a : Int) < ((m.ms.length : Nat) : Int) := by omega
  refine ⟨(k : Int), by rw [wrap_i64 (by omega) (by omega)]; omega, kz, kl, b1, o1, e1, ((vp, (Li.seen m k).length, vc) : Hd), ok1, Store.rd_le h1 r1, ?_⟩
  refine ⟨or146_5, [], oF146_5, by kernel_rfl, ?_⟩
  refine ⟨az, al, b2, o2, e2, ((hp, (Li.hist m a).length, hc') : Hd), ok2, Store.rd_le h1 r2, az, by show (a : Int) < (((Li.seen m k).length : Nat) : Int); omega, b4, o4, e4, (((Li.seen m k).getD a 0 : Nat) : Int), ok4, Store.rd_le h1 r4, ?_⟩
  refine ⟨⟨_, rfl, rfl, rfl⟩, .inl ⟨_, _, _, rchoose_spec S1 _ _ hlt (by omega) c hc, fun S2 _ h2 _ => ?_⟩⟩
  have h02 := Store.le_trans h1 h2
  rw [← hi]
  refine ⟨az, al, b2, o2, e2, ((hp, (Li.hist m a).length, hc') : Hd), ok2, Store.rd_le h02 r2, Int.natCast_nonneg _, by show (i : Int) < (((Li.hist m a).length : Nat) : Int); omega, b3, o3, e3, _, ok3, Store.rd_le h02 r3, ?_⟩
  refine ⟨⟨_, rfl, rfl, rfl⟩, .inl ⟨_, _, _, rwith_spec S2 (vp, (Li.seen m k).length, vc) (Li.seen m k) (hvd.le h02) (by omega) a i hav, fun S3 q3 h3 hq3 => ?_⟩⟩
  have h03 := Store.le_trans h02 h3
  obtain ⟨q31, q32, q33⟩ := q3
  have hw : Li.loadM m k a j c = (⟨m.ms, m.vs.set k (if j then Li.joinV ((Li.seen m k).set a i) ((Li.hist m a).getD i Li.dm).v else (Li.seen m k).set a i)⟩, ((Li.hist m a).getD i Li.dm).w) := by rw [hld]; unfold Li.finds; rw [hws]
  rw [hw]
  have hset : ((Li.seen m k).set a i).length = (Li.seen m k).length := List.length_set ..
  obtain ⟨gw, hgw0⟩ : ∃ gw, gw = ((Li.hist m a).getD i Li.dm).w := ⟨_, rfl⟩
  rw [← hgw0] at hgw ⊢
  rw [← hgw0] at ok3 r3
  cases j with
  | false =>
    refine onF ⟨or146_10, [1, 2], oF146_10, by kernel_rfl, ?_⟩
    repeat' (first
      | exact trivial
      | refine ⟨⟨_, rfl, rfl, rfl⟩, .inl ⟨_, _, _, hkn S3 h03 (q31, q32, q33) _ hq3, fun S4 y4 h4 hy4 => ?_⟩⟩
      | exact ⟨rfl, (_, gw), rfl, hy4, rfl, hgw⟩
      | refine And.intro ?_ ?_)
  | true =>
    refine onT ⟨⟨_, rfl, rfl, rfl⟩, .inl ⟨_, _, _, rjoin_spec S3 (q31, q32, q33) (gp, ((Li.hist m a).getD i Li.dm).v.length, gc) _ _ hq3 (hgd.le h03) (by rw [hset]; exact hgl) (by rw [hset]; omega), fun S5 q5 h5 hq5 => ?_⟩⟩
    obtain ⟨q51, q52, q53⟩ := q5
    have h05 := Store.le_trans h03 h5
    refine ⟨or146_10, [1, 2], oF146_10, by kernel_rfl, ?_⟩
    repeat' (first
      | exact trivial
      | refine ⟨⟨_, rfl, rfl, rfl⟩, .inl ⟨_, _, _, hkn S5 h05 (q51, q52, q53) _ hq5, fun S4 y4 h4 hy4 => ?_⟩⟩
      | exact ⟨rfl, (_, gw), rfl, hy4, rfl, hgw⟩
      | refine And.intro ?_ ?_)
theorem rlook_spec (S : Store) (x : Mm) (m : Li.Mem) (n : Nat) (hx : RmIs S x m) (hf : fewM n m) (k a : Nat) (hk : k < m.vs.length) (ha : a < n) :
    Pure Tryz.prog 148 S [vMem x, .int .i64 ((k : Int) + 1), .int .i64 (a : Int)] (A := Mm × Li.Wd) rLd (fun S' y => RmIs S' y.1 (Li.lookM m k a).1 ∧ y.2 = (Li.lookM m k a).2 ∧ okW y.2) := by
  have hn := hf.ok.len
  have hal : a < m.ms.length := by rw [hn]; exact ha
  have hn4 := hf.n4
  have hvs := hf.vs
  have hwr := rwrong_spec S x m hx k a hk hal
  have hkn := fun (S' : Store) (hS : S.le S') => rknow_spec S' x m (hx.le hS) hvs k hk
  obtain ⟨vp, vc, b1, o1, hp, hc', b2, o2, e1, ok1, r1, hvd, e2, ok2, r2, hhd, hsv⟩ := rm_at hx hf hk ha
  have hlt := hsv.2 a hal
  have hvl := hsv.1
  have hhl : (Li.hist m a).length ≤ 100000 := hf.hist ha
  have hlt : (Li.seen m k).getD a 0 < (Li.hist m a).length := hlt
  have hil : (Li.hist m a).length - 1 < (Li.hist m a).length := by omega
  obtain ⟨gp, gc, b3, o3, e3, ok3, r3, hgd, hgw⟩ := g_at hhd hil
  have hx1 := hx.vs.len
  have hx2 := hx.ms.len
  obtain ⟨⟨p, np, pc⟩, ⟨p2, np2, pc2⟩⟩ := x
  have hx1 : np = m.vs.length := hx1
  have hx2 : np2 = m.ms.length := hx2
  have e1 : p = some ⟨b1, o1, none⟩ := e1
  have e2 : p2 = some ⟨b2, o2, none⟩ := e2
  subst hx1 hx2
  have hav : a < (Li.seen m k).length := by rw [hvl]; exact hal
  have hgl : ((Li.hist m a).getD ((Li.hist m a).length - 1) Li.dm).v.length = (Li.seen m k).length := by
    have := (hf.ok.msg _ (Li.getD_mem (d := []) hal) _ (Li.getD_mem (d := Li.dm) hil)).1
    rw [hvl]; exact this
  have hws : Li.withV (Li.seen m k) a ((Li.hist m a).length - 1) = (Li.seen m k).set a ((Li.hist m a).length - 1) := with_set (by omega) hav
  have hw : Li.lookM m k a = (⟨m.ms, m.vs.set k (Li.joinV ((Li.seen m k).set a ((Li.hist m a).length - 1)) ((Li.hist m a).getD ((Li.hist m a).length - 1) Li.dm).v)⟩, ((Li.hist m a).getD ((Li.hist m a).length - 1) Li.dm).w) := by unfold Li.lookM Li.finds; rw [hws]; rfl
  rw [hw]
  have hset : ((Li.seen m k).set a ((Li.hist m a).length - 1)).length = (Li.seen m k).length := List.length_set ..
  refine pure_vc agrees Tryz.func148 rfl rfl (fun S S' q hle h => ⟨h.1.le hle, h.2⟩) ?_
  refine ⟨⟨_, rfl, rfl, rfl⟩, .inl ⟨_, _, _, hwr, fun S1 _ h1 _ => onF ?_⟩⟩
  have kz : (0 : Int) ≤ (k : Int) := Int.natCast_nonneg _
  have az : (0 : Int) ≤ (a : Int) := Int.natCast_nonneg _
  have kl : (k : Int) < ((m.vs.length : Nat) : Int) := by omega
  have al : (a : Int) < ((m.ms.length : Nat) : Int) := by omega
  have wH : IntKind.i64.wrap ((((Li.hist m a).length : Nat) : Int) - 1) = (((Li.hist m a).length - 1 : Nat) : Int) := by rw [wrap_i64 (by omega) (by omega)]; omega
  refine ⟨az, al, b2, o2, e2, ((hp, (Li.hist m a).length, hc') : Hd), ok2, Store.rd_le h1 r2, (((Li.hist m a).length - 1 : Nat) : Int), wH, ?_⟩
  refine ⟨az, al, b2, o2, e2, ((hp, (Li.hist m a).length, hc') : Hd), ok2, Store.rd_le h1 r2, Int.natCast_nonneg _, by show (((Li.hist m a).length - 1 : Nat) : Int) < (((Li.hist m a).length : Nat) : Int); omega, b3, o3, e3, _, ok3, Store.rd_le h1 r3, ?_⟩
  have wk1 : IntKind.i64.wrap ((k : Int) + 1 - 1) = (k : Int) := by rw [wrap_i64 (by omega) (by omega)]; omega
  refine ⟨or148_6, [1, 2], oF148_6, by kernel_rfl, ?_⟩
  refine ⟨(k : Int), wk1, kz, kl, b1, o1, e1, ((vp, (Li.seen m k).length, vc) : Hd), ok1, Store.rd_le h1 r1, ?_⟩
  obtain ⟨gw, hgw0⟩ : ∃ gw, gw = ((Li.hist m a).getD ((Li.hist m a).length - 1) Li.dm).w := ⟨_, rfl⟩
  rw [← hgw0] at hgw ⊢
  repeat' (first
    | exact trivial
    | refine ⟨⟨_, rfl, rfl, rfl⟩, .inl ⟨_, _, _, rwith_spec S1 (vp, (Li.seen m k).length, vc) (Li.seen m k) (hvd.le h1) (by omega) a ((Li.hist m a).length - 1) hav, fun S2 q2 h2 hq2 => ?_⟩⟩
    | refine ⟨⟨_, rfl, rfl, rfl⟩, .inl ⟨_, _, _, rjoin_spec S2 q2 (gp, ((Li.hist m a).getD ((Li.hist m a).length - 1) Li.dm).v.length, gc) _ _ hq2 ((hgd.le h1).le h2) (by rw [hset]; exact hgl) (by rw [hset]; omega), fun S5 q5 h5 hq5 => ?_⟩⟩
    | refine ⟨⟨_, rfl, rfl, rfl⟩, .inl ⟨_, _, _, hkn S5 (Store.le_trans h1 (Store.le_trans h2 h5)) q5 _ hq5, fun S4 y4 h4 hy4 => ?_⟩⟩
    | exact ⟨rfl, (_, gw), rfl, hy4, rfl, hgw⟩
    | refine And.intro ?_ ?_)
theorem answers_spec (S : Store) (op : Int) : Pure Tryz.prog 118 S [.int .i64 op] (A := Unit) (fun _ => rB (decide (op = 1) || decide (op = 2) || decide (op = 5) || decide (op = 6))) (fun _ _ => True) := by
  refine pure_vc agrees Tryz.func118 rfl rfl (fun S S' q hle h => h) ?_
  by_cases h1 : op = 1
  · refine onE (beq_iff_eq.2 h1) ?_
    repeat refine onT ?_
    refine ⟨rfl, (), ?_, trivial⟩
    rw [decide_eq_true h1]; rfl
  refine offE (beq_eq_false_iff_ne.2 h1) ?_
  by_cases h2 : op = 2
  · refine onE (beq_iff_eq.2 h2) ?_
    repeat refine onT ?_
    refine ⟨rfl, (), ?_, trivial⟩
    rw [decide_eq_false h1, decide_eq_true h2]; rfl
  refine offE (beq_eq_false_iff_ne.2 h2) ?_
  by_cases h3 : op = 5
  · refine onE (beq_iff_eq.2 h3) ?_
    repeat refine onT ?_
    refine ⟨rfl, (), ?_, trivial⟩
    rw [decide_eq_false h1, decide_eq_false h2, decide_eq_true h3]; rfl
  refine offE (beq_eq_false_iff_ne.2 h3) ⟨rfl, (), ?_, trivial⟩
  rw [decide_eq_false h1, decide_eq_false h2, decide_eq_false h3]
  show rB (decide (op = 6)) = rB (op == 6)
  by_cases h4 : op = 6
  · rw [decide_eq_true h4, beq_iff_eq.2 h4]
  · rw [decide_eq_false h4, beq_eq_false_iff_ne.2 h4]
end Go.Proofs.YtapblcfbmaikjaaGreatDoor
