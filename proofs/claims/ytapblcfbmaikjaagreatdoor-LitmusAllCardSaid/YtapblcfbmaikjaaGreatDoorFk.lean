/- law09: the machine: Size, Memory, Word, check. the machine: read, write. the machine: Do. the lines: Mix. the machine: Words. -/
import Derived.Test.YtapblcfbmaikjaaGreatDoorFh
namespace Go.Proofs.YtapblcfbmaikjaaGreatDoor
open Go Go.Vc Go.Sort Go.RowKit Go.Maps
set_option maxRecDepth 100000
set_option maxHeartbeats 8000000

@[reducible] def shB : Shape := .bool
abbrev Mcx := Mm × Lx × Hd × Int
@[reducible] def vMc (x : Mcx) : Value := .agg #[slV x.1.1, slV x.1.2, slV x.2.1.1, slV x.2.1.2.1, .map x.2.1.2.2, slV x.2.2.1, .int .i64 x.2.2.2]
@[reducible] def cMc (x : Mcx) : List C := [.v (slV x.1.1), .v (slV x.1.2), .v (slV x.2.1.1), .v (slV x.2.1.2.1), .v (.map x.2.1.2.2), .v (slV x.2.2.1), .v (.int .i64 x.2.2.2)]
theorem zsize_spec (S : Store) (x : Mcx) (m : Li.Mem) (hx : MemIs S x.1 m) : Pure Tryz.prog 66 S [vMc x] (A := Unit) (fun _ => .tup [(false, [.v (.int .i64 (m.vs.length : Nat))]), (false, [.v (.int .i64 (m.ms.length : Nat))])]) (fun _ _ => True) := by
  obtain ⟨⟨⟨p, n, c⟩, ⟨p2, n2, c2⟩⟩, y⟩ := x
  refine pure_vc agrees Tryz.func66 rfl rfl (fun S S' q hle h => h) ?_
  refine ⟨⟨_, rfl, rfl, rfl⟩, .inl ⟨_, _, _, size_spec S _ m hx, fun S1 _ hS1 _ => ?_⟩⟩
  exact ⟨rfl, (), rfl, trivial⟩
theorem zmem_spec (S : Store) (x : Mcx) : Pure Tryz.prog 81 S [vMc x] (A := Unit) (fun _ => rMem x.1) (fun _ _ => True) := by
  obtain ⟨⟨⟨p, n, c⟩, ⟨p2, n2, c2⟩⟩, y⟩ := x
  refine pure_vc agrees Tryz.func81 rfl rfl (fun S S' q hle h => h) ?_
  exact ⟨rfl, (), rfl, trivial⟩
theorem zword_spec (S : Store) (x : Mcx) (n : Nat) (m : Li.Mem) (hx : MemIs S x.1 m) (hf : fewM n m) (a : Nat) (ha : a < n) : Pure Tryz.prog 75 S [vMc x, .int .i64 (a : Int)] (A := Li.Wd × Bool) rWB (fun _ w => w.1 = (Li.lasts m).getD a (0, 0, 0) ∧ okW w.1) := by
  obtain ⟨⟨⟨p, n, c⟩, ⟨p2, n2, c2⟩⟩, y⟩ := x
  refine pure_vc agrees Tryz.func75 rfl rfl (fun S S' q hle h => h) ?_
  refine ⟨⟨_, rfl, rfl, rfl⟩, .inl ⟨_, _, _, mlast_spec S _ _ m hx hf a ha, fun S1 w hS1 hw => ?_⟩⟩
  exact ⟨rfl, w, rfl, hw⟩
@[reducible] def vAct (a : Li.Act) : Value := .agg #[.int .i64 a.op, .int .i64 a.loc, .int .i64 a.old.1, .int .u32 a.old.2.1, .int .u32 a.old.2.2, .int .i64 a.new.1, .int .u32 a.new.2.1, .int .u32 a.new.2.2]
@[reducible] def cAct (a : Li.Act) : List C := [.v (.int .i64 a.op), .v (.int .i64 a.loc), .v (.int .i64 a.old.1), .v (.int .u32 a.old.2.1), .v (.int .u32 a.old.2.2), .v (.int .i64 a.new.1), .v (.int .u32 a.new.2.1), .v (.int .u32 a.new.2.2)]
theorem changes_spec (S : Store) (a : Li.Act) : Pure Tryz.prog 69 S [vAct a] (A := Unit) (fun _ => rB (decide (a.op = 3 ∨ a.op = 4 ∨ a.op = 6))) (fun _ _ => True) := by
  obtain ⟨o, lo, ⟨o1, o2, o3⟩, ⟨n1, n2, n3⟩⟩ := a
  refine pure_vc agrees Tryz.func69 rfl rfl (fun S S' q hle h => h) ?_
  refine And.intro (fun h1 => ?_) (fun h1 => ?_)
  · have e : o = 3 := by simpa using h1
    subst e
    exact onT ⟨rfl, (), rfl, trivial⟩
  refine And.intro (fun h2 => ?_) (fun h2 => ?_)
  · have e : o = 4 := by simpa using h2
    subst e
    exact ⟨rfl, (), rfl, trivial⟩
  have e3 : ¬ o = 3 := by simpa using h1
  have e4 : ¬ o = 4 := by simpa using h2
  refine ⟨rfl, (), ?_, trivial⟩
  show rB (decide (o = 3 ∨ o = 4 ∨ o = 6)) = rB (o == 6)
  rw [show decide (o = 3 ∨ o = 4 ∨ o = 6) = (o == 6) from by rw [Bool.eq_iff_iff]; simp [e3, e4]]
theorem check_spec (S : Store) (x : Mcx) (n : Nat) (m : Li.Mem) (hx : MemIs S x.1 m) (hn : m.ms.length = n) (k : Nat) (hk : k < m.vs.length) (a : Li.Act) (ha : Li.okA n a) : Pure Tryz.prog 68 S [vMc x, .int .i64 ((k : Int) + 1), vAct a] (A := Unit) (fun _ => rI 0) (fun _ _ => True) := by
  have hz := zsize_spec S x m hx
  obtain ⟨⟨⟨p, np, c⟩, ⟨p2, n2, c2⟩⟩, y⟩ := x
  obtain ⟨o, lo, ⟨o1, o2, o3⟩, ⟨n1, n2', n3⟩⟩ := a
  refine pure_vc agrees Tryz.func68 rfl rfl (fun S S' q hle h => h) ?_
  refine ⟨⟨_, rfl, rfl, rfl⟩, .inl ⟨_, _, _, hz, fun S1 _ hS1 _ => ?_⟩⟩
  obtain ⟨h1, h2, h3⟩ := ha
  have h1 : 0 ≤ o := h1
  have h2 : o ≤ 8 := h2
  have h3 : o ≠ 0 → o ≠ 8 → 0 ≤ lo ∧ lo < (m.ms.length : Int) := by rw [hn]; exact h3
  refine offE (decide_eq_false (show ¬ (k : Int) + 1 < 1 by omega)) ?_
  refine offE (decide_eq_false (show ¬ (k : Int) + 1 > (m.vs.length : Int) by omega)) ?_
  refine offE (decide_eq_false (show ¬ o < 0 by omega)) ?_
  refine offE (decide_eq_false (show ¬ o > 8 by omega)) ?_
  have e0 : (o != 0) = decide (o ≠ 0) := by rw [Bool.eq_iff_iff]; simp
  have e8 : (o != 8) = decide (o ≠ 8) := by rw [Bool.eq_iff_iff]; simp
  by_cases q0 : o = 0
  · subst q0
    refine offE rfl ?_
    first | exact ⟨rfl, (), rfl, trivial⟩ | exact onF ⟨rfl, (), rfl, trivial⟩ | exact onF (onF ⟨rfl, (), rfl, trivial⟩) | exact onF (onF (onF ⟨rfl, (), rfl, trivial⟩))
  by_cases q8 : o = 8
  · subst q8
    refine onE rfl ?_
    refine offE rfl ?_
    first | exact ⟨rfl, (), rfl, trivial⟩ | exact onF ⟨rfl, (), rfl, trivial⟩ | exact onF (onF ⟨rfl, (), rfl, trivial⟩) | exact onF (onF (onF ⟨rfl, (), rfl, trivial⟩))
  obtain ⟨h4, h5⟩ := h3 q0 q8
  refine onE (e0.trans (decide_eq_true q0)) ?_
  refine onE (e8.trans (decide_eq_true q8)) ?_
  refine offE (decide_eq_false (show ¬ lo < 0 by omega)) ?_
  refine offE (decide_eq_false (show ¬ lo ≥ (m.ms.length : Int) by omega)) ?_
  first | exact ⟨rfl, (), rfl, trivial⟩ | exact onF ⟨rfl, (), rfl, trivial⟩ | exact onF (onF ⟨rfl, (), rfl, trivial⟩) | exact onF (onF (onF ⟨rfl, (), rfl, trivial⟩))
end Go.Proofs.YtapblcfbmaikjaaGreatDoor
namespace Go.Proofs.YtapblcfbmaikjaaGreatDoor
open Go Go.Vc Go.Sort Go.RowKit Go.Maps
set_option maxRecDepth 100000
set_option maxHeartbeats 8000000

/-- The machine and what it says: the word read, does it hold. -/
@[reducible] def rMc (x : Mcx) : SV := .agg (cMc x)
@[reducible] def rMcT (x : Mcx × Li.Wd × Bool) : SV := .tup [(true, cMc x.1), (true, cW x.2.1 ++ [.v (.bool x.2.2)])]
theorem read_spec (S : Store) (x : Mcx) (n : Nat) (m : Li.Mem) (hx : MemIs S x.1 m) (hf : fewM n m) (k : Nat) (hk : k < m.vs.length) (a : Li.Act) (ha : a.op = 1 ∨ a.op = 2 ∨ a.op = 5) (hl : 0 ≤ a.loc ∧ a.loc < (n : Int)) (c : Int) (hc : inI64 c) :
    Pure Tryz.prog 73 S [vMc x, .int .i64 ((k : Int) + 1), vAct a, .int .i64 c] (A := Mcx × Li.Wd × Bool) rMcT (fun S' y => MWPost (Li.doM m k a c) S' (y.1.1, y.2.1) ∧ y.1.2 = x.2 ∧ y.2.2 = true) := by
  obtain ⟨lo, hlo⟩ : ∃ lo : Nat, a.loc = (lo : Int) := ⟨a.loc.toNat, by omega⟩
  have hlt : lo < n := by omega
  have hlk := mlook_spec S x.1 n m hx hf k lo hk hlt
  have hld := fun j => load_spec S x.1 n m hx hf k lo hk hlt j c hc
  obtain ⟨⟨⟨p, np, c1⟩, ⟨p2, n2, c2⟩⟩, y⟩ := x
  obtain ⟨o, l, ⟨o1, o2, o3⟩, ⟨n1, n2', n3⟩⟩ := a
  have hlo : l = (lo : Int) := hlo
  subst hlo
  have ha : o = 1 ∨ o = 2 ∨ o = 5 := ha
  refine pure_vc agrees Tryz.func73 rfl rfl (fun S S' q hle h => ⟨MWPost.le hle h.1, h.2⟩) ?_
  rcases ha with e | e | e
  · subst e
    refine offE rfl ⟨⟨_, rfl, rfl, rfl⟩, .inl ⟨_, _, _, hld false, fun S1 z hS1 hz => ?_⟩⟩
    refine ⟨or73_5, [2, 3], oF73_5, by kernel_rfl, ?_⟩
    first | exact And.intro ⟨rfl, ((z.1, y), z.2, true), rfl, hz, rfl, rfl⟩ (And.intro ⟨rfl, ((z.1, y), z.2, true), rfl, hz, rfl, rfl⟩ trivial)
  · subst e
    refine offE rfl ⟨⟨_, rfl, rfl, rfl⟩, .inl ⟨_, _, _, hld true, fun S1 z hS1 hz => ?_⟩⟩
    refine ⟨or73_5, [2, 3], oF73_5, by kernel_rfl, ?_⟩
    first | exact And.intro ⟨rfl, ((z.1, y), z.2, true), rfl, hz, rfl, rfl⟩ (And.intro ⟨rfl, ((z.1, y), z.2, true), rfl, hz, rfl, rfl⟩ trivial)
  · subst e
    refine onE rfl ⟨⟨_, rfl, rfl, rfl⟩, .inl ⟨_, _, _, hlk, fun S1 z hS1 hz => ?_⟩⟩
    refine ⟨or73_5, [2, 3], oF73_5, by kernel_rfl, ?_⟩
    first | exact And.intro ⟨rfl, ((z.1, y), z.2, true), rfl, hz, rfl, rfl⟩ (And.intro ⟨rfl, ((z.1, y), z.2, true), rfl, hz, rfl, rfl⟩ trivial)
structure WrPost (m : Li.Mem) (l : Li.Ln) (k : Nat) (a : Li.Act) (c : Int) (e : Hd × Int) (S' : Store) (y : Mcx × Li.Wd × Bool) : Prop where
  gm : MemIs S' y.1.1 (Li.doM m k a c).1
  gl : LnIs S' y.1.2.1 (Li.lnDo l m k a)
  ge : y.1.2.2 = e
  gw : y.2.1 = (Li.doM m k a c).2 ∧ okW y.2.1
  gb : y.2.2 = if a.op = 6 then decide ((Li.lookM m k a.loc.toNat).2 = a.old) else true
theorem WrPost.le {S S' : Store} (h : S.le S') {m l k a c e y} (hx : WrPost m l k a c e S y) : WrPost m l k a c e S' y := ⟨hx.gm.le h, hx.gl.le h, hx.ge, hx.gw, hx.gb⟩
theorem write_spec (S : Store) (x : Mcx) (n : Nat) (m : Li.Mem) (l : Li.Ln) (hx : MemIs S x.1 m) (hy : LnIs S x.2.1 l) (hf : fewM n m) (hol : Li.okL n l) (hn : n ≤ 8) (hs : l.st.length ≤ 100000) (k : Nat) (hk : k < m.vs.length) (a : Li.Act) (ha : a.op = 3 ∨ a.op = 4 ∨ a.op = 6) (hl : 0 ≤ a.loc ∧ a.loc < (n : Int)) (hw : okW a.new) (c : Int) :
    Pure Tryz.prog 70 S [vMc x, .int .i64 ((k : Int) + 1), vAct a] (A := Mcx × Li.Wd × Bool) rMcT (fun S' y => WrPost m l k a c x.2.2 S' y) := by
  obtain ⟨lo, hlo⟩ : ∃ lo : Nat, a.loc = (lo : Int) := ⟨a.loc.toNat, by omega⟩
  have hlt : lo < n := by omega
  have hst := fun j => mstore_spec S x.1 n m hx hf k lo hk hlt a.new hw j
  have hsw := mswap_spec S x.1 n m hx hf k lo hk hlt a.old a.new hw
  have hln := fun (S' : Store) (hS : S.le S') => lstore_spec S' x.2.1 n l (hy.le hS) hol hn hs lo hlt a.new hw
  obtain ⟨⟨⟨p, np, c1⟩, ⟨p2, n2, c2⟩⟩, ⟨⟨⟨fp, fn, fc⟩, ⟨p3, n3, c3⟩, b⟩, ⟨⟨ep, en, ec⟩, ei⟩⟩⟩ := x
  obtain ⟨o, lc, ⟨o1, o2, o3⟩, ⟨n1, n2', n3'⟩⟩ := a
  have hlo : lc = (lo : Int) := hlo
  subst hlo
  have ha : o = 3 ∨ o = 4 ∨ o = 6 := ha
  refine pure_vc agrees Tryz.func70 rfl rfl (fun S S' q hle h => h.le hle) ?_
  rcases ha with e | e | e
  · subst e
    refine offE rfl ⟨⟨_, rfl, rfl, rfl⟩, .inl ⟨_, _, _, hst false, fun S1 z hS1 hz => ?_⟩⟩
    refine onT ⟨⟨_, rfl, rfl, rfl⟩, .inl ⟨_, _, _, hln S1 hS1, fun S2 u hS2 hu => ?_⟩⟩
    refine ⟨or70_7, [2, 3], oF70_7, by kernel_rfl, ?_⟩
    have post : WrPost m l k ⟨3, (lo : Int), (o1, o2, o3), (n1, n2', n3')⟩ c ((ep, en, ec), ei) S2 ((z, u, (ep, en, ec), ei), (0, 0, 0), true) := ⟨hz.le hS2, hu, rfl, ⟨rfl, okW_0⟩, rfl⟩
    exact And.intro ⟨rfl, ((z, u, (ep, en, ec), ei), (0, 0, 0), true), rfl, post⟩ (And.intro ⟨rfl, ((z, u, (ep, en, ec), ei), (0, 0, 0), true), rfl, post⟩ trivial)
  · subst e
    refine offE rfl ⟨⟨_, rfl, rfl, rfl⟩, .inl ⟨_, _, _, hst true, fun S1 z hS1 hz => ?_⟩⟩
    refine onT ⟨⟨_, rfl, rfl, rfl⟩, .inl ⟨_, _, _, hln S1 hS1, fun S2 u hS2 hu => ?_⟩⟩
    refine ⟨or70_7, [2, 3], oF70_7, by kernel_rfl, ?_⟩
    have post : WrPost m l k ⟨4, (lo : Int), (o1, o2, o3), (n1, n2', n3')⟩ c ((ep, en, ec), ei) S2 ((z, u, (ep, en, ec), ei), (0, 0, 0), true) := ⟨hz.le hS2, hu, rfl, ⟨rfl, okW_0⟩, rfl⟩
    exact And.intro ⟨rfl, ((z, u, (ep, en, ec), ei), (0, 0, 0), true), rfl, post⟩ (And.intro ⟨rfl, ((z, u, (ep, en, ec), ei), (0, 0, 0), true), rfl, post⟩ trivial)
  · subst e
    refine onE rfl ⟨⟨_, rfl, rfl, rfl⟩, .inl ⟨_, _, _, hsw, fun S1 z hS1 hz => ?_⟩⟩
    obtain ⟨z1, z2, z3⟩ := z
    obtain ⟨i1, i2, i3, i4⟩ := hz
    have i4 : z3 = decide ((Li.lookM m k lo).2 = (o1, o2, o3)) := i4
    have hb : (if (6 : Int) = 6 then decide ((Li.lookM m k lo).2 = (o1, o2, o3)) else true) = decide ((Li.lookM m k lo).2 = (o1, o2, o3)) := if_pos rfl
    cases z3 with
    | true =>
      refine onT ⟨⟨_, rfl, rfl, rfl⟩, .inl ⟨_, _, _, hln S1 hS1, fun S2 u hS2 hu => ?_⟩⟩
      refine ⟨or70_7, [2, 3], oF70_7, by kernel_rfl, ?_⟩
      have hq : (Li.lookM m k lo).2 = (o1, o2, o3) := of_decide_eq_true i4.symm
      have post : WrPost m l k ⟨6, (lo : Int), (o1, o2, o3), (n1, n2', n3')⟩ c ((ep, en, ec), ei) S2 ((z1, u, (ep, en, ec), ei), z2, true) := ⟨i1.le hS2, by rw [show Li.lnDo l m k ⟨6, (lo : Int), (o1, o2, o3), (n1, n2', n3')⟩ = Li.storeL l lo (n1, n2', n3') from if_pos hq]; exact hu, rfl, ⟨i2, i3⟩, i4.trans hb.symm⟩
      exact And.intro ⟨rfl, ((z1, u, (ep, en, ec), ei), z2, true), rfl, post⟩ (And.intro ⟨rfl, ((z1, u, (ep, en, ec), ei), z2, true), rfl, post⟩ trivial)
    | false =>
      refine onF ⟨or70_7, [2, 3], oF70_7, by kernel_rfl, ?_⟩
      have hq : ¬ (Li.lookM m k lo).2 = (o1, o2, o3) := of_decide_eq_false i4.symm
      have post : WrPost m l k ⟨6, (lo : Int), (o1, o2, o3), (n1, n2', n3')⟩ c ((ep, en, ec), ei) S1 ((z1, ((fp, fn, fc), (p3, n3, c3), b), (ep, en, ec), ei), z2, false) := ⟨i1, by rw [show Li.lnDo l m k ⟨6, (lo : Int), (o1, o2, o3), (n1, n2', n3')⟩ = l from if_neg hq]; exact hy.le hS1, rfl, ⟨i2, i3⟩, i4.trans hb.symm⟩
      exact And.intro ⟨rfl, ((z1, ((fp, fn, fc), (p3, n3, c3), b), (ep, en, ec), ei), z2, false), rfl, post⟩ (And.intro ⟨rfl, ((z1, ((fp, fn, fc), (p3, n3, c3), b), (ep, en, ec), ei), z2, false), rfl, post⟩ trivial)
end Go.Proofs.YtapblcfbmaikjaaGreatDoor
namespace Go.Proofs.YtapblcfbmaikjaaGreatDoor
open Go Go.Vc Go.Sort Go.RowKit Go.Maps
set_option maxRecDepth 100000
set_option maxHeartbeats 8000000

theorem iclone_spec (S : Store) (q : Hd) (xs : List Int) (hl : q.2.1 = xs.length) (hne : 0 < xs.length) (hr : RowRd S q.1 shI xs) (hn : xs.length ≤ 1000) : SpecN Tryz.prog 58 S [slV q] (A := Unit) (fun _ => .c (.ref 0)) (fun _ => [.row shI 3 xs]) (fun _ _ => True) := by
  obtain ⟨p, n, c⟩ := q
  have hl : n = xs.length := hl
  subst hl
  have hr : RowRd S p shI xs := hr
  refine specN_vc agrees Tryz.func58 rfl rfl (fun _ _ _ _ h => h) ?_
  cases hp : p with
  | none =>
    subst hp
    rcases hr.1 with e | ⟨b, o, e, -⟩
    · exfalso; rw [e] at hne; simp at hne
    · cases e
  | some a =>
    subst hp
    exact onF ⟨xs, src_of rfl hr, fun y hy => hr.2 y hy, by show (0 + xs.length) * 8 ≤ 140737488355328; omega, [0], (), rfl, rfl, rfl, trivial⟩
/-- What each thread has done. -/
def DidIs (S : Store) (q : Hd) (d : List Nat) : Prop := q.2.1 = d.length ∧ d.length ≤ q.2.2 ∧ RowRd S q.1 shI (d.map fun i : Nat => (i : Int))
theorem DidIs.le {S S' : Store} (h : S.le S') {q d} (hx : DidIs S q d) : DidIs S' q d := ⟨hx.1, hx.2.1, hx.2.2.le h⟩
@[reducible] def rDo (x : Mcx × Li.Wd × Bool) : SV := .tup [(true, cMc x.1), (true, cW x.2.1 ++ [.v (.bool x.2.2)]), (false, [.v (.int .i64 0)])]
structure DoPost (m : Li.Mem) (l : Li.Ln) (d : List Nat) (k : Nat) (a : Li.Act) (c : Int) (e : Int) (S' : Store) (y : Mcx × Li.Wd × Bool) : Prop where
  gm : MemIs S' y.1.1 (Li.doM m k a c).1
  gl : LnIs S' y.1.2.1 (Li.lnDo l m k a)
  gd : DidIs S' y.1.2.2.1 (d.set k (d.getD k 0 + 1))
  ge : y.1.2.2.2 = e
  gw : y.2.1 = (Li.doM m k a c).2 ∧ okW y.2.1
  gb : y.2.2 = if a.op = 6 then decide ((Li.lookM m k a.loc.toNat).2 = a.old) else true
theorem DoPost.le {S S' : Store} (h : S.le S') {m l d k a c e y} (hx : DoPost m l d k a c e S y) : DoPost m l d k a c e S' y := ⟨hx.gm.le h, hx.gl.le h, hx.gd.le h, hx.ge, hx.gw, hx.gb⟩
theorem did_end {S : Store} {p : Option Addr} {c k v : Nat} {d : List Nat} (L : List Int) (hL : L = (d.map fun i : Nat => (i : Int)).set k ((v : Nat) : Int)) (hp : PForm p L.length c) (hr : RowRd S p shI L) : DidIs S (p, L.length, c) (d.set k v) := by
  subst hL
  have e : (d.map fun i : Nat => (i : Int)).set k ((v : Nat) : Int) = (d.set k v).map fun i : Nat => (i : Int) := by rw [List.map_set]
  refine ⟨by rw [e, List.length_map], ?_, by rw [← e]; exact hr⟩
  have := pform_le hp
  rw [e, List.length_map] at this
  exact this
theorem do_spec (S : Store) (x : Mcx) (n : Nat) (m : Li.Mem) (l : Li.Ln) (d : List Nat) (hx : MemIs S x.1 m) (hy : LnIs S x.2.1 l) (hd : DidIs S x.2.2.1 d) (hdl : d.length = m.vs.length) (hdb : ∀ i ∈ d, i ≤ 1000000) (hf : fewM n m) (hol : Li.okL n l) (hn : n ≤ 8) (hs : l.st.length ≤ 100000) (k : Nat) (hk : k < m.vs.length) (hk8 : k < 8) (a : Li.Act) (ha : Li.okA n a) (hw : okW a.new) (c : Int) (hc : inI64 c) :
    Pure Tryz.prog 39 S [vMc x, .int .i64 ((k : Int) + 1), vAct a, .int .i64 c] (A := Mcx × Li.Wd × Bool) rDo (fun S' y => DoPost m l d k a c x.2.2.2 S' y) := by
  have hck := check_spec S x n m hx hf.ok.len k hk a ha
  have hch := fun (S' : Store) => changes_spec S' a
  obtain ⟨h0, h9, hloc⟩ := ha
  have hsy := fun (S' : Store) (hS : S.le S') => lsync_spec S' x.2.1 l (hy.le hS) k hk8
  have hvs := hf.vs
  obtain ⟨hd1, hd2, hd3⟩ := hd
  obtain ⟨⟨⟨p, np, c1⟩, ⟨p2, n2, c2⟩⟩, ⟨⟨⟨fp, fn, fc⟩, ⟨p3, n3, c3⟩, b⟩, ⟨⟨ep, en, ec⟩, ei⟩⟩⟩ := x
  obtain ⟨o, lc, ⟨o1, o2, o3⟩, ⟨n1, n2', n3'⟩⟩ := a
  have hdk : (d.map fun i : Nat => (i : Int))[k]? = some ((d.getD k 0 : Nat) : Int) := by
    rw [List.getElem?_map, List.getD_eq_getElem?_getD, List.getElem?_eq_getElem (by omega)]; rfl
  have hdb' : d.getD k 0 ≤ 1000000 := hdb _ (Li.getD_mem (by omega))
  have w1 : IntKind.i64.wrap ((k : Int) + 1 - 1) = (k : Int) := by rw [wrap_i64 (by omega) (by omega)]; omega
  have w2 : IntKind.i64.wrap (((d.getD k 0 : Nat) : Int) + 1) = ((d.getD k 0 + 1 : Nat) : Int) := by rw [wrap_i64 (by omega) (by omega)]; omega
  refine pure_vc agrees Tryz.func39 rfl rfl (fun S S' q hle h => h.le hle) ?_
  refine ⟨⟨_, rfl, rfl, rfl⟩, .inl ⟨_, _, _, hck, fun S1 _ hS1 _ => offE rfl ?_⟩⟩
  refine ⟨⟨_, rfl, rfl, rfl⟩, .inl ⟨_, _, _, hch S1, fun S2 _ hS2 _ => ?_⟩⟩
  have hS02 := Store.le_trans hS1 hS2
  by_cases q0 : o = 0
  · subst q0
    refine offE rfl (offE rfl (offE rfl (offE rfl ?_)))
    refine ⟨⟨_, rfl, rfl, rfl⟩, .inr (.inr (.inr (.inr (.inl ⟨_, _, _, _, iclone_spec S2 (ep, en, ec) (d.map fun i : Nat => (i : Int)) (by rw [List.length_map]; exact hd1) (by rw [List.length_map]; omega) (hd3.le hS02) (by rw [List.length_map]; omega), fun S4 _ hS4 _ => ?_⟩))))⟩
    refine ⟨(k : Int), w1, by omega, by rw [List.length_map]; omega, ((d.getD k 0 : Nat) : Int), hdk, (((d.getD k 0 + 1 : Nat)) : Int), w2, by omega, by rw [List.length_map]; omega, ((d.getD k 0 : Nat) : Int), (((d.getD k 0 + 1 : Nat)) : Int), hdk, trivial, rfl, by show 0 + 1 ≤ 1; decide, ?_⟩
    refine ⟨or39_15, [2, 3], oF39_15, by kernel_rfl, ?_⟩
    refine And.intro ?_ (And.intro ?_ trivial)
    all_goals
      intro p6 c6 S6 hS6 hr6 hpf6
      have hx6 := Store.le_trans hS4 hS6
      exact ⟨rfl, ((((p, np, c1), (p2, n2, c2)), ((fp, fn, fc), (p3, n3, c3), b), (p6, _, c6), ei), (0, 0, 0), true), rfl, hx.le (Store.le_trans hS02 hx6), hy.le (Store.le_trans hS02 hx6), did_end _ rfl hpf6.1 hr6, rfl, ⟨rfl, okW_0⟩, rfl⟩
  by_cases q8 : o = 8
  · subst q8
    refine offE rfl (offE rfl (onE rfl ⟨⟨_, rfl, rfl, rfl⟩, .inl ⟨_, _, _, hsy S2 hS02, fun S3 u hS3 hu => ?_⟩⟩))
    have hS03 := Store.le_trans hS02 hS3
    refine ⟨⟨_, rfl, rfl, rfl⟩, .inr (.inr (.inr (.inr (.inl ⟨_, _, _, _, iclone_spec S3 (ep, en, ec) (d.map fun i : Nat => (i : Int)) (by rw [List.length_map]; exact hd1) (by rw [List.length_map]; omega) (hd3.le hS03) (by rw [List.length_map]; omega), fun S4 _ hS4 _ => ?_⟩))))⟩
    refine ⟨(k : Int), w1, by omega, by rw [List.length_map]; omega, ((d.getD k 0 : Nat) : Int), hdk, (((d.getD k 0 + 1 : Nat)) : Int), w2, by omega, by rw [List.length_map]; omega, ((d.getD k 0 : Nat) : Int), (((d.getD k 0 + 1 : Nat)) : Int), hdk, trivial, rfl, by show 0 + 1 ≤ 1; decide, ?_⟩
    refine ⟨or39_15, [2, 3], oF39_15, by kernel_rfl, ?_⟩
    refine And.intro ?_ (And.intro ?_ trivial)
    all_goals
      intro p6 c6 S6 hS6 hr6 hpf6
      have hx6 := Store.le_trans hS4 hS6
      exact ⟨rfl, ((((p, np, c1), (p2, n2, c2)), u, (p6, _, c6), ei), (0, 0, 0), true), rfl, hx.le (Store.le_trans hS03 hx6), hu.le hx6, did_end _ rfl hpf6.1 hr6, rfl, ⟨rfl, okW_0⟩, rfl⟩
  obtain ⟨hl1, hl2⟩ := hloc q0 q8
  have hl1 : 0 ≤ lc := hl1
  have hl2 : lc < (n : Int) := hl2
  obtain ⟨lo, hlo⟩ : ∃ lo : Nat, lc = (lo : Int) := ⟨lc.toNat, by omega⟩
  subst hlo
  have hlt : lo < n := by omega
  by_cases q7 : o = 7
  · subst q7
    have hfl := lflush_spec S2 ((fp, fn, fc), (p3, n3, c3), b) n l (hy.le hS02) hol hn k hk8 lo hlt
    refine offE rfl (onE rfl ⟨⟨_, rfl, rfl, rfl⟩, .inl ⟨_, _, _, hfl, fun S3 u hS3 hu => ?_⟩⟩)
    have hS03 := Store.le_trans hS02 hS3
    refine ⟨⟨_, rfl, rfl, rfl⟩, .inr (.inr (.inr (.inr (.inl ⟨_, _, _, _, iclone_spec S3 (ep, en, ec) (d.map fun i : Nat => (i : Int)) (by rw [List.length_map]; exact hd1) (by rw [List.length_map]; omega) (hd3.le hS03) (by rw [List.length_map]; omega), fun S4 _ hS4 _ => ?_⟩))))⟩
    refine ⟨(k : Int), w1, by omega, by rw [List.length_map]; omega, ((d.getD k 0 : Nat) : Int), hdk, (((d.getD k 0 + 1 : Nat)) : Int), w2, by omega, by rw [List.length_map]; omega, ((d.getD k 0 : Nat) : Int), (((d.getD k 0 + 1 : Nat)) : Int), hdk, trivial, rfl, by show 0 + 1 ≤ 1; decide, ?_⟩
    refine ⟨or39_15, [2, 3], oF39_15, by kernel_rfl, ?_⟩
    refine And.intro ?_ (And.intro ?_ trivial)
    all_goals
      intro p6 c6 S6 hS6 hr6 hpf6
      have hx6 := Store.le_trans hS4 hS6
      exact ⟨rfl, ((((p, np, c1), (p2, n2, c2)), u, (p6, _, c6), ei), (0, 0, 0), true), rfl, hx.le (Store.le_trans hS03 hx6), hu.le hx6, did_end _ rfl hpf6.1 hr6, rfl, ⟨rfl, okW_0⟩, rfl⟩
  by_cases q1 : o = 1
  · subst q1
    have hrd := read_spec S2 (((p, np, c1), (p2, n2, c2)), ((fp, fn, fc), (p3, n3, c3), b), (ep, en, ec), ei) n m (hx.le hS02) hf k hk ⟨1, (lo : Int), (o1, o2, o3), (n1, n2', n3')⟩ (.inl rfl) ⟨hl1, hl2⟩ c hc
    refine offE rfl (offE rfl (offE rfl (onE rfl ⟨⟨_, rfl, rfl, rfl⟩, .inl ⟨_, _, _, hrd, fun S3 u hS3 hu => ?_⟩⟩)))
    have hS03 := Store.le_trans hS02 hS3
    obtain ⟨⟨ym, ye⟩, yw, yb⟩ := u
    obtain ⟨⟨i1, i2, i3⟩, i4, i5⟩ := hu
    have i4 : ye = (((fp, fn, fc), (p3, n3, c3), b), (ep, en, ec), ei) := i4
    have i5 : yb = true := i5
    subst i4 i5
    refine ⟨⟨_, rfl, rfl, rfl⟩, .inr (.inr (.inr (.inr (.inl ⟨_, _, _, _, iclone_spec S3 (ep, en, ec) (d.map fun i : Nat => (i : Int)) (by rw [List.length_map]; exact hd1) (by rw [List.length_map]; omega) (hd3.le hS03) (by rw [List.length_map]; omega), fun S4 _ hS4 _ => ?_⟩))))⟩
    refine ⟨(k : Int), w1, by omega, by rw [List.length_map]; omega, ((d.getD k 0 : Nat) : Int), hdk, (((d.getD k 0 + 1 : Nat)) : Int), w2, by omega, by rw [List.length_map]; omega, ((d.getD k 0 : Nat) : Int), (((d.getD k 0 + 1 : Nat)) : Int), hdk, trivial, rfl, by show 0 + 1 ≤ 1; decide, ?_⟩
    refine ⟨or39_15, [2, 3], oF39_15, by kernel_rfl, ?_⟩
    refine And.intro ?_ (And.intro ?_ trivial)
    all_goals
      intro p6 c6 S6 hS6 hr6 hpf6
      have hx6 := Store.le_trans hS4 hS6
      exact ⟨rfl, ((ym, ((fp, fn, fc), (p3, n3, c3), b), (p6, _, c6), ei), yw, true), rfl, i1.le hx6, hy.le (Store.le_trans hS03 hx6), did_end _ rfl hpf6.1 hr6, rfl, ⟨i2, i3⟩, rfl⟩
  by_cases q2 : o = 2
  · subst q2
    have hrd := read_spec S2 (((p, np, c1), (p2, n2, c2)), ((fp, fn, fc), (p3, n3, c3), b), (ep, en, ec), ei) n m (hx.le hS02) hf k hk ⟨2, (lo : Int), (o1, o2, o3), (n1, n2', n3')⟩ (.inr (.inl rfl)) ⟨hl1, hl2⟩ c hc
    refine offE rfl (offE rfl (offE rfl (onE rfl ⟨⟨_, rfl, rfl, rfl⟩, .inl ⟨_, _, _, hrd, fun S3 u hS3 hu => ?_⟩⟩)))
    have hS03 := Store.le_trans hS02 hS3
    obtain ⟨⟨ym, ye⟩, yw, yb⟩ := u
    obtain ⟨⟨i1, i2, i3⟩, i4, i5⟩ := hu
    have i4 : ye = (((fp, fn, fc), (p3, n3, c3), b), (ep, en, ec), ei) := i4
    have i5 : yb = true := i5
    subst i4 i5
    refine ⟨⟨_, rfl, rfl, rfl⟩, .inr (.inr (.inr (.inr (.inl ⟨_, _, _, _, iclone_spec S3 (ep, en, ec) (d.map fun i : Nat => (i : Int)) (by rw [List.length_map]; exact hd1) (by rw [List.length_map]; omega) (hd3.le hS03) (by rw [List.length_map]; omega), fun S4 _ hS4 _ => ?_⟩))))⟩
    refine ⟨(k : Int), w1, by omega, by rw [List.length_map]; omega, ((d.getD k 0 : Nat) : Int), hdk, (((d.getD k 0 + 1 : Nat)) : Int), w2, by omega, by rw [List.length_map]; omega, ((d.getD k 0 : Nat) : Int), (((d.getD k 0 + 1 : Nat)) : Int), hdk, trivial, rfl, by show 0 + 1 ≤ 1; decide, ?_⟩
    refine ⟨or39_15, [2, 3], oF39_15, by kernel_rfl, ?_⟩
    refine And.intro ?_ (And.intro ?_ trivial)
    all_goals
      intro p6 c6 S6 hS6 hr6 hpf6
      have hx6 := Store.le_trans hS4 hS6
      exact ⟨rfl, ((ym, ((fp, fn, fc), (p3, n3, c3), b), (p6, _, c6), ei), yw, true), rfl, i1.le hx6, hy.le (Store.le_trans hS03 hx6), did_end _ rfl hpf6.1 hr6, rfl, ⟨i2, i3⟩, rfl⟩
  by_cases q5 : o = 5
  · subst q5
    have hrd := read_spec S2 (((p, np, c1), (p2, n2, c2)), ((fp, fn, fc), (p3, n3, c3), b), (ep, en, ec), ei) n m (hx.le hS02) hf k hk ⟨5, (lo : Int), (o1, o2, o3), (n1, n2', n3')⟩ (.inr (.inr rfl)) ⟨hl1, hl2⟩ c hc
    refine offE rfl (offE rfl (offE rfl (onE rfl ⟨⟨_, rfl, rfl, rfl⟩, .inl ⟨_, _, _, hrd, fun S3 u hS3 hu => ?_⟩⟩)))
    have hS03 := Store.le_trans hS02 hS3
    obtain ⟨⟨ym, ye⟩, yw, yb⟩ := u
    obtain ⟨⟨i1, i2, i3⟩, i4, i5⟩ := hu
    have i4 : ye = (((fp, fn, fc), (p3, n3, c3), b), (ep, en, ec), ei) := i4
    have i5 : yb = true := i5
    subst i4 i5
    refine ⟨⟨_, rfl, rfl, rfl⟩, .inr (.inr (.inr (.inr (.inl ⟨_, _, _, _, iclone_spec S3 (ep, en, ec) (d.map fun i : Nat => (i : Int)) (by rw [List.length_map]; exact hd1) (by rw [List.length_map]; omega) (hd3.le hS03) (by rw [List.length_map]; omega), fun S4 _ hS4 _ => ?_⟩))))⟩
    refine ⟨(k : Int), w1, by omega, by rw [List.length_map]; omega, ((d.getD k 0 : Nat) : Int), hdk, (((d.getD k 0 + 1 : Nat)) : Int), w2, by omega, by rw [List.length_map]; omega, ((d.getD k 0 : Nat) : Int), (((d.getD k 0 + 1 : Nat)) : Int), hdk, trivial, rfl, by show 0 + 1 ≤ 1; decide, ?_⟩
    refine ⟨or39_15, [2, 3], oF39_15, by kernel_rfl, ?_⟩
    refine And.intro ?_ (And.intro ?_ trivial)
    all_goals
      intro p6 c6 S6 hS6 hr6 hpf6
      have hx6 := Store.le_trans hS4 hS6
      exact ⟨rfl, ((ym, ((fp, fn, fc), (p3, n3, c3), b), (p6, _, c6), ei), yw, true), rfl, i1.le hx6, hy.le (Store.le_trans hS03 hx6), did_end _ rfl hpf6.1 hr6, rfl, ⟨i2, i3⟩, rfl⟩
  by_cases q3 : o = 3
  · subst q3
    have hwr := write_spec S2 (((p, np, c1), (p2, n2, c2)), ((fp, fn, fc), (p3, n3, c3), b), (ep, en, ec), ei) n m l (hx.le hS02) (hy.le hS02) hf hol hn hs k hk ⟨3, (lo : Int), (o1, o2, o3), (n1, n2', n3')⟩ (.inl rfl) ⟨hl1, hl2⟩ hw c
    refine onE rfl ⟨⟨_, rfl, rfl, rfl⟩, .inl ⟨_, _, _, hwr, fun S3 u hS3 hu => ?_⟩⟩
    have hS03 := Store.le_trans hS02 hS3
    obtain ⟨⟨ym, yl, ye⟩, yw, yb⟩ := u
    obtain ⟨i1, i2, i4, i5, i6⟩ := hu
    have i4 : ye = ((ep, en, ec), ei) := i4
    subst i4
    refine ⟨⟨_, rfl, rfl, rfl⟩, .inr (.inr (.inr (.inr (.inl ⟨_, _, _, _, iclone_spec S3 (ep, en, ec) (d.map fun i : Nat => (i : Int)) (by rw [List.length_map]; exact hd1) (by rw [List.length_map]; omega) (hd3.le hS03) (by rw [List.length_map]; omega), fun S4 _ hS4 _ => ?_⟩))))⟩
    refine ⟨(k : Int), w1, by omega, by rw [List.length_map]; omega, ((d.getD k 0 : Nat) : Int), hdk, (((d.getD k 0 + 1 : Nat)) : Int), w2, by omega, by rw [List.length_map]; omega, ((d.getD k 0 : Nat) : Int), (((d.getD k 0 + 1 : Nat)) : Int), hdk, trivial, rfl, by show 0 + 1 ≤ 1; decide, ?_⟩
    refine ⟨or39_15, [2, 3], oF39_15, by kernel_rfl, ?_⟩
    refine And.intro ?_ (And.intro ?_ trivial)
    all_goals
      intro p6 c6 S6 hS6 hr6 hpf6
      have hx6 := Store.le_trans hS4 hS6
      exact ⟨rfl, ((ym, yl, (p6, _, c6), ei), yw, yb), rfl, i1.le hx6, i2.le hx6, did_end _ rfl hpf6.1 hr6, rfl, i5, i6⟩
  by_cases q4 : o = 4
  · subst q4
    have hwr := write_spec S2 (((p, np, c1), (p2, n2, c2)), ((fp, fn, fc), (p3, n3, c3), b), (ep, en, ec), ei) n m l (hx.le hS02) (hy.le hS02) hf hol hn hs k hk ⟨4, (lo : Int), (o1, o2, o3), (n1, n2', n3')⟩ (.inr (.inl rfl)) ⟨hl1, hl2⟩ hw c
    refine onE rfl ⟨⟨_, rfl, rfl, rfl⟩, .inl ⟨_, _, _, hwr, fun S3 u hS3 hu => ?_⟩⟩
    have hS03 := Store.le_trans hS02 hS3
    obtain ⟨⟨ym, yl, ye⟩, yw, yb⟩ := u
    obtain ⟨i1, i2, i4, i5, i6⟩ := hu
    have i4 : ye = ((ep, en, ec), ei) := i4
    subst i4
    refine ⟨⟨_, rfl, rfl, rfl⟩, .inr (.inr (.inr (.inr (.inl ⟨_, _, _, _, iclone_spec S3 (ep, en, ec) (d.map fun i : Nat => (i : Int)) (by rw [List.length_map]; exact hd1) (by rw [List.length_map]; omega) (hd3.le hS03) (by rw [List.length_map]; omega), fun S4 _ hS4 _ => ?_⟩))))⟩
    refine ⟨(k : Int), w1, by omega, by rw [List.length_map]; omega, ((d.getD k 0 : Nat) : Int), hdk, (((d.getD k 0 + 1 : Nat)) : Int), w2, by omega, by rw [List.length_map]; omega, ((d.getD k 0 : Nat) : Int), (((d.getD k 0 + 1 : Nat)) : Int), hdk, trivial, rfl, by show 0 + 1 ≤ 1; decide, ?_⟩
    refine ⟨or39_15, [2, 3], oF39_15, by kernel_rfl, ?_⟩
    refine And.intro ?_ (And.intro ?_ trivial)
    all_goals
      intro p6 c6 S6 hS6 hr6 hpf6
      have hx6 := Store.le_trans hS4 hS6
      exact ⟨rfl, ((ym, yl, (p6, _, c6), ei), yw, yb), rfl, i1.le hx6, i2.le hx6, did_end _ rfl hpf6.1 hr6, rfl, i5, i6⟩
  by_cases q6 : o = 6
  · subst q6
    have hwr := write_spec S2 (((p, np, c1), (p2, n2, c2)), ((fp, fn, fc), (p3, n3, c3), b), (ep, en, ec), ei) n m l (hx.le hS02) (hy.le hS02) hf hol hn hs k hk ⟨6, (lo : Int), (o1, o2, o3), (n1, n2', n3')⟩ (.inr (.inr rfl)) ⟨hl1, hl2⟩ hw c
    refine onE rfl ⟨⟨_, rfl, rfl, rfl⟩, .inl ⟨_, _, _, hwr, fun S3 u hS3 hu => ?_⟩⟩
    have hS03 := Store.le_trans hS02 hS3
    obtain ⟨⟨ym, yl, ye⟩, yw, yb⟩ := u
    obtain ⟨i1, i2, i4, i5, i6⟩ := hu
    have i4 : ye = ((ep, en, ec), ei) := i4
    subst i4
    refine ⟨⟨_, rfl, rfl, rfl⟩, .inr (.inr (.inr (.inr (.inl ⟨_, _, _, _, iclone_spec S3 (ep, en, ec) (d.map fun i : Nat => (i : Int)) (by rw [List.length_map]; exact hd1) (by rw [List.length_map]; omega) (hd3.le hS03) (by rw [List.length_map]; omega), fun S4 _ hS4 _ => ?_⟩))))⟩
    refine ⟨(k : Int), w1, by omega, by rw [List.length_map]; omega, ((d.getD k 0 : Nat) : Int), hdk, (((d.getD k 0 + 1 : Nat)) : Int), w2, by omega, by rw [List.length_map]; omega, ((d.getD k 0 : Nat) : Int), (((d.getD k 0 + 1 : Nat)) : Int), hdk, trivial, rfl, by show 0 + 1 ≤ 1; decide, ?_⟩
    refine ⟨or39_15, [2, 3], oF39_15, by kernel_rfl, ?_⟩
    refine And.intro ?_ (And.intro ?_ trivial)
    all_goals
      intro p6 c6 S6 hS6 hr6 hpf6
      have hx6 := Store.le_trans hS4 hS6
      exact ⟨rfl, ((ym, yl, (p6, _, c6), ei), yw, yb), rfl, i1.le hx6, i2.le hx6, did_end _ rfl hpf6.1 hr6, rfl, i5, i6⟩
  exfalso
  have h0 : 0 ≤ o := h0
  have h9 : o ≤ 8 := h9
  omega
end Go.Proofs.YtapblcfbmaikjaaGreatDoor
namespace Go.Proofs.YtapblcfbmaikjaaGreatDoor
open Go Go.Vc
set_option maxRecDepth 100000
set_option maxHeartbeats 8000000

theorem mix_spec (S : Store) (c : Int) (hc : inI64 c) (many : Nat) (hm : many ≤ 1000000) : Pure Tryz.prog 103 S [.int .i64 c, .int .i64 0, .int .i64 (many : Int)] (A := Unit) (fun _ => rI (Li.mixL c many : Nat)) (fun _ _ => True) := by
  obtain ⟨hc1, hc2⟩ := hc
  refine pure_vc agrees Tryz.func103 rfl rfl (fun S S' q hle h => h) ?_
  refine offE (decide_eq_false (show ¬ (0 : Int) < 0 by omega)) ?_
  refine offE (decide_eq_false (show ¬ (many : Int) < 0 by omega)) ?_
  refine And.intro (fun h1 => ?_) (fun h1 => ?_)
  · have e : c = -1 := by simpa using h1
    refine ⟨rfl, (), ?_, trivial⟩
    rw [e]; rfl
  have e1 : ¬ c = -1 := by simpa using h1
  by_cases h2 : c < -1
  · refine onE (decide_eq_true h2) ⟨rfl, (), ?_, trivial⟩
    unfold Li.mixL
    rw [if_neg e1, if_pos h2]
    rfl
  refine offE (decide_eq_false h2) ?_
  have g1 : Int.tmod c 1009 = c % 1009 := Int.tmod_eq_emod_of_nonneg (by omega)
  have b1 : 0 ≤ c % 1009 := Int.emod_nonneg _ (by decide)
  have b2 : c % 1009 < 1009 := Int.emod_lt_of_pos _ (by decide)
  obtain ⟨r, hr⟩ : ∃ r : Int, r = c % 1009 := ⟨_, rfl⟩
  rw [← hr] at b1 b2 g1
  have w1 : IntKind.i64.wrap (r * 31) = r * 31 := wrap_i64 (by omega) (by omega)
  have w0 : IntKind.i64.wrap ((0 : Int) * 17) = 0 := wrap_i64 (by omega) (by omega)
  have w2 : IntKind.i64.wrap (r * 31 + 0) = r * 31 := by rw [wrap_i64 (by omega) (by omega)]; omega
  have g2 : Int.tmod (r * 31) 1009 = r * 31 % 1009 := Int.tmod_eq_emod_of_nonneg (by omega)
  have w3 : IntKind.i64.wrap ((many : Int) + 1) = (many : Int) + 1 := wrap_i64 (by omega) (by omega)
  have b3 : 0 ≤ r * 31 % 1009 := Int.emod_nonneg _ (by decide)
  obtain ⟨u, hu⟩ : ∃ u : Int, u = r * 31 % 1009 := ⟨_, rfl⟩
  rw [← hu] at b3 g2
  have g3 : Int.tmod u ((many : Int) + 1) = u % ((many : Int) + 1) := Int.tmod_eq_emod_of_nonneg b3
  refine ⟨by decide, r, g1, r * 31, w1, by decide, 0, rfl, 0, w0, r * 31, w2, by decide, u, g2, (many : Int) + 1, w3, by omega, u % ((many : Int) + 1), g3, ?_⟩
  refine ⟨rfl, (), ?_, trivial⟩
  have e : ((Li.mixL c many : Nat) : Int) = u % ((many : Int) + 1) := by
    unfold Li.mixL
    rw [if_neg e1, if_neg h2, ← hr, ← hu]
    rw [Int.natCast_emod, Int.toNat_of_nonneg b3]
    rfl
  show rI (Li.mixL c many : Nat) = rI (u % ((many : Int) + 1))
  rw [e]
end Go.Proofs.YtapblcfbmaikjaaGreatDoor
namespace Go.Proofs.YtapblcfbmaikjaaGreatDoor
open Go Go.Vc Go.Sort Go.RowKit Go.Maps
set_option maxRecDepth 100000
set_option maxHeartbeats 8000000

theorem words_spec (S : Store) (x : Mcx) (n : Nat) (m : Li.Mem) (hx : MemIs S x.1 m) (hf : fewM n m) (hn : n ≤ 8) : Pure Tryz.prog 42 S [vMc x] (A := Hd) rSl (fun S' q => WsIs S' q (Li.lasts m)) := by
  have hz := zsize_spec S x m hx
  have hwd := fun (S' : Store) (hS : S.le S') => zword_spec S' x n m (hx.le hS) hf
  have hml := hf.ok.len
  obtain ⟨⟨⟨p, np, c1⟩, ⟨p2, n2, c2⟩⟩, ⟨⟨⟨fp, fn, fc⟩, ⟨p3, n3, c3⟩, b⟩, ⟨⟨ep, en, ec⟩, ei⟩⟩⟩ := x
  refine pure_vc agrees Tryz.func42 rfl rfl (fun S S' q hle h => h.le hle) ?_
  refine ⟨⟨_, rfl, rfl, rfl⟩, .inl ⟨_, _, _, hz, fun S1 _ hS1 _ => ?_⟩⟩
  have hll : (Li.lasts m).length = n := by unfold Li.lasts; rw [List.length_map]; exact hml
  refine ⟨[], [(5, shW, 35)], Nat × List Li.Wd, [6, 7, 8] ++ List.range' 16 13, fun z => [(15, rI z.1)], fun z => [.box [C.v (slV (p, np, c1)), C.v (slV (p2, n2, c2)), C.v (slV (fp, fn, fc)), C.v (slV (p3, n3, c3)), C.v (Value.map b), C.v (slV (ep, en, ec)), C.v (Value.int .i64 ei)], .row shW 35 z.2], fun _ => S1, fun z => z.1 ≤ n ∧ z.2 = (Li.lasts m).take z.1 ∧ ∀ w ∈ z.2, okW w, fun z => n - z.1, ?_⟩
  refine And.intro (Exists.intro (0, []) (And.intro (And.intro (And.intro ?_ rfl) (And.intro rfl (Store.le_refl _))) ⟨Nat.zero_le _, rfl, fun w hw => by cases hw⟩)) ?_
  · repeat' first | exact trivial | exact rfl | refine And.intro ?_ ?_
  rintro ⟨i, ws⟩ ⟨hi, hws, hok⟩
  simp only at hi hws hok
  refine And.intro (fun h1 => ?_) (fun h1 => ?_)
  · have h1 : (i : Int) < (m.ms.length : Int) := of_decide_eq_true h1
    have hin : i < n := by omega
    refine ⟨⟨_, rfl, rfl, rfl⟩, .inl ⟨_, _, _, hwd S1 hS1 i hin, fun S2 w hS2 hw => ?_⟩⟩
    have hwl : ws.length = i := by rw [hws, List.length_take, hll]; omega
    refine ⟨[w.1], ⟨rfl, rfl⟩, fun _ _ => ⟨trivial, trivial, trivial⟩, by show (ws.length + 1) * 16 ≤ 140737488355328; omega, ((i + 1 : Nat) : Int), (wrap_i64 (by omega) (by omega)), (i + 1, ws ++ [w.1]), ⟨⟨?_, rfl⟩, rfl, Store.le_trans hS2 (Store.le_refl _)⟩, ⟨hin, ?_, fun v hv => ?_⟩, ?_⟩
    · repeat' first | exact trivial | exact rfl | refine And.intro ?_ ?_
    · show ws ++ [w.1] = (Li.lasts m).take (i + 1)
      rw [List.take_add_one, hws, hw.1, List.getD_eq_getElem?_getD, List.getElem?_eq_getElem (by omega)]
      rfl
    · rcases List.mem_append.1 hv with hv | hv
      · exact hok v hv
      · simp only [List.mem_singleton] at hv; subst hv; exact hw.2
    · show n - (i + 1) < n - i
      omega
  · have h1 : ¬ (i : Int) < (m.ms.length : Int) := of_decide_eq_false h1
    have hin : i = n := by omega
    subst hin
    have hw2 : ws = Li.lasts m := by rw [hws, List.take_of_length_le (by omega)]
    intro p6 c6 S6 hS6 hr6 hpf6
    exact ⟨rfl, (p6, ws.length, c6), rfl, ws.map (fun w => (w, w)), by rw [List.map_map, ← hw2]; exact List.map_id ws, by show ws.length = _; rw [List.length_map], pform_le hpf6.1, by rw [List.map_map, show ((fun x : Li.Wd × Li.Wd => x.1) ∘ fun w : Li.Wd => (w, w)) = id from rfl, List.map_id]; exact hr6, fun z hz => by obtain ⟨w, hw, rfl⟩ := List.mem_map.1 hz; exact ⟨rfl, hok w hw⟩⟩
end Go.Proofs.YtapblcfbmaikjaaGreatDoor
