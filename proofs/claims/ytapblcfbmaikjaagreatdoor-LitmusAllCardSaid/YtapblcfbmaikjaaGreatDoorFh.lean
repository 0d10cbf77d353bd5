/- law09: the lines: New, Store, Flush, Sync. the lines: Flush, Sync. the lines: Sync. -/
import Derived.Test.YtapblcfbmaikjaaGreatDoorFe
namespace Go.Proofs.YtapblcfbmaikjaaGreatDoor
open Go Go.Vc
set_option maxRecDepth 100000
set_option maxHeartbeats 8000000

@[reducible] def shG : Shape := .st (.pair .slice (.int .i64))
@[reducible] def shT : Shape := .st (.pair (.int .i64) shW)
def WdIs (_ : Store) (x : Li.Wd) (w : Li.Wd) : Prop := x = w ∧ okW w
def WsIs (S : Store) (q : Hd) (ws : List Li.Wd) : Prop := RowOf S shW WdIs q ws
theorem WsIs.le {S S' : Store} (h : S.le S') {q l} (hx : WsIs S q l) : WsIs S' q l := RowOf.le (S := S) (S' := S') (fun _ _ h => h) h hx
abbrev Tx := Int × Li.Wd
def TxIs (_ : Store) (x : Tx) (p : Nat × Li.Wd) : Prop := x.1 = (p.1 : Int) ∧ x.2 = p.2 ∧ okW p.2
def TsIs (S : Store) (q : Hd) (l : List (Nat × Li.Wd)) : Prop := RowOf S shT TxIs q l
theorem TsIs.le {S S' : Store} (h : S.le S') {q l} (hx : TsIs S q l) : TsIs S' q l := RowOf.le (S := S) (S' := S') (fun _ _ h => h) h hx
/-- What a thread has asked for: a map with the one line, or nothing. -/
def AskIs (S : Store) (b : Option Nat) (o : Option Nat) : Prop := MapRd S b shI shI (match o with | none => [] | some m => [((0 : Int), (m : Int))])
theorem AskIs.le {S S' : Store} (h : S.le S') {b o} (hx : AskIs S b o) : AskIs S' b o := MapRd.le h hx
def AsksIs (S : Store) (b : Option Nat) (f : Int → Option Nat) : Prop := ∃ es : List (Int × Option Nat), MapRd S b shI .map es ∧ keysOnce (k := shI) es ∧ ∀ t : Int, AskIs S ((mget shI es t).getD none) (f t)
theorem AsksIs.le {S S' : Store} (h : S.le S') {b f} (hx : AsksIs S b f) : AsksIs S' b f := by
  obtain ⟨es, h1, h2, h3⟩ := hx
  exact ⟨es, h1.le h, h2, fun t => (h3 t).le h⟩
abbrev Lx := Hd × Hd × Option Nat
@[reducible] def vL (x : Lx) : Value := .agg #[slV x.1, slV x.2.1, .map x.2.2]
@[reducible] def cL (x : Lx) : List C := [.v (slV x.1), .v (slV x.2.1), .v (.map x.2.2)]
structure LnIs (S : Store) (x : Lx) (l : Li.Ln) : Prop where
  f : WsIs S x.1 l.first
  g : ∃ st : Hd, x.2.1.2.1 = 1 ∧ 1 ≤ x.2.1.2.2 ∧ RowRd S x.2.1.1 shG [(st, (l.kept : Int))] ∧ TsIs S st l.st
  a : AsksIs S x.2.2 l.asks
theorem LnIs.le {S S' : Store} (h : S.le S') {x l} (hx : LnIs S x l) : LnIs S' x l := by
  obtain ⟨h1, ⟨st, h2, h3, h4, h5⟩, h6⟩ := hx
  exact ⟨h1.le h, ⟨st, h2, h3, h4.le h, h5.le h⟩, h6.le h⟩
theorem wclone_spec (S : Store) (q : Hd) (ws : List Li.Wd) (hq : WsIs S q ws) (hne : 0 < ws.length) (hn : ws.length ≤ 1000000) : Pure Tryz.prog 99 S [slV q] (A := Hd) rSl (fun S' q' => WsIs S' q' ws) := by
  obtain ⟨L, hL1, hL2, hL3, hL4, hL5⟩ := hq.data
  obtain ⟨p, n, c⟩ := q
  have hL3 : n = ws.length := hL3
  subst hL3
  refine pure_vc agrees Tryz.func99 rfl rfl (fun S S' q hle h => h.le hle) ?_
  obtain ⟨xs, hxs⟩ : ∃ xs : List Li.Wd, xs = L.map (·.1) := ⟨_, rfl⟩
  have hxl : xs.length = ws.length := by rw [hxs, List.length_map, hL2]
  have hL4 : RowRd S p shW xs := by rw [hxs]; exact hL4
  cases hp : p with
  | none =>
    subst hp
    rcases hL4.1 with e | ⟨b, o, e, -⟩
    · exfalso; rw [e] at hxl; simp at hxl; omega
    · cases e
  | some ad =>
    subst hp
    refine onF ⟨xs, src_of hxl.symm hL4, fun y _ => ⟨trivial, trivial, trivial⟩, by show (0 + xs.length) * 16 ≤ 140737488355328; omega, ?_⟩
    intro p3 c3 S3 hS3 hr3 hpf3
    have e0 : ([] ++ xs).length = ws.length := hxl
    refine ⟨rfl, (p3, ([] ++ xs).length, c3), rfl, L, hL1, by show ([] ++ xs).length = L.length; rw [e0, hL2], pform_le hpf3.1, ?_, fun z hz => hL5 z hz⟩
    rw [← hxs]; exact hr3
theorem lthread_spec (S : Store) (k : Nat) (hk : k < 8) : Pure Tryz.prog 107 S [.int .i64 ((k : Int) + 1)] (A := Unit) (fun _ => rB true) (fun _ _ => True) := by
  refine pure_vc agrees Tryz.func107 rfl rfl (fun S S' q hle h => h) ?_
  refine onE (decide_eq_true (by show (k : Int) + 1 ≥ 1; omega)) ⟨rfl, (), ?_, trivial⟩
  show rB true = rB (decide ((k : Int) + 1 ≤ 8))
  rw [decide_eq_true (by omega)]
theorem lhas_spec (S : Store) (x : Lx) (l : Li.Ln) (hx : LnIs S x l) (a : Nat) (ha : a < l.first.length) : Pure Tryz.prog 108 S [vL x, .int .i64 (a : Int)] (A := Unit) (fun _ => rB true) (fun _ _ => True) := by
  have h1 := hx.f.len
  obtain ⟨⟨p, n, c⟩, x2⟩ := x
  have h1 : n = l.first.length := h1
  subst h1
  refine pure_vc agrees Tryz.func108 rfl rfl (fun S S' q hle h => h) ?_
  refine onE (decide_eq_true (by show (a : Int) ≥ 0; omega)) ⟨rfl, (), ?_, trivial⟩
  show rB true = rB (decide ((a : Int) < ((l.first.length : Nat) : Int)))
  rw [decide_eq_true (by omega)]
@[reducible] def rLE (x : Lx) : SV := .tup [(true, cL x), (false, [.v (.int .i64 0)])]
theorem lnew_spec (S : Store) (q : Hd) (ws : List Li.Wd) (hq : WsIs S q ws) (hne : 0 < ws.length) (hn : ws.length ≤ 8) : Pure Tryz.prog 65 S [slV q] (A := Lx) rLE (fun S' x => LnIs S' x (Li.newL ws)) := by
  have hl := hq.len
  obtain ⟨p, n, c⟩ := q
  have hl : n = ws.length := hl
  subst hl
  refine pure_vc agrees Tryz.func65 rfl rfl (fun S S' q hle h => h.le hle) ?_
  refine offE (decide_eq_false (by show ¬ ((ws.length : Nat) : Int) > 4096; omega)) ?_
  refine ⟨or65_3, [0, 1], oF65_3, by kernel_rfl, ?_⟩
  have d1 : IntKind.i64.wrap (((ws.length : Nat) : Int) + 8) = ((ws.length + 8 : Nat) : Int) := by rw [wrap_i64 (by omega) (by omega)]; omega
  have d2 : IntKind.i64.wrap (((ws.length + 8 : Nat) : Int) - 1) = ((ws.length + 7 : Nat) : Int) := by rw [wrap_i64 (by omega) (by omega)]; omega
  have d3 : IntKind.i64.wrap (Int.tdiv ((ws.length + 7 : Nat) : Int) 8) = 1 := by
    have : Int.tdiv ((ws.length + 7 : Nat) : Int) 8 = 1 := by
      rw [Int.tdiv_eq_ediv_of_nonneg (Int.natCast_nonneg _)]; omega
    rw [this]; decide
  refine ⟨_, d1, _, d2, by decide, _, d3, ?_⟩
  refine And.intro ⟨⟨_, rfl, rfl, rfl⟩, .inl ⟨_, _, _, wclone_spec S (p, ws.length, c) ws hq hne (by omega), fun S1 q1 hS1 hq1 => ⟨by decide, by decide, by decide, by decide, ?_⟩⟩⟩ (And.intro ⟨by decide, by decide, by decide, by decide, ⟨_, rfl, rfl, rfl⟩, .inl ⟨_, _, _, wclone_spec S (p, ws.length, c) ws hq hne (by omega), fun S1 q1 hS1 hq1 => ?_⟩⟩ trivial)
  all_goals
    intro p5 c5 S5 hS5 hr5 hpf5
    refine ⟨rfl, (q1, (p5, 1, c5), none), rfl, hq1.le hS5, ⟨(none, 0, 0), rfl, pform_le hpf5.1, hr5, RowOf.nil S5 shT TxIs⟩, [], rfl, once_nil, fun t => ?_⟩
    show AskIs S5 ((mget shI ([] : List (Int × Option Nat)) t).getD none) none
    exact (rfl : (([] : List (Int × Int)) = []))
theorem gclone_spec (S : Store) (q : Hd) (xs : List (Hd × Int)) (hl : q.2.1 = xs.length) (hne : 0 < xs.length) (hr : RowRd S q.1 shG xs) (hn : xs.length ≤ 1000) : SpecN Tryz.prog 111 S [slV q] (A := Unit) (fun _ => .c (.ref 0)) (fun _ => [.row shG 197 xs]) (fun _ _ => True) := by
  obtain ⟨p, n, c⟩ := q
  have hl : n = xs.length := hl
  subst hl
  have hr : RowRd S p shG xs := hr
  refine specN_vc agrees Tryz.func111 rfl rfl (fun _ _ _ _ h => h) ?_
  cases hp : p with
  | none =>
    subst hp
    rcases hr.1 with e | ⟨b, o, e, -⟩
    · exfalso; rw [e] at hne; simp at hne
    · cases e
  | some a =>
    subst hp
    exact onF ⟨xs, src_of rfl hr, fun y hy => hr.2 y hy, by show (0 + xs.length) * 32 ≤ 140737488355328; omega, [0], (), rfl, rfl, rfl, trivial⟩
theorem lclip_spec (S : Store) (q : Hd) (h : List (Nat × Li.Wd)) (hq : TsIs S q h) : Pure Tryz.prog 140 S [slV q] (A := Hd) rSl (fun S' q => TsIs S' q h ∧ q.2.2 = h.length) := by
  have hl := hq.len
  have hc := hq.cap
  obtain ⟨p, n, c⟩ := q
  have hl : n = h.length := hl
  subst hl
  refine pure_vc agrees Tryz.func140 rfl rfl (fun S S' q hle h => ⟨h.1.le hle, h.2⟩) ?_
  refine ⟨Int.natCast_nonneg _, Int.natCast_nonneg _, Nat.zero_le _, Nat.le_refl _, hc, rfl, (p, h.length, h.length), ?_, ?_, rfl⟩
  · show SV.c (C.v (Value.slice p h.length h.length)) = SV.c (C.v (Value.slice (if h.length = 0 then p else Option.map (fun p => addrAdd p (0 * 4)) p) h.length h.length))
    obtain ⟨L, h1, h2, h3, hr, hK⟩ := hq
    by_cases h0 : h.length = 0
    · rw [if_pos h0]
    · rw [if_neg h0]
      rcases hr.1 with e | ⟨b, o, e, -⟩
      · exfalso; apply h0; rw [← h1, List.length_map]; exact List.length_eq_zero_iff.2 (List.map_eq_nil_iff.1 e)
      · have e : p = some ⟨b, o, none⟩ := e
        subst e; rfl
  · obtain ⟨L, h1, h2, h3, hr, hK⟩ := hq
    exact ⟨L, h1, h2, Nat.le_refl _, hr, hK⟩
theorem div8 {a : Nat} (ha : a < 8) : IntKind.i64.wrap (Int.tdiv ((a : Nat) : Int) 8) = 0 := by
  have : Int.tdiv ((a : Nat) : Int) 8 = 0 := by rw [Int.tdiv_eq_ediv_of_nonneg (Int.natCast_nonneg _)]; omega
  rw [this]; decide
theorem lstore_spec (S : Store) (x : Lx) (n : Nat) (l : Li.Ln) (hx : LnIs S x l) (hl : Li.okL n l) (hn : n ≤ 8) (hs : l.st.length ≤ 100000) (a : Nat) (ha : a < n) (w : Li.Wd) (hw : okW w) :
    Pure Tryz.prog 106 S [vL x, .int .i64 (a : Int), vW w] (A := Lx) rLE (fun S' y => LnIs S' y (Li.storeL l a w)) := by
  have hh := lhas_spec S x l hx a (by rw [hl.len]; exact ha)
  obtain ⟨hf, ⟨st, g1, g2, g3, g4⟩, hask⟩ := hx
  obtain ⟨⟨fp, fn, fc⟩, ⟨p, n1, c⟩, b⟩ := x
  have g1 : n1 = 1 := g1
  subst g1
  obtain ⟨w1, w2, w3⟩ := w
  refine pure_vc agrees Tryz.func106 rfl rfl (fun S S' q hle h => h.le hle) ?_
  refine ⟨⟨_, rfl, rfl, rfl⟩, .inl ⟨_, _, _, hh, fun S1 _ hS1 _ => offE rfl ?_⟩⟩
  refine ⟨⟨_, rfl, rfl, rfl⟩, .inr (.inr (.inr (.inr (.inl ⟨_, _, _, _, gclone_spec S1 (p, 1, c) [(st, (l.kept : Int))] rfl (Nat.lt_succ_self 0) (g3.le hS1) (show 1 ≤ 1000 by decide), fun S2 _ hS2 _ => ?_⟩))))⟩
  refine ⟨by decide, _, div8 (by omega), by decide, (show (0 : Int) < ((1 : Nat) : Int) by decide), ?_⟩
  refine ⟨or106_5, [3, 4, 5], oF106_5, by kernel_rfl, ?_⟩
  have okt : ∀ y ∈ [(((a : Int), (w1, w2, w3)) : Tx)], shT.ok y := fun _ _ => ⟨trivial, trivial, trivial, trivial⟩
  have hcl := lclip_spec S2 st l.st ((g4.le hS1).le hS2)
  refine ⟨(st, (l.kept : Int)), rfl, And.intro ⟨⟨_, rfl, rfl, rfl⟩, .inl ⟨_, _, _, hcl, fun S4 q hS4 hq4 => ?_⟩⟩ (And.intro ⟨⟨_, rfl, rfl, rfl⟩, .inl ⟨_, _, _, hcl, fun S4 q hS4 hq4 => ?_⟩⟩ trivial)⟩
  all_goals
    have hS04 : S.le S4 := Store.le_trans hS1 (Store.le_trans hS2 hS4)
    obtain ⟨qp, qn, qc⟩ := q
    obtain ⟨hq4, hqc⟩ := hq4
    have hqc : qc = l.st.length := hqc
    have hqn : qn = l.st.length := hq4.len
    subst hqn hqc
    obtain ⟨L, hL1, hL2, hL3, hL4, hL5⟩ := hq4.data
    obtain ⟨xs, hxs⟩ : ∃ xs : List Tx, xs = L.map (·.1) := ⟨_, rfl⟩
    have hxl : xs.length = l.st.length := by rw [hxs, List.length_map, hL2]
    have hL4 : RowRd S4 qp shT xs := by rw [hxs]; exact hL4
    have fin : ∀ (S5 S6 : Store) (p5 : Option Addr) (c5 : Nat) (p6 : Option Addr) (c6 : Nat), S4.le S5 → PForm p5 (xs ++ [(((a : Int), (w1, w2, w3)) : Tx)]).length c5 → RowRd S5 p5 shT (xs ++ [((a : Int), (w1, w2, w3))]) → S5.le S6 → 1 ≤ c6 → RowRd S6 p6 shG [((p5, (xs ++ [(((a : Int), (w1, w2, w3)) : Tx)]).length, c5), (l.kept : Int))] →
        LnIs S6 ((fp, fn, fc), (p6, 1, c6), b) (Li.storeL l a (w1, w2, w3)) := fun S5 S6 p5 c5 p6 c6 h5 hpf hr h6 hc6 hr6 => by
      have e : (xs ++ [(((a : Int), (w1, w2, w3)) : Tx)]).length = (L ++ [((((a : Int), (w1, w2, w3)) : Tx), (a, (w1, w2, w3)))]).length := by rw [List.length_append, List.length_append, hxl, hL2]; rfl
      have h06 := Store.le_trans hS04 (Store.le_trans h5 h6)
      refine ⟨hf.le h06, ⟨(p5, (xs ++ [(((a : Int), (w1, w2, w3)) : Tx)]).length, c5), rfl, hc6, hr6, L ++ [((((a : Int), (w1, w2, w3)) : Tx), (a, (w1, w2, w3)))], by rw [List.map_append, hL1]; rfl, e, pform_le hpf, by rw [List.map_append]; rw [hxs] at hr; exact hr.le h6, fun z hz => ?_⟩, hask.le h06⟩
      rcases List.mem_append.1 hz with hz | hz
      · exact hL5 z hz
      · simp only [List.mem_singleton] at hz; subst hz; exact ⟨rfl, rfl, hw⟩
    cases qp with
    | none =>
      have hx0 : xs = [] := by
        rcases hL4.1 with e | ⟨b, o, e, -⟩
        · exact e
        · cases e
      have hh0 : l.st.length = 0 := by rw [← hxl, hx0]; rfl
      subst hx0
      refine .inl ⟨by show Value.slice none l.st.length l.st.length = _; rw [hh0], [((a : Int), (w1, w2, w3))], ⟨rfl, rfl⟩, okt, by show 1 * 24 ≤ 140737488355328; decide, ?_⟩
      intro p5 c5 S5 hS5 hr5 hpf5
      refine ⟨(st, (l.kept : Int)), ((p5, 1, c5), (l.kept : Int)), rfl, ⟨trivial, trivial⟩, rfl, by show 0 + 0 + 1 ≤ 2; decide, ?_⟩
      intro p6 c6 S6 hS6 hr6 hpf6
      exact ⟨rfl, ((fp, fn, fc), (p6, 1, c6), b), rfl, fin S5 S6 p5 c5 p6 c6 hS5 hpf5.1 hr5 hS6 (pform_le hpf6.1) hr6⟩
    | some ad =>
      refine .inr (.inr (.inl ⟨ad, l.st.length, l.st.length, xs, [((a : Int), (w1, w2, w3))], rfl, hxl, Nat.le_refl _, Nat.lt_succ_self _, hL4, ⟨rfl, rfl⟩, okt, ?_, ?_⟩))
      · show (l.st.length + 1) * 24 ≤ 140737488355328; omega
      intro p5 c5 S5 hS5 hr5 hpf5
      refine ⟨(st, (l.kept : Int)), ((p5, (xs ++ [(((a : Int), (w1, w2, w3)) : Tx)]).length, c5), (l.kept : Int)), rfl, ⟨trivial, trivial⟩, rfl, by show 0 + 0 + 1 ≤ 2; decide, ?_⟩
      intro p6 c6 S6 hS6 hr6 hpf6
      exact ⟨rfl, ((fp, fn, fc), (p6, 1, c6), b), rfl, fin S5 S6 p5 c5 p6 c6 hS5 hpf5.1 hr5 hS6 (pform_le hpf6.1) hr6⟩
end Go.Proofs.YtapblcfbmaikjaaGreatDoor
namespace Go.Proofs.YtapblcfbmaikjaaGreatDoor
open Go Go.Vc Go.Sort Go.RowKit Go.Maps
set_option maxRecDepth 100000
set_option maxHeartbeats 8000000

theorem aclone_spec (S : Store) (b : Nat) (es : List (Int × Int)) (hm : MapRd S (some b) shI shI es) : SpecN Tryz.prog 109 S [.map (some b)] (A := Unit) (fun _ => .c (.ref 0)) (fun _ => [.map shI shI es]) (fun _ _ => True) :=
  specN_clone hm fun ents clock w hb => AnyW.maps_Clone Tryz.layCloneA b ents clock w hb
theorem aclone_nil_spec (S : Store) : Pure Tryz.prog 109 S [.map none] (A := Unit) (fun _ => .c (.v (.map none))) (fun _ _ => True) :=
  pure_clone_nil fun w => AnyW.maps_Clone_nil Tryz.layCloneA w
theorem bclone_spec (S : Store) (b : Nat) (es : List (Int × Option Nat)) (hm : MapRd S (some b) shI .map es) : SpecN Tryz.prog 110 S [.map (some b)] (A := Unit) (fun _ => .c (.ref 0)) (fun _ => [.map shI .map es]) (fun _ _ => True) :=
  specN_clone hm fun ents clock w hb => AnyW.maps_Clone Tryz.layCloneB b ents clock w hb
theorem bclone_nil_spec (S : Store) : Pure Tryz.prog 110 S [.map none] (A := Unit) (fun _ => .c (.v (.map none))) (fun _ _ => True) :=
  pure_clone_nil fun w => AnyW.maps_Clone_nil Tryz.layCloneB w
theorem lflush_spec (S : Store) (x : Lx) (n : Nat) (l : Li.Ln) (hx : LnIs S x l) (hl : Li.okL n l) (hn : n ≤ 8) (k : Nat) (hk : k < 8) (a : Nat) (ha : a < n) :
    Pure Tryz.prog 71 S [vL x, .int .i64 ((k : Int) + 1), .int .i64 (a : Int)] (A := Lx) rLE (fun S' y => LnIs S' y (Li.flushL l ((k : Int) + 1))) := by
  have hh := fun (S' : Store) (hS' : S.le S') => lhas_spec S' x l (hx.le hS') a (by rw [hl.len]; exact ha)
  obtain ⟨hf, ⟨st, g1, g2, g3, g4⟩, ⟨es, he1, he2, he3⟩⟩ := hx
  obtain ⟨⟨fp, fn, fc⟩, ⟨p, n1, c⟩, b⟩ := x
  have g1 : n1 = 1 := g1
  subst g1
  have hask := he3 ((k : Int) + 1)
  obtain ⟨bo, ho, hp, -, hrd⟩ := row_at g3 (i := 0) (x := (st, (l.kept : Int))) rfl
  have hstl := g4.len
  refine pure_vc agrees Tryz.func71 rfl rfl (fun S S' q hle h => h.le hle) ?_
  refine ⟨⟨_, rfl, rfl, rfl⟩, .inl ⟨_, _, _, lthread_spec S k hk, fun S1 _ hS1 _ => offE rfl ?_⟩⟩
  refine ⟨⟨_, rfl, rfl, rfl⟩, .inl ⟨_, _, _, hh S1 hS1, fun S2 _ hS2 _ => offE rfl ?_⟩⟩
  have hS02 := Store.le_trans hS1 hS2
  refine ⟨es, he1.le hS02, (k : Int) + 1, (none : Option Nat), rfl, rfl, ?_⟩
  -- what the other map holds, behind the update
  have fin : ∀ (S6 S7 : Store) (b6 b7 : Nat) (fs : List (Int × Option Nat)), S2.le S6 → S6.le S7 → MapRd S6 (some b6) shI shI [((0 : Int), ((l.st.length : Nat) : Int))] → fs = mset shI es ((k : Int) + 1) (some b6) → MapRd S7 (some b7) shI .map fs → LnIs S7 ((fp, fn, fc), (p, 1, c), some b7) (Li.flushL l ((k : Int) + 1)) := by
    intro S6 S7 b6 b7 fs h6 h7 hm6 hfs hm7
    have h07 := Store.le_trans hS02 (Store.le_trans h6 h7)
    refine ⟨hf.le h07, ⟨st, rfl, g2, g3.le h07, g4.le h07⟩, fs, hm7, by rw [hfs]; exact once_mset rfl he2 _ _, fun t => ?_⟩
    rw [hfs, mget_mset']
    show AskIs S7 _ (if t = (k : Int) + 1 then some l.st.length else l.asks t)
    by_cases ht : t = (k : Int) + 1
    · rw [if_pos ht, if_pos ht]; exact hm6.le h7
    · rw [if_neg ht, if_neg ht]; exact (he3 t).le h07
  obtain ⟨ab, hab⟩ : ∃ ab, (mget shI es ((k : Int) + 1)).getD (none : Option Nat) = ab := ⟨_, rfl⟩
  rw [hab] at hask
  have hst0 : MapRd S2 ab shI shI (match l.asks ((k : Int) + 1) with | none => [] | some m => [((0 : Int), (m : Int))]) := MapRd.le hS02 hask
  have g8 : ((0 : Nat) : Int) < ((1 : Nat) : Int) := by decide
  cases ab with
  | none =>
    have hcl : Vc.Pure Tryz.prog 109 S2 [.map ((mget shI es ((k : Int) + 1)).getD (none : Option Nat))] (A := Unit) (fun _ => .c (.v (.map none))) (fun _ _ => True) := by rw [hab]; exact aclone_nil_spec S2
    refine ⟨⟨_, rfl, rfl, rfl⟩, .inl ⟨_, _, _, hcl, fun S3 _ hS3 _ => ?_⟩⟩
    have hrd3 := Store.rd_le (Store.le_trans hS02 hS3) hrd
    refine onT ⟨by decide, _, div8 (by omega), by decide, g8, bo, ho, hp, st, trivial, rd_field hrd3 rfl, (0 : Int), ((st.2.1 : Nat) : Int), rfl, rfl, trivial, ?_⟩
    rcases b with _ | b0
    · refine ⟨⟨_, rfl, rfl, rfl⟩, .inl ⟨_, _, _, bclone_nil_spec S3, fun S4 _ hS4 _ => onT ?_⟩⟩
      intro b6 S6 hS6 hm6
      refine ⟨(k : Int) + 1, some b6, rfl, rfl, trivial, ?_⟩
      have hes : es = [] := he1
      intro b7 S7 hS7 hm7
      have h6 : MapRd S6 (some b6) shI shI [((0 : Int), ((l.st.length : Nat) : Int))] := by have := hm6.1; rw [← hstl]; exact this
      exact ⟨rfl, ((fp, fn, fc), (p, 1, c), some b7), rfl, fin S6 S7 b6 b7 _ (Store.le_trans hS3 (Store.le_trans hS4 hS6)) hS7 h6 (congrArg (fun e => mset shI e ((k : Int) + 1) (some b6)) hes).symm hm7.1⟩
    · refine ⟨⟨_, rfl, rfl, rfl⟩, .inr (.inr (.inr (.inr (.inl ⟨_, _, _, _, bclone_spec S3 b0 es (he1.le (Store.le_trans hS02 hS3)), fun S4 _ hS4 _ => onF ?_⟩))))⟩
      intro b6 S6 hS6 hm6
      refine ⟨(k : Int) + 1, some b6, rfl, rfl, trivial, ?_⟩
      intro b7 S7 hS7 hm7
      have h6 : MapRd S6 (some b6) shI shI [((0 : Int), ((l.st.length : Nat) : Int))] := by have := hm6.1; rw [← hstl]; exact this
      exact ⟨rfl, ((fp, fn, fc), (p, 1, c), some b7), rfl, fin S6 S7 b6 b7 _ (Store.le_trans hS3 (Store.le_trans hS4 hS6)) hS7 h6 (rfl) hm7.1⟩
  | some b1 =>
    obtain ⟨fs0, hfs0⟩ : ∃ fs0 : List (Int × Int), fs0 = (match l.asks ((k : Int) + 1) with | none => [] | some m => [((0 : Int), (m : Int))]) := ⟨_, rfl⟩
    rw [← hfs0] at hst0
    have hset : mset shI fs0 (0 : Int) ((st.2.1 : Nat) : Int) = [((0 : Int), ((st.2.1 : Nat) : Int))] := by
      rw [hfs0]; cases l.asks ((k : Int) + 1) <;> rfl
    have hcl : SpecN Tryz.prog 109 S2 [.map ((mget shI es ((k : Int) + 1)).getD (none : Option Nat))] (A := Unit) (fun _ => .c (.ref 0)) (fun _ => [.map shI shI fs0]) (fun _ _ => True) := by rw [hab]; exact aclone_spec S2 b1 fs0 hst0
    refine ⟨⟨_, rfl, rfl, rfl⟩, .inr (.inr (.inr (.inr (.inl ⟨_, _, _, _, hcl, fun S3 _ hS3 _ => ?_⟩))))⟩
    have hrd3 := Store.rd_le (Store.le_trans hS02 hS3) hrd
    refine onF ⟨by decide, _, div8 (by omega), by decide, g8, bo, ho, hp, st, trivial, rd_field hrd3 rfl, (0 : Int), ((st.2.1 : Nat) : Int), rfl, rfl, trivial, ?_⟩
    rcases b with _ | b0
    · refine ⟨⟨_, rfl, rfl, rfl⟩, .inl ⟨_, _, _, bclone_nil_spec S3, fun S4 _ hS4 _ => onT ?_⟩⟩
      intro b6 S6 hS6 hm6
      refine ⟨(k : Int) + 1, some b6, rfl, rfl, trivial, ?_⟩
      have hes : es = [] := he1
      intro b7 S7 hS7 hm7
      have h6 : MapRd S6 (some b6) shI shI [((0 : Int), ((l.st.length : Nat) : Int))] := by have h := hm6.1; rw [← hstl, ← hset]; exact h
      exact ⟨rfl, ((fp, fn, fc), (p, 1, c), some b7), rfl, fin S6 S7 b6 b7 _ (Store.le_trans hS3 (Store.le_trans hS4 hS6)) hS7 h6 (congrArg (fun e => mset shI e ((k : Int) + 1) (some b6)) hes).symm hm7.1⟩
    · refine ⟨⟨_, rfl, rfl, rfl⟩, .inr (.inr (.inr (.inr (.inl ⟨_, _, _, _, bclone_spec S3 b0 es (he1.le (Store.le_trans hS02 hS3)), fun S4 _ hS4 _ => onF ?_⟩))))⟩
      intro b6 S6 hS6 hm6
      refine ⟨(k : Int) + 1, some b6, rfl, rfl, trivial, ?_⟩
      intro b7 S7 hS7 hm7
      have h6 : MapRd S6 (some b6) shI shI [((0 : Int), ((l.st.length : Nat) : Int))] := by have h := hm6.1; rw [← hstl, ← hset]; exact h
      exact ⟨rfl, ((fp, fn, fc), (p, 1, c), some b7), rfl, fin S6 S7 b6 b7 _ (Store.le_trans hS3 (Store.le_trans hS4 hS6)) hS7 h6 (rfl) hm7.1⟩
end Go.Proofs.YtapblcfbmaikjaaGreatDoor
namespace Go.Proofs.YtapblcfbmaikjaaGreatDoor
open Go Go.Vc Go.Sort Go.RowKit Go.Maps
set_option maxRecDepth 100000
set_option maxHeartbeats 8000000

theorem mget_mdel {k : Shape} (hk : k.keyed = true) {V : Type} : ∀ {es : List (k.T × V)} (_ : keysOnce es) (y x : k.T), mget k (mdel k es y) x = if k.eq x y = true then none else mget k es x
  | [], _, y, x => by simp [mdel, mget]
  | q :: es, h, y, x => by
    unfold keysOnce at h
    simp only [List.map_cons, List.nodup_cons] at h
    simp only [mdel]
    by_cases e : k.eq y q.1 = true
    · rw [if_pos e]
      have e' := (key_eq hk _ _).1 e
      subst e'
      by_cases e2 : k.eq x q.1 = true
      · rw [if_pos e2]
        have e2' := (key_eq hk _ _).1 e2
        subst e2'
        exact (mget_none hk).2 h.1
      · rw [if_neg e2]
        simp only [mget, if_neg e2]
    · rw [if_neg e]
      simp only [mget]
      by_cases e2 : k.eq x q.1 = true
      · have e2' := (key_eq hk _ _).1 e2
        subst e2'
        rw [if_pos e2, if_pos e2, if_neg]
        intro e3
        have := (key_eq hk _ _).1 e3
        exact e (by rw [this]; exact (key_eq hk _ _).2 rfl)
      · rw [if_neg e2, if_neg e2]
        exact mget_mdel hk (es := es) h.2 y x
theorem once_mdel {k : Shape} {V : Type} : ∀ {es : List (k.T × V)} (_ : keysOnce es) (y : k.T), keysOnce (mdel k es y)
  | [], _, _ => List.nodup_nil
  | q :: es, h, y => by
    unfold keysOnce at h ⊢
    simp only [List.map_cons, List.nodup_cons] at h
    simp only [mdel]
    split
    · exact h.2
    · simp only [List.map_cons, List.nodup_cons]
      refine ⟨fun hm => h.1 ?_, once_mdel (es := es) h.2 y⟩
      have hsub : ∀ (es : List (k.T × V)), ∀ z ∈ (mdel k es y).map (·.1), z ∈ es.map (·.1) := by
        intro es
        induction es with
        | nil => intro z hz; cases hz
        | cons a es ih =>
          intro z hz
          simp only [mdel] at hz
          split at hz
          · exact List.mem_cons_of_mem _ hz
          · rcases List.mem_cons.1 hz with hz | hz
            · rw [hz]; exact List.mem_cons_self
            · exact List.mem_cons_of_mem _ (ih z hz)
      exact hsub es _ hm

theorem lsync_spec (S : Store) (x : Lx) (l : Li.Ln) (hx : LnIs S x l) (k : Nat) (hk : k < 8) :
    Pure Tryz.prog 72 S [vL x, .int .i64 ((k : Int) + 1)] (A := Lx) rLE (fun S' y => LnIs S' y (Li.syncL l ((k : Int) + 1))) := by
  obtain ⟨hf, ⟨st, g1, g2, g3, g4⟩, ⟨es, he1, he2, he3⟩⟩ := hx
  obtain ⟨⟨fp, fn, fc⟩, ⟨p, n1, c⟩, b⟩ := x
  have g1 : n1 = 1 := g1
  subst g1
  obtain ⟨ab, hab⟩ : ∃ ab, (mget shI es ((k : Int) + 1)).getD (none : Option Nat) = ab := ⟨_, rfl⟩
  have hask := he3 ((k : Int) + 1)
  rw [hab] at hask
  obtain ⟨L0, hL0⟩ : ∃ L0 : List (Int × Int), L0 = (match l.asks ((k : Int) + 1) with | none => [] | some m => [((0 : Int), (m : Int))]) := ⟨_, rfl⟩
  have hst0 : MapRd S ab shI shI L0 := by rw [hL0]; exact hask
  have hL0o : keysOnce (k := shI) L0 := by
    rw [hL0]; cases l.asks ((k : Int) + 1) with
    | none => exact List.Pairwise.nil
    | some m => exact List.pairwise_singleton _ _
  obtain ⟨K, hK⟩ : ∃ K : Int, K = ((max l.kept ((l.asks ((k : Int) + 1)).getD 0) : Nat) : Int) := ⟨_, rfl⟩
  refine pure_vc agrees Tryz.func72 rfl rfl (fun S S' q hle h => h.le hle) ?_
  refine ⟨⟨_, rfl, rfl, rfl⟩, .inl ⟨_, _, _, lthread_spec S k hk, fun S1 _ hS1 _ => offE rfl ?_⟩⟩
  refine ⟨⟨_, rfl, rfl, rfl⟩, .inr (.inr (.inr (.inr (.inl ⟨_, _, _, _, gclone_spec S1 (p, 1, c) [(st, (l.kept : Int))] rfl (Nat.lt_succ_self 0) (g3.le hS1) (show 1 ≤ 1000 by decide), fun S2 _ hS2 _ => ?_⟩))))⟩
  have hS02 := Store.le_trans hS1 hS2
  refine ⟨es, he1.le hS02, (k : Int) + 1, (none : Option Nat), rfl, rfl, ?_⟩
  obtain ⟨ents, clock, hit, hio⟩ := iter_of (MapRd.le hS02 hst0)
  rw [← hab] at hit hio
  refine ⟨ents, clock, L0, hit, ?_⟩
  refine ⟨[], [], Int × List (Int × Int) × Option (Int × Int), [6, 7] ++ List.range' 21 26, fun _ => [], fun z => [.box [C.v (slV (fp, fn, fc)), C.ref 2, C.v (Value.map b)], .box ti70.zero, .row shG 197 [(st, z.1)], .iter shI shI ((mget shI es ((k : Int) + 1)).getD (none : Option Nat)) ents clock z.2.1 z.2.2], fun _ => S2,
    fun z => (z.2.1 = L0 ∧ z.1 = (l.kept : Int)) ∨ (z.2.1 = [] ∧ z.1 = K), fun z => z.2.1.length, ?_⟩
  refine And.intro (Exists.intro ((l.kept : Int), L0, none) (And.intro (And.intro (And.intro ?_ rfl) (And.intro rfl (Store.le_refl _))) (.inl ⟨rfl, rfl⟩))) ?_
  · repeat' first | exact trivial | exact rfl | refine And.intro ?_ ?_
  rintro ⟨cur, left, ce⟩ hz
  refine And.intro hio (And.intro (fun hl' => ?_) fun (pre : List (Int × Int)) (q : Int × Int) (post : List (Int × Int)) hl' => ?_)
  · have hl' : left = [] := hl'
    subst hl'
    have hcur : cur = K := by
      rcases hz with ⟨h1, h2⟩ | ⟨h1, h2⟩
      · have h1 : ([] : List (Int × Int)) = L0 := h1
        have h2 : cur = (l.kept : Int) := h2
        rw [h2, hK]
        rw [hL0] at h1
        cases ha : l.asks ((k : Int) + 1) with
        | none => simp
        | some m => rw [ha] at h1; cases h1
      · exact h2
    have fin : ∀ (S6 S7 : Store) (p6 : Option Addr) (c6 : Nat) (b7 : Option Nat) (fs : List (Int × Option Nat)), S2.le S6 → S6.le S7 → 1 ≤ c6 → RowRd S6 p6 shG [(st, cur)] → fs = mdel shI es ((k : Int) + 1) → MapRd S7 b7 shI .map fs → LnIs S7 ((fp, fn, fc), (p6, 1, c6), b7) (Li.syncL l ((k : Int) + 1)) := by
      intro S6 S7 p6 c6 b7 fs h6 h67 hc6 hr6 hfs hm7
      have h07 := Store.le_trans hS02 (Store.le_trans h6 h67)
      have hr7 := hr6.le h67
      rw [hcur, hK] at hr7
      refine ⟨hf.le h07, ⟨st, rfl, hc6, hr7, g4.le h07⟩, fs, hm7, by rw [hfs]; exact once_mdel he2 _, fun t => ?_⟩
      rw [hfs, mget_mdel rfl he2]
      show AskIs S7 _ (if t = (k : Int) + 1 then none else l.asks t)
      by_cases ht : t = (k : Int) + 1
      · rw [if_pos ht, if_pos (show shI.eq t ((k : Int) + 1) = true from beq_iff_eq.2 ht)]; exact rfl
      · rw [if_neg ht, if_neg (show ¬ shI.eq t ((k : Int) + 1) = true from fun q => ht (beq_iff_eq.1 q))]; exact (he3 t).le h07
    rcases b with _ | b0
    · have hes : es = [] := he1
      refine onF ⟨⟨_, rfl, rfl, rfl⟩, .inl ⟨_, _, _, bclone_nil_spec S2, fun S4 _ hS4 _ => ?_⟩⟩
      refine ⟨shI, (k : Int) + 1, by kernel_rfl, rfl, ?_⟩
      intro p6 c6 S6 hS6 hr6 hpf6
      exact ⟨rfl, ((fp, fn, fc), (p6, 1, c6), none), rfl, fin S6 S6 p6 c6 none [] (Store.le_trans hS4 hS6) (Store.le_refl _) (pform_le hpf6.1) hr6 (congrArg (fun e => mdel shI e ((k : Int) + 1)) hes).symm rfl⟩
    · refine onF ⟨⟨_, rfl, rfl, rfl⟩, .inr (.inr (.inr (.inr (.inl ⟨_, _, _, _, bclone_spec S2 b0 es (he1.le hS02), fun S4 _ hS4 _ => ?_⟩))))⟩
      refine ⟨(k : Int) + 1, rfl, ?_⟩
      intro p6 c6 S6 hS6 hr6 hpf6 b7 S7 hS7 hm7
      exact ⟨rfl, ((fp, fn, fc), (p6, 1, c6), some b7), rfl, fin S6 S7 p6 c6 (some b7) _ (Store.le_trans hS4 hS6) hS7 (pform_le hpf6.1) hr6 rfl hm7.1⟩
  · have hl' : left = pre ++ q :: post := hl'
    obtain ⟨m, hm, h1, h2, h3, h4⟩ : ∃ m : Nat, l.asks ((k : Int) + 1) = some m ∧ pre = [] ∧ post = [] ∧ q = ((0 : Int), (m : Int)) ∧ cur = (l.kept : Int) := by
      rcases hz with ⟨h1, h2⟩ | ⟨h1, h2⟩
      · have h1 : left = L0 := h1
        have h2 : cur = (l.kept : Int) := h2
        rw [hl', hL0] at h1
        cases ha : l.asks ((k : Int) + 1) with
        | none => rw [ha] at h1; simp at h1
        | some m =>
          rw [ha] at h1
          cases pre with
          | nil =>
            have h1 : q :: post = [((0 : Int), (m : Int))] := h1
            injection h1 with e1 e2
            exact ⟨m, rfl, rfl, e2, e1, h2⟩
          | cons a pre => simp at h1
      · have h1 : left = [] := h1
        rw [hl'] at h1
        simp at h1
    subst h1 h2 h3 h4 hl'
    refine onT ⟨hio, or72_7, [2], oF72_7, by kernel_rfl, ?_⟩
    have g0 : (0 : Int) < ((1 : Nat) : Int) := by decide
    refine ⟨Int.le_refl 0, g0, (st, (l.kept : Int)), rfl, Int.le_refl 0, g0, (st, (l.kept : Int)), (st, if (m : Int) > (l.kept : Int) then (m : Int) else (l.kept : Int)), rfl, ⟨trivial, trivial⟩, rfl, by show 0 + 1 + 1 ≤ 2; decide, ?_⟩
    refine ⟨(if (m : Int) > (l.kept : Int) then (m : Int) else (l.kept : Int), [], some ((0 : Int), (m : Int))), ⟨⟨?_, rfl⟩, rfl, Store.le_refl _⟩, .inr ⟨rfl, ?_⟩, ?_⟩
    · repeat' first | exact trivial | exact rfl | refine And.intro ?_ ?_
    · show (if (m : Int) > (l.kept : Int) then (m : Int) else (l.kept : Int)) = K
      rw [hK, hm]
      show _ = ((max l.kept m : Nat) : Int)
      split <;> omega
    · show 0 < 1
      decide
end Go.Proofs.YtapblcfbmaikjaaGreatDoor
