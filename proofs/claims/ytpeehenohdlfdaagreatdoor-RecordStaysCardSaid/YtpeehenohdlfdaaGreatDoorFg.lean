/- law57: the program's histories: what they hold; maps.Copy; the closures that change the open calls. -/
import Derived.Test.YtpeehenohdlfdaaGreatDoorFc
namespace Go.Proofs.YtpeehenohdlfdaaGreatDoor
open Go Go.Vc Go.Sort
set_option maxRecDepth 100000
set_option maxHeartbeats 4000000

abbrev oT := Int × Bool
theorem copyI_spec (S : Store) (b : Option Nat) (src : List (Int × Int)) (hm : MapRd S b shI shI src) (hs : keysOnce (k := shI) src) :
    SpecR Tryz.prog 63 S [.map shI shI []] [.c (.ref 0), .c (.v (.map b))] (A := List (Int × Int)) (fun _ => .tup []) (fun es => [.map shI shI es])
      (fun _ es => keysOnce (k := shI) es ∧ ∀ k, mget shI es k = mget shI src k) := by
  refine specR_of_vc agrees Tryz.func63 rfl (fun _ _ _ _ h => h) ?_
  obtain ⟨ents, clock, hit, hio⟩ := iter_of hm
  refine ⟨ents, clock, src, hit, [], [], List (Int × Int) × List (Int × Int) × Option (Int × Int), [4, 5, 8, 9, 10, 11, 12, 13, 14, 15], fun _ => [], fun a => [.map shI shI a.1, .iter shI shI b ents clock a.2.1 a.2.2], fun _ => S,
    fun a => keysOnce (k := shI) a.1 ∧ keysOnce (k := shI) a.2.1 ∧ (∀ p ∈ a.2.1, p ∈ src) ∧ ∀ k, mget shI a.1 k = if mget shI a.2.1 k = none then mget shI src k else none, fun a => a.2.1.length, ?_⟩
  refine And.intro (Exists.intro ([], src, none) (And.intro (And.intro (And.intro ?_ rfl) (And.intro rfl (Store.le_refl _))) ⟨once_nil, hs, fun _ h => h, fun k => ?_⟩)) ?_
  · repeat' first | exact trivial | exact rfl | refine And.intro ?_ ?_
  · show mget shI [] k = _
    by_cases h : mget shI src k = none
    · rw [if_pos h, h]; rfl
    · rw [if_neg h]; rfl
  rintro ⟨cur, left, ce⟩ ⟨h1, h2, h3, h4⟩
  refine And.intro hio (And.intro (fun hl => ?_) fun pre p post hl => ?_)
  · refine onF ⟨rfl, cur, rfl, rfl, rfl, h1, fun k => ?_⟩
    have hl' : left = [] := hl
    subst hl'
    exact h4 k
  · have hl' : left = pre ++ p :: post := hl
    subst hl'
    refine onT ⟨hio, p.1, p.2, rfl, rfl, trivial, (mset shI cur p.1 p.2, pre ++ post, some p), ⟨⟨?_, rfl⟩, rfl, Store.le_refl _⟩, ⟨once_mset rfl h1 _ _, once_out h2, fun q hq => h3 q ?_, fun k => ?_⟩, ?_⟩
    · repeat' first | exact trivial | exact rfl | refine And.intro ?_ ?_
    · rcases List.mem_append.1 hq with hq | hq
      · exact List.mem_append_left _ hq
      · exact List.mem_append_right _ (List.mem_cons_of_mem _ hq)
    · show mget shI (mset shI cur p.1 p.2) k = _
      have e1 := mget_mset (k := shI) rfl cur p.1 p.2 k
      have e2 := mget_out (k := shI) rfl h2 k
      have e3 := h4 k
      have hsrc : mget shI src p.1 = some p.2 := (mget_some (k := shI) rfl hs).2 (h3 p (by simp))
      simp only [] at *
      rw [e1]
      simp only [e2]
      by_cases hk : Shape.eq shI k p.1 = true
      · have hk' := (key_eq (k := shI) rfl k p.1).1 hk
        rw [if_pos hk, if_pos hk, if_pos rfl, hk', hsrc]
      · rw [if_neg hk, if_neg hk, e3]
    · show (pre ++ post).length < (pre ++ p :: post).length
      simp
theorem copyO_spec (S : Store) (b : Option Nat) (src : List (Int × oT)) (hm : MapRd S b shI shO src) (hs : keysOnce (k := shI) src) :
    SpecR Tryz.prog 62 S [.map shI shO []] [.c (.ref 0), .c (.v (.map b))] (A := List (Int × oT)) (fun _ => .tup []) (fun es => [.map shI shO es])
      (fun _ es => keysOnce (k := shI) es ∧ ∀ k, mget shI es k = mget shI src k) := by
  refine specR_of_vc agrees Tryz.func62 rfl (fun _ _ _ _ h => h) ?_
  obtain ⟨ents, clock, hit, hio⟩ := iter_of hm
  refine ⟨ents, clock, src, hit, [], [], List (Int × oT) × List (Int × oT) × Option (Int × oT), [4, 5, 8, 9, 10, 11, 12, 13, 14, 15], fun _ => [], fun a => [.map shI shO a.1, .iter shI shO b ents clock a.2.1 a.2.2], fun _ => S,
    fun a => keysOnce (k := shI) a.1 ∧ keysOnce (k := shI) a.2.1 ∧ (∀ p ∈ a.2.1, p ∈ src) ∧ ∀ k, mget shI a.1 k = if mget shI a.2.1 k = none then mget shI src k else none, fun a => a.2.1.length, ?_⟩
  refine And.intro (Exists.intro ([], src, none) (And.intro (And.intro (And.intro ?_ rfl) (And.intro rfl (Store.le_refl _))) ⟨once_nil, hs, fun _ h => h, fun k => ?_⟩)) ?_
  · repeat' first | exact trivial | exact rfl | refine And.intro ?_ ?_
  · show mget shI [] k = _
    by_cases h : mget shI src k = none
    · rw [if_pos h, h]; rfl
    · rw [if_neg h]; rfl
  rintro ⟨cur, left, ce⟩ ⟨h1, h2, h3, h4⟩
  refine And.intro hio (And.intro (fun hl => ?_) fun pre p post hl => ?_)
  · refine onF ⟨rfl, cur, rfl, rfl, rfl, h1, fun k => ?_⟩
    have hl' : left = [] := hl
    subst hl'
    exact h4 k
  · have hl' : left = pre ++ p :: post := hl
    subst hl'
    obtain ⟨pk, pn, pc⟩ := p
    refine onT ⟨hio, pk, (pn, pc), rfl, rfl, ⟨trivial, trivial⟩, (mset shI cur pk (pn, pc), pre ++ post, some (pk, pn, pc)), ⟨⟨?_, rfl⟩, rfl, Store.le_refl _⟩, ⟨once_mset rfl h1 _ _, once_out h2, fun q hq => h3 q ?_, fun k => ?_⟩, ?_⟩
    · repeat' first | exact trivial | exact rfl | refine And.intro ?_ ?_
    · rcases List.mem_append.1 hq with hq | hq
      · exact List.mem_append_left _ hq
      · exact List.mem_append_right _ (List.mem_cons_of_mem _ hq)
    · show mget shI (mset shI cur pk (pn, pc)) k = _
      have e1 := mget_mset (k := shI) rfl cur pk (pn, pc) k
      have e2 := mget_out (k := shI) rfl h2 k
      have e3 := h4 k
      have hsrc : mget shI src pk = some (pn, pc) := (mget_some (k := shI) rfl hs).2 (h3 _ (by simp))
      simp only [] at *
      rw [e1]
      simp only [e2]
      by_cases hk : Shape.eq shI k pk = true
      · have hk' := (key_eq (k := shI) rfl k pk).1 hk
        rw [if_pos hk, if_pos hk, if_pos rfl, hk', hsrc]
      · rw [if_neg hk, if_neg hk, e3]
    · show (pre ++ post).length < (pre ++ (pk, pn, pc) :: post).length
      simp

/-- What the store knows of an event, of events, of a history. -/
structure EIs (S : Store) (x : Ex) (e : Rc.Ev) : Prop where
  k : x.1 = e.k
  t : x.2.1 = e.t
  n : x.2.2.1 = e.n
  nm : x.2.2.2.1.1 = bs e.nm
  ar : NsIs S x.2.2.2.1.2 e.as
  er : x.2.2.2.2.1 = e.er
  va : x.2.2.2.2.2 = e.va
  few : e.nm.length ≤ 1000000000
  cnt : e.as.length ≤ 1000000
  wide : Rc.wide e
theorem EIs.le {S S' : Store} (h : S.le S') {x e} (hx : EIs S x e) : EIs S' x e := ⟨hx.k, hx.t, hx.n, hx.nm, hx.ar.le h, hx.er, hx.va, hx.few, hx.cnt, hx.wide⟩
def LIs (S : Store) (q : Hd) (l : List Rc.Ev) : Prop := ∃ L : List (Ex × Rc.Ev), L.map (·.2) = l ∧ q.2.1 = L.length ∧ q.2.1 ≤ q.2.2 ∧ RowRd S q.1 shE (L.map (·.1)) ∧ ∀ z ∈ L, EIs S z.1 z.2
theorem LIs.le {S S' : Store} (h : S.le S') {q l} (hx : LIs S q l) : LIs S' q l := by
  obtain ⟨L, h1, h2, h3, h4, h5⟩ := hx
  exact ⟨L, h1, h2, h3, h4.le h, fun z hz => (h5 z hz).le h⟩
theorem l_nil (S : Store) : LIs S (none, 0, 0) [] := ⟨[], rfl, rfl, Nat.le_refl _, ⟨.inl rfl, fun x hx => (by cases hx)⟩, fun z hz => (by cases hz)⟩
def OIs (S : Store) (b : Option Nat) (l : List Rc.Ev) : Prop := ∃ om : List (Int × oT), MapRd S b shI shO om ∧ keysOnce (k := shI) om ∧ ∀ t, mget shI om t = Rc.openM l t
def TIs (S : Store) (b : Option Nat) (l : List Rc.Ev) : Prop := ∃ lm : List (Int × Int), MapRd S b shI shI lm ∧ keysOnce (k := shI) lm ∧ ∀ t, (mget shI lm t).getD 0 = Rc.lastR l t
structure HIs (S : Store) (h : Hx) (l : List Rc.Ev) : Prop where
  ls : LIs S h.1 l
  os : OIs S h.2.1 l
  ts : TIs S h.2.2 l
  hs : Rc.Hist l
theorem OIs.le {S S' : Store} (h : S.le S') {b l} (hx : OIs S b l) : OIs S' b l := by
  obtain ⟨om, h1, h2⟩ := hx; exact ⟨om, h1.le h, h2⟩
theorem TIs.le {S S' : Store} (h : S.le S') {b l} (hx : TIs S b l) : TIs S' b l := by
  obtain ⟨om, h1, h2⟩ := hx; exact ⟨om, h1.le h, h2⟩
theorem HIs.le {S S' : Store} (h : S.le S') {x l} (hx : HIs S x l) : HIs S' x l := ⟨hx.ls.le h, hx.os.le h, hx.ts.le h, hx.hs⟩
theorem h_nil (S : Store) : HIs S ((none, 0, 0), none, none) [] := ⟨l_nil S, ⟨[], rfl, once_nil, fun _ => rfl⟩, ⟨[], rfl, once_nil, fun _ => rfl⟩, Rc.hist_nil⟩
theorem li_len {S : Store} {q : Hd} {l : List Rc.Ev} (h : LIs S q l) : q.2.1 = l.length := by
  obtain ⟨L, h1, h2, -⟩ := h; rw [h2, ← h1, List.length_map]
theorem li_wide {S : Store} {q : Hd} {l : List Rc.Ev} (h : LIs S q l) : ∀ e ∈ l, Rc.wide e := by
  obtain ⟨L, rfl, -, -, -, h5⟩ := h
  intro e he
  obtain ⟨z, hz, rfl⟩ := List.mem_map.1 he
  exact (h5 z hz).wide
/-- A closure that makes the maps of some events those of one event more. -/
def ChIs (S : Store) (v : Value) (l : List Rc.Ev) (e : Rc.Ev) : Prop := ∃ (g : Nat) (caps : List Value), v = .func (.func g) #[] caps.toArray ∧ Go.Vc.Enters Tryz.prog g ∧ (∀ u ∈ caps, u.oneCell' = true) ∧
  ∀ S', S.le S' → ∀ (om : List (Int × oT)) (lm : List (Int × Int)), keysOnce (k := shI) om → keysOnce (k := shI) lm → (∀ t, mget shI om t = Rc.openM l t) → (∀ t, (mget shI lm t).getD 0 = Rc.lastR l t) →
    ∃ (om' : List (Int × oT)) (lm' : List (Int × Int)), keysOnce (k := shI) om' ∧ keysOnce (k := shI) lm' ∧ (∀ t, mget shI om' t = Rc.openM (l ++ [e]) t) ∧ (∀ t, (mget shI lm' t).getD 0 = Rc.lastR (l ++ [e]) t) ∧
      SpecR Tryz.prog g S' [.map shI shO om, .map shI shI lm] (.c (.ref 0) :: .c (.ref 1) :: caps.map fun x => .c (.v x)) (A := Unit) (fun _ => .tup []) (fun _ => [.map shI shO om', .map shI shI lm']) (fun _ _ => True)
@[reducible] def ptrV (b : Nat) : Value := .pointer (some ⟨b, 0, none⟩)
theorem clo_call (S : Store) (bn bt : Nat) (n t : Int) (hn : S.rd bn 0 [.int .i64 n]) (ht : S.rd bt 0 [.int .i64 t]) (om : List (Int × oT)) (lm : List (Int × Int)) :
    SpecR Tryz.prog 41 S [.map shI shO om, .map shI shI lm] [.c (.ref 0), .c (.ref 1), .c (.v (ptrV bn)), .c (.v (ptrV bt))] (A := Unit) (fun _ => .tup []) (fun _ => [.map shI shO (mset shI om t (n, false)), .map shI shI (mset shI lm t n)]) (fun _ _ => True) := by
  refine specR_of_vc agrees Tryz.func41 rfl (fun S S' q hle h => h) ?_
  refine ⟨or41_0, [0, 1], oF41_0, by kernel_rfl, ?_⟩
  refine ⟨t, trivial, ht, n, trivial, hn, ?_⟩
  repeat' (first | exact trivial | exact ⟨rfl, (), rfl, rfl, rfl, trivial⟩ | refine ⟨t, trivial, ht, ?_⟩ | refine ⟨n, trivial, hn, ?_⟩ | refine ⟨t, (n, false), rfl, rfl, ⟨trivial, trivial⟩, ?_⟩ | refine ⟨t, n, rfl, rfl, trivial, ?_⟩ | refine And.intro ?_ ?_)
theorem clo_crash (S : Store) (om : List (Int × oT)) (lm : List (Int × Int)) :
    SpecR Tryz.prog 42 S [.map shI shO om, .map shI shI lm] [.c (.ref 0), .c (.ref 1)] (A := Unit) (fun _ => .tup []) (fun _ => [.map shI shO [], .map shI shI lm]) (fun _ _ => True) := by
  refine specR_of_vc agrees Tryz.func42 rfl (fun S S' q hle h => h) ?_
  exact ⟨rfl, (), rfl, rfl, rfl, trivial⟩
theorem clo_answer (S : Store) (bt : Nat) (t : Int) (ht : S.rd bt 0 [.int .i64 t]) (om : List (Int × oT)) (lm : List (Int × Int)) :
    SpecR Tryz.prog 43 S [.map shI shO om, .map shI shI lm] [.c (.ref 0), .c (.ref 1), .c (.v (ptrV bt))] (A := Unit) (fun _ => .tup []) (fun _ => [.map shI shO (mdel shI om t), .map shI shI lm]) (fun _ _ => True) := by
  refine specR_of_vc agrees Tryz.func43 rfl (fun S S' q hle h => h) ?_
  exact ⟨t, trivial, ht, t, rfl, rfl, (), rfl, rfl, rfl, trivial⟩
theorem clo_commit (S : Store) (bc bt : Nat) (n t : Int) (c : Bool) (hn : S.rd bc 0 [.int .i64 n, .bool c]) (ht : S.rd bt 0 [.int .i64 t]) (om : List (Int × oT)) (lm : List (Int × Int)) :
    SpecR Tryz.prog 44 S [.map shI shO om, .map shI shI lm] [.c (.ref 0), .c (.ref 1), .c (.v (ptrV bc)), .c (.v (ptrV bt))] (A := Unit) (fun _ => .tup []) (fun _ => [.map shI shO (mset shI om t (n, true)), .map shI shI lm]) (fun _ _ => True) := by
  refine specR_of_vc agrees Tryz.func44 rfl (fun S S' q hle h => h) ?_
  exact ⟨t, trivial, ht, n, trivial, rd_field hn rfl, t, (n, true), rfl, rfl, ⟨trivial, trivial⟩, rfl, (), rfl, rfl, rfl, trivial⟩
theorem mget_mdel {V : Type} {es : List (Int × V)} (h : keysOnce (k := shI) es) (y x : Int) : keysOnce (k := shI) (mdel shI es y) ∧ mget shI (mdel shI es y) x = if x = y then none else mget shI es x := by
  cases hg : mget shI es y with
  | none =>
    rw [mdel_eq (ks := shI) es y hg]
    refine ⟨h, ?_⟩
    by_cases hx : x = y
    · rw [if_pos hx, hx, hg]
    · rw [if_neg hx]
  | some v =>
    obtain ⟨pre, post, e1, e2⟩ := Rc.mdel_out (k := shI) rfl hg
    rw [e2]
    rw [e1] at h
    refine ⟨once_out h, ?_⟩
    rw [mget_out (k := shI) rfl h x, e1]
    by_cases hx : x = y
    · rw [if_pos hx, if_pos (show shI.eq x y = true from beq_iff_eq.2 hx)]
    · rw [if_neg hx, if_neg (show ¬ shI.eq x y = true from fun q => hx (beq_iff_eq.1 q))]
theorem mget_mset' {V : Type} (es : List (Int × V)) (y : Int) (v : V) (x : Int) : mget shI (mset shI es y v) x = if x = y then some v else mget shI es x := by
  rw [mget_mset (k := shI) rfl]
  by_cases hx : x = y
  · rw [if_pos hx, if_pos (show shI.eq x y = true from beq_iff_eq.2 hx)]
  · rw [if_neg hx, if_neg (show ¬ shI.eq x y = true from fun q => hx (beq_iff_eq.1 q))]
theorem ch_call {S : Store} {bn bt : Nat} {n t : Int} (hn : S.rd bn 0 [.int .i64 n]) (ht : S.rd bt 0 [.int .i64 t]) (l : List Rc.Ev) (nm : Rc.Bs) (ar : List Int) : ChIs S (.func (.func 41) #[] #[ptrV bn, ptrV bt]) l ⟨0, t, n, nm, ar, 0, 0⟩ := by
  refine ⟨41, [ptrV bn, ptrV bt], rfl, ⟨_, rfl, rfl, rfl⟩, (by intro u hu; simp at hu; rcases hu with rfl | rfl <;> rfl), fun S' hS om lm ho hl h1 h2 => ?_⟩
  refine ⟨mset shI om t (n, false), mset shI lm t n, once_mset rfl ho _ _, once_mset rfl hl _ _, fun x => ?_, fun x => ?_, clo_call S' bn bt n t (Store.rd_le hS hn) (Store.rd_le hS ht) om lm⟩
  · rw [mget_mset', Rc.openM_snoc, h1]
    unfold Rc.stepM
    rw [if_neg (show ¬ (0 : Int) = 3 by decide)]
    by_cases hx : x = t
    · rw [if_pos hx, if_pos hx.symm, if_pos rfl]
    · rw [if_neg hx, if_neg (fun q => hx q.symm)]
  · rw [mget_mset', Rc.lastR_snoc, ← h2]
    by_cases hx : x = t
    · rw [if_pos hx, if_pos ⟨rfl, hx.symm⟩]; rfl
    · rw [if_neg hx, if_neg (fun q => hx q.2.symm)]
theorem ch_crash (S : Store) (l : List Rc.Ev) : ChIs S (.func (.func 42) #[] #[]) l Rc.crash := by
  refine ⟨42, [], rfl, ⟨_, rfl, rfl, rfl⟩, (by intro u hu; cases hu), fun S' hS om lm ho hl h1 h2 => ?_⟩
  refine ⟨[], lm, once_nil, hl, fun x => ?_, fun x => ?_, clo_crash S' om lm⟩
  · rw [Rc.openM_snoc]; rfl
  · rw [Rc.lastR_snoc, if_neg (fun q => by cases q.1), h2]
theorem ch_answer {S : Store} {bt : Nat} {t : Int} (ht : S.rd bt 0 [.int .i64 t]) (l : List Rc.Ev) (n er va : Int) : ChIs S (.func (.func 43) #[] #[ptrV bt]) l ⟨1, t, n, [], [], er, va⟩ := by
  refine ⟨43, [ptrV bt], rfl, ⟨_, rfl, rfl, rfl⟩, (by intro u hu; simp at hu; subst hu; rfl), fun S' hS om lm ho hl h1 h2 => ?_⟩
  refine ⟨mdel shI om t, lm, (mget_mdel ho t 0).1, hl, fun x => ?_, fun x => ?_, clo_answer S' bt t (Store.rd_le hS ht) om lm⟩
  · rw [(mget_mdel ho t x).2, Rc.openM_snoc, h1]
    unfold Rc.stepM
    rw [if_neg (show ¬ (1 : Int) = 3 by decide)]
    by_cases hx : x = t
    · rw [if_pos hx, if_pos hx.symm, if_neg (show ¬ (1 : Int) = 0 by decide), if_pos rfl]
    · rw [if_neg hx, if_neg (fun q => hx q.symm)]
  · rw [Rc.lastR_snoc, if_neg (fun q => by cases q.1), h2]
theorem ch_commit {S : Store} {bc bt : Nat} {n t : Int} {c : Bool} (hn : S.rd bc 0 [.int .i64 n, .bool c]) (ht : S.rd bt 0 [.int .i64 t]) (l : List Rc.Ev) (hop : Rc.openM l t = some (n, c)) : ChIs S (.func (.func 44) #[] #[ptrV bc, ptrV bt]) l ⟨2, t, n, [], [], 0, 0⟩ := by
  refine ⟨44, [ptrV bc, ptrV bt], rfl, ⟨_, rfl, rfl, rfl⟩, (by intro u hu; simp at hu; rcases hu with rfl | rfl <;> rfl), fun S' hS om lm ho hl h1 h2 => ?_⟩
  refine ⟨mset shI om t (n, true), lm, once_mset rfl ho _ _, hl, fun x => ?_, fun x => ?_, clo_commit S' bc bt n t c (Store.rd_le hS hn) (Store.rd_le hS ht) om lm⟩
  · rw [mget_mset', Rc.openM_snoc, h1]
    unfold Rc.stepM
    rw [if_neg (show ¬ (2 : Int) = 3 by decide)]
    by_cases hx : x = t
    · rw [if_pos hx, if_pos hx.symm, if_neg (show ¬ (2 : Int) = 0 by decide), if_neg (show ¬ (2 : Int) = 1 by decide), if_pos rfl, hx, hop]; rfl
    · rw [if_neg hx, if_neg (fun q => hx q.symm)]
  · rw [Rc.lastR_snoc, if_neg (fun q => by cases q.1), h2]
end Go.Proofs.YtpeehenohdlfdaaGreatDoor
