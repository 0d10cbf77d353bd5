/- Verification conditions, tenth part: a function's results; a function that reads and hands back. -/
import Derived.Test.YtapblcfbmaikjaaGreatDoorVcI2
namespace Go.Vc
open Go

variable {P : Program} {tt : Nat → Option TI} {w0 w w' : World} {B : Base} {ρ : List Value} {r : List Res} {S S' : Store} {t : List SV} {a : Act}

/-- The results, one after the other. -/
def resK (P : Program) (tt : Nat → Option TI) (t : List SV) (r : List Res) (S : Store) (K : List (Bool × List C) → Prop) : List ResultVar → Prop
  | [] => K []
  | .tmp i :: rest => match nth t i with
    | .c .junk => False
    | .c x => resK P tt t r S (fun l => K ((false, [x]) :: l)) rest
    | .agg xs => resK P tt t r S (fun l => K ((true, xs) :: l)) rest
    | .tup _ => False
  | .cell x ty :: rest => vcQ P tt t r S (.load ty (.tmp x)) fun v => match v with
    | .c .junk => False
    | .c x => resK P tt t r S (fun l => K ((false, [x]) :: l)) rest
    | .agg xs => resK P tt t r S (fun l => K ((true, xs) :: l)) rest
    | .tup _ => False

def oneOrTup : List (Bool × List C) → SV
  | [(true, xs)] => .agg xs
  | [(false, [x])] => .c x
  | l => .tup l

/-- Handles among results are made plain. -/
def frzCells (K : List (Bool × List C) → List Res → Store → Prop) : Nat → List (Bool × List C) → List Res → Store → Prop
  | 0, l, r, S => K l r S
  | n + 1, l, r, S => match firstH (l.flatMap (·.2)) with
    | none => K l r S
    | some i => frz (fun _ => true) i (fun t r S => match t with
      | [.tup l] => frzCells K n l r S
      | _ => False) [.tup l] r S

def closedC : List C → Bool
  | [] => true
  | .v _ :: xs => closedC xs
  | _ :: _ => false
def closedT : List (Bool × List C) → Bool
  | [] => true
  | p :: xs => closedC p.2 && closedT xs

/-- The end of a walk: the results hold no handle, and are what is promised. -/
def endK (P : Program) (tt : Nat → Option TI) (fn : Func) {A : Type} (out : A → SV) (Post : Store → A → Prop) (e : Exit) (t : List SV) (r : List Res) (S : Store) : Prop := match e with
  | .normal => frzPools 0 (fun r S => resK P tt t r S (fun l => frzCells (fun l _ S => closedT l = true ∧ ∃ x, out x = oneOrTup l ∧ Post S x) 16 l r S) fn.results.toList) r 0 r S
  | .ret => frzPools 0 (fun r S => resK P tt t r S (fun l => frzCells (fun l _ S => closedT l = true ∧ ∃ x, out x = oneOrTup l ∧ Post S x) 16 l r S) fn.results.toList) r 0 r S
  | _ => False

/-- A function's whole walk: from these slots to this end. -/
def vcFn (P : Program) (tt : Nat → Option TI) (fn : Func) (c : Code) (args : List SV) (S : Store) {A : Type} (out : A → SV) (Post : Store → A → Prop) : Prop :=
  padK args (fn.ntmps - args.length) fun t => vcCode P tt 0 c (endK P tt fn out Post) t [] S

theorem padK_eq : ∀ (l : List SV) (n : Nat) (k : List SV → Prop), padK l n k = k (l ++ List.replicate n (.tup []))
  | [], n, k => by
    simp only [padK, List.nil_append]
    induction n generalizing k with
    | zero => rfl
    | succ n ih => simp only [repK, List.replicate_succ]; exact ih _
  | x :: xs, n, k => by simp only [padK, force_eq]; exact padK_eq xs n _

def resOne (tmps : Array Value) : ResultVar → Sem Value
  | .tmp t => pure (tmps.getD t undef)
  | .cell a t => do loadVar t (← asAddr (tmps.getD a undef))

theorem resK_sound (hA : Agrees P tt) (hg : Gam w0 B ρ t r S a w) : ∀ (l : List ResultVar) (K : List (Bool × List C) → Prop), resK P tt t r S K l →
    ∃ cs vs, rels (compRel ρ) cs vs ∧ K cs ∧ (l.mapM (resOne a.tmps)).run P w = .ok vs w
  | [], K, h => ⟨[], [], trivial, h, rfl⟩
  | .tmp i :: rest, K, h => by
    have hx := nth_rel hg.tmps i
    have hrun : (resOne a.tmps (.tmp i)).run P w = .ok (a.tmps.toList.getD i undef) w := by simp [resOne]
    simp only [resK] at h
    split at h
    · exact h.elim
    · rename_i x hnj hev
      rw [hev] at hx
      obtain ⟨cs, vs, h1, h2, h3⟩ := resK_sound hA hg rest _ h
      exact ⟨(false, [x]) :: cs, a.tmps.toList.getD i undef :: vs, ⟨show compRel ρ (false, [x]) _ from rel_c (fun e => hnj e) hx, h1⟩, h2, by simp only [List.mapM_cons, Sem.run_bind, hrun, Result.andThen, h3, Sem.run_pure]⟩
    · rename_i xs hev
      rw [hev] at hx
      obtain ⟨cs, vs, h1, h2, h3⟩ := resK_sound hA hg rest _ h
      exact ⟨(true, xs) :: cs, a.tmps.toList.getD i undef :: vs, ⟨show compRel ρ (true, xs) _ from hx, h1⟩, h2, by simp only [List.mapM_cons, Sem.run_bind, hrun, Result.andThen, h3, Sem.run_pure]⟩
    · exact h.elim
  | .cell x ty :: rest, K, h => by
    simp only [resK] at h
    obtain ⟨sv, v, hv, hK, hy⟩ := vcQ_sound hA hg.st.sees hg.tmps h
    have hy' := hy w (near_self hg.st) { dst := none, op := .load ty (.tmp x), type := 0, pos := "", after := #[], guard := none } rfl
    have hrun : (resOne a.tmps (.cell x ty)).run P w = .ok v w := by
      simp only [execOp, Instr.loadAt, Act.eval, Sem.run_bind] at hy'
      cases hp : a.tmps.getD x undef with
      | pointer p =>
        cases p with
        | none => simp [hp, Instr.sureAddr, stuck, Result.andThen] at hy'
        | some q =>
          rw [hp] at hy'
          simp only [Instr.sureAddr, Sem.run_pure, Result.andThen] at hy'
          simp only [resOne, hp, asAddr, Sem.run_bind, Sem.run_pure, Result.andThen]
          cases hl : (loadVar ty q).run P w with
          | ok u w' => rw [hl] at hy'; simp at hy'; rw [hy'.1, hy'.2]
          | halt u w' => rw [hl] at hy'; simp at hy'
      | _ => rw [hp] at hy'; simp [Instr.sureAddr, stuck, Result.andThen] at hy'
    split at hK
    · exact hK.elim
    · rename_i y hnj
      obtain ⟨cs, vs, h1, h2, h3⟩ := resK_sound hA hg rest _ hK
      exact ⟨(false, [y]) :: cs, v :: vs, ⟨show compRel ρ (false, [y]) _ from rel_c (fun e => hnj e) hv, h1⟩, h2, by simp only [List.mapM_cons, Sem.run_bind, hrun, Result.andThen, h3, Sem.run_pure]⟩
    · rename_i ys
      obtain ⟨cs, vs, h1, h2, h3⟩ := resK_sound hA hg rest _ hK
      exact ⟨(true, ys) :: cs, v :: vs, ⟨show compRel ρ (true, ys) _ from hv, h1⟩, h2, by simp only [List.mapM_cons, Sem.run_bind, hrun, Result.andThen, h3, Sem.run_pure]⟩
    · exact hK.elim

def mkRes : List Value → Value
  | [v] => v
  | vs => .tuple vs.toArray

theorem run_results {fn : Func} {tmps : Array Value} {vs : List Value} (h : (fn.results.toList.mapM (resOne tmps)).run P w = .ok vs w) : (results fn tmps).run P w = .ok (mkRes vs) w := by
  have e : results fn tmps = (do let vs ← fn.results.mapM (resOne tmps); pure (if h : vs.size = 1 then vs[0] else .tuple vs)) := rfl
  rw [e, Sem.run_bind, Array.mapM_eq_mapM_toList, Sem.run_map, h]
  simp only [Result.andThen, Sem.run_pure]
  congr 1
  match vs with
  | [] => rfl
  | [v] => rfl
  | _ :: _ :: _ => simp [mkRes]

theorem frzCells_sound {K : List (Bool × List C) → List Res → Store → Prop} {vs : List Value} : ∀ (n : Nat) (l : List (Bool × List C)) (r : List Res) (S : Store), Stab w0 B ρ r S w → rels (compRel ρ) l vs → frzCells K n l r S →
    ∃ l' r' S', Stab w0 B ρ r' S' w ∧ rels (compRel ρ) l' vs ∧ K l' r' S'
  | 0, l, r, S, hs, hl, h => ⟨l, r, S, hs, hl, h⟩
  | n + 1, l, r, S, hs, hl, h => by
    simp only [frzCells] at h
    split at h
    · exact ⟨l, r, S, hs, hl, h⟩
    · rename_i i hi
      have hg : Gam w0 B ρ [.tup l] r S { tmps := #[.tuple vs.toArray], defers := [] } w := ⟨⟨⟨vs, rfl, hl⟩, trivial⟩, rfl, hs⟩
      obtain ⟨t', r', S', hg', _, _, hK⟩ := frz_sound (W := fun _ => True) (fun _ _ => trivial) hg h
      split at hK
      · rename_i l'
        obtain ⟨ys, hy1, hy2⟩ := hg'.tmps.1
        simp only [Value.tuple.injEq] at hy1
        have hys : ys = vs := by have := congrArg Array.toList hy1; simpa using this.symm
        subst hys
        exact frzCells_sound n l' r' S' hg'.st hy2 hK
      · exact hK.elim

theorem closed_rel : ∀ {cs : List C} {vs : List Value}, closedC cs = true → rels (C.rel ρ) cs vs → rels (C.rel []) cs vs
  | [], [], _, _ => trivial
  | .v x :: cs, v :: vs, h, hr => ⟨hr.1, closed_rel (by simpa [closedC] using h) hr.2⟩
  | [], _ :: _, _, hr => hr.elim
  | .v x :: _, [], _, hr => hr.elim
  | .junk :: _, _, h, _ | .ptr _ _ :: _, _, h, _ | .sl _ _ _ _ :: _, _, h, _ | .ref _ :: _, _, h, _ | .elt _ _ _ _ :: _, _, h, _ | .seg _ _ _ _ :: _, _, h, _ | .clo _ _ :: _, _, h, _ => by simp [closedC] at h

theorem closedT_rel : ∀ {l : List (Bool × List C)} {vs : List Value}, closedT l = true → rels (compRel ρ) l vs → rels (compRel []) l vs
  | [], [], _, _ => trivial
  | (true, cs) :: l, v :: vs, h, ⟨⟨ys, h1, h2⟩, h3⟩ => by
    simp only [closedT, Bool.and_eq_true] at h
    exact ⟨⟨ys, h1, closed_rel h.1 h2⟩, closedT_rel h.2 h3⟩
  | (false, [c]) :: l, v :: vs, h, ⟨h1, h3⟩ => by
    simp only [closedT, Bool.and_eq_true] at h
    have := closed_rel (ρ := ρ) (cs := [c]) (vs := [v]) h.1 ⟨h1, trivial⟩
    exact ⟨this.1, closedT_rel h.2 h3⟩
  | (false, []) :: _, _ :: _, _, hr => hr.1.elim
  | (false, _ :: _ :: _) :: _, _ :: _, _, hr => hr.1.elim
  | [], _ :: _, _, hr => hr.elim
  | _ :: _, [], _, hr => hr.elim

theorem oneOrTup_rel {l : List (Bool × List C)} {vs : List Value} (h : rels (compRel ρ) l vs) : (oneOrTup l).rel ρ (mkRes vs) := by
  match l, vs, h with
  | [], [], _ => exact ⟨[], rfl, trivial⟩
  | [(true, xs)], [v], h => exact h.1
  | [(false, [x])], [v], h => exact sv_of_c h.1
  | [(false, [])], [v], h => exact h.1.elim
  | [(false, _ :: _ :: _)], [v], h => exact h.1.elim
  | x :: y :: l, u :: v :: vs, h =>
    have e : oneOrTup (x :: y :: l) = .tup (x :: y :: l) := by
      rcases x with ⟨b, cs⟩
      cases b <;> rcases cs with _ | ⟨c, _ | ⟨d, cs⟩⟩ <;> rfl
    rw [e]
    exact ⟨_, rfl, h⟩
  | [], _ :: _, h => exact h.elim
  | _ :: _, [], h => exact h.elim
  | [_], _ :: _ :: _, h => exact h.2.elim
  | _ :: _ :: _, [_], h => exact h.2.elim

/-- The store behind a call: of old blocks what was known, of new ones everything. -/
def Store.behind (S : Store) (w w' : World) : Store :=
  ⟨fun b o => if b < w.heap.size then S.c b o else (Store.of w').c b o, fun b => if b < w.heap.size then S.o b else (Store.of w').o b⟩

/-- A FUNCTION THAT READS AND HANDS BACK, by its condition. -/
theorem pure_of_vc (hA : Agrees P tt) {f : FuncId} {fn : Func} {c : Code} (hf : P.funcs[f]? = some fn) (hb : fn.body = some c) {args : List Value} {svs : List SV} (hsv : rels (SV.rel []) svs args) {A : Type} {out : A → SV} {Post : Store → A → Prop}
    (hm : ∀ S S' x, S.le S' → Post S x → Post S' x) (h : vcFn P tt fn c svs S out Post) : Pure P f S args out Post := by
  intro w hS
  refine calls_of_wp hf hb ?_
  unfold vcFn at h
  rw [padK_eq] at h
  have hlen := rels_length hsv
  have hst : Stab w ⟨fun _ => False, S, []⟩ [] [] S w := ⟨rfl, by simp, by simp, by simp, hS, rfl, rfl, rfl, Nat.le_refl _, fun _ _ _ => rfl, fun _ _ _ => ⟨fun _ _ h => h, fun _ h => h⟩, fun _ _ h _ => by simp at h⟩
  have hpad : ∀ n, rels (SV.rel []) (List.replicate n (SV.tup [])) (List.replicate n undef) := by
    intro n
    induction n with
    | zero => trivial
    | succ n ih => exact ⟨undef_rel, ih⟩
  have hg : Gam w ⟨fun _ => False, S, []⟩ [] (svs ++ List.replicate (fn.ntmps - svs.length) (.tup [])) [] S { tmps := args.toArray ++ Array.replicate (fn.ntmps - args.toArray.size) undef, defers := [] } w := by
    refine ⟨?_, rfl, hst⟩
    simp only [Array.toList_append, Array.toList_replicate, List.size_toArray]
    rw [← hlen]
    exact rels_append hsv (hpad _)
  refine wp_mono (vcCode_sound hA (Nat.le_refl 0) c _ [] _ [] S _ w hg h) ?_
  rintro e a w' ⟨ρ, t, r, S', hg', hq⟩
  have fin : frzPools 0 (fun r S' => resK P tt t r S' (fun l => frzCells (fun l _ S => closedT l = true ∧ ∃ x, out x = oneOrTup l ∧ Post S x) 16 l r S') fn.results.toList) r 0 r S' → a.defers = [] ∧ ∃ v, (results fn a.tmps).run P w' = .ok v w' ∧
      ∃ (v' : Value) (x : A) (S' : Store), Ending.returned v = .returned v' ∧ (out x).rel [] v' ∧ S.le S' ∧ S'.le (Store.of w') ∧ Old w w' ∧ (∀ b, b < w.heap.size → (∀ i, S'.c b i = S.c b i) ∧ S'.o b = S.o b) ∧ Post S' x := by
    intro hq
    obtain ⟨r, S', hst', hq⟩ := frzPools_sound r 0 r S' (fun k x hx => by simpa using hx) hg'.st hq
    have hg' := Gam.mk hg'.tmps hg'.defers hst'
    obtain ⟨cs, vs, h1, h2, h3⟩ := resK_sound hA hg' _ _ hq
    obtain ⟨l', r', S'', h4, h5, h6, x, h7, h8⟩ := frzCells_sound 16 cs r S' hg'.st h1 h2
    have hres := run_results h3
    have hrel := oneOrTup_rel (closedT_rel h6 h5)
    have hS'' : S''.le (S.behind w w') := by
      constructor
      · intro b o y hy
        simp only [Store.behind]
        split
        · rename_i hlt; exact (h4.low b hlt (fun h => h)).1 o y hy
        · exact h4.sub.1 b o y hy
      · intro b y hy
        simp only [Store.behind]
        split
        · rename_i hlt; exact (h4.low b hlt (fun h => h)).2 y hy
        · exact h4.sub.2 b y hy
    have hlow : ∀ b, w.heap.size ≤ b → (∀ o, S.c b o = none) ∧ S.o b = none := fun b hb => Store.lt_of hS hb
    refine ⟨hg'.defers, _, hres, _, x, S.behind w w', rfl, by rw [h7]; exact hrel, ?_, ?_, ⟨h4.os, h4.tape, h4.output, h4.size, fun k hk => h4.block k hk (fun h => h)⟩, ?_, hm _ _ x hS'' h8⟩
    · constructor
      · intro b o y hy
        simp only [Store.behind]
        split
        · exact hy
        · rename_i hge; rw [(hlow b (by omega)).1 o] at hy; cases hy
      · intro b y hy
        simp only [Store.behind]
        split
        · exact hy
        · rename_i hge; rw [(hlow b (by omega)).2] at hy; cases hy
    · constructor
      · intro b o y hy
        simp only [Store.behind] at hy
        split at hy
        · rename_i hlt
          rw [(Store.of_same (h4.block b hlt (fun h => h))).1 o]
          exact hS.1 b o y hy
        · exact hy
      · intro b y hy
        simp only [Store.behind] at hy
        split at hy
        · rename_i hlt
          rw [(Store.of_same (h4.block b hlt (fun h => h))).2]
          exact hS.2 b y hy
        · exact hy
    · intro b hlt
      simp [Store.behind, hlt]
  cases e <;> simp only [endK] at hq
  case normal => exact fin hq
  case ret => exact fin hq

/-- 'pure_of_vc' with the arguments as they come. -/
theorem pure_vc (hA : Agrees P tt) {f : FuncId} {fn : Func} {c : Code} (hf : P.funcs[f]? = some fn) (hb : fn.body = some c) {args : List Value} (hok : (args.all argOk) = true) {A : Type} {out : A → SV} {Post : Store → A → Prop}
    (hm : ∀ S S' x, S.le S' → Post S x → Post S' x) (h : vcFn P tt fn c (args.map svOf) S out Post) : Pure P f S args out Post :=
  pure_of_vc hA hf hb (svs_rel hok) hm h

/-! ### A function that hands back something new -/

/-- The end of such a walk: the resources 'idx' go to the caller. -/
def endKN (P : Program) (tt : Nat → Option TI) (fn : Func) {A : Type} (out : A → SV) (news : A → List Res) (Post : Store → A → Prop) (e : Exit) (t : List SV) (r : List Res) (S : Store) : Prop := match e with
  | .normal => frzPools 0 (fun r S => resK P tt t r S (fun l => ∃ (idx : List Nat) (x : A), idxOk (fun _ => true) idx r = true ∧ (oneOrTup l).ren idx = out x ∧ insOf idx r = news x ∧ Post S x) fn.results.toList) r 0 r S
  | .ret => frzPools 0 (fun r S => resK P tt t r S (fun l => ∃ (idx : List Nat) (x : A), idxOk (fun _ => true) idx r = true ∧ (oneOrTup l).ren idx = out x ∧ insOf idx r = news x ∧ Post S x) fn.results.toList) r 0 r S
  | _ => False
def vcFnN (P : Program) (tt : Nat → Option TI) (fn : Func) (c : Code) (args : List SV) (S : Store) {A : Type} (out : A → SV) (news : A → List Res) (Post : Store → A → Prop) : Prop :=
  padK args (fn.ntmps - args.length) fun t => vcCode P tt 0 c (endKN P tt fn out news Post) t [] S

/-- What was known of old blocks, and what is known of new ones. -/
def Store.over (S S' : Store) (w : World) : Store :=
  ⟨fun b o => if b < w.heap.size then S.c b o else S'.c b o, fun b => if b < w.heap.size then S.o b else S'.o b⟩

theorem pick_stab {idx : List Nat} (hs : Stab w ⟨fun _ => False, S, []⟩ ρ r S' w') (hS : S.le (Store.of w)) (h : idxOk (fun _ => true) idx r = true) : Stab w ⟨fun _ => False, S, []⟩ (subH idx ρ) (insOf idx r) (S.over S' w) w' := by
  have hv := valid_of hs h
  simp only [idxOk, Bool.and_eq_true, List.all_eq_true] at h
  have h1 := sub_stab hs h.1 hv
  refine ⟨h1.len, h1.res, h1.disj, ?_, ?_, hs.os, hs.tape, hs.output, hs.size, hs.block, ?_, fun i h hi => by simp at hi⟩
  · intro p y g b hy hya hg hb
    cases hp : idx[p]? with
    | none => simp [insOf, hp] at hy
    | some i =>
      obtain ⟨x, g', k1, k2, k3, k4, k5, k6⟩ := hv p i hp
      rw [k6] at hy
      simp only [Option.some.injEq] at hy
      subst hy
      rw [k5] at hg
      simp only [Option.some.injEq] at hg
      subst hg
      obtain ⟨m1, m2, m3, m4⟩ := hs.own i x g' b k1 k3 k4 ((ren_foot ..).1 hb)
      have hge : ¬ b < w.heap.size := by
        rcases m2 with m2 | m2
        · omega
        · exact m2.elim
      exact ⟨m1, m2, fun o => by simp only [Store.over, if_neg hge]; exact m3 o, by simp only [Store.over, if_neg hge]; exact m4⟩
  · constructor
    · intro b o y hy
      simp only [Store.over] at hy
      split at hy
      · rename_i hlt
        rw [(Store.of_same (hs.block b hlt (fun h => h))).1 o]
        exact hS.1 b o y hy
      · exact hs.sub.1 b o y hy
    · intro b y hy
      simp only [Store.over] at hy
      split at hy
      · rename_i hlt
        rw [(Store.of_same (hs.block b hlt (fun h => h))).2]
        exact hS.2 b y hy
      · exact hs.sub.2 b y hy
  · intro b hb _
    exact ⟨fun o x hx => by simpa only [Store.over, if_pos hb] using hx, fun x hx => by simpa only [Store.over, if_pos hb] using hx⟩

theorem specN_of_vc0 (hA : Agrees P tt) {f : FuncId} {fn : Func} {c : Code} (hf : P.funcs[f]? = some fn) (hb : fn.body = some c) {args : List Value} {svs : List SV} (hsv : rels (SV.rel []) svs args) {A : Type} {out : A → SV} {news : A → List Res} {Post : Store → A → Prop}
    (hm : ∀ S S' x, S.le S' → Post S x → Post S' x) (h : vcFnN P tt fn c svs S out news Post) : SpecN P f S args out news Post := by
  intro w hS
  refine calls_of_wp hf hb ?_
  unfold vcFnN at h
  rw [padK_eq] at h
  have hlen := rels_length hsv
  have hst : Stab w ⟨fun _ => False, S, []⟩ [] [] S w := ⟨rfl, by simp, by simp, by simp, hS, rfl, rfl, rfl, Nat.le_refl _, fun _ _ _ => rfl, fun _ _ _ => ⟨fun _ _ h => h, fun _ h => h⟩, fun _ _ h _ => by simp at h⟩
  have hpad : ∀ n, rels (SV.rel []) (List.replicate n (SV.tup [])) (List.replicate n undef) := by
    intro n
    induction n with
    | zero => trivial
    | succ n ih => exact ⟨undef_rel, ih⟩
  have hg : Gam w ⟨fun _ => False, S, []⟩ [] (svs ++ List.replicate (fn.ntmps - svs.length) (.tup [])) [] S { tmps := args.toArray ++ Array.replicate (fn.ntmps - args.toArray.size) undef, defers := [] } w := by
    refine ⟨?_, rfl, hst⟩
    simp only [Array.toList_append, Array.toList_replicate, List.size_toArray]
    rw [← hlen]
    exact rels_append hsv (hpad _)
  refine wp_mono (vcCode_sound hA (Nat.le_refl 0) c _ [] _ [] S _ w hg h) ?_
  rintro e a w' ⟨ρ, t, r, S', hg', hq⟩
  have fin : frzPools 0 (fun r S => resK P tt t r S (fun l => ∃ (idx : List Nat) (x : A), idxOk (fun _ => true) idx r = true ∧ (oneOrTup l).ren idx = out x ∧ insOf idx r = news x ∧ Post S x) fn.results.toList) r 0 r S' → a.defers = [] ∧ ∃ v, (results fn a.tmps).run P w' = .ok v w' ∧
      ∃ (v' : Value) (x : A) (S' : Store) (ρ' : List Value), Ending.returned v = .returned v' ∧ (out x).rel ρ' v' ∧ Stab w ⟨fun _ => False, S, []⟩ ρ' (news x) S' w' ∧ S.le S' ∧ (∀ b, b < w.heap.size → (∀ i, S'.c b i = S.c b i) ∧ S'.o b = S.o b) ∧ Post S' x := by
    intro hq
    obtain ⟨r, S', hst', hq⟩ := frzPools_sound r 0 r S' (fun k x hx => by simpa using hx) hg'.st hq
    have hg' := Gam.mk hg'.tmps hg'.defers hst'
    obtain ⟨cs, vs, h1, ⟨idx, x, h4, h5, h6, h7⟩, h3⟩ := resK_sound hA hg' _ _ hq
    have hres := run_results h3
    have hrel := oneOrTup_rel h1
    have hrel2 := SV.rel_ren (idx := idx) _ _ hrel
    rw [h5] at hrel2
    have hpick := pick_stab hst' hS h4
    rw [h6] at hpick
    have hlow : ∀ b, w.heap.size ≤ b → (∀ o, S.c b o = none) ∧ S.o b = none := fun b hb => Store.lt_of hS hb
    refine ⟨hg'.defers, _, hres, _, x, S.over S' w, subH idx ρ, rfl, hrel2, hpick, ?_, fun b hlt => by simp [Store.over, hlt], hm _ _ x ?_ h7⟩
    · constructor
      · intro b o y hy
        simp only [Store.over]
        split
        · exact hy
        · rename_i hge; rw [(hlow b (by omega)).1 o] at hy; cases hy
      · intro b y hy
        simp only [Store.over]
        split
        · exact hy
        · rename_i hge; rw [(hlow b (by omega)).2] at hy; cases hy
    · constructor
      · intro b o y hy
        simp only [Store.over]
        split
        · rename_i hlt; exact (hst'.low b hlt (fun h => h)).1 o y hy
        · exact hy
      · intro b y hy
        simp only [Store.over]
        split
        · rename_i hlt; exact (hst'.low b hlt (fun h => h)).2 y hy
        · exact hy
  cases e <;> simp only [endKN] at hq
  case normal => exact fin hq
  case ret => exact fin hq
theorem specN_vc (hA : Agrees P tt) {f : FuncId} {fn : Func} {c : Code} (hf : P.funcs[f]? = some fn) (hb : fn.body = some c) {args : List Value} (hok : (args.all argOk) = true) {A : Type} {out : A → SV} {news : A → List Res} {Post : Store → A → Prop}
    (hm : ∀ S S' x, S.le S' → Post S x → Post S' x) (h : vcFnN P tt fn c (args.map svOf) S out news Post) : SpecN P f S args out news Post :=
  specN_of_vc0 hA hf hb (svs_rel hok) hm h

/-! ### A function that is handed boxes and maps -/

def C.ltn (n : Nat) : C → Bool
  | .ref i => decide (i < n)
  | .ptr i _ => decide (i < n)
  | .sl i _ _ _ => decide (i < n)
  | .elt _ _ _ _ => false
  | .seg _ _ _ _ => false
  | .clo _ _ => false
  | _ => true
/-- What may be handed on: boxes that name nothing beyond, maps, rows, pools. -/
def resOk (n : Nat) : Res → Bool
  | .box cs => cs.all (C.ltn n)
  | .map _ _ _ => true
  | .row _ _ _ => true
  | .pool _ _ _ => true
  | .ext _ => true
  | _ => false

def endKR (P : Program) (tt : Nat → Option TI) (fn : Func) (n : Nat) {A : Type} (out : A → SV) (outs : A → List Res) (Post : Store → A → Prop) (e : Exit) (t : List SV) (r : List Res) (S : Store) : Prop := match e with
  | .normal => frzPools n (fun r S => resK P tt t r S (fun l => frzCells (fun l r S => closedT l = true ∧ ∃ x, out x = oneOrTup l ∧ r.take n = outs x ∧ (decide ((outs x).length = n) && (outs x).all (resOk n)) = true ∧ Post S x) 16 l r S) fn.results.toList) r 0 r S
  | .ret => frzPools n (fun r S => resK P tt t r S (fun l => frzCells (fun l r S => closedT l = true ∧ ∃ x, out x = oneOrTup l ∧ r.take n = outs x ∧ (decide ((outs x).length = n) && (outs x).all (resOk n)) = true ∧ Post S x) 16 l r S) fn.results.toList) r 0 r S
  | _ => False

def vcFnR (P : Program) (tt : Nat → Option TI) (fn : Func) (c : Code) (ins : List Res) (args : List SV) (S : Store) {A : Type} (out : A → SV) (outs : A → List Res) (Post : Store → A → Prop) : Prop :=
  padK args (fn.ntmps - args.length) fun t => vcCode P tt ins.length c (endKR P tt fn ins.length out outs Post) t ins S

theorem C.rel_low {ρ ρ0 : List Value} {n : Nat} (hρ : ∀ i, i < n → ∀ h, ρ[i]? = some h → ρ0[i]? = some h) : ∀ (x : C) (y : Value), x.ltn n = true → x.rel ρ y → x.rel ρ0 y
  | .junk, _, _, h => h
  | .v _, _, _, h => h
  | .ptr i _, _, hl, ⟨b, h1, h2⟩ => ⟨b, hρ i (by simpa [C.ltn] using hl) _ h1, h2⟩
  | .sl i _ _ _, _, hl, ⟨b, h1, h2⟩ => ⟨b, hρ i (by simpa [C.ltn] using hl) _ h1, h2⟩
  | .ref i, _, hl, ⟨h1, h2⟩ => ⟨hρ i (by simpa [C.ltn] using hl) _ h1, h2⟩
  | .elt _ _ _ _, _, hl, _ => by simp [C.ltn] at hl
  | .seg _ _ _ _, _, hl, _ => by simp [C.ltn] at hl
  | .clo _ _, _, hl, _ => by simp [C.ltn] at hl

theorem rels_low {ρ ρ0 : List Value} {n : Nat} (hρ : ∀ i, i < n → ∀ h, ρ[i]? = some h → ρ0[i]? = some h) : ∀ {cs : List C} {vs : List Value}, (cs.all (C.ltn n)) = true → rels (C.rel ρ) cs vs → rels (C.rel ρ0) cs vs
  | [], [], _, _ => trivial
  | c :: cs, v :: vs, h, hr => by
    simp only [List.all_cons, Bool.and_eq_true] at h
    exact ⟨C.rel_low hρ c v h.1 hr.1, rels_low hρ h.2 hr.2⟩
  | [], _ :: _, _, hr => hr.elim
  | _ :: _, [], _, hr => hr.elim

open Classical in
/-- Of the old blocks that nobody handed on, what was known; of the others what is known now. -/
noncomputable def Store.past (S : Store) (w : World) (p : Nat → Prop) (S' : Store) : Store :=
  ⟨fun b o => if b < w.heap.size ∧ ¬ p b then S.c b o else S'.c b o, fun b => if b < w.heap.size ∧ ¬ p b then S.o b else S'.o b⟩

/-- A FUNCTION THAT IS HANDED BOXES, MAPS, ROWS, by its condition. -/
theorem specR_of_vc (hA : Agrees P tt) {f : FuncId} {fn : Func} {c : Code} (hf : P.funcs[f]? = some fn) (hb : fn.body = some c) {ins : List Res} {args : List SV} {A : Type} {out : A → SV} {outs : A → List Res} {Post : Store → A → Prop}
    (hm : ∀ S S' x, S.le S' → Post S x → Post S' x) (h : vcFnR P tt fn c ins args S out outs Post) : SpecR P f S ins args out outs Post := by
  intro w ρ0 vs hst hargs
  refine calls_of_wp hf hb ?_
  unfold vcFnR at h
  rw [padK_eq] at h
  have hlen := rels_length hargs
  have hpad : ∀ n, rels (SV.rel ρ0) (List.replicate n (SV.tup [])) (List.replicate n undef) := by
    intro n
    induction n with
    | zero => trivial
    | succ n ih => exact ⟨undef_rel, ih⟩
  have hg : Gam w ⟨Owned ins ρ0, S, ρ0⟩ ρ0 (args ++ List.replicate (fn.ntmps - args.length) (.tup [])) ins S { tmps := vs.toArray ++ Array.replicate (fn.ntmps - vs.toArray.size) undef, defers := [] } w := by
    refine ⟨?_, rfl, hst⟩
    simp only [Array.toList_append, Array.toList_replicate, List.size_toArray]
    rw [← hlen]
    exact rels_append hargs (hpad _)
  refine wp_mono (vcCode_sound hA (Nat.le_of_eq hst.len) c _ ρ0 _ ins S _ w hg h) ?_
  rintro e a w' ⟨ρ, t, r, S', hg', hq⟩
  have fin : frzPools ins.length (fun r S' => resK P tt t r S' (fun l => frzCells (fun l r S => closedT l = true ∧ ∃ x, out x = oneOrTup l ∧ r.take ins.length = outs x ∧ (decide ((outs x).length = ins.length) && (outs x).all (resOk ins.length)) = true ∧ Post S x) 16 l r S') fn.results.toList) r 0 r S' → a.defers = [] ∧ ∃ v, (results fn a.tmps).run P w' = .ok v w' ∧
      ∃ (v' : Value) (x : A) (S' : Store) (ρ' : List Value), Ending.returned v = .returned v' ∧ (out x).rel ρ' v' ∧ (outs x).length = ins.length ∧ Stab w ⟨Owned ins ρ0, S, ρ0⟩ ρ' (outs x) S' w' ∧ S.le S' ∧
        (∀ b, b < w.heap.size → ¬ Owned ins ρ0 b → (∀ i, S'.c b i = S.c b i) ∧ S'.o b = S.o b) ∧ Post S' x := by
    intro hq
    obtain ⟨r, S', hst', hq⟩ := frzPools_sound r 0 r S' (fun k x hx => by simpa using hx) hg'.st hq
    have hg' := Gam.mk hg'.tmps hg'.defers hst'
    obtain ⟨cs, us, h1, h2, h3⟩ := resK_sound hA hg' _ _ hq
    obtain ⟨l', r', S'', h4, h5, h6, x, h7, h8, h9, h10⟩ := frzCells_sound 16 cs r S' hg'.st h1 h2
    have hres := run_results h3
    have hrel := oneOrTup_rel (closedT_rel h6 h5)
    simp only [Bool.and_eq_true, decide_eq_true_eq] at h9
    obtain ⟨holen, h9⟩ := h9
    have hlow0 : ∀ b, w.heap.size ≤ b → (∀ o, S.c b o = none) ∧ S.o b = none := fun b hb => Store.lt_of hst.sub hb
    have hown0 : ∀ b, Owned ins ρ0 b → (∀ o, S.c b o = none) ∧ S.o b = none := by
      rintro b ⟨i, y, g, hi, hya, hgi, hb⟩
      exact (hst.own i y g b hi hya hgi hb).2.2
    have houts : ∀ (i : Nat) y, (outs x)[i]? = some y → i < ins.length ∧ r'[i]? = some y ∧ resOk ins.length y = true := by
      intro i y hy
      have hok := List.all_eq_true.1 h9 y (List.mem_of_getElem? hy)
      rw [← h8, List.getElem?_take] at hy
      split at hy
      · rename_i hi; exact ⟨hi, hy, hok⟩
      · cases hy
    have hrl : ins.length ≤ ρ.length := by
      rw [h4.len, ← holen, ← h8, List.length_take]
      exact Nat.min_le_right _ _
    have htake : ∀ i, i < ins.length → (ρ.take ins.length)[i]? = ρ[i]? := fun i hi => by rw [List.getElem?_take, if_pos hi]
    have hle : S''.le (S.past w (Owned ins ρ0) S'') := by
      constructor
      · intro b o y hy
        simp only [Store.past]
        split
        · rename_i hlt; exact (h4.low b hlt.1 hlt.2).1 o y hy
        · exact hy
      · intro b y hy
        simp only [Store.past]
        split
        · rename_i hlt; exact (h4.low b hlt.1 hlt.2).2 y hy
        · exact hy
    have hleS : S.le (S.past w (Owned ins ρ0) S'') := by
      constructor
      · intro b o y hy
        simp only [Store.past]
        split
        · exact hy
        · rename_i hn
          exfalso
          rcases Nat.lt_or_ge b w.heap.size with hlt | hge
          · by_cases ho : Owned ins ρ0 b
            · rw [(hown0 b ho).1 o] at hy; cases hy
            · exact hn ⟨hlt, ho⟩
          · rw [(hlow0 b hge).1 o] at hy; cases hy
      · intro b y hy
        simp only [Store.past]
        split
        · exact hy
        · rename_i hn
          exfalso
          rcases Nat.lt_or_ge b w.heap.size with hlt | hge
          · by_cases ho : Owned ins ρ0 b
            · rw [(hown0 b ho).2] at hy; cases hy
            · exact hn ⟨hlt, ho⟩
          · rw [(hlow0 b hge).2] at hy; cases hy
    have hsub : (S.past w (Owned ins ρ0) S'').le (Store.of w') := by
      constructor
      · intro b o y hy
        simp only [Store.past] at hy
        split at hy
        · rename_i hlt; rw [(Store.of_same (h4.block b hlt.1 hlt.2)).1 o]; exact hst.sub.1 b o y hy
        · exact h4.sub.1 b o y hy
      · intro b y hy
        simp only [Store.past] at hy
        split at hy
        · rename_i hlt; rw [(Store.of_same (h4.block b hlt.1 hlt.2)).2]; exact hst.sub.2 b y hy
        · exact h4.sub.2 b y hy
    refine ⟨hg'.defers, _, hres, _, x, S.past w (Owned ins ρ0) S'', ρ.take ins.length, rfl, by rw [h7]; exact SV.rel_app (ρ := []) (l := ρ.take ins.length) _ _ hrel, holen, ⟨by simp; omega, ?_, ?_, ?_, hsub, h4.os, h4.tape, h4.output, h4.size, h4.block, fun b hb hnb => ?_, fun i h hi hf => ?_⟩, hleS, fun b hb hnb => ?_, hm _ _ x hle h10⟩
    · intro i y hy
      obtain ⟨hi, hr, hok⟩ := houts i y hy
      obtain ⟨g, hgg, hgh⟩ := h4.res i y hr
      refine ⟨g, by rw [htake i hi]; exact hgg, ?_⟩
      cases y <;> simp only [resOk] at hok <;> try cases hok
      · obtain ⟨b, T, xs, k1, k2, k3⟩ := hgh
        exact ⟨b, T, xs, k1, k2, rels_low (fun i hi h hh => by rw [htake i hi]; exact hh) hok k3⟩
      all_goals exact hgh
    · intro i j y z g k b hy hz hya hza hgi hkj hb1 hb2
      obtain ⟨hi, hr1, _⟩ := houts i y hy
      obtain ⟨hj, hr2, _⟩ := houts j z hz
      exact h4.disj i j y z g k b hr1 hr2 hya hza (by rw [← htake i hi]; exact hgi) (by rw [← htake j hj]; exact hkj) hb1 hb2
    · intro i y g b hy hya hgi hb
      obtain ⟨hi, hr, _⟩ := houts i y hy
      obtain ⟨k1, k2, k3, k4⟩ := h4.own i y g b hr hya (by rw [← htake i hi]; exact hgi) hb
      have hn : ¬ (b < w.heap.size ∧ ¬ Owned ins ρ0 b) := by
        rintro ⟨e1, e2⟩
        rcases k2 with k2 | k2
        · omega
        · exact e2 k2
      exact ⟨k1, k2, fun o => by simp only [Store.past, if_neg hn]; exact k3 o, by simp only [Store.past, if_neg hn]; exact k4⟩
    · constructor
      · intro o y hy; simpa only [Store.past, if_pos (show b < w.heap.size ∧ ¬ Owned ins ρ0 b from ⟨hb, hnb⟩)] using hy
      · intro y hy; simpa only [Store.past, if_pos (show b < w.heap.size ∧ ¬ Owned ins ρ0 b from ⟨hb, hnb⟩)] using hy
    · have hi' : i < ρ0.length := (List.getElem?_eq_some_iff.1 hi).1
      have e1 := hst.len
      rw [htake i (by omega)]
      exact h4.pre i h hi hf
    · simp only [Store.past, if_pos (show b < w.heap.size ∧ ¬ Owned ins ρ0 b from ⟨hb, hnb⟩)]
      exact ⟨fun _ => trivial, trivial⟩
  cases e <;> simp only [endKR] at hq
  case normal => exact fin hq
  case ret => exact fin hq

end Go.Vc
