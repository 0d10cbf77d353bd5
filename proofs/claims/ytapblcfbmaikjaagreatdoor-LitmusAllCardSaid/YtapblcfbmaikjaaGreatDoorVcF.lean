/- Verification conditions, sixth part: what is owned, and how it stays so: new blocks, written blocks, calls. -/
import Derived.Test.YtapblcfbmaikjaaGreatDoorVcE
namespace Go.Vc
open Go

variable {w0 w w' : World} {B : Base} {ρ : List Value} {r : List Res} {S S' : Store} {t : List SV} {a : Act}

theorem Stab.sees (h : Stab w0 B ρ r S w) : Sees ρ r S w := ⟨h.res, h.sub⟩

theorem get_app {α : Type} {l m : List α} {i : Nat} {x : α} (h : l[i]? = some x) : (l ++ m)[i]? = some x := by
  rw [List.getElem?_append_left (List.getElem?_eq_some_iff.1 h).1]; exact h

theorem capRel_app {c : Nat ⊕ Value} {z : Value} {l : List Value} (h : capRel ρ c z) : capRel (ρ ++ l) c z := by
  cases c with
  | inl i => obtain ⟨b, h1, h2⟩ := h; exact ⟨b, get_app h1, h2⟩
  | inr u => exact h

theorem C.rel_app {l : List Value} : ∀ (x : C) (y : Value), x.rel ρ y → x.rel (ρ ++ l) y
  | .junk, _, h => h
  | .v _, _, h => h
  | .ptr _ _, _, ⟨b, h1, h2⟩ => ⟨b, get_app h1, h2⟩
  | .sl _ _ _ _, _, ⟨b, h1, h2⟩ => ⟨b, get_app h1, h2⟩
  | .ref _, _, ⟨h1, h2⟩ => ⟨get_app h1, h2⟩
  | .elt _ _ _ _, _, ⟨b, n, m, h1, h2⟩ => ⟨b, n, m, get_app h1, h2⟩
  | .seg _ _ _ _, _, ⟨p, n, m, h1, h2⟩ => ⟨p, n, m, get_app h1, h2⟩
  | .clo _ _, _, ⟨ys, h1, h2, h3⟩ => ⟨ys, h1, h2, fun j c z hc hz => capRel_app (h3 j c z hc hz)⟩

theorem compRel_app {l : List Value} : ∀ (x : Bool × List C) (y : Value), compRel ρ x y → compRel (ρ ++ l) x y
  | (true, _), _, ⟨ys, h1, h2⟩ => ⟨ys, h1, rels_mono C.rel_app h2⟩
  | (false, [x]), y, h => C.rel_app (ρ := ρ) (l := l) x y h
  | (false, []), _, h => h.elim
  | (false, _ :: _ :: _), _, h => h.elim

theorem SV.rel_app {l : List Value} : ∀ (x : SV) (y : Value), x.rel ρ y → x.rel (ρ ++ l) y
  | .c .junk, _, _ => trivial
  | .c (.v x), y, h => C.rel_app (ρ := ρ) (l := l) (.v x) y h
  | .c (.ptr i o), y, h => C.rel_app (ρ := ρ) (l := l) (.ptr i o) y h
  | .c (.sl i o n m), y, h => C.rel_app (ρ := ρ) (l := l) (.sl i o n m) y h
  | .c (.ref i), y, h => C.rel_app (ρ := ρ) (l := l) (.ref i) y h
  | .c (.elt i k sz o), y, h => C.rel_app (ρ := ρ) (l := l) (.elt i k sz o) y h
  | .c (.seg i k n sz), y, h => C.rel_app (ρ := ρ) (l := l) (.seg i k n sz) y h
  | .c (.clo f cs), y, h => C.rel_app (ρ := ρ) (l := l) (.clo f cs) y h
  | .agg _, _, ⟨ys, h1, h2⟩ => ⟨ys, h1, rels_mono C.rel_app h2⟩
  | .tup _, _, ⟨ys, h1, h2⟩ => ⟨ys, h1, rels_mono compRel_app h2⟩

theorem Res.holds_app {l : List Value} {x : Res} {h : Value} (hx : x.holds ρ h w) : x.holds (ρ ++ l) h w := by
  cases x with
  | gone => trivial
  | box cs => obtain ⟨b, T, xs, h1, h2, h3⟩ := hx; exact ⟨b, T, xs, h1, h2, rels_mono C.rel_app h3⟩
  | row sh e xs => exact hx
  | map k e es => exact hx
  | iter k e m ents clock left cur => exact hx
  | ext Q => exact hx
  | pool sh e l => exact hx

theorem Store.lt_of (h : S.le (Store.of w)) {b : Nat} (hb : w.heap.size ≤ b) : (∀ o, S.c b o = none) ∧ S.o b = none := by
  have hn : w.heap[b]? = none := Array.getElem?_eq_none hb
  constructor
  · intro o
    cases hc : S.c b o with
    | none => rfl
    | some x =>
      have := h.1 b o x hc
      simp [Store.of, World.cell?, hn] at this
  · cases hc : S.o b with
    | none => rfl
    | some x =>
      have := h.2 b x hc
      simp [Store.of, hn] at this

theorem Store.of_same {b : Nat} (h : w'.heap[b]? = w.heap[b]?) : (∀ o, (Store.of w').c b o = (Store.of w).c b o) ∧ (Store.of w').o b = (Store.of w).o b := by
  simp [Store.of, World.cell?, h]

/-- What the store knows stays known where no block of its own turns. -/
theorem Store.le_of (h : S.le (Store.of w)) (hb : ∀ b, (∃ o x, S.c b o = some x) ∨ (∃ x, S.o b = some x) → w'.heap[b]? = w.heap[b]?) : S.le (Store.of w') :=
  ⟨fun b o x hx => by rw [(Store.of_same (hb b (.inl ⟨o, x, hx⟩))).1 o]; exact h.1 b o x hx, fun b x hx => by rw [(Store.of_same (hb b (.inr ⟨x, hx⟩))).2]; exact h.2 b x hx⟩

/-- All but a pool own the one block that their handle names. -/
def Res.single : Res → Bool
  | .pool _ _ _ => false
  | _ => true
theorem foot_single {x : Res} {h : Value} {b : Nat} (hx : x.single = true) : x.foot h b ↔ blk h = some b := by
  cases x <;> first | exact Iff.rfl | cases hx

/-- Something new, owned from now on. -/
theorem Stab.addG (hs : Stab w0 B ρ r S w) (hold : ∀ b, b < w.heap.size → w'.heap[b]? = w.heap[b]?) (hsz : w.heap.size ≤ w'.heap.size) (hos : w'.os = w.os) (htape : w'.tape = w.tape) (hout : w'.output = w.output)
    (x : Res) (h : Value) (hb : ∀ b, x.foot h b → w.heap.size ≤ b ∧ b < w'.heap.size) (hx : x.holds (ρ ++ [h]) h w') : Stab w0 B (ρ ++ [h]) (r ++ [x]) S w' := by
  have hlenρ := hs.len
  refine ⟨by simp [hlenρ], ?_, ?_, ?_, ?_, hos.trans hs.os, htape.trans hs.tape, hout.trans hs.output, by have := hs.size; omega, fun b hb hnb => by rw [hold b (by have := hs.size; omega)]; exact hs.block b hb hnb, hs.low, fun i g hi hf => get_app (hs.pre i g hi hf)⟩
  · intro i y hy
    rw [List.getElem?_append] at hy
    split at hy
    · rename_i hi
      obtain ⟨g, hg, hgh⟩ := hs.res i y hy
      exact ⟨g, get_app hg, Res.holds_app (Res.holds_near hgh fun ha b hb => hold b (hs.own i y g b hy ha hg hb).1)⟩
    · rename_i hi
      have h0 : i - r.length = 0 := by
        have := (List.getElem?_eq_some_iff.1 hy).1; simp at this; omega
      rw [h0] at hy
      simp at hy
      subst hy
      refine ⟨h, ?_, hx⟩
      rw [List.getElem?_append_right (by omega), show i - ρ.length = 0 by omega]
      rfl
  · intro i j x1 y1 g1 h1 b hi hj hx1 hy1 hg1 hh1 hb1 hb2
    by_cases hil : i < r.length
    · rw [List.getElem?_append_left hil] at hi
      rw [List.getElem?_append_left (by omega)] at hg1
      have hlt := (hs.own i x1 g1 b hi hx1 hg1 hb1).1
      by_cases hjl : j < r.length
      · rw [List.getElem?_append_left hjl] at hj
        rw [List.getElem?_append_left (by omega)] at hh1
        exact hs.disj i j x1 y1 g1 h1 b hi hj hx1 hy1 hg1 hh1 hb1 hb2
      · rw [List.getElem?_append_right (by omega)] at hh1
        have h0 : j - ρ.length = 0 := by have := (List.getElem?_eq_some_iff.1 hh1).1; simp at this; omega
        rw [h0] at hh1
        simp at hh1
        subst hh1
        rw [List.getElem?_append_right (by omega), show j - r.length = 0 by omega] at hj
        simp at hj
        subst hj
        have := (hb b hb2).1
        omega
    · rw [List.getElem?_append_right (by omega)] at hg1
      have h0 : i - ρ.length = 0 := by have := (List.getElem?_eq_some_iff.1 hg1).1; simp at this; omega
      rw [h0] at hg1
      simp at hg1
      subst hg1
      by_cases hjl : j < r.length
      · rw [List.getElem?_append_left hjl] at hj
        rw [List.getElem?_append_left (by omega)] at hh1
        have hlt := (hs.own j y1 h1 b hj hy1 hh1 hb2).1
        rw [List.getElem?_append_right (by omega), show i - r.length = 0 by omega] at hi
        simp at hi
        subst hi
        have := (hb b hb1).1
        omega
      · have := (List.getElem?_eq_some_iff.1 hj).1
        have := (List.getElem?_eq_some_iff.1 hi).1
        simp at *
        omega
  · intro i y g b hy ha hg hbg
    by_cases hil : i < r.length
    · rw [List.getElem?_append_left hil] at hy
      rw [List.getElem?_append_left (by omega)] at hg
      obtain ⟨h1, h2, h3⟩ := hs.own i y g b hy ha hg hbg
      exact ⟨by omega, h2, h3⟩
    · rw [List.getElem?_append_right (by omega)] at hg
      have h0 : i - ρ.length = 0 := by have := (List.getElem?_eq_some_iff.1 hg).1; simp at this; omega
      rw [h0] at hg
      simp at hg
      subst hg
      rw [List.getElem?_append_right (by omega), show i - r.length = 0 by omega] at hy
      simp at hy
      subst hy
      obtain ⟨h1, h2⟩ := hb b hbg
      exact ⟨h2, .inl (Nat.le_trans hs.size h1), Store.lt_of hs.sub h1⟩
  · refine Store.le_of hs.sub fun b hb => hold b ?_
    rcases Nat.lt_or_ge b w.heap.size with h1 | h1
    · exact h1
    · have h2 := Store.lt_of hs.sub h1
      rcases hb with ⟨o, x, hx⟩ | ⟨x, hx⟩
      · rw [h2.1 o] at hx; cases hx
      · rw [h2.2] at hx; cases hx

/-- A new block, owned from now on. -/
theorem Stab.add (hs : Stab w0 B ρ r S w) (o : Obj) (x : Res) (h : Value) (hb : blk h = some w.heap.size ∨ blk h = none) (hx : x.holds (ρ ++ [h]) h (w.alloc o)) (hx1 : x.single = true := by rfl) : Stab w0 B (ρ ++ [h]) (r ++ [x]) S (w.alloc o) :=
  hs.addG (fun b hb => heap_alloc_old w o hb) (by simp) rfl rfl rfl x h (fun b hbb => by
    rw [foot_single hx1] at hbb
    rcases hb with hb | hb <;> rw [hb] at hbb
    · simp only [Option.some.injEq] at hbb; subst hbb; simp
    · cases hbb) hx

/-- Resource 'i' is turned, its handle stays; the others stay. -/
theorem Stab.turnG (hs : Stab w0 B ρ r S w) {i : Nat} {x y : Res} {h : Value} (hi : r[i]? = some x) (hxa : x.alive = true) (hh : ρ[i]? = some h)
    (hw : ∀ c, c < w.heap.size → ¬ x.foot h c → w'.heap[c]? = w.heap[c]?) (hsz : w.heap.size ≤ w'.heap.size) (hos : w'.os = w.os) (htape : w'.tape = w.tape) (hout : w'.output = w.output)
    (hf : ∀ c, y.foot h c → c < w'.heap.size ∧ (x.foot h c ∨ w.heap.size ≤ c)) (hy : y.holds ρ h w') : Stab w0 B ρ (r.set i y) S w' := by
  have hil := (List.getElem?_eq_some_iff.1 hi).1
  have other : ∀ (j : Nat) z g c, j ≠ i → r[j]? = some z → z.alive = true → ρ[j]? = some g → z.foot g c → c < w.heap.size ∧ ¬ x.foot h c := by
    intro j z g c hji hz hza hg hc
    exact ⟨(hs.own j z g c hz hza hg hc).1, fun hcb => hji (hs.disj j i z x g h c hz hi hza hxa hg hh hc hcb)⟩
  have hself : ∀ c, x.foot h c → (w0.heap.size ≤ c ∨ B.p c) ∧ (∀ o, S.c c o = none) ∧ S.o c = none := fun c hc => (hs.own i x h c hi hxa hh hc).2
  refine ⟨by simp [hs.len], ?_, ?_, ?_, ?_, hos.trans hs.os, htape.trans hs.tape, hout.trans hs.output, Nat.le_trans hs.size hsz, fun c hc hnb => ?_, hs.low, hs.pre⟩
  · intro j z hz
    by_cases hji : j = i
    · subst hji
      rw [List.getElem?_set_self hil] at hz
      simp at hz
      subst hz
      exact ⟨h, hh, hy⟩
    · rw [List.getElem?_set_ne (Ne.symm hji)] at hz
      obtain ⟨g, hg, hgh⟩ := hs.res j z hz
      exact ⟨g, hg, Res.holds_near hgh fun hza c hc => let ⟨a, b⟩ := other j z g c hji hz hza hg hc; hw c a b⟩
  · intro j k z1 z2 g1 g2 c hj hk hz1 hz2 hg1 hg2 hc1 hc2
    by_cases hji : j = i
    · by_cases hki : k = i
      · rw [hji, hki]
      · exfalso
        subst hji
        rw [List.getElem?_set_self hil] at hj
        simp at hj
        subst hj
        rw [List.getElem?_set_ne (Ne.symm hki)] at hk
        rw [hh] at hg1
        simp at hg1
        subst hg1
        obtain ⟨k1, k2⟩ := other k z2 g2 c hki hk hz2 hg2 hc2
        rcases (hf c hc1).2 with h1 | h1
        · exact k2 h1
        · omega
    · rw [List.getElem?_set_ne (Ne.symm hji)] at hj
      by_cases hki : k = i
      · exfalso
        subst hki
        rw [List.getElem?_set_self hil] at hk
        simp at hk
        subst hk
        rw [hh] at hg2
        simp at hg2
        subst hg2
        obtain ⟨k1, k2⟩ := other j z1 g1 c hji hj hz1 hg1 hc1
        rcases (hf c hc2).2 with h1 | h1
        · exact k2 h1
        · omega
      · rw [List.getElem?_set_ne (Ne.symm hki)] at hk
        exact hs.disj j k z1 z2 g1 g2 c hj hk hz1 hz2 hg1 hg2 hc1 hc2
  · intro j z g c hz hza hg hc
    by_cases hji : j = i
    · subst hji
      rw [List.getElem?_set_self hil] at hz
      simp at hz
      subst hz
      rw [hh] at hg
      simp at hg
      subst hg
      obtain ⟨h1, h2⟩ := hf c hc
      rcases h2 with h2 | h2
      · exact ⟨h1, hself c h2⟩
      · exact ⟨h1, .inl (Nat.le_trans hs.size h2), Store.lt_of hs.sub h2⟩
    · rw [List.getElem?_set_ne (Ne.symm hji)] at hz
      obtain ⟨h1, h2⟩ := hs.own j z g c hz hza hg hc
      exact ⟨Nat.lt_of_lt_of_le h1 hsz, h2⟩
  · refine Store.le_of hs.sub fun c hc => hw c ?_ fun hcb => ?_
    · rcases Nat.lt_or_ge c w.heap.size with h1 | h1
      · exact h1
      · have h2 := Store.lt_of hs.sub h1
        rcases hc with ⟨o, x, hx⟩ | ⟨x, hx⟩
        · rw [h2.1 o] at hx; cases hx
        · rw [h2.2] at hx; cases hx
    · obtain ⟨_, k1, k2⟩ := hself c hcb
      rcases hc with ⟨o, z, hz⟩ | ⟨z, hz⟩
      · rw [k1 o] at hz; cases hz
      · rw [k2] at hz; cases hz
  · rw [hw c (Nat.lt_of_lt_of_le hc hs.size) (fun hcb => ?_)]
    · exact hs.block c hc hnb
    · rcases (hself c hcb).1 with h1 | h1
      · omega
      · exact hnb h1

/-- Blocks change hands between resources; the world stays. -/
theorem Stab.regroup (hs : Stab w0 B ρ r S w) {r' : List Res} (hl : r'.length = r.length) (g : Nat → Nat) (hres : ∀ (k : Nat) x, r'[k]? = some x → ∃ h, ρ[k]? = some h ∧ x.holds ρ h w)
    (hf : ∀ (k : Nat) x h c, r'[k]? = some x → x.alive = true → ρ[k]? = some h → x.foot h c → ∃ i y h', r[i]? = some y ∧ y.alive = true ∧ ρ[i]? = some h' ∧ y.foot h' c ∧ k = g i) : Stab w0 B ρ r' S w := by
  refine ⟨by rw [hl]; exact hs.len, hres, ?_, ?_, hs.sub, hs.os, hs.tape, hs.output, hs.size, hs.block, hs.low, hs.pre⟩
  · intro k k' x y h h' c hk hk' hx hy hh hh' hc hc'
    obtain ⟨i, u, d, i1, i2, i3, i4, rfl⟩ := hf k x h c hk hx hh hc
    obtain ⟨i', u', d', j1, j2, j3, j4, rfl⟩ := hf k' y h' c hk' hy hh' hc'
    rw [hs.disj i i' u u' d d' c i1 j1 i2 j2 i3 j3 i4 j4]
  · intro k x h c hk hx hh hc
    obtain ⟨i, u, d, i1, i2, i3, i4, rfl⟩ := hf k x h c hk hx hh hc
    exact hs.own i u d c i1 i2 i3 i4

/-- The block of resource 'i' is written; the others stay. -/
theorem Stab.write (hs : Stab w0 B ρ r S w) {i : Nat} {x y : Res} {h : Value} {b : Nat} (hi : r[i]? = some x) (hxa : x.alive = true) (hh : ρ[i]? = some h) (hb : x.foot h b) (hf : ∀ c, y.foot h c → x.foot h c)
    (hw : ∀ c, c ≠ b → w'.heap[c]? = w.heap[c]?) (hsz : w'.heap.size = w.heap.size) (hos : w'.os = w.os) (htape : w'.tape = w.tape) (hout : w'.output = w.output)
    (hy : y.holds ρ h w') : Stab w0 B ρ (r.set i y) S w' :=
  hs.turnG hi hxa hh (fun c _ hc => hw c fun e => hc (e ▸ hb)) (Nat.le_of_eq hsz.symm) hos htape hout (fun c hc => ⟨by rw [hsz]; exact (hs.own i x h c hi hxa hh (hf c hc)).1, .inl (hf c hc)⟩) hy

/-- Behind a call that turns nothing that was there. -/
theorem Stab.call (hs : Stab w0 B ρ r S w) (ho : Old w w') (hS : S'.le (Store.of w')) (hn : ∀ b, b < w.heap.size → (∀ i, S'.c b i = S.c b i) ∧ S'.o b = S.o b) : Stab w0 B ρ r S' w' := by
  refine ⟨hs.len, ?_, hs.disj, ?_, hS, ho.os.trans hs.os, ho.tape.trans hs.tape, ho.output.trans hs.output, Nat.le_trans hs.size ho.size, fun b hb hnb => by rw [ho.block b (Nat.lt_of_lt_of_le hb hs.size)]; exact hs.block b hb hnb, fun b hb hnb => ?_, hs.pre⟩
  · intro i x hx
    obtain ⟨h, hh, hxh⟩ := hs.res i x hx
    exact ⟨h, hh, Res.holds_near hxh fun ha b hb => ho.block b (hs.own i x h b hx ha hh hb).1⟩
  · intro i x h b hx ha hh hb
    obtain ⟨h1, h2, h3, h4⟩ := hs.own i x h b hx ha hh hb
    refine ⟨Nat.lt_of_lt_of_le h1 ho.size, h2, fun o => ?_, ?_⟩
    · rw [(hn b h1).1 o]; exact h3 o
    · rw [(hn b h1).2]; exact h4
  · obtain ⟨h1, h2⟩ := hs.low b hb hnb
    obtain ⟨k1, k2⟩ := hn b (Nat.lt_of_lt_of_le hb hs.size)
    exact ⟨fun o x hx => h1 o x (by rw [← k1 o]; exact hx), fun x hx => h2 x (by rw [← k2]; exact hx)⟩

theorem rels_put {d : Option Tmp} {sv : SV} {v : Value} (ht : rels (SV.rel ρ) t a.tmps.toList) (hv : sv.rel ρ v) : rels (SV.rel ρ) (putL t d sv) (a.put d v).tmps.toList := by
  cases d with
  | none => exact ht
  | some d => simpa [putL, Act.put] using rels_set d ht hv

/-- The symbolic state and the machine's. -/
structure Gam (w0 : World) (B : Base) (ρ : List Value) (t : List SV) (r : List Res) (S : Store) (a : Act) (w : World) : Prop where
  tmps : rels (SV.rel ρ) t a.tmps.toList
  defers : a.defers = []
  st : Stab w0 B ρ r S w

/-- What was known before the step and is still so: the store's part, and the blocks owned by resources other than 'W'. -/
structure Goes (W : List Nat) (ρ : List Value) (r : List Res) (S : Store) (w : World) (ρ' : List Value) (r' : List Res) (S' : Store) (w' : World) : Prop where
  store : S.le S'
  handle : ∀ (i : Nat) h, i ∉ W → ρ[i]? = some h → ρ'[i]? = some h
  alive : ∀ (i : Nat) x, i ∉ W → r[i]? = some x → r'[i]? = some x
  keep : ∀ (i : Nat) x h b, i ∉ W → r[i]? = some x → x.alive = true → ρ[i]? = some h → x.foot h b → w'.heap[b]? = w.heap[b]?

theorem Store.le_refl (S : Store) : S.le S := ⟨fun _ _ _ h => h, fun _ _ h => h⟩
theorem Store.le_trans {S S' S'' : Store} (h : S.le S') (k : S'.le S'') : S.le S'' := ⟨fun b i x hx => k.1 b i x (h.1 b i x hx), fun b x hx => k.2 b x (h.2 b x hx)⟩

/-- What follows an operation. -/
def After (w0 : World) (B : Base) (W : List Nat) (ρ : List Value) (r : List Res) (S : Store) (w : World) (K : SK) (a' : Act) (w' : World) : Prop :=
  ∃ ρ' t' r' S', Gam w0 B ρ' t' r' S' a' w' ∧ Goes W ρ r S w ρ' r' S' w' ∧ K t' r' S'

def ESound (P : Program) (w0 : World) (B : Base) (W : List Nat) (ρ : List Value) (r : List Res) (S : Store) (a : Act) (w : World) (o : Oper) (K : SK) : Prop :=
  ∀ Q, o.wp P a w (After w0 B W ρ r S w K) Q

end Go.Vc
