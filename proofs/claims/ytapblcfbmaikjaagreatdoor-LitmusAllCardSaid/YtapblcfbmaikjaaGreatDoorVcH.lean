/- Verification conditions, eighth part: maps that are written, rows that grow, calls. -/
import Derived.Test.YtapblcfbmaikjaaGreatDoorVcG
import Derived.Lib.AppendStr
namespace Go.Vc
open Go

variable {P : Program} {tt : Nat → Option TI} {ok : Nat → Bool} {w0 w w' : World} {B : Base} {ρ : List Value} {r : List Res} {S S' : Store} {t : List SV} {a : Act} {K : SK}

theorem get_set_ne {α : Type} {l : List α} {i j : Nat} {x y : α} (h : l[j]? = some x) (hij : j ≠ i) : (l.set i y)[j]? = some x := by rw [List.getElem?_set_ne (Ne.symm hij)]; exact h

section kill
variable {i : Nat} {p : Option Addr} {n c : Nat} {h' : Value}

theorem ne_of_ptr (hρ : ρ[i]? = some (.slice p n c)) {j : Nat} {q : Option Addr} (h : ρ[j]? = some (.pointer q)) : j ≠ i := by
  intro e; subst e; rw [hρ] at h; simp at h

theorem C.rel_kill (hρ : ρ[i]? = some (.slice p n c)) : ∀ (x : C) (y : Value), x.rel ρ y → (x.kill i).rel (ρ.set i h') y
  | .junk, _, h => h
  | .v _, _, h => h
  | .ptr _ _, _, ⟨b, h1, h2⟩ => ⟨b, get_set_ne h1 (ne_of_ptr hρ h1), h2⟩
  | .sl _ _ _ _, _, ⟨b, h1, h2⟩ => ⟨b, get_set_ne h1 (ne_of_ptr hρ h1), h2⟩
  | .ref j, y, ⟨h1, h2⟩ => by
    by_cases hj : j = i
    · simp only [C.kill, hj, if_true]; exact h2
    · simp only [C.kill, hj, if_false]; exact ⟨get_set_ne h1 hj, h2⟩
  | .elt j k sz o, y, ⟨b, n, m, h1, h2⟩ => by
    by_cases hj : j = i
    · simp only [C.kill, hj, if_true]; rw [h2]; rfl
    · simp only [C.kill, hj, if_false]; exact ⟨b, n, m, get_set_ne h1 hj, h2⟩
  | .seg j k n sz, y, ⟨q, n', m, h1, h2, h3⟩ => by
    by_cases hj : j = i
    · simp only [C.kill, hj, if_true]; rw [h3]; rfl
    · simp only [C.kill, hj, if_false]; exact ⟨q, n', m, get_set_ne h1 hj, h2, h3⟩
  | .clo _ _, _, ⟨ys, h1, h2, h3⟩ => ⟨ys, h1, h2, fun j c z hc hz => by
      have := h3 j c z hc hz
      cases c with
      | inl k => obtain ⟨b, g1, g2⟩ := this; exact ⟨b, get_set_ne g1 (ne_of_ptr hρ g1), g2⟩
      | inr u => exact this⟩

theorem rels_map {α β γ : Type} {R : α → β → Prop} {R' : γ → β → Prop} (f : α → γ) (hf : ∀ x y, R x y → R' (f x) y) : ∀ {xs : List α} {ys : List β}, rels R xs ys → rels R' (xs.map f) ys
  | [], [], _ => trivial
  | _ :: _, _ :: _, h => ⟨hf _ _ h.1, rels_map f hf h.2⟩
  | [], _ :: _, h => h.elim
  | _ :: _, [], h => h.elim

theorem compRel_kill (hρ : ρ[i]? = some (.slice p n c)) : ∀ (x : Bool × List C) (y : Value), compRel ρ x y → compRel (ρ.set i h') (x.1, x.2.map (C.kill i)) y
  | (true, _), _, ⟨ys, h1, h2⟩ => ⟨ys, h1, rels_map _ (C.rel_kill hρ) h2⟩
  | (false, [x]), y, h => C.rel_kill hρ x y h
  | (false, []), _, h => h.elim
  | (false, _ :: _ :: _), _, h => h.elim

theorem SV.rel_kill (hρ : ρ[i]? = some (.slice p n c)) : ∀ (x : SV) (y : Value), x.rel ρ y → (x.kill i).rel (ρ.set i h') y
  | .c .junk, _, _ => trivial
  | .c (.v x), y, h => C.rel_kill (h' := h') hρ (.v x) y h
  | .c (.ptr j o), y, h => C.rel_kill (h' := h') hρ (.ptr j o) y h
  | .c (.sl j o n m), y, h => C.rel_kill (h' := h') hρ (.sl j o n m) y h
  | .c (.clo f cs), y, h => C.rel_kill (h' := h') hρ (.clo f cs) y h
  | .c (.ref j), y, h => by
    have := C.rel_kill (h' := h') hρ (.ref j) y h
    by_cases hj : j = i <;> simp only [SV.kill, C.kill, hj, if_true, if_false, SV.rel] at this ⊢
    exact this
  | .c (.elt j k sz o), y, h => by
    have := C.rel_kill (h' := h') hρ (.elt j k sz o) y h
    by_cases hj : j = i <;> simp only [SV.kill, C.kill, hj, if_true, if_false, SV.rel] at this ⊢
    exact this
  | .c (.seg j k n sz), y, h => by
    have := C.rel_kill (h' := h') hρ (.seg j k n sz) y h
    by_cases hj : j = i <;> simp only [SV.kill, C.kill, hj, if_true, if_false, SV.rel] at this ⊢
    exact this
  | .agg _, _, ⟨ys, h1, h2⟩ => ⟨ys, h1, rels_map _ (C.rel_kill hρ) h2⟩
  | .tup _, _, ⟨ys, h1, h2⟩ => ⟨ys, h1, rels_map _ (fun x y h => compRel_kill hρ x y h) h2⟩

theorem Res.holds_kill (hρ : ρ[i]? = some (.slice p n c)) {x : Res} {h : Value} (hx : x.holds ρ h w) : (x.kill i).holds (ρ.set i h') h w := by
  cases x with
  | gone => trivial
  | box cs => obtain ⟨b, T, xs, h1, h2, h3⟩ := hx; exact ⟨b, T, xs, h1, h2, rels_map _ (C.rel_kill hρ) h3⟩
  | row sh e xs => exact hx
  | map k e es => exact hx
  | iter k e m ents clock left cur => exact hx
  | ext Q => exact hx
  | pool sh e l => exact hx
end kill

theorem kill_alive (i : Nat) (x : Res) : (x.kill i).alive = x.alive := by cases x <;> rfl
theorem kill_foot (i : Nat) (x : Res) (h : Value) (b : Nat) : (x.kill i).foot h b ↔ x.foot h b := by cases x <;> exact Iff.rfl

theorem killT_eq (i : Nat) (l : List SV) : ∀ k : List SV → Prop, killT i l k = k (l.map (SV.kill i)) := by
  induction l with
  | nil => intro k; rfl
  | cons x xs ih => intro k; simp [killT, force_eq, ih]
theorem forceR_eq (x : Res) (k : Res → Prop) : forceR x k = k x := by cases x <;> simp [forceR, forceL_eq]
theorem killR_eq (i : Nat) (l : List Res) : ∀ k : List Res → Prop, killR i l k = k (l.map (Res.kill i)) := by
  induction l with
  | nil => intro k; rfl
  | cons x xs ih => intro k; simp [killR, forceR_eq, ih]

/-- The handle of a row turns, and its block with it. -/
theorem Stab.turn (hs : Stab w0 B ρ r S w) {i : Nat} {x y : Res} {p : Option Addr} {n c : Nat} {v' : Value} (hi : r[i]? = some x) (hxa : x.alive = true) (hρ : ρ[i]? = some (.slice p n c))
    (hw : ∀ b, b < w.heap.size → blk (.slice p n c) ≠ some b → w'.heap[b]? = w.heap[b]?) (hsz : w.heap.size ≤ w'.heap.size) (hos : w'.os = w.os) (htape : w'.tape = w.tape) (hout : w'.output = w.output)
    (hb : ∀ b, blk v' = some b → b < w'.heap.size ∧ (blk (.slice p n c) = some b ∨ w.heap.size ≤ b)) (hy : y.holds (ρ.set i v') v' w') (hx1 : x.single = true := by rfl) (hy1 : y.single = true := by rfl) :
    Stab w0 B (ρ.set i v') ((r.map (Res.kill i)).set i y) S w' := by
  have hil := (List.getElem?_eq_some_iff.1 hi).1
  have hlen := hs.len
  have other : ∀ (j : Nat) z g d, j ≠ i → r[j]? = some z → z.alive = true → ρ[j]? = some g → z.foot g d → blk (.slice p n c) ≠ some d := by
    intro j z g d hji hz hza hg hd hcd
    exact hji (hs.disj j i z x g _ d hz hi hza hxa hg hρ hd ((foot_single hx1).2 hcd))
  have back : ∀ (j : Nat) z, j ≠ i → ((r.map (Res.kill i)).set i y)[j]? = some z → ∃ z', r[j]? = some z' ∧ z = z'.kill i := by
    intro j z hji hz
    rw [List.getElem?_set_ne (Ne.symm hji), List.getElem?_map] at hz
    cases hr : r[j]? with
    | none => simp [hr] at hz
    | some z' => simp [hr] at hz; exact ⟨z', rfl, hz.symm⟩
  have hback : ∀ (j : Nat) g, j ≠ i → (ρ.set i v')[j]? = some g → ρ[j]? = some g := by
    intro j g hji hg
    rwa [List.getElem?_set_ne (Ne.symm hji)] at hg
  have hselfr : ∀ z, ((r.map (Res.kill i)).set i y)[i]? = some z → z = y := by
    intro z hz
    rw [List.getElem?_set_self (by simpa using hil)] at hz
    simpa using hz.symm
  have hself : ∀ g, (ρ.set i v')[i]? = some g → g = v' := by
    intro g hg
    rw [List.getElem?_set_self (by omega)] at hg
    simpa using hg.symm
  refine ⟨by simp [hlen], ?_, ?_, ?_, ?_, hos.trans hs.os, htape.trans hs.tape, hout.trans hs.output, Nat.le_trans hs.size hsz, ?_, hs.low, fun j g hj hf => ?_⟩
  · intro j z hz
    by_cases hji : j = i
    · subst hji
      rw [List.getElem?_set_self (by simpa using hil)] at hz
      simp at hz
      subst hz
      exact ⟨v', by rw [List.getElem?_set_self (by omega)], hy⟩
    · obtain ⟨z', hz', rfl⟩ := back j z hji hz
      obtain ⟨g, hg, hgh⟩ := hs.res j z' hz'
      exact ⟨g, get_set_ne hg hji, Res.holds_kill hρ (Res.holds_near hgh fun hza d hd => hw d (hs.own j z' g d hz' hza hg hd).1 (other j z' g d hji hz' hza hg hd))⟩
  · intro j k z1 z2 g1 g2 d hj hk hz1 hz2 hg1 hg2 hd1 hd2
    by_cases hji : j = i
    · by_cases hki : k = i
      · rw [hji, hki]
      · exfalso
        subst hji
        have e1 := hself g1 hg1
        subst e1
        obtain ⟨z', hz', rfl⟩ := back k z2 hki hk
        rw [kill_alive] at hz2
        have hg2' := hback k g2 hki hg2
        rw [hselfr z1 hj, foot_single hy1] at hd1
        rw [kill_foot] at hd2
        rcases (hb d hd1).2 with h1 | h1
        · exact other k z' g2 d hki hz' hz2 hg2' hd2 h1
        · have := (hs.own k z' g2 d hz' hz2 hg2' hd2).1; omega
    · obtain ⟨z', hz', rfl⟩ := back j z1 hji hj
      rw [kill_alive] at hz1
      rw [kill_foot] at hd1
      have hg1' := hback j g1 hji hg1
      by_cases hki : k = i
      · exfalso
        subst hki
        have e1 := hself g2 hg2
        subst e1
        rw [hselfr z2 hk, foot_single hy1] at hd2
        rcases (hb d hd2).2 with h1 | h1
        · exact other j z' g1 d hji hz' hz1 hg1' hd1 h1
        · have := (hs.own j z' g1 d hz' hz1 hg1' hd1).1; omega
      · obtain ⟨z'', hz'', rfl⟩ := back k z2 hki hk
        rw [kill_alive] at hz2
        rw [kill_foot] at hd2
        exact hs.disj j k z' z'' g1 g2 d hz' hz'' hz1 hz2 hg1' (hback k g2 hki hg2) hd1 hd2
  · intro j z g d hz hza hg hd
    by_cases hji : j = i
    · subst hji
      have e1 := hself g hg
      subst e1
      rw [hselfr z hz, foot_single hy1] at hd
      obtain ⟨h1, h2⟩ := hb d hd
      refine ⟨h1, ?_⟩
      rcases h2 with h2 | h2
      · exact (hs.own j x _ d hi hxa hρ ((foot_single hx1).2 h2)).2
      · exact ⟨.inl (Nat.le_trans hs.size h2), Store.lt_of hs.sub h2⟩
    · obtain ⟨z', hz', rfl⟩ := back j z hji hz
      rw [kill_alive] at hza
      rw [kill_foot] at hd
      obtain ⟨h1, h2⟩ := hs.own j z' g d hz' hza (hback j g hji hg) hd
      exact ⟨by omega, h2⟩
  · refine Store.le_of hs.sub fun d hd => ?_
    have hdl : d < w.heap.size := by
      rcases Nat.lt_or_ge d w.heap.size with h1 | h1
      · exact h1
      · have h2 := Store.lt_of hs.sub h1
        rcases hd with ⟨o, x, hx⟩ | ⟨x, hx⟩
        · rw [h2.1 o] at hx; cases hx
        · rw [h2.2] at hx; cases hx
    refine hw d hdl fun hcd => ?_
    have hown := hs.own i x _ d hi hxa hρ ((foot_single hx1).2 hcd)
    rcases hd with ⟨o, z, hz⟩ | ⟨z, hz⟩
    · rw [hown.2.2.1 o] at hz; cases hz
    · rw [hown.2.2.2] at hz; cases hz
  · intro d hd hnb
    rw [hw d (Nat.lt_of_lt_of_le hd hs.size) fun hcd => ?_]
    · exact hs.block d hd hnb
    · have hown := hs.own i x _ d hi hxa hρ ((foot_single hx1).2 hcd)
      rcases hown.2.1 with h1 | h1
      · omega
      · exact hnb h1
  · have hp := hs.pre j g hj hf
    refine get_set_ne hp fun e => ?_
    subst e
    rw [hρ] at hp
    simp only [Option.some.injEq] at hp
    rw [← hp] at hf
    cases hf

theorem mapIs_set {ks es : Shape} {ents : Array MapEntry} {clock : Nat} {l : List (ks.T × es.T)} (h : mapIs ks es ents clock l) {j : Nat} (kk : ks.T) (vv : es.T) (hv : es.ok vv) :
    mapIs ks es (ents.modify j fun e => { e with key := ks.val kk, val := es.val vv }) clock (l.set j (kk, vv)) := by
  obtain ⟨h1, h2, h3, h4⟩ := h
  have hmod : (ents.modify j fun e => { e with key := ks.val kk, val := es.val vv }).toList = ents.toList.modify j fun e => { e with key := ks.val kk, val := es.val vv } := by simp
  refine ⟨?_, ?_, ?_, ?_⟩
  · rw [hmod]
    apply List.ext_getElem?
    intro i
    have hi := congrArg (·[i]?) h1
    simp only [List.getElem?_map] at hi
    simp only [List.getElem?_map, List.getElem?_modify, List.getElem?_set]
    by_cases hji : j = i
    · subst hji
      cases he : ents.toList[j]? with
      | none =>
        rw [he] at hi
        have hl : l[j]? = none := by cases hl : l[j]? <;> simp [hl] at hi ⊢
        have : ¬ j < l.length := by simpa using hl
        simp [this]
      | some e =>
        rw [he] at hi
        have hl : j < l.length := by
          cases hl : l[j]? with
          | none => simp [hl] at hi
          | some p => exact (List.getElem?_eq_some_iff.1 hl).1
        simp [hl]
    · simp only [hji, if_false]
      cases he : ents.toList[i]? <;> cases hl : l[i]? <;> simp [he, hl] at hi ⊢
      exact hi
  · intro p hp
    rcases List.mem_or_eq_of_mem_set hp with hp | rfl
    · exact h2 p hp
    · exact hv
  · have : (ents.modify j fun e => { e with key := ks.val kk, val := es.val vv }).toList.map (·.born) = ents.toList.map (·.born) := by
      rw [hmod]
      apply List.ext_getElem?
      intro i
      simp only [List.getElem?_map, List.getElem?_modify]
      by_cases hji : j = i
      · subst hji; cases ents.toList[j]? <;> simp
      · cases ents.toList[i]? <;> simp [hji]
    rw [this]; exact h3
  · intro x hx
    rw [hmod] at hx
    obtain ⟨i, hi⟩ := List.getElem?_of_mem hx
    rw [List.getElem?_modify] at hi
    by_cases hji : j = i
    · subst hji
      cases he : ents.toList[j]? with
      | none => simp [he] at hi
      | some e => simp [he] at hi; subst hi; exact h4 e (List.mem_of_getElem? he)
    · simp [hji] at hi; exact h4 x (by simpa using Array.mem_of_getElem? hi)

theorem mapIs_push {ks es : Shape} {ents : Array MapEntry} {clock : Nat} {l : List (ks.T × es.T)} (h : mapIs ks es ents clock l) (kk : ks.T) (vv : es.T) (hv : es.ok vv) :
    mapIs ks es (ents.push { key := ks.val kk, val := es.val vv, born := clock }) (clock + 1) (l ++ [(kk, vv)]) := by
  obtain ⟨h1, h2, h3, h4⟩ := h
  refine ⟨by simp [h1], ?_, ?_, ?_⟩
  · intro p hp
    rcases List.mem_append.1 hp with hp | hp
    · exact h2 p hp
    · simp at hp; subst hp; exact hv
  · simp only [Array.toList_push, List.map_append, List.map_cons, List.map_nil]
    rw [List.nodup_append]
    refine ⟨h3, by simp, ?_⟩
    intro x hx y hy
    simp at hy
    obtain ⟨e, he, rfl⟩ := List.mem_map.1 hx
    subst hy
    exact Nat.ne_of_lt (h4 e he)
  · intro x hx
    simp only [Array.toList_push, List.mem_append, List.mem_singleton] at hx
    rcases hx with hx | rfl
    · have := h4 x hx; omega
    · simp

theorem run_mapUpdate {ty kt et : Nat} (ht : P.underlying ty = some (.map kt et)) {ks es : Shape} (hk : KeyRuns P kt ks) {l : List (ks.T × es.T)} (kk : ks.T) (vv : es.T) (hv : es.ok vv)
    {ents : Array MapEntry} {b clock : Nat} (hb : w.heap[b]? = some (.map ents clock)) (h : mapIs ks es ents clock l) :
    ∃ ents' clock', (Instr.mapUpdate ty (.map (some b)) (ks.val kk) (es.val vv)).run P w = .ok () { w with heap := w.heap.setIfInBounds b (.map ents' clock') } ∧ mapIs ks es ents' clock' (mset ks l kk vv) := by
  have hck := hk.check false kk w
  rcases hk.find es kk ents.toList l w h.1 with ⟨g1, g2, g3⟩ | ⟨j, p, g0, g1, g2, g3, g4, g5⟩
  · refine ⟨_, _, ?_, by rw [g3]; exact mapIs_push h kk vv hv⟩
    simp only [Instr.mapUpdate, Sem.run_bind, run_underlying ht, Result.andThen, getObj, Sem.run, hb, hck, g2, setObj]
  · refine ⟨_, _, ?_, by rw [g4]; exact mapIs_set h kk vv hv⟩
    have hkey : ((ents[j]?).map (·.key)).getD (ks.val kk) = ks.val p.1 := by
      have := congrArg (·[j]?) h.1
      simp only [List.getElem?_map, g0, Option.map_some] at this
      cases he : ents.toList[j]? with
      | none => simp [he] at this
      | some e =>
        simp [he] at this
        have he' : ents[j]? = some e := by simpa using he
        simp [he', this.1]
    have hst : ∀ w : World, (Instr.keyThatStays (((ents[j]?).map (·.key)).getD (ks.val kk)) (ks.val kk)).run P w = .ok (ks.val kk) w := by
      intro w
      rw [hkey]
      simp only [Instr.keyThatStays, hk.bits _ _ g1, if_true, Sem.run_pure]
    simp only [Instr.mapUpdate, Sem.run_bind, run_underlying ht, Result.andThen, getObj, Sem.run, hb, hck, g3, setObj, hst]

theorem eraseIdx_map {α β : Type} (f : α → β) : ∀ (l : List α) (j : Nat), (l.eraseIdx j).map f = (l.map f).eraseIdx j
  | [], _ => rfl
  | _ :: _, 0 => rfl
  | x :: l, j + 1 => by simp [eraseIdx_map f l j]

theorem mdel_eq {ks : Shape} {V : Type} : ∀ (l : List (ks.T × V)) (kk : ks.T), (mget ks l kk = none → mdel ks l kk = l)
  | [], _, _ => rfl
  | p :: l, kk, h => by
    simp only [mget] at h
    split at h
    · cases h
    · rename_i hq
      simp only [mdel, if_neg hq, mdel_eq l kk h]
theorem mdelB_eq {ks : Shape} {V : Type} : ∀ (l : List (Nat × ks.T × V)) (kk : ks.T), (mdelB ks l kk).map (·.2) = mdel ks (l.map (·.2)) kk
  | [], _ => rfl
  | p :: l, kk => by
    simp only [mdelB, List.map_cons, mdel]
    split
    · rfl
    · simp [mdelB_eq l kk]

/-- What stands at an index where the first entry with a key is. -/
theorem mdel_at {ks : Shape} {V : Type} {kk : ks.T} : ∀ (l : List (ks.T × V)) (j : Nat) (p : ks.T × V), l[j]? = some p → ks.eq kk p.1 = true → (∀ q ∈ l.take j, ks.eq kk q.1 = false) → mdel ks l kk = l.eraseIdx j
  | q :: l, 0, p, h, h1, _ => by simp at h; subst h; simp [mdel, h1]
  | q :: l, j + 1, p, h, h1, h2 => by
    have hq : ks.eq kk q.1 = false := h2 q (by simp)
    simp only [mdel, hq, Bool.false_eq_true, if_false, List.eraseIdx_cons_succ]
    rw [mdel_at l j p (by simpa using h) h1 fun z hz => h2 z (by simp [hz])]
theorem mdelB_at {ks : Shape} {V : Type} {kk : ks.T} : ∀ (l : List (Nat × ks.T × V)) (j : Nat) (p : ks.T × V), (l.map (·.2))[j]? = some p → ks.eq kk p.1 = true → (∀ q ∈ (l.map (·.2)).take j, ks.eq kk q.1 = false) → mdelB ks l kk = l.eraseIdx j
  | q :: l, 0, p, h, h1, _ => by simp at h; subst h; simp [mdelB, h1]
  | q :: l, j + 1, p, h, h1, h2 => by
    have hq : ks.eq kk q.2.1 = false := h2 q.2 (by simp)
    simp only [mdelB, hq, Bool.false_eq_true, if_false, List.eraseIdx_cons_succ]
    rw [mdelB_at l j p (by simpa using h) h1 fun z hz => h2 z (by simp only [List.map_cons, List.take_succ_cons, List.mem_cons, hz, or_true])]
theorem msetB_births {ks : Shape} {V : Type} {kk : ks.T} {v : V} : ∀ (l : List (Nat × ks.T × V)), (msetB ks l kk v).map (·.1) = l.map (·.1)
  | [] => rfl
  | q :: l => by
    simp only [msetB]
    split
    · rfl
    · simp [msetB_births l]
theorem msetB_data {ks : Shape} {V : Type} {kk : ks.T} {v : V} : ∀ (l : List (Nat × ks.T × V)), (mget ks (l.map (·.2)) kk).isSome = true → (msetB ks l kk v).map (·.2) = mset ks (l.map (·.2)) kk v
  | [], h => by simp [mget] at h
  | q :: l, h => by
    simp only [List.map_cons, mget] at h
    simp only [msetB, List.map_cons, mset]
    split at h
    · rename_i hq; simp [hq]
    · rename_i hq; simp [hq, msetB_data l h]
theorem mdelB_none {ks : Shape} {V : Type} {kk : ks.T} : ∀ (l : List (Nat × ks.T × V)), mget ks (l.map (·.2)) kk = none → mdelB ks l kk = l
  | [], _ => rfl
  | q :: l, h => by
    simp only [List.map_cons, mget] at h
    split at h
    · cases h
    · rename_i hq; simp only [mdelB, if_neg hq, mdelB_none l h]

theorem run_mapUpdateB {ty kt et : Nat} (ht : P.underlying ty = some (.map kt et)) {ks es : Shape} (hk : KeyRuns P kt ks) {l : List (Nat × ks.T × es.T)} (kk : ks.T) (vv : es.T) (hv : es.ok vv)
    {ents : Array MapEntry} {b clock : Nat} (hb : w.heap[b]? = some (.map ents clock)) (hbo : mapB ks es ents l) (h : mapIs ks es ents clock (l.map (·.2))) (hsome : (mget ks (l.map (·.2)) kk).isSome = true) :
    ∃ ents', (Instr.mapUpdate ty (.map (some b)) (ks.val kk) (es.val vv)).run P w = .ok () { w with heap := w.heap.setIfInBounds b (.map ents' clock) } ∧ mapB ks es ents' (msetB ks l kk vv) ∧ mapIs ks es ents' clock ((msetB ks l kk vv).map (·.2)) := by
  have hck := hk.check false kk w
  rcases hk.find es kk ents.toList (l.map (·.2)) w h.1 with ⟨g1, g2, g3⟩ | ⟨j, p, g0, g1, g2, g3, g4, g5⟩
  · rw [g1] at hsome; cases hsome
  · refine ⟨_, ?_, ?_, by rw [msetB_data l hsome, g4]; exact mapIs_set h kk vv hv⟩
    · have hkey : ((ents[j]?).map (·.key)).getD (ks.val kk) = ks.val p.1 := by
        have := congrArg (·[j]?) h.1
        rw [List.getElem?_map, List.getElem?_map, g0, Option.map_some] at this
        cases he : ents.toList[j]? with
        | none => simp [he] at this
        | some e =>
          simp [he] at this
          have he' : ents[j]? = some e := by simpa using he
          simp [he', this.1]
      have hst : ∀ w : World, (Instr.keyThatStays (((ents[j]?).map (·.key)).getD (ks.val kk)) (ks.val kk)).run P w = .ok (ks.val kk) w := by
        intro w
        rw [hkey]
        simp only [Instr.keyThatStays, hk.bits _ _ g1, if_true, Sem.run_pure]
      simp only [Instr.mapUpdate, Sem.run_bind, run_underlying ht, Result.andThen, getObj, Sem.run, hb, hck, g3, setObj, hst]
    · show List.map _ _ = _
      rw [msetB_births, ← hbo]
      have hmod : (ents.modify j fun e => { e with key := ks.val kk, val := es.val vv }).toList = ents.toList.modify j fun e => { e with key := ks.val kk, val := es.val vv } := by simp
      rw [hmod]
      apply List.ext_getElem?
      intro i
      simp only [List.getElem?_map, List.getElem?_modify]
      by_cases hji : j = i
      · subst hji; cases ents.toList[j]? <;> simp
      · cases ents.toList[i]? <;> simp [hji]

theorem run_delete {ty kt et : Nat} (ht : P.underlying ty = some (.map kt et)) {ks es : Shape} (hk : KeyRuns P kt ks) {l : List (ks.T × es.T)} (kk : ks.T) {tys : Array TypeId} (htys : tys[0]? = some ty) (rt : TypeId)
    {ents : Array MapEntry} {b clock : Nat} (hb : w.heap[b]? = some (.map ents clock)) (h : mapIs ks es ents clock l) :
    ∃ ents', (Builtin.delete_ tys rt #[.map (some b), ks.val kk]).run P w = .ok (.tuple #[]) { w with heap := w.heap.setIfInBounds b (.map ents' clock) } ∧ mapIs ks es ents' clock (mdel ks l kk) ∧
      ∀ lb : List (Nat × ks.T × es.T), mapB ks es ents lb → lb.map (·.2) = l → mapB ks es ents' (mdelB ks lb kk) := by
  have hck := fun b => hk.check b kk w
  rcases hk.find es kk ents.toList l w h.1 with ⟨g1, g2, g3⟩ | ⟨j, p, g0, g1, g2, g3, g4, g5⟩
  · refine ⟨ents, ?_, ?_, ?_⟩
    · simp only [Builtin.delete_, htys, List.getElem?_toArray, List.getElem?_cons_zero, List.getElem?_cons_succ, Sem.run_bind, run_underlying ht, Result.andThen, getObj, Sem.run, hb, hck, g2, setObj, Sem.run_pure]
    · rw [mdel_eq _ _ g1]; exact h
    · intro lb h1 h2
      subst h2
      rw [mdelB_none lb g1]
      exact h1
  · have hmod : (ents.eraseIdxIfInBounds j).toList = ents.toList.eraseIdx j := by simp
    refine ⟨ents.eraseIdxIfInBounds j, ?_, ?_, ?_⟩
    · simp only [Builtin.delete_, htys, List.getElem?_toArray, List.getElem?_cons_zero, List.getElem?_cons_succ, Sem.run_bind, run_underlying ht, Result.andThen, getObj, Sem.run, hb, hck, g3, setObj, Sem.run_pure]
    · rw [mdel_at l j p g0 g1 g5]
      refine ⟨?_, ?_, ?_, ?_⟩
      · rw [hmod, eraseIdx_map, eraseIdx_map, h.1]
      · exact fun p hp => h.2.1 p (List.mem_of_mem_eraseIdx hp)
      · rw [hmod, eraseIdx_map]
        exact h.2.2.1.sublist (List.eraseIdx_sublist _ _)
      · intro x hx
        rw [hmod] at hx
        exact h.2.2.2 x (List.mem_of_mem_eraseIdx hx)
    · intro lb h1 h2
      show (ents.eraseIdxIfInBounds j).toList.map (·.born) = _
      subst h2
      rw [hmod, eraseIdx_map, h1, mdelB_at lb j p g0 g1 g5, eraseIdx_map]

theorem ok_mapPut (hA : Agrees P tt) (hg : Gam w0 B ρ t r S a w) {o : Oper} {ty : Nat} {m k x : Operand} (ho : o.op = .mapUpdate ty m k x ∨ o.op = .insert ty m k x) (W : Nat → Prop) (hW : ∀ i, ok i = true → W i) (h : mapPutK tt ok o.dst ty m k x K t r S) : OpOk P w0 B W ρ r S a w o K := by
  have hm := ev_rel hg.tmps m
  have hkr := ev_rel hg.tmps k
  have hxr := ev_rel hg.tmps x
  unfold mapPutK at h
  split at h
  · rename_i ti hti
    have hkind := (hA _ _ hti).kind
    split at h
    · rename_i kt et hk
      rw [hk] at hkind
      simp only [Kind.fits] at hkind
      split at h
      · rename_i ki i hki hev
        rw [hev] at hm
        obtain ⟨hm, -⟩ := hm
        split at h
        · rename_i ks es l hr
          have hr' := nthR_some hr (by simp)
          split at h
          · rename_i hkf
            obtain ⟨hkf, hoki⟩ := hkf
            obtain ⟨kk, vv, hkk, hvv, hok, h⟩ := h
            simp only [put_eq, setR_eq] at h
            rw [hkk] at hkr
            rw [hvv] at hxr
            have hkv := sv_val hkr
            have hxv := sv_val hxr
            obtain ⟨g, hg', b, ents, clock, rfl, hb, hmap⟩ := hg.st.res i _ hr'
            rw [hm] at hg'
            simp only [Option.some.injEq] at hg'
            obtain ⟨ents', clock', hrun, hmap'⟩ := run_mapUpdate hkind (keyRuns_of hA hki hkf) kk vv hok hb hmap
            have hbl := (Array.getElem?_eq_some_iff.1 hb).1
            refine ok_write hg hr' rfl (by rw [hm, hg']) rfl (ob := .map ents' clock') ?_ ?_ h W (hW i hoki)
            · rcases ho with ho | ho <;> simp only [execOp, ho, Sem.run_bind, hg', hkv, hxv, hrun, Result.andThen, Sem.run_pure]
            · exact ⟨b, ents', clock', rfl, by simp [hbl], hmap'⟩
          · exact h.elim
        · obtain ⟨ks, es, mb, clock, l, kk, vv, hr, ⟨hkf, hoki⟩, hkk, hvv, hok, hsome, h⟩ := h
          have hr' := nthR_some hr (by simp)
          simp only [put_eq, setR_eq] at h
          rw [hkk] at hkr
          rw [hvv] at hxr
          have hkv := sv_val hkr
          have hxv := sv_val hxr
          obtain ⟨g, hg', -, rfl, ents, hb, hbo, hmap⟩ := hg.st.res i _ hr'
          rw [hm] at hg'
          simp only [Option.some.injEq] at hg'
          have hb : w.heap[mb]? = some (.map ents clock) := hb
          obtain ⟨ents', hrun, hbo', hmap'⟩ := run_mapUpdateB hkind (keyRuns_of hA hki hkf) kk vv hok hb hbo hmap hsome
          have hbl := (Array.getElem?_eq_some_iff.1 hb).1
          refine ok_write hg hr' rfl (by rw [hm, hg']) rfl (ob := .map ents' clock) ?_ ?_ h W (hW i hoki)
          · rcases ho with ho | ho <;> simp only [execOp, ho, Sem.run_bind, hg', hkv, hxv, hrun, Result.andThen, Sem.run_pure]
          · exact ⟨rfl, rfl, ents', by simp [blk, hbl], hbo', hmap'⟩
        · exact h.elim
      · rename_i ki mb hki hev
        rw [hev] at hm
        obtain ⟨i, ks, es, l, kk, vv, hr, ⟨hkf, hoki⟩, hkk, hvv, hok, h⟩ := h
        have hr' := nthR_some hr (by simp)
        simp only [put_eq, setR_eq] at h
        rw [hkk] at hkr
        rw [hvv] at hxr
        have hkv := sv_val hkr
        have hxv := sv_val hxr
        obtain ⟨g, hg', -, rfl, ents, clock, hb, hmap⟩ := hg.st.res i _ hr'
        have hm' : a.eval m = .map (some mb) := hm.1
        have hb : w.heap[mb]? = some (.map ents clock) := hb
        obtain ⟨ents', clock', hrun, hmap'⟩ := run_mapUpdate hkind (keyRuns_of hA hki hkf) kk vv hok hb hmap
        have hbl := (Array.getElem?_eq_some_iff.1 hb).1
        refine ok_write hg hr' rfl hg' rfl (ob := .map ents' clock') ?_ ?_ h W (hW i hoki)
        · rcases ho with ho | ho <;> simp only [execOp, ho, Sem.run_bind, hm', hkv, hxv, hrun, Result.andThen, Sem.run_pure]
        · exact ⟨rfl, rfl, ents', clock', by simp [blk, hbl], hmap'⟩
      · exact h.elim
    · exact h.elim
  · exact h.elim

theorem ok_delete (hA : Agrees P tt) (hg : Gam w0 B ρ t r S a w) {o : Oper} {args : Array Operand} {tys : Array TypeId} (ho : o.op = .call { callee := .builtin .delete, args, argTypes := tys }) (W : Nat → Prop) (hW : ∀ i, ok i = true → W i) (h : mapDelK tt ok o.dst args.toList tys.toList K t r S) : OpOk P w0 B W ρ r S a w o K := by
  unfold mapDelK at h
  split at h
  · rename_i m k ty rest hargs htys
    have hm := ev_rel hg.tmps m
    have hkr := ev_rel hg.tmps k
    split at h
    · rename_i ti hti
      have hkind := (hA _ _ hti).kind
      split at h
      · rename_i kt et hk
        rw [hk] at hkind
        simp only [Kind.fits] at hkind
        have hexec : ∀ v' w', (Builtin.delete_ tys o.type #[a.eval m, a.eval k]).run P w = .ok v' w' → (execOp a.eval o).run P w = .ok (.value v') w' := by
          intro v' w' hr
          have h2 : args.map a.eval = #[a.eval m, a.eval k] := by apply Array.ext'; simp [hargs]
          simp only [execOp, ho, resolve, Sem.run_bind, Sem.run_pure, Result.andThen, invoke, builtin, h2, hr]
        have htys0 : tys[0]? = some ty := by rw [← Array.getElem?_toList, htys]; rfl
        split at h
        · rename_i ki i hki hev
          rw [hev] at hm
          obtain ⟨hm, -⟩ := hm
          split at h
          · rename_i ks es l hr
            have hr' := nthR_some hr (by simp)
            split at h
            · rename_i hkf
              obtain ⟨hkf, hoki⟩ := hkf
              obtain ⟨kk, hkk, h⟩ := h
              simp only [put_eq, setR_eq] at h
              rw [hkk] at hkr
              have hkv := sv_val hkr
              obtain ⟨g, hg', b, ents, clock, rfl, hb, hmap⟩ := hg.st.res i _ hr'
              rw [hm] at hg'
              simp only [Option.some.injEq] at hg'
              obtain ⟨ents', hrun, hmap', -⟩ := run_delete hkind (keyRuns_of hA hki hkf) kk htys0 o.type hb hmap
              have hbl := (Array.getElem?_eq_some_iff.1 hb).1
              refine ok_writeG (w' := { w with heap := w.heap.setIfInBounds b (.map ents' clock) }) (y := .map ks es (mdel ks l kk)) hg hr' rfl (by rw [hm, hg']) rfl (hexec _ _ (by rw [hg', hkv]; exact hrun)) (fun c hc => Array.getElem?_setIfInBounds_ne (Ne.symm hc)) (by simp) rfl rfl rfl ?_ (sv := .tup []) ⟨[], rfl, trivial⟩ h W (hW i hoki)
              exact ⟨b, ents', clock, rfl, by simp [hbl], hmap'⟩
            · exact h.elim
          · obtain ⟨ks, es, mb, clock, l, kk, hr, ⟨hkf, hoki⟩, hkk, h⟩ := h
            have hr' := nthR_some hr (by simp)
            simp only [put_eq, setR_eq] at h
            rw [hkk] at hkr
            have hkv := sv_val hkr
            obtain ⟨g, hg', -, rfl, ents, hb, hbo, hmap⟩ := hg.st.res i _ hr'
            rw [hm] at hg'
            simp only [Option.some.injEq] at hg'
            have hb : w.heap[mb]? = some (.map ents clock) := hb
            obtain ⟨ents', hrun, hmap', hbo'⟩ := run_delete hkind (keyRuns_of hA hki hkf) kk htys0 o.type hb hmap
            have hbl := (Array.getElem?_eq_some_iff.1 hb).1
            refine ok_writeG (w' := { w with heap := w.heap.setIfInBounds mb (.map ents' clock) }) (y := .ext (MapAt ks es mb clock (mdelB ks l kk))) hg hr' rfl (by rw [hm, hg']) rfl (hexec _ _ (by rw [hg', hkv]; exact hrun)) (fun c hc => Array.getElem?_setIfInBounds_ne (Ne.symm hc)) (by simp) rfl rfl rfl ?_ (sv := .tup []) ⟨[], rfl, trivial⟩ h W (hW i hoki)
            exact ⟨rfl, rfl, ents', by simp [blk, hbl], hbo' l hbo rfl, by rw [mdelB_eq]; exact hmap'⟩
          · exact h.elim
        · rename_i ki mb hki hev
          rw [hev] at hm
          obtain ⟨i, ks, es, l, kk, hr, ⟨hkf, hoki⟩, hkk, h⟩ := h
          have hr' := nthR_some hr (by simp)
          simp only [put_eq, setR_eq] at h
          rw [hkk] at hkr
          have hkv := sv_val hkr
          obtain ⟨g, hg', -, rfl, ents, clock, hb, hmap⟩ := hg.st.res i _ hr'
          have hm' : a.eval m = .map (some mb) := hm.1
          have hb : w.heap[mb]? = some (.map ents clock) := hb
          obtain ⟨ents', hrun, hmap', -⟩ := run_delete hkind (keyRuns_of hA hki hkf) kk htys0 o.type hb hmap
          have hbl := (Array.getElem?_eq_some_iff.1 hb).1
          refine ok_writeG (w' := { w with heap := w.heap.setIfInBounds mb (.map ents' clock) }) (y := .ext (MapN ks es mb (mdel ks l kk))) hg hr' rfl hg' rfl (hexec _ _ (by rw [hm', hkv]; exact hrun)) (fun c hc => Array.getElem?_setIfInBounds_ne (Ne.symm hc)) (by simp) rfl rfl rfl ?_ (sv := .tup []) ⟨[], rfl, trivial⟩ h W (hW i hoki)
          exact ⟨rfl, rfl, ents', clock, by simp [blk, hbl], hmap'⟩
        · rename_i ki hki hev
          rw [hev] at hm
          obtain ⟨ks, kk, hkf, hkk, h⟩ := h
          simp only [put_eq] at h
          rw [hkk] at hkr
          have hkv := sv_val hkr
          have hm' : a.eval m = .map none := hm.1
          have hck := fun b => (keyRuns_of hA hki hkf).check b kk w
          have hrun : (Builtin.delete_ tys o.type #[.map none, ks.val kk]).run P w = .ok (.tuple #[]) w := by
            simp only [Builtin.delete_, htys0, List.getElem?_toArray, List.getElem?_cons_zero, List.getElem?_cons_succ, Sem.run_bind, run_underlying hkind, Result.andThen, Sem.run, hck, Sem.run_pure]
          have hsv : SV.rel ρ (.tup []) (.tuple #[]) := ⟨[], rfl, trivial⟩
          intro Q
          unfold Oper.wp
          rw [hexec _ _ (by rw [hm', hkv]; exact hrun), Oper.upon_value]
          exact ⟨ρ, _, _, S, ⟨rels_put hg.tmps hsv, defers_put hg.defers, hg.st⟩, ⟨Store.le_refl S, fun _ _ _ h => h, fun _ y _ h ha => ⟨y, h, ha, fun _ _ => Iff.rfl⟩, fun _ _ _ _ _ _ _ _ _ => rfl⟩, h⟩
        · exact h.elim
      · exact h.elim
    · exact h.elim
  · exact h.elim

theorem ok_clear (hA : Agrees P tt) (hg : Gam w0 B ρ t r S a w) {o : Oper} {args : Array Operand} {tys : Array TypeId} (ho : o.op = .call { callee := .builtin .clear, args, argTypes := tys }) (W : Nat → Prop) (hW : ∀ i, ok i = true → W i) (h : mapClrK tt ok o.dst args.toList tys.toList K t r S) : OpOk P w0 B W ρ r S a w o K := by
  unfold mapClrK at h
  split at h
  · rename_i m ty rest hargs htys
    have hm := ev_rel hg.tmps m
    split at h
    · rename_i ti hti
      have hkind := (hA _ _ hti).kind
      split at h
      · rename_i kt et hk
        rw [hk] at hkind
        simp only [Kind.fits] at hkind
        have htys0 : tys[0]? = some ty := by rw [← Array.getElem?_toList, htys]; rfl
        have hexec : ∀ (b : Nat) (ents : Array MapEntry) (clock : Nat), a.eval m = .map (some b) → w.heap[b]? = some (.map ents clock) → (execOp a.eval o).run P w = .ok (.value (.tuple #[])) { w with heap := w.heap.setIfInBounds b (.map #[] clock) } := by
          intro b ents clock hv hb
          have h2 : args.map a.eval = #[.map (some b)] := by apply Array.ext'; simp [hargs, hv]
          have h3 : (Builtin.clear_ tys o.type #[.map (some b)]).run P w = .ok (.tuple #[]) { w with heap := w.heap.setIfInBounds b (.map #[] clock) } := by
            simp only [Builtin.clear_, htys0, List.getElem?_toArray, List.getElem?_cons_zero, Sem.run_bind, run_underlying hkind, Result.andThen, getObj, Sem.run, hb, setObj, Sem.run_pure]
          simp only [execOp, ho, resolve, Sem.run_bind, Sem.run_pure, Result.andThen, invoke, builtin, h2, h3]
        have mapIs_nil : ∀ (ks es : Shape) (clock : Nat), mapIs ks es #[] clock [] := fun ks es clock => ⟨rfl, by simp, by simp, by simp⟩
        split at h
        · rename_i i hev
          rw [hev] at hm
          obtain ⟨hm, -⟩ := hm
          split at h
          · rename_i ks es l hr
            have hr' := nthR_some hr (by simp)
            split at h
            · rename_i hoki
              simp only [put_eq, setR_eq] at h
              obtain ⟨g, hg', b, ents, clock, rfl, hb, hmap⟩ := hg.st.res i _ hr'
              rw [hm] at hg'
              simp only [Option.some.injEq] at hg'
              have hbl := (Array.getElem?_eq_some_iff.1 hb).1
              refine ok_writeG (w' := { w with heap := w.heap.setIfInBounds b (.map #[] clock) }) (y := .map ks es []) hg hr' rfl (by rw [hm, hg']) rfl (hexec b ents clock hg' hb) (fun c hc => Array.getElem?_setIfInBounds_ne (Ne.symm hc)) (by simp) rfl rfl rfl ?_ (sv := .tup []) ⟨[], rfl, trivial⟩ h W (hW i hoki)
              exact ⟨b, #[], clock, rfl, by simp [hbl], mapIs_nil ks es clock⟩
            · exact h.elim
          · exact h.elim
        · rename_i mb hev
          rw [hev] at hm
          obtain ⟨i, ks, es, l, hr, hoki, h⟩ := h
          have hr' := nthR_some hr (by simp)
          simp only [put_eq, setR_eq] at h
          obtain ⟨g, hg', -, rfl, ents, clock, hb, hmap⟩ := hg.st.res i _ hr'
          have hm' : a.eval m = .map (some mb) := hm.1
          have hb : w.heap[mb]? = some (.map ents clock) := hb
          have hbl := (Array.getElem?_eq_some_iff.1 hb).1
          refine ok_writeG (w' := { w with heap := w.heap.setIfInBounds mb (.map #[] clock) }) (y := .ext (MapN ks es mb [])) hg hr' rfl hg' rfl (hexec mb ents clock hm' hb) (fun c hc => Array.getElem?_setIfInBounds_ne (Ne.symm hc)) (by simp) rfl rfl rfl ?_ (sv := .tup []) ⟨[], rfl, trivial⟩ h W (hW i hoki)
          exact ⟨rfl, rfl, #[], clock, by simp [blk, hbl], mapIs_nil ks es clock⟩
        · exact h.elim
      · exact h.elim
    · exact h.elim
  · exact h.elim

/-- What a growing row's source holds. -/
theorem src_sound (hg : Gam w0 B ρ t r S a w) {x : Operand} {sh : Shape} {ys : List sh.T} (h : srcIs r S sh (ev t x) ys) (hok : ∀ y ∈ ys, sh.ok y) :
    (∃ c, a.eval x = .slice none 0 c ∧ ys = []) ∨ ∃ ad c, a.eval x = .slice (some ad) ys.length c ∧ ∀ (j : Nat) u, (sh.encs ys)[j]? = some u → w.cell? (ad.add j) = some u := by
  have hx := ev_rel hg.tmps x
  unfold srcIs at h
  split at h
  · rename_i j o n m hev
    rw [hev] at hx
    obtain ⟨b, h1, h2⟩ := hx
    split at h
    · rename_i cs hr
      have hr' := nthR_some hr (by simp)
      obtain ⟨hcut, rfl, hle⟩ := h
      obtain ⟨g, hg', b', T, xs, rfl, hb, hrel⟩ := hg.st.res j _ hr'
      rw [h1] at hg'
      simp only [Option.some.injEq, Value.pointer.injEq, Addr.mk.injEq] at hg'
      obtain ⟨rfl, -⟩ := hg'
      refine .inr ⟨⟨b, o, none⟩, m, h2, ?_⟩
      have hcr : rels (C.rel ρ) (ys.flatMap sh.cs) ((xs.toList.drop o).take (ys.length * sh.n)) := by
        rw [← hcut]; exact rels_take _ (rels_drop _ hrel)
      have he := rels_encs ys _ hcr
      intro k u hu
      rw [← he, List.getElem?_take, List.getElem?_drop] at hu
      split at hu
      · rw [Addr.add_lit]
        simp only [World.cell?, hb, Option.isSome_none, Bool.false_eq_true, if_false]
        simpa using hu
      · cases hu
    · exact h.elim
  · rename_i p n m hev
    obtain ⟨hx, -⟩ := rel_v hx hev
    obtain ⟨rfl, h⟩ := h
    rcases h with h0 | h
    · have hnil : ys = [] := List.eq_nil_of_length_eq_zero h0
      subst hnil
      cases p with
      | none => exact .inl ⟨m, hx, rfl⟩
      | some ad => exact .inr ⟨ad, m, hx, fun j u hu => by simp [Shape.encs] at hu⟩
    · obtain ⟨b, o, rfl, hrd⟩ := h.now hg.st.sees (fun ⟨b, o, h1, h2⟩ => ⟨b, o, h1, fun j z hz => hg.st.sub.1 b (o + j) z (h2 j z hz)⟩)
      refine .inr ⟨⟨b, o, none⟩, m, hx, fun j u hu => ?_⟩
      rw [Addr.add_lit]
      exact hrd j u hu
  · rename_i j hev
    rw [hev] at hx
    obtain ⟨hx, -⟩ := hx
    split at h
    · rename_i sh' e' xs hr
      have hr' := nthR_some hr (by simp)
      obtain ⟨e, h⟩ := h
      subst e
      simp only at h
      subst h
      obtain ⟨g, hg', how, _⟩ := hg.st.res j _ hr'
      rw [hx] at hg'
      simp only [Option.some.injEq] at hg'
      rcases how.2 with ⟨hv, hn⟩ | ⟨b, cap, cur, hv, _⟩
      · refine .inl ⟨0, by rw [hg', hv], List.eq_nil_of_length_eq_zero hn⟩
      · refine .inr ⟨⟨b, 0, none⟩, cap, by rw [hg', hv], fun k u hu => ?_⟩
        exact how.cells (g := b) (by rw [hv]; rfl) k u hu
    · exact h.elim
  · rename_i j lo n sz hev
    rw [hev] at hx
    obtain ⟨p, len, m, h1, h2, hx⟩ := hx
    split at h
    · rename_i sh' e' xs hr
      have hr' := nthR_some hr (by simp)
      obtain ⟨hsz, e, h⟩ := h
      subst hsz
      subst e
      simp only at h
      obtain ⟨g, hg', how, _⟩ := hg.st.res j _ hr'
      rw [h1] at hg'
      simp only [Option.some.injEq] at hg'
      subst hg'
      rcases how.2 with ⟨hv, hn⟩ | ⟨b, cap, cur, hv, _, hb, hnc, _⟩
      · simp only [Value.slice.injEq] at hv
        obtain ⟨rfl, rfl, rfl⟩ := hv
        have h0 : lo = 0 ∧ n = 0 := by omega
        obtain ⟨rfl, rfl⟩ := h0
        exact .inl ⟨0, by simpa using hx, by rw [← h]; rfl⟩
      · simp only [Value.slice.injEq] at hv
        obtain ⟨rfl, rfl, rfl⟩ := hv
        have hyl : ys.length = n := by rw [← h, List.length_take, List.length_drop]; omega
        by_cases hm : m = lo
        · rw [if_pos hm] at hx
          have h0 : n = 0 := by omega
          have hnil : ys = [] := List.eq_nil_of_length_eq_zero (by omega)
          subst hnil
          exact .inr ⟨⟨b, 0, none⟩, m - lo, by rw [hx, h0]; rfl, fun k u hu => by simp [Shape.encs] at hu⟩
        · rw [if_neg hm] at hx
          refine .inr ⟨⟨b, 0 + lo * sh'.n, none⟩, m - lo, by rw [hx, hyl]; rfl, fun k u hu => ?_⟩
          rw [Addr.add_lit]
          have hs1 := (encs_split xs lo (by omega)).2
          have hs2 := (encs_split (xs.drop lo) n (by rw [List.length_drop]; omega)).1
          rw [h, hs1] at hs2
          rw [hs2, List.getElem?_take] at hu
          split at hu
          · rw [List.getElem?_drop] at hu
            have := how.cells (g := b) rfl (lo * sh'.n + k) u hu
            rw [Addr.add_lit] at this
            rw [Nat.add_assoc]
            exact this
          · cases hu
    · exact h.elim
  · exact h.elim

theorem encs_one {sh : Shape} {ys : List sh.T} (hok : ∀ y ∈ ys, sh.ok y) : ∀ u ∈ sh.encs ys, u.oneCell' = true := by
  intro u hu
  obtain ⟨y, hy, hu⟩ := List.mem_flatMap.1 hu
  exact rels_one (ρ := []) (cs_rel sh y (hok y hy)) u hu

/-- The run of an append onto an own row. -/
theorem run_append_row (hA : Agrees P tt) (hg : Gam w0 B ρ t r S a w) {ty e : Nat} (hty : P.underlying ty = some (.slice e)) {ei : TI} (hei : tt e = some ei) (hbz : 0 < ei.bytes) (hsz : 0 < ei.sz) {sh : Shape} (hn : sh.n = ei.sz) {base : Nat} (hbase : base ≤ w.heap.size)
    {v : Value} {xs : List sh.T} (hown : w.ownsRow base e sh.n v xs.length (sh.encs xs)) {x : Operand} {ys : List sh.T} (hsrc : srcIs r S sh (ev t x) ys) (hok : ∀ y ∈ ys, sh.ok y) (hbytes : (xs.length + ys.length) * ei.bytes ≤ 140737488355328) (rty : Nat) :
    ∃ v' w', (Builtin.append_ #[ty, ty] rty #[v, a.eval x]).run P w = .ok v' w' ∧ w'.ownsRow base e sh.n v' (xs ++ ys).length (sh.encs (xs ++ ys)) ∧ w.grownBy w' v.ownBlock ∧ ∀ b, blk v' = some b → blk v = some b ∨ w.heap.size ≤ b := by
  obtain ⟨i, hi, hisz, hib, vs, hv1, hv2, hv3, hv4⟩ := (hA _ _ hei).info
  have hzs : (mkVal ei.sh.agg vs).cells.size = sh.n := by
    rw [hn, ← hv2]
    cases hagg : ei.sh.agg with
    | true => rfl
    | false =>
      have h1 := (hA _ _ hei).one hagg
      match vs, hv2 with
      | [x], _ => rw [show mkVal false [x] = x from rfl, cells_one (hv3 x (by simp))]; rfl
      | [], h => simp [h1] at h
      | _ :: _ :: _, h => simp [h1] at h
  have hle : xs.length + ys.length ≤ maxLen := by
    have : xs.length + ys.length ≤ (xs.length + ys.length) * ei.bytes := Nat.le_mul_of_pos_right _ hbz
    unfold maxLen; omega
  rcases src_sound hg hsrc hok with ⟨c, hx, rfl⟩ | ⟨ad, c, hx, hcells⟩
  · have hfit : ∀ n cap : Nat, n + 0 ≤ cap → n ≤ cap := fun _ _ h => h
    rcases hown.2 with ⟨hv, hlen⟩ | ⟨g, cap, cur, hv, _, _, hnc, _⟩
    · refine ⟨v, w, ?_, by simpa using hown, ⟨rfl, rfl, rfl, Nat.le_refl _, fun _ _ _ => rfl⟩, fun b hb => .inl hb⟩
      rw [hx, hv]
      simp [Builtin.append_, run_underlying hty, sizeOf, typeInfo, hi, Builtin.lenOf, Builtin.firstCells]
    · refine ⟨v, w, ?_, by simpa using hown, ⟨rfl, rfl, rfl, Nat.le_refl _, fun _ _ _ => rfl⟩, fun b hb => .inl hb⟩
      rw [hx, hv]
      simp [Builtin.append_, run_underlying hty, sizeOf, typeInfo, hi, Builtin.lenOf, Builtin.firstCells, hnc, storeCells]
  · obtain ⟨v', w', h1, h2, h3, _⟩ := run_append_own (P := P) w base ty rty e i (mkVal ei.sh.agg vs) sh.n ei.bytes hty hi hv4 (by rw [hisz, hn]) hib hzs (by omega) v xs.length (sh.encs xs) hown ad ys.length c (sh.encs ys) (encs_length ys) hcells (encs_one hok) hle hbytes hbase
    refine ⟨v', w', by rw [hx]; exact h1, by rw [List.length_append, encs_append]; exact h2, h3, ?_⟩
    intro b hb
    have hsmall : xs.length + ys.length ≤ 9223372036854775807 := by simp only [maxLen] at hle; omega
    rcases hown.2 with ⟨rfl, hlen⟩ | ⟨g, cap, cur, rfl, hbg, hgc, hnc, hcm, hcs, htake⟩
    · obtain ⟨v2, w2, g1, g2, _, _⟩ := run_append_own (P := P) w w.heap.size ty rty e i (mkVal ei.sh.agg vs) sh.n ei.bytes hty hi hv4 (by rw [hisz, hn]) hib hzs (by omega) _ xs.length (sh.encs xs) ⟨hown.1, .inl ⟨rfl, hlen⟩⟩ ad ys.length c (sh.encs ys) (encs_length ys) hcells (encs_one hok) hle hbytes (Nat.le_refl _)
      rw [h1] at g1
      simp only [Result.ok.injEq] at g1
      rw [← g1.1] at g2
      rcases g2.2 with ⟨hv', _⟩ | ⟨g', cap', cur', hv', hbg', _⟩
      · rw [hv'] at hb; cases hb
      · rw [hv'] at hb; simp only [blk, Option.some.injEq] at hb; subst hb; exact .inr hbg'
    · by_cases hroom : xs.length + ys.length ≤ cap
      · obtain ⟨w2, g1, _, _⟩ := run_append_fits (P := P) w base ty rty e i sh.n hty hi (by rw [hisz, hn]) g xs.length cap (sh.encs xs) hown ad ys.length c (sh.encs ys) (encs_length ys) hcells (encs_one hok) hroom
        rw [h1] at g1
        simp only [Result.ok.injEq] at g1
        rw [g1.1] at hb
        exact .inl hb
      · have holds : ∀ j u, (sh.encs xs)[j]? = some u → w.cell? ((⟨g, 0, none⟩ : Addr).add j) = some u := hown.cells (g := g) rfl
        have hl1 : (sh.encs xs).length = xs.length * i.size := by rw [encs_length, hisz, hn]
        have hl2 : (sh.encs ys).length = ys.length * i.size := by rw [encs_length, hisz, hn]
        have g1 := run_append_grow (P := P) w ty rty e i (mkVal ei.sh.agg vs) hty hi hv4 ⟨g, 0, none⟩ xs.length cap (sh.encs xs) hl1 holds ad ys.length c (sh.encs ys) hl2 hcells (by omega) (by omega) (growslice_fits (by omega) (by rw [hib]; exact hbytes))
        rw [h1] at g1
        simp only [Result.ok.injEq] at g1
        rw [g1.1] at hb
        simp only [blk, Option.some.injEq] at hb
        exact .inr (Nat.le_of_eq hb)

/-- Onto a slice without room: a new row. -/
theorem run_append_plain (hA : Agrees P tt) (hg : Gam w0 B ρ t r S a w) {ty e : Nat} (hty : P.underlying ty = some (.slice e)) {ei : TI} (hei : tt e = some ei) (hbz : 0 < ei.bytes) {sh : Shape} (hn : sh.n = ei.sz)
    {ad : Addr} {n c : Nat} {xs : List sh.T} (hxl : xs.length = n) (hnc : n ≤ c) (holds : ∀ j u, (sh.encs xs)[j]? = some u → w.cell? (ad.add j) = some u) {x : Operand} {ys : List sh.T} (hc : c < n + ys.length) (hsrc : srcIs r S sh (ev t x) ys) (hok : ∀ y ∈ ys, sh.ok y) (hbytes : (n + ys.length) * ei.bytes ≤ 140737488355328) (rty : Nat) :
    ∃ v' w', (Builtin.append_ #[ty, ty] rty #[.slice (some ad) n c, a.eval x]).run P w = .ok v' w' ∧ w'.ownsRow w.heap.size e sh.n v' (xs ++ ys).length (sh.encs (xs ++ ys)) ∧ w.grownBy w' none := by
  obtain ⟨i, hi, hisz, hib, vs, hv1, hv2, hv3, hv4⟩ := (hA _ _ hei).info
  have hzs : (mkVal ei.sh.agg vs).cells.size = sh.n := by
    rw [hn, ← hv2]
    cases hagg : ei.sh.agg with
    | true => rfl
    | false =>
      have h1 := (hA _ _ hei).one hagg
      match vs, hv2 with
      | [x], _ => rw [show mkVal false [x] = x from rfl, cells_one (hv3 x (by simp))]; rfl
      | [], h => simp [h1] at h
      | _ :: _ :: _, h => simp [h1] at h
  have hle : n + ys.length ≤ maxLen := by
    have : n + ys.length ≤ (n + ys.length) * ei.bytes := Nat.le_mul_of_pos_right _ hbz
    unfold maxLen; omega
  have hsmall : n + ys.length ≤ 9223372036854775807 := by simp only [maxLen] at hle; omega
  rcases src_sound hg hsrc hok with ⟨c', hx, rfl⟩ | ⟨ad', c', hx, hcells⟩
  · simp at hc; omega
  · have hl1 : (sh.encs xs).length = n * i.size := by rw [encs_length, hisz, hn, hxl]
    have hl2 : (sh.encs ys).length = ys.length * i.size := by rw [encs_length, hisz, hn]
    have hr := run_append_grow (P := P) w ty rty e i (mkVal ei.sh.agg vs) hty hi hv4 ad n c (sh.encs xs) hl1 holds ad' ys.length c' (sh.encs ys) hl2 hcells hc (by omega) (growslice_fits (by omega) (by rw [hib]; exact hbytes))
    have hge := grownCap_ge w (n + ys.length) c e
    have hcm : grownCap w (n + ys.length) c e ≤ maxLen := grownCap_le_maxLen w (n + ys.length) c e hle
    rw [hx]
    refine ⟨_, _, hr, ?_, ⟨rfl, rfl, rfl, by simp, fun k hk _ => heap_alloc_old w.drew _ hk⟩⟩
    have hlen : (sh.encs xs ++ sh.encs ys).length = (n + ys.length) * sh.n := by rw [List.length_append, encs_length, encs_length, hxl, Nat.add_mul]
    rw [encs_append, List.length_append, hxl]
    refine ⟨hlen, .inr ⟨w.heap.size, _, _, rfl, Nat.le_refl _, heap_alloc_new w.drew _, hge, hcm, ?_, ?_⟩⟩
    · simp only [Array.size_append, List.size_toArray, size_zeroCells, hzs, encs_length, hxl, ← Nat.add_mul]
      congr 1
      omega
    · simp only [Array.toList_append, List.append_assoc]
      rw [← List.append_assoc, ← hlen]
      exact List.take_left

theorem owns_blk {base e sz n : Nat} {v : Value} {xs : List Value} (h : w.ownsRow base e sz v n xs) : (∃ p m c, v = .slice p m c ∧ (∀ b, blk v = some b → b < w.heap.size ∧ base ≤ b)) ∧ v.ownBlock = blk v := by
  rcases h.2 with ⟨rfl, _⟩ | ⟨g, cap, cur, rfl, hbg, hg, _⟩
  · exact ⟨⟨none, 0, 0, rfl, fun b hb => by cases hb⟩, rfl⟩
  · refine ⟨⟨_, _, _, rfl, fun b hb => ?_⟩, rfl⟩
    simp only [blk, Option.some.injEq] at hb
    subst hb
    exact ⟨(Array.getElem?_eq_some_iff.1 hg).1, hbg⟩

theorem owns_base {base base' e sz n : Nat} {v : Value} {xs : List Value} (h : w.ownsRow base e sz v n xs) (hb : base' ≤ base) : w.ownsRow base' e sz v n xs := by
  refine ⟨h.1, ?_⟩
  rcases h.2 with h | ⟨g, cap, cur, h1, h2, h3⟩
  · exact .inl h
  · exact .inr ⟨g, cap, cur, h1, Nat.le_trans hb h2, h3⟩

theorem owns_near {e sz n : Nat} {v : Value} {xs : List Value} (h : w.ownsRow 0 e sz v n xs) (hb : ∀ b, blk v = some b → w'.heap[b]? = w.heap[b]?) : w'.ownsRow 0 e sz v n xs := by
  refine ⟨h.1, ?_⟩
  rcases h.2 with h | ⟨g, cap, cur, rfl, h2, h3, h4⟩
  · exact .inl h
  · exact .inr ⟨g, cap, cur, rfl, h2, by rw [hb g rfl]; exact h3, h4⟩

theorem owns_take {sh : Shape} {e : Nat} {p : Option Addr} {c n : Nat} {xs : List sh.T} (h : w.ownsRow 0 e sh.n (.slice p xs.length c) xs.length (sh.encs xs)) (hn : n ≤ xs.length) :
    w.ownsRow 0 e sh.n (.slice p n c) (xs.take n).length (sh.encs (xs.take n)) := by
  have hl : (xs.take n).length = n := by rw [List.length_take, Nat.min_eq_left hn]
  refine ⟨encs_length _, ?_⟩
  rcases h.2 with ⟨hv, h0⟩ | ⟨g, cap, cur, hv, h2, h3, h4, h5, h6, h7⟩
  · simp only [Value.slice.injEq] at hv
    obtain ⟨rfl, _, rfl⟩ := hv
    have : n = 0 := by omega
    subst this
    exact .inl ⟨rfl, by simp⟩
  · simp only [Value.slice.injEq] at hv
    obtain ⟨rfl, _, rfl⟩ := hv
    refine .inr ⟨g, c, cur, by rw [hl], h2, h3, by omega, h5, h6, ?_⟩
    rw [hl, (encs_split xs n hn).1, ← h7, List.take_take, Nat.min_eq_left (Nat.mul_le_mul_right _ hn)]

theorem owns_form {sh : Shape} {e n : Nat} {v : Value} {xs : List sh.T} (h : w.ownsRow 0 e sh.n v n (sh.encs xs)) : ∃ p c, v = .slice p n c ∧ PForm p n c := by
  rcases h.2 with ⟨rfl, rfl⟩ | ⟨g, cap, cur, rfl, _, _, hle, _⟩
  · exact ⟨none, 0, rfl, .inl ⟨rfl, rfl, rfl⟩⟩
  · exact ⟨_, _, rfl, .inr ⟨g, rfl, hle⟩⟩

/-- A row has grown: what follows. -/
theorem ok_regrow (hg : Gam w0 B ρ t r S a w) {o : Oper} {i : Nat} {sh : Shape} {e' : TypeId} {xs xs' : List sh.T} {p : Option Addr} {m c : Nat} {v' : Value} (hr' : r[i]? = some (.row sh e' xs)) (hρ : ρ[i]? = some (.slice p m c))
    (hexec : (execOp a.eval o).run P w = .ok (.value v') w') (hown : w'.ownsRow 0 e' sh.n v' xs'.length (sh.encs xs')) (hok : ∀ z ∈ xs', sh.ok z) (hgrow : w.grownBy w' (blk (.slice p m c))) (hnb : ∀ b, blk v' = some b → blk (.slice p m c) = some b ∨ w.heap.size ≤ b)
    (W : Nat → Prop) (hW : W i) (h : K (putL (t.map (SV.kill i)) o.dst (.c (.ref i))) ((r.map (Res.kill i)).set i (.row sh e' xs')) S) : OpOk P w0 B W ρ r S a w o K := by
  intro Q
  unfold Oper.wp
  rw [hexec, Oper.upon_value]
  obtain ⟨⟨p', m', c', hv', hbl'⟩, hbo'⟩ := owns_blk hown
  have hil := (List.getElem?_eq_some_iff.1 hr').1
  have hlen := hg.st.len
  refine ⟨ρ.set i v', _, _, S, ⟨rels_put (rels_map _ (SV.rel_kill hρ) hg.tmps) (sv := .c (.ref i)) ⟨by rw [List.getElem?_set_self (by omega)], by rw [hv']; rfl⟩, defers_put hg.defers,
    hg.st.turn (y := .row sh e' xs') hr' rfl hρ (fun b hb hne => hgrow.block b hb (Ne.symm hne)) hgrow.size hgrow.os hgrow.tape hgrow.output (fun b hb => ⟨(hbl' b hb).1, hnb b hb⟩) ⟨hown, hok⟩⟩, ⟨Store.le_refl S, ?_, ?_, ?_⟩, h⟩
  · intro j h hj hjj
    by_cases hji : j = i
    · subst hji; exact absurd hW hj
    · exact get_set_ne hjj hji
  · intro j y hj hjj hya
    by_cases hji : j = i
    · subst hji; exact absurd hW hj
    · exact ⟨y.kill i, get_set_ne (by rw [List.getElem?_map, hjj]; rfl) hji, by rw [kill_alive]; exact hya, fun _ _ => (kill_foot _ _ _ _).symm⟩
  · intro j y h b hj hjj hya hh hb
    by_cases hji : j = i
    · subst hji; exact absurd hW hj
    · refine hgrow.block b (hg.st.own j y h b hjj hya hh hb).1 fun hbb => hji ?_
      exact hg.st.disj j i y _ h _ b hjj hr' hya rfl hh hρ hb hbb.symm

/-- A row of a pool has grown, or a new one is there. -/
theorem ok_pool (hg : Gam w0 B ρ t r S a w) {o : Oper} {j : Nat} {sh : Shape} {e' : TypeId} {l pre post : List (Value × List sh.T)} {v v' : Value} {zs : List sh.T} (hr' : r[j]? = some (.pool sh e' l))
    (hl : (∃ q, l = pre ++ q :: post ∧ blk q.1 = blk v) ∨ (l = pre ++ post ∧ blk v = none))
    (hexec : (execOp a.eval o).run P w = .ok (.value v') w') (hown : w'.ownsRow 0 e' sh.n v' zs.length (sh.encs zs)) (hok : ∀ z ∈ zs, sh.ok z) (hgrow : w.grownBy w' (blk v)) (hnb : ∀ b, blk v' = some b → blk v = some b ∨ w.heap.size ≤ b)
    (W : Nat → Prop) (hW : W j) (h : K (putL t o.dst (.c (.v v'))) (r.set j (.pool sh e' (pre ++ (v', zs) :: post))) S) : OpOk P w0 B W ρ r S a w o K := by
  intro Q
  unfold Oper.wp
  rw [hexec, Oper.upon_value]
  obtain ⟨⟨p', m', c', hv', hbl'⟩, hbo'⟩ := owns_blk hown
  obtain ⟨g, hρ, rfl, hall, hpw⟩ := hg.st.res j _ hr'
  have hmem : ∀ q, q ∈ pre ++ post → q ∈ l := by
    intro q hq
    rcases hl with ⟨q0, rfl, _⟩ | ⟨rfl, _⟩
    · rcases List.mem_append.1 hq with hq | hq
      · exact List.mem_append_left _ hq
      · exact List.mem_append_right _ (List.mem_cons_of_mem _ hq)
    · exact hq
  have hfoot : ∀ b, blk v = some b → Res.foot (.pool sh e' l) .nilFunc b := by
    intro b hb
    rcases hl with ⟨q0, rfl, h1⟩ | ⟨rfl, h1⟩
    · exact ⟨q0, by simp, by rw [h1]; exact hb⟩
    · rw [h1] at hb; cases hb
  have hlt : ∀ q ∈ l, ∀ b, blk q.1 = some b → b < w.heap.size := fun q hq b hb => (hg.st.own j _ _ b hr' rfl hρ ⟨q, hq, hb⟩).1
  have hrest : (pre ++ post).Pairwise (fun p q => ∀ b, blk p.1 = some b → blk q.1 = some b → False) := by
    rcases hl with ⟨q0, rfl, _⟩ | ⟨rfl, _⟩
    · exact hpw.sublist (List.Sublist.append_left (List.sublist_cons_self _ _) _)
    · exact hpw
  have hap : ∀ q ∈ pre ++ post, ∀ b, blk q.1 = some b → blk v ≠ some b := by
    intro q hq b hb hvb
    rcases hl with ⟨q0, rfl, h1⟩ | ⟨rfl, h1⟩
    · rw [List.pairwise_append, List.pairwise_cons] at hpw
      rcases List.mem_append.1 hq with hq | hq
      · exact hpw.2.2 q hq q0 (by simp) b hb (by rw [h1]; exact hvb)
      · exact hpw.2.1.1 q hq b (by rw [h1]; exact hvb) hb
    · rw [h1] at hvb; cases hvb
  have hnew : ∀ q ∈ pre ++ post, ∀ b, blk q.1 = some b → blk v' = some b → False := by
    intro q hq b hb hvb
    rcases hnb b hvb with h1 | h1
    · exact hap q hq b hb h1
    · have := hlt q (hmem q hq) b hb; omega
  have hmem' : ∀ q, q ∈ pre ++ (v', zs) :: post → q = (v', zs) ∨ q ∈ pre ++ post := by
    intro q hq
    rcases List.mem_append.1 hq with hq | hq
    · exact .inr (List.mem_append_left _ hq)
    · rcases List.mem_cons.1 hq with hq | hq
      · exact .inl hq
      · exact .inr (List.mem_append_right _ hq)
  have hone : v'.oneCell' = true := by rw [hv']; rfl
  refine ⟨ρ, _, _, S, ⟨rels_put hg.tmps (sv := .c (.v v')) ⟨rfl, hone⟩, defers_put hg.defers,
    hg.st.turnG (y := .pool sh e' (pre ++ (v', zs) :: post)) hr' rfl hρ (fun c hc hne => hgrow.block c hc fun e => hne (hfoot c e.symm)) hgrow.size hgrow.os hgrow.tape hgrow.output ?_ ⟨rfl, ?_, ?_⟩⟩, ⟨Store.le_refl S, fun _ _ _ h => h, ?_, ?_⟩, h⟩
  · rintro c ⟨q, hq, hc⟩
    rcases hmem' q hq with rfl | hq
    · refine ⟨(hbl' c hc).1, ?_⟩
      rcases hnb c hc with h1 | h1
      · exact .inl (hfoot c h1)
      · exact .inr h1
    · exact ⟨Nat.lt_of_lt_of_le (hlt q (hmem q hq) c hc) hgrow.size, .inl ⟨q, hmem q hq, hc⟩⟩
  · intro q hq
    rcases hmem' q hq with rfl | hq
    · exact ⟨hown, hok⟩
    · exact ⟨owns_near (hall q (hmem q hq)).1 fun b hb => hgrow.block b (hlt q (hmem q hq) b hb) fun e => hap q hq b hb e.symm, (hall q (hmem q hq)).2⟩
  · rw [List.pairwise_append] at hrest ⊢
    refine ⟨hrest.1, ?_, ?_⟩
    · rw [List.pairwise_cons]
      exact ⟨fun q hq b h1 h2 => hnew q (List.mem_append_right _ hq) b h2 h1, hrest.2.1⟩
    · intro q hq q' hq' b h1 h2
      rcases List.mem_cons.1 hq' with rfl | hq'
      · exact hnew q (List.mem_append_left _ hq) b h1 h2
      · exact hrest.2.2 q hq q' hq' b h1 h2
  · intro k y hk hkk hya
    have hkj : k ≠ j := fun e => hk (e ▸ hW)
    exact ⟨y, get_set_ne hkk hkj, hya, fun _ _ => Iff.rfl⟩
  · intro k y h b hk hkk hya hh hb
    have hkj : k ≠ j := fun e => hk (e ▸ hW)
    exact hgrow.block b (hg.st.own k y h b hkk hya hh hb).1 fun e => hkj (hg.st.disj k j y _ h _ b hkk hr' hya rfl hh hρ hb (hfoot b e.symm))

/-- The run of an append of a string onto a row of bytes. -/
theorem run_append_str {ty ty' e : Nat} (hty : P.underlying ty = some (.slice e)) (hty' : P.underlying ty' = some .string) {i : TypeInfo} (hi : P.info? e = some i) (hz : i.zero = some (.int .u8 0)) (hsize : i.size = 1) (hby : i.bytes = 1)
    {v : Value} {xs : List Int} (hown : w.ownsRow 0 e 1 v xs.length (Shape.encs (.int .u8) xs)) (s : ByteArray) (hbytes : xs.length + s.size ≤ 140737488355328) (rty : Nat) :
    ∃ v' w', (Builtin.append_ #[ty, ty'] rty #[v, .string s]).run P w = .ok v' w' ∧ w'.ownsRow 0 e 1 v' (xs ++ strInts s).length (Shape.encs (.int .u8) (xs ++ strInts s)) ∧ w.grownBy w' v.ownBlock ∧ ∀ b, blk v' = some b → blk v = some b ∨ w.heap.size ≤ b := by
  have hle : xs.length + s.size ≤ maxLen := by unfold maxLen; omega
  have hsmall : xs.length + s.size ≤ 9223372036854775807 := by omega
  have hsl : (strInts s).length = s.size := by simp only [strInts, List.length_map, Array.length_toList]; rfl
  have hse : Shape.encs (.int .u8) (strInts s) = Lib.strCells s := by
    show List.flatMap (Shape.int IntKind.u8).enc (List.map (fun b => (b.toNat : Int)) s.data.toList) = _
    rw [enc_u8, List.map_map]; rfl
  obtain ⟨v', w', h1, h2, h3, _⟩ := Lib.run_append_own_string (P := P) w 0 ty ty' rty e i hty hty' hi hz hsize hby v xs.length _ hown s hle hbytes (Nat.zero_le _)
  refine ⟨v', w', h1, by rw [List.length_append, hsl, encs_append, hse]; exact h2, h3, ?_⟩
  intro b hb
  rcases hown.2 with ⟨rfl, hlen⟩ | ⟨g, cap, cur, rfl, hbg, hgc, hnc, hcm, hcs, htake⟩
  · obtain ⟨v2, w2, g1, g2, _, _⟩ := Lib.run_append_own_string (P := P) w w.heap.size ty ty' rty e i hty hty' hi hz hsize hby _ xs.length _ ⟨hown.1, .inl ⟨rfl, hlen⟩⟩ s hle hbytes (Nat.le_refl _)
    rw [h1] at g1
    simp only [Result.ok.injEq] at g1
    rw [← g1.1] at g2
    rcases g2.2 with ⟨hv', _⟩ | ⟨g', cap', cur', hv', hbg', _⟩
    · rw [hv'] at hb; cases hb
    · rw [hv'] at hb; simp only [blk, Option.some.injEq] at hb; subst hb; exact .inr hbg'
  · by_cases hroom : xs.length + s.size ≤ cap
    · have g1 := Lib.run_append_room_string (P := P) w ty ty' rty e i hty hty' hi hsize g xs.length cap cur hgc s hroom (by omega)
      rw [h1] at g1
      simp only [Result.ok.injEq] at g1
      rw [g1.1] at hb
      exact .inl hb
    · have holds : ∀ j u, (Shape.encs (.int .u8) xs)[j]? = some u → w.cell? ((⟨g, 0, none⟩ : Addr).add j) = some u := hown.cells (g := g) rfl
      have g1 := Lib.run_append_grow_string (P := P) w ty ty' rty e i (.int .u8 0) hty hty' hi hz ⟨g, 0, none⟩ xs.length cap _ (by rw [hsize]; exact encs_length (sh := .int .u8) xs) holds s (by omega) (by omega) (growslice_fits (by omega) (by rw [hby]; omega))
      rw [h1] at g1
      simp only [Result.ok.injEq] at g1
      rw [g1.1] at hb
      simp only [blk, Option.some.injEq] at hb
      exact .inr (Nat.le_of_eq hb)

theorem isByte_info (hA : Agrees P tt) {e : Nat} {ei : TI} (hei : tt e = some ei) (h : isByte ei = true) : ∃ i : TypeInfo, P.info? e = some i ∧ i.zero = some (.int .u8 0) ∧ i.size = 1 ∧ i.bytes = 1 := by
  obtain ⟨i, hi, hisz, hib, vs, hv1, hv2, hv3, hv4⟩ := (hA _ _ hei).info
  unfold isByte at h
  split at h
  · rename_i hk hz
    rw [hz] at hv1
    simp only [toVals, Option.some.injEq] at hv1
    subst hv1
    have hagg : ei.sh.agg = false := by
      obtain ⟨d, hd, hd2⟩ := (hA _ _ hei).agg
      have hkind := (hA _ _ hei).kind
      rw [hk] at hkind
      have hkind : P.underlying e = some (.int .u8) := hkind
      rw [hkind] at hd
      rw [← hd2, ← Option.some.inj hd]
      rfl
    rw [hagg] at hv4
    exact ⟨i, hi, hv4, by rw [hisz, ← hv2]; rfl, by rw [hib]; exact of_decide_eq_true h⟩
  · cases h

theorem ok_append (hA : Agrees P tt) (hg : Gam w0 B ρ t r S a w) {o : Oper} {args : Array Operand} {argTypes : Array TypeId} (ho : o.op = .call { callee := .builtin .append, args, argTypes }) (W : Nat → Prop)
    (hW : ∀ s x i, args.toList = [s, x] → ev t s = .c (.ref i) → W i) (hokW : ∀ j, ok j = true → W j) (h : vcE P tt ok t r S o.dst (.call { callee := .builtin .append, args, argTypes }) K) : OpOk P w0 B W ρ r S a w o K := by
  simp only [vcE] at h
  split at h
  · rename_i s x ty ty' hargs htys
    have hs := ev_rel hg.tmps s
    split at h
    · rename_i htt
      subst htt
      split at h
      · rename_i ti hti
        have hkind := (hA _ _ hti).kind
        split at h
        · rename_i e hk
          rw [hk] at hkind
          simp only [Kind.fits] at hkind
          split at h
          · rename_i ei hei
            split at h
            · rename_i hpos
              have hexec : ∀ v' w', (Builtin.append_ #[ty, ty] o.type #[a.eval s, a.eval x]).run P w = .ok v' w' → (execOp a.eval o).run P w = .ok (.value v') w' := by
                intro v' w' hr
                have h1 : argTypes = #[ty, ty] := by apply Array.ext'; simpa using htys
                have h2 : args.map a.eval = #[a.eval s, a.eval x] := by apply Array.ext'; simp [hargs]
                simp only [execOp, ho, resolve, Sem.run_bind, Sem.run_pure, Result.andThen, invoke, builtin, h1, h2, hr]
              split at h
              · rename_i u hev
                obtain ⟨hs, -⟩ := rel_v hs hev
                rcases h with ⟨rfl, h⟩ | ⟨j, h⟩ | ⟨ad, n, c, xs, ys, rfl, hxl, hnc, hc, hrd, hsrc, hok, hbytes, h⟩ | ⟨p, n, c, rfl, hnc, hsrc, h⟩
                · obtain ⟨ys, hsrc, hok, hbytes, h⟩ := h
                  simp only [lenK_eq, put_eq, snocK_eq] at h
                  have hn : ei.sh.n = ei.sz := (hA _ _ hei).n
                  obtain ⟨v', w', hrun, hown, hgrow, -⟩ := run_append_row hA hg hkind hei hpos.1 hpos.2 hn (Nat.le_refl _) (v := .slice none 0 0) (xs := []) (by simpa [Shape.encs] using World.ownsRow_nil w w.heap.size e ei.sh.n) hsrc hok (by simpa using hbytes) o.type
                  rw [hs] at hexec
                  intro Q
                  unfold Oper.wp
                  rw [hexec v' w' hrun, Oper.upon_value]
                  obtain ⟨⟨p, m, c, hv, hbl⟩, hbo⟩ := owns_blk hown
                  have hlen := hg.st.len
                  have hold : ∀ b, b < w.heap.size → w'.heap[b]? = w.heap[b]? := fun b hb => hgrow.block b hb (by simp [Value.ownBlock])
                  have hone : v'.oneCell' = true := by rw [hv]; rfl
                  refine ⟨ρ ++ [v'], _, _, S, ⟨rels_put (rels_app_slots hg.tmps) (sv := .c (.ref r.length)) ⟨by rw [← hlen]; simp, hone⟩, defers_put hg.defers, hg.st.addG hold hgrow.size hgrow.os hgrow.tape hgrow.output (.row ei.sh e ys) v' (fun b hb => ⟨(hbl b hb).2, (hbl b hb).1⟩) ⟨by simpa using owns_base hown (Nat.zero_le _), hok⟩⟩,
                    ⟨Store.le_refl S, fun i h _ hi => get_app hi, fun i y _ hi ha => ⟨y, get_app hi, ha, fun _ _ => Iff.rfl⟩, fun i y h b _ hi ha hh hb => hold b (hg.st.own i y h b hi ha hh hb).1⟩, h⟩
                · unfold vcE.poolApp at h
                  split at h
                  · rename_i sh e' l hr
                    have hr' := nthR_some hr (by simp)
                    obtain ⟨⟨hn, rfl, hokj⟩, pre, post, p, n, c, xs, ys, rfl, hnx, hl, hsrc, hok, hbytes, h⟩ := h
                    simp only [put_eq, setR_eq] at h
                    obtain ⟨g, hρ, rfl, hall, hpw⟩ := hg.st.res j _ hr'
                    have hrow : w.ownsRow 0 e' sh.n (.slice p n c) (xs.take n).length (sh.encs (xs.take n)) ∧ (∀ z ∈ xs.take n, sh.ok z) ∧ ((∃ q, l = pre ++ q :: post ∧ blk q.1 = blk (.slice p n c)) ∨ (l = pre ++ post ∧ blk (.slice p n c) = none)) := by
                      rcases hl with rfl | ⟨⟨rfl, rfl, rfl⟩, rfl⟩
                      · have hq := hall (.slice p xs.length c, xs) (by simp)
                        refine ⟨owns_take hq.1 hnx, fun z hz => hq.2 z (List.mem_of_mem_take hz), .inl ⟨_, rfl, ?_⟩⟩
                        cases p <;> rfl
                      · exact ⟨by simpa [Shape.encs] using World.ownsRow_nil w 0 e' sh.n, by simp, .inr ⟨rfl, rfl⟩⟩
                    obtain ⟨how, hxok, hl'⟩ := hrow
                    have htl : (xs.take n).length = n := by rw [List.length_take, Nat.min_eq_left hnx]
                    obtain ⟨v', w', hrun, hown, hgrow, hnb⟩ := run_append_row hA hg hkind hei hpos.1 hpos.2 hn (base := 0) (Nat.zero_le _) how hsrc hok (by rw [htl]; exact hbytes) o.type
                    rw [hs] at hexec
                    have hbo := (owns_blk how).2
                    rw [hbo] at hgrow
                    have hll : (xs.take n ++ ys).length = n + ys.length := by rw [List.length_append, htl]
                    obtain ⟨p', c', hv', hpf⟩ := owns_form hown
                    rw [hll] at hv' hpf
                    have h1 := h p' c' hpf
                    rw [← hv'] at h1
                    refine ok_pool hg hr' hl' (hexec v' w' hrun) hown ?_ hgrow hnb W (hokW j hokj) h1
                    intro z hz
                    rcases List.mem_append.1 hz with hz | hz
                    · exact hxok z hz
                    · exact hok z hz
                  · exact h.elim
                · simp only [lenK_eq, put_eq, snocK_eq] at h
                  have hn : ei.sh.n = ei.sz := (hA _ _ hei).n
                  have holds : ∀ j u, (ei.sh.encs xs)[j]? = some u → w.cell? (ad.add j) = some u := by
                    intro j u hu
                    rcases hrd.1 with rfl | ⟨b, o', hp, hrd2⟩
                    · simp [Shape.encs] at hu
                    · simp only [Option.some.injEq] at hp
                      rw [hp, Addr.add_lit]
                      exact hg.st.sub.1 _ _ _ (hrd2 j u hu)
                  obtain ⟨v', w', hrun, hown, hgrow⟩ := run_append_plain hA hg hkind hei hpos.1 hn hxl hnc holds hc hsrc hok hbytes o.type
                  rw [hs] at hexec
                  intro Q
                  unfold Oper.wp
                  rw [hexec v' w' hrun, Oper.upon_value]
                  obtain ⟨⟨p, m, c', hv, hbl⟩, hbo⟩ := owns_blk hown
                  have hlen := hg.st.len
                  have hold : ∀ b, b < w.heap.size → w'.heap[b]? = w.heap[b]? := fun b hb => hgrow.block b hb (by simp)
                  have hone : v'.oneCell' = true := by rw [hv]; rfl
                  refine ⟨ρ ++ [v'], _, _, S, ⟨rels_put (rels_app_slots hg.tmps) (sv := .c (.ref r.length)) ⟨by rw [← hlen]; simp, hone⟩, defers_put hg.defers, hg.st.addG hold hgrow.size hgrow.os hgrow.tape hgrow.output (.row ei.sh e (xs ++ ys)) v' (fun b hb => ⟨(hbl b hb).2, (hbl b hb).1⟩) ⟨owns_base hown (Nat.zero_le _), fun z hz => ?_⟩⟩,
                    ⟨Store.le_refl S, fun i h _ hi => get_app hi, fun i y _ hi ha => ⟨y, get_app hi, ha, fun _ _ => Iff.rfl⟩, fun i y h b _ hi ha hh hb => hold b (hg.st.own i y h b hi ha hh hb).1⟩, h⟩
                  rcases List.mem_append.1 hz with hz | hz
                  · exact hrd.2 z hz
                  · exact hok z hz
                · simp only [put_eq] at h
                  rcases src_sound hg hsrc (fun _ h => by cases h) with ⟨c', hx, -⟩ | ⟨ad', c', hx, -⟩
                  all_goals
                    have hrun : (Builtin.append_ #[ty, ty] o.type #[.slice p n c, a.eval x]).run P w = .ok (.slice p n c) w := by
                      obtain ⟨i, hi, hisz, hib, vs, hv1, hv2, hv3, hv4⟩ := (hA _ _ hei).info
                      rw [hx]
                      cases p <;> simp [Builtin.append_, run_underlying hkind, sizeOf, typeInfo, hi, Builtin.lenOf, Builtin.firstCells, hnc, storeCells, loadCells, loadCellsFrom]
                    rw [hs] at hexec
                    intro Q
                    unfold Oper.wp
                    rw [hexec _ _ hrun, Oper.upon_value]
                    exact ⟨ρ, _, _, S, ⟨rels_put hg.tmps (sv := .c (.v (.slice p n c))) ⟨rfl, rfl⟩, defers_put hg.defers, hg.st⟩, ⟨Store.le_refl S, fun _ _ _ h => h, fun _ y _ h ha => ⟨y, h, ha, fun _ _ => Iff.rfl⟩, fun _ _ _ _ _ _ _ _ _ => rfl⟩, h⟩
              · rename_i i hev
                rw [hev] at hs
                obtain ⟨hs, -⟩ := hs
                split at h
                · rename_i sh e' xs hr
                  have hr' := nthR_some hr (by simp)
                  split at h
                  · rename_i hcond
                    obtain ⟨hn, rfl⟩ := hcond
                    obtain ⟨ys, hsrc, hok, hbytes, h⟩ := h
                    simp only [killT_eq, put_eq, killR_eq, setR_eq] at h
                    obtain ⟨g, hg', how, hxok⟩ := hg.st.res i _ hr'
                    rw [hs] at hg'
                    simp only [Option.some.injEq] at hg'
                    obtain ⟨v', w', hrun, hown, hgrow, hnb⟩ := run_append_row hA hg hkind hei hpos.1 hpos.2 hn (base := 0) (Nat.zero_le _) how hsrc hok hbytes o.type
                    rw [hg'] at hexec
                    obtain ⟨⟨p, m, c, hv, hbl⟩, hbo⟩ := owns_blk how
                    have hρ : ρ[i]? = some (.slice p m c) := by rw [hs, hg', hv]
                    rw [hbo, hv] at hgrow
                    rw [hv] at hnb
                    refine ok_regrow hg hr' hρ (hexec v' w' hrun) hown ?_ hgrow hnb W (hW s x i hargs hev) h
                    intro z hz
                    rcases List.mem_append.1 hz with hz | hz
                    · exact hxok z hz
                    · exact hok z hz
                  · exact h.elim
                · exact h.elim
              · rename_i i lo n sz hev
                rw [hev] at hs
                obtain ⟨p, len, m, hρ, hle, hs⟩ := hs
                split at h
                · rename_i sh e' xs hr
                  have hr' := nthR_some hr (by simp)
                  split at h
                  · rename_i hcond
                    obtain ⟨⟨hn, rfl, hsz⟩, hoki⟩ := hcond
                    obtain ⟨ys, hsrc, hok, hnx, hbytes, h⟩ := h
                    simp only [killT_eq, put_eq, killR_eq, setR_eq] at h
                    obtain ⟨g, hg', how, hxok⟩ := hg.st.res i _ hr'
                    rw [hρ] at hg'
                    simp only [Option.some.injEq] at hg'
                    subst hg'
                    have hlen : len = xs.length := by
                      rcases how.2 with ⟨hv, hn0⟩ | ⟨g, cap, cur, hv, _⟩ <;> simp only [Value.slice.injEq] at hv
                      · omega
                      · exact hv.2.1
                    subst hlen
                    have hs' : a.eval s = .slice p n m := by
                      rw [hs]
                      congr 1
                      split
                      · rfl
                      · cases p with
                        | none => rfl
                        | some q =>
                          rcases how.2 with ⟨hv, _⟩ | ⟨g, cap, cur, hv, _⟩ <;> simp only [Value.slice.injEq, Option.some.injEq, reduceCtorEq, false_and] at hv
                          obtain ⟨rfl, _⟩ := hv
                          simp [addrAdd]
                    have how' := owns_take how hnx
                    have htl : (xs.take n).length = n := by rw [List.length_take, Nat.min_eq_left hnx]
                    obtain ⟨v', w', hrun, hown, hgrow, hnb⟩ := run_append_row hA hg hkind hei hpos.1 hpos.2 hn (base := 0) (Nat.zero_le _) how' hsrc hok (by rw [htl]; exact hbytes) o.type
                    rw [hs'] at hexec
                    have hbo := (owns_blk how').2
                    have hbb : blk (.slice p n m) = blk (.slice p xs.length m) := by cases p <;> rfl
                    rw [hbo, hbb] at hgrow
                    rw [hbb] at hnb
                    refine ok_regrow hg hr' hρ (hexec v' w' hrun) hown ?_ hgrow hnb W (hokW i hoki) h
                    intro z hz
                    rcases List.mem_append.1 hz with hz | hz
                    · exact hxok z (List.mem_of_mem_take hz)
                    · exact hok z hz
                  · exact h.elim
                · exact h.elim
              · exact h.elim
            · exact h.elim
          · exact h.elim
        · exact h.elim
      · exact h.elim
    · split at h
      · rename_i ti xi hti hxi
        have hkind := (hA _ _ hti).kind
        have hkind2 := (hA _ _ hxi).kind
        split at h
        · rename_i e hk hk2
          rw [hk] at hkind
          rw [hk2] at hkind2
          simp only [Kind.fits] at hkind hkind2
          split at h
          · rename_i ei hei
            split at h
            · rename_i u z hby hev hevx
              obtain ⟨j, h⟩ := h
              obtain ⟨hs, -⟩ := rel_v hs hev
              obtain ⟨hx, -⟩ := rel_v (ev_rel hg.tmps x) hevx
              unfold poolStr at h
              split at h
              · rename_i e' l hr
                have hr' := nthR_some hr (by simp)
                obtain ⟨⟨rfl, hokj⟩, pre, post, p, c, xs, rfl, hl, hbytes, h⟩ := h
                simp only [put_eq, setR_eq] at h
                obtain ⟨i, hi, hz, hsize, hby1⟩ := isByte_info hA hei hby
                obtain ⟨g, hρ, rfl, hall, hpw⟩ := hg.st.res j _ hr'
                have hrow : w.ownsRow 0 e' 1 (.slice p xs.length c) xs.length (Shape.encs (.int .u8) xs) ∧ ((∃ q, l = pre ++ q :: post ∧ blk q.1 = blk (.slice p xs.length c)) ∨ (l = pre ++ post ∧ blk (.slice p xs.length c) = none)) := by
                  rcases hl with rfl | ⟨⟨rfl, rfl, rfl⟩, rfl⟩
                  · have hq := hall (.slice p xs.length c, xs) (by simp)
                    exact ⟨hq.1, .inl ⟨_, rfl, rfl⟩⟩
                  · exact ⟨by simpa [Shape.encs] using World.ownsRow_nil w 0 e' 1, .inr ⟨rfl, rfl⟩⟩
                obtain ⟨how, hl'⟩ := hrow
                obtain ⟨v', w', hrun, hown, hgrow, hnb⟩ := run_append_str hkind hkind2 hi hz hsize hby1 how z hbytes o.type
                have hexec : (execOp a.eval o).run P w = .ok (.value v') w' := by
                  have h1 : argTypes = #[ty, ty'] := by apply Array.ext'; simpa using htys
                  have h2 : args.map a.eval = #[a.eval s, a.eval x] := by apply Array.ext'; simp [hargs]
                  simp only [execOp, ho, resolve, Sem.run_bind, Sem.run_pure, Result.andThen, invoke, builtin, h1, h2, hs, hx, hrun]
                have hbo := (owns_blk how).2
                rw [hbo] at hgrow
                have hsl : (strInts z).length = z.size := by simp only [strInts, List.length_map, Array.length_toList]; rfl
                have hll : (xs ++ strInts z).length = xs.length + z.size := by rw [List.length_append, hsl]
                obtain ⟨p', c', hv', hpf⟩ := owns_form (sh := .int .u8) hown
                rw [hll] at hv' hpf
                have h1 := h p' c' hpf
                rw [← hv'] at h1
                exact ok_pool hg hr' hl' hexec hown (fun _ _ => trivial) hgrow hnb W (hokW j hokj) h1
              · exact h.elim
            · exact h.elim
          · exact h.elim
        · exact h.elim
      · exact h.elim
  · exact h.elim

theorem ok_pure (hg : Gam w0 B ρ t r S a w) {o : Oper} {f : FuncId} {vs : List Value} (W : Nat → Prop) (hrun : (execOp a.eval o).run P w = .ok (.enter f vs.toArray) w)
    (h : vcCall P t r S o.dst f vs K) : OpOk P w0 B W ρ r S a w o K := by
  obtain ⟨A, out, Post', hp, h⟩ := h
  intro Q
  unfold Oper.wp
  rw [hrun, Oper.upon_enter]
  refine (hp w hg.st.sub).mono ?_
  rintro e w' ⟨v, x, S', rfl, hrel, hS, hS', hold, hb, hpost⟩
  have h1 := h S' x hS hpost
  rw [put_eq] at h1
  have hr := SV.rel_app (ρ := []) (l := ρ) _ _ hrel
  simp only [List.nil_append] at hr
  exact ⟨ρ, _, _, S', ⟨rels_put hg.tmps hr, defers_put hg.defers, hg.st.call hold hS' hb⟩, ⟨hS, fun _ _ _ h => h, fun _ y _ h ha => ⟨y, h, ha, fun _ _ => Iff.rfl⟩, fun i y h b _ hi ha hh hb => hold.block b (hg.st.own i y h b hi ha hh hb).1⟩, h1⟩

end Go.Vc
