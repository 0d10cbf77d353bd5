/- Verification conditions, tenth part: calls, a region in order, a region that draws its order, code. -/
import Derived.Test.YtapblcfbmaikjaaGreatDoorVcI
import Derived.Lib.ConvBytes
import Derived.Laws.CopyRow
namespace Go.Vc
open Go

variable {P : Program} {tt : Nat → Option TI} {ok : Nat → Bool} {w0 w w' : World} {B : Base} {ρ : List Value} {r : List Res} {S S' : Store} {t : List SV} {a : Act} {K : SK}

/-! ### Calls that are handed boxes and maps -/

theorem posOf_get {i : Nat} : ∀ {idx : List Nat} {n p : Nat}, posOf i idx n = some p → n ≤ p ∧ idx[p - n]? = some i
  | [], _, _, h => by simp [posOf] at h
  | j :: js, n, p, h => by
    simp only [posOf] at h
    split at h
    · rename_i hj
      simp only [Option.some.injEq] at h
      subst h; subst hj
      simp
    · obtain ⟨h1, h2⟩ := posOf_get h
      refine ⟨by omega, ?_⟩
      rw [show p - n = (p - (n + 1)) + 1 by omega]
      simpa using h2

/-- The handles that are handed on. -/
def subH (idx : List Nat) (ρ : List Value) : List Value := idx.map fun i => ρ.getD i undef

theorem subH_get {idx : List Nat} {p i : Nat} {h : Value} (hp : idx[p]? = some i) (hi : ρ[i]? = some h) : (subH idx ρ)[p]? = some h := by
  simp [subH, hp, List.getD, hi]

theorem renCaps_rel {idx : List Nat} : ∀ {cs ds : List (Nat ⊕ Value)} {ys : List Value}, renCaps idx cs = some ds → (∀ (j : Nat) c z, cs[j]? = some c → ys[j]? = some z → capRel ρ c z) →
    ds.length = cs.length ∧ ∀ (j : Nat) d z, ds[j]? = some d → ys[j]? = some z → capRel (subH idx ρ) d z
  | [], ds, ys, h, _ => by simp [renCaps] at h; subst h; exact ⟨rfl, fun j d z hd => by simp at hd⟩
  | c :: cs, ds, ys, h, hc => by
    have step : ∀ (d : Nat ⊕ Value) (ds' : List (Nat ⊕ Value)), renCaps idx cs = some ds' → ds = d :: ds' → (∀ z, ys[0]? = some z → capRel (subH idx ρ) d z) →
        ds.length = (c :: cs).length ∧ ∀ (j : Nat) d z, ds[j]? = some d → ys[j]? = some z → capRel (subH idx ρ) d z := by
      intro d ds' hds he h0
      subst he
      cases ys with
      | nil =>
        have := (renCaps_rel (ys := []) hds (fun j c z _ hz => by simp at hz)).1
        exact ⟨by simp [this], fun j d z _ hz => by simp at hz⟩
      | cons y ys =>
        obtain ⟨h1, h2⟩ := renCaps_rel (ys := ys) hds (fun j c z hj hz => hc (j + 1) c z (by simpa using hj) (by simpa using hz))
        refine ⟨by simp [h1], fun j d z hd hz => ?_⟩
        cases j with
        | zero => simp at hd hz; subst hd; exact h0 z (by simpa using hz)
        | succ j => exact h2 j d z (by simpa using hd) (by simpa using hz)
    cases c with
    | inl i =>
      simp only [renCaps] at h
      split at h
      · rename_i p ds' hp hds
        simp only [Option.some.injEq] at h
        refine step _ ds' hds h.symm fun z hz => ?_
        obtain ⟨b, g1, g2⟩ := hc 0 (.inl i) z rfl hz
        exact ⟨b, subH_get (by simpa using (posOf_get hp).2) g1, g2⟩
      · cases h
    | inr v =>
      simp only [renCaps] at h
      split at h
      · rename_i ds' hds
        simp only [Option.some.injEq] at h
        exact step _ ds' hds h.symm fun z hz => hc 0 (.inr v) z rfl hz
      · cases h

theorem C.rel_ren {idx : List Nat} : ∀ (x : C) (y : Value), x.rel ρ y → (x.ren idx).rel (subH idx ρ) y := by
  intro x y h
  have hone := C.rel_one h
  cases x with
  | junk => exact h
  | v x => exact h
  | ref i =>
    simp only [C.ren]
    cases hp : posOf i idx 0 with
    | none => exact hone
    | some p => exact ⟨subH_get (by simpa using (posOf_get hp).2) h.1, h.2⟩
  | ptr i o =>
    obtain ⟨b, h1, h2⟩ := h
    simp only [C.ren]
    cases hp : posOf i idx 0 with
    | none => exact hone
    | some p => exact ⟨b, subH_get (by simpa using (posOf_get hp).2) h1, h2⟩
  | sl i o n m =>
    obtain ⟨b, h1, h2⟩ := h
    simp only [C.ren]
    cases hp : posOf i idx 0 with
    | none => exact hone
    | some p => exact ⟨b, subH_get (by simpa using (posOf_get hp).2) h1, h2⟩
  | elt i k sz o => exact hone
  | seg i k n sz => exact hone
  | clo f cs =>
    simp only [C.ren]
    cases hr : renCaps idx cs with
    | none => exact hone
    | some ds =>
      obtain ⟨ys, hy, hl, hc⟩ := h
      obtain ⟨h1, h2⟩ := renCaps_rel hr hc
      exact ⟨ys, hy, by rw [hl, h1], h2⟩

theorem SV.rel_ren {idx : List Nat} (x : SV) (y : Value) (h : x.rel ρ y) : (x.ren idx).rel (subH idx ρ) y := by
  cases x with
  | c x =>
    by_cases hj : x = .junk
    · subst hj; trivial
    · exact sv_of_c (C.rel_ren x y (rel_c hj h))
  | agg xs => obtain ⟨ys, g1, g2⟩ := h; exact ⟨ys, g1, rels_map _ C.rel_ren g2⟩
  | tup xs => trivial

theorem ren_alive {idx : List Nat} (x : Res) : (x.ren idx).alive = x.alive := by cases x <;> rfl
theorem ren_foot (idx : List Nat) (x : Res) (h : Value) (b : Nat) : (x.ren idx).foot h b ↔ x.foot h b := by cases x <;> exact Iff.rfl
theorem back_alive {idx : List Nat} (x : Res) : (x.back idx).alive = x.alive := by cases x <;> rfl

theorem Res.holds_ren {idx : List Nat} {x : Res} {h : Value} (hx : x.holds ρ h w) : (x.ren idx).holds (subH idx ρ) h w := by
  cases x with
  | gone => trivial
  | box cs => obtain ⟨b, T, xs, g1, g2, g3⟩ := hx; exact ⟨b, T, xs, g1, g2, rels_map _ C.rel_ren g3⟩
  | row sh e xs => exact hx
  | map k e es => exact hx
  | iter k e m ents clock left cur => exact hx
  | ext Q => exact hx
  | pool sh e l => exact hx

/-- Every index that is handed on stands for a live resource. -/
def Valid (idx : List Nat) (ρ : List Value) (r : List Res) : Prop := ∀ (p i : Nat), idx[p]? = some i → ∃ x h, r[i]? = some x ∧ nthR r i = x ∧ x.alive = true ∧ ρ[i]? = some h ∧ (subH idx ρ)[p]? = some h ∧ (insOf idx r)[p]? = some (x.ren idx)

theorem valid_of {idx : List Nat} (hs : Stab w0 B ρ r S w) (h : idxOk ok idx r = true) : Valid idx ρ r := by
  intro p i hp
  simp only [idxOk, Bool.and_eq_true, List.all_eq_true] at h
  have hm := (h.2 i (List.mem_of_getElem? hp)).2
  have hne : nthR r i ≠ .gone := by intro e; rw [e] at hm; cases hm
  have hr := nthR_some rfl hne
  obtain ⟨g, hg, _⟩ := hs.res i _ hr
  exact ⟨_, g, hr, rfl, hm, hg, subH_get hp hg, by simp [insOf, hp]⟩

theorem nodup_pos : ∀ {idx : List Nat}, nodupB idx = true → ∀ (p q i : Nat), idx[p]? = some i → idx[q]? = some i → p = q
  | [], _, p, _, _, h, _ => by simp at h
  | j :: js, hn, p, q, i, hp, hq => by
    simp only [nodupB, Bool.and_eq_true, Bool.not_eq_true'] at hn
    have hnot : ∀ k, js[k]? ≠ some j := fun k hk => by
      have := List.contains_iff_mem.2 (List.mem_of_getElem? hk)
      rw [hn.1] at this; cases this
    cases p with
    | zero =>
      cases q with
      | zero => rfl
      | succ q => simp at hp hq; subst hp; exact absurd hq (hnot q)
    | succ p =>
      cases q with
      | zero => simp at hp hq; subst hq; exact absurd hp (hnot p)
      | succ q => congr 1; exact nodup_pos hn.2 p q i (by simpa using hp) (by simpa using hq)

theorem sub_stab {idx : List Nat} (hs : Stab w0 B ρ r S w) (hnd : nodupB idx = true) (hv : Valid idx ρ r) : Stab w ⟨Owned (insOf idx r) (subH idx ρ), S, subH idx ρ⟩ (subH idx ρ) (insOf idx r) S w := by
  have at_ : ∀ (p : Nat) y, (insOf idx r)[p]? = some y → ∃ i x h, idx[p]? = some i ∧ r[i]? = some x ∧ x.alive = true ∧ ρ[i]? = some h ∧ (subH idx ρ)[p]? = some h ∧ y = x.ren idx := by
    intro p y hy
    cases hp : idx[p]? with
    | none => simp [insOf, hp] at hy
    | some i =>
      obtain ⟨x, h, h1, h2, h3, h4, h5, h6⟩ := hv p i hp
      rw [h6] at hy
      simp only [Option.some.injEq] at hy
      exact ⟨i, x, h, rfl, h1, h3, h4, h5, hy.symm⟩
  refine ⟨by simp [subH, insOf], ?_, ?_, ?_, hs.sub, rfl, rfl, rfl, Nat.le_refl _, fun _ _ _ => rfl, fun _ _ _ => ⟨fun _ _ h => h, fun _ h => h⟩, fun _ _ h _ => h⟩
  · intro p y hy
    obtain ⟨i, x, h, hp, hr, ha, hh, hsub, rfl⟩ := at_ p y hy
    obtain ⟨g, hg, hgh⟩ := hs.res i x hr
    rw [hh] at hg
    simp only [Option.some.injEq] at hg
    subst hg
    exact ⟨h, hsub, Res.holds_ren hgh⟩
  · intro p q y z g h b hy hz hya hza hg hh hb1 hb2
    obtain ⟨i, x, g', hp, hr, ha, hg', hsub, rfl⟩ := at_ p y hy
    obtain ⟨j, u, h', hq, hr2, ha2, hh', hsub2, rfl⟩ := at_ q z hz
    rw [hsub] at hg; rw [hsub2] at hh
    simp only [Option.some.injEq] at hg hh
    subst hg; subst hh
    rw [ren_foot] at hb1 hb2
    have hij := hs.disj i j x u g' h' b hr hr2 ha ha2 hg' hh' hb1 hb2
    subst hij
    exact nodup_pos hnd p q i hp hq
  · intro p y h b hy hya hh hb
    obtain ⟨i, x, g, hp, hr, ha, hg, hsub, rfl⟩ := at_ p y hy
    rw [hsub] at hh
    simp only [Option.some.injEq] at hh
    subst hh
    obtain ⟨h1, h2, h3⟩ := hs.own i x g b hr ha hg ((ren_foot ..).1 hb)
    exact ⟨h1, .inr ⟨p, _, g, hy, hya, hsub, hb⟩, h3⟩

/-- Some places of a list set anew. -/
def putAll {α : Type} : List Nat → List α → List α → List α
  | [], _, l => l
  | i :: is, x :: xs, l => putAll is xs (l.set i x)
  | _ :: _, [], l => l

theorem putAll_length {α : Type} : ∀ (is : List Nat) (xs l : List α), (putAll is xs l).length = l.length
  | [], xs, _ => by cases xs <;> rfl
  | i :: is, x :: xs, l => by simp only [putAll]; rw [putAll_length]; simp
  | _ :: _, [], _ => rfl

theorem putAll_other {α : Type} {j : Nat} : ∀ (is : List Nat) (xs l : List α), (∀ p : Nat, is[p]? ≠ some j) → (putAll is xs l)[j]? = l[j]?
  | [], xs, _, _ => by cases xs <;> rfl
  | i :: is, x :: xs, l, h => by
    simp only [putAll]
    rw [putAll_other is xs _ fun p => by simpa using h (p + 1)]
    have : i ≠ j := fun e => h 0 (by simp [e])
    rw [List.getElem?_set_ne this]
  | _ :: _, [], _, _ => rfl

theorem putAll_at {α : Type} : ∀ (is : List Nat) (xs l : List α), nodupB is = true → is.length = xs.length → (∀ i ∈ is, i < l.length) → ∀ (p i : Nat) x, is[p]? = some i → xs[p]? = some x → (putAll is xs l)[i]? = some x
  | [], _, _, _, _, _, p, i, x, h, _ => by simp at h
  | j :: is, [], _, _, hl, _, _, _, _, _, _ => by simp at hl
  | j :: is, y :: xs, l, hn, hl, hlt, p, i, x, hp, hx => by
    simp only [nodupB, Bool.and_eq_true, Bool.not_eq_true'] at hn
    simp only [putAll]
    cases p with
    | zero =>
      simp at hp hx
      subst hp; subst hx
      rw [putAll_other is xs _ fun p hp => ?_]
      · rw [List.getElem?_set_self (hlt j (by simp))]
      · have := List.contains_iff_mem.2 (List.mem_of_getElem? hp)
        rw [hn.1] at this; cases this
    | succ p =>
      exact putAll_at is xs _ hn.2 (by simpa using hl) (fun i hi => by simp; exact hlt i (by simp [hi])) p i x (by simpa using hp) (by simpa using hx)

theorem putBackK_eq (idx : List Nat) : ∀ (is : List Nat) (xs r : List Res) (k : List Res → Prop), putBackK idx is xs r k = k (putAll is (xs.map (Res.back idx)) r)
  | [], xs, _, _ => by cases xs <;> rfl
  | i :: is, x :: xs, r, k => by simp only [putBackK, forceR_eq, setR_eq, List.map_cons, putAll]; exact putBackK_eq idx is xs _ k
  | _ :: _, [], _, _ => rfl

theorem isIn_iff {i : Nat} : ∀ {l : List Nat}, isIn i l = true ↔ i ∈ l
  | [] => by simp [isIn]
  | j :: js => by
    simp only [isIn, List.mem_cons]
    by_cases h : i = j
    · simp [h]
    · rw [if_neg h, isIn_iff (l := js)]
      simp only [h, false_or]

theorem rowsIn_mem {r : List Res} {i : Nat} : ∀ {idx : List Nat}, i ∈ rowsIn r idx → i ∈ idx ∧ ∃ sh e xs, nthR r i = .row sh e xs
  | [], h => by simp [rowsIn] at h
  | j :: js, h => by
    simp only [rowsIn] at h
    split at h
    · rename_i sh e xs hr
      rcases List.mem_cons.1 h with rfl | h
      · exact ⟨by simp, sh, e, xs, hr⟩
      · exact ⟨List.mem_cons_of_mem _ (rowsIn_mem h).1, (rowsIn_mem h).2⟩
    · exact ⟨List.mem_cons_of_mem _ (rowsIn_mem h).1, (rowsIn_mem h).2⟩

theorem rowsIn_of {r : List Res} {i : Nat} {sh : Shape} {e : TypeId} {xs : List sh.T} (hr : nthR r i = .row sh e xs) : ∀ {idx : List Nat}, i ∈ idx → i ∈ rowsIn r idx
  | [], h => by simp at h
  | j :: js, h => by
    simp only [rowsIn]
    rcases List.mem_cons.1 h with rfl | h
    · rw [hr]; simp
    · have := rowsIn_of hr h
      split
      · exact List.mem_cons_of_mem _ this
      · exact this

theorem kills_alive (l : List Nat) (x : Res) : (x.kills l).alive = x.alive := by cases x <;> rfl
theorem kills_foot (l : List Nat) (x : Res) (h : Value) (b : Nat) : (x.kills l).foot h b ↔ x.foot h b := by cases x <;> exact Iff.rfl
theorem back_foot (idx : List Nat) (x : Res) (h : Value) (b : Nat) : (x.back idx).foot h b ↔ x.foot h b := by cases x <;> exact Iff.rfl

/-- What the kill leaves holds under the new handles. -/
theorem C.rel_kills {l : List Nat} {ρ2 : List Value} (hk : ∀ (i : Nat) h, i ∉ l → ρ[i]? = some h → ρ2[i]? = some h) (hs : ∀ (i : Nat) h, i ∈ l → ρ[i]? = some h → fixedH h = false) : ∀ (x : C) (y : Value), x.rel ρ y → (x.kills l).rel ρ2 y := by
  have hfix : ∀ (i : Nat) h, fixedH h = true → ρ[i]? = some h → ρ2[i]? = some h := by
    intro i h hf hi
    refine hk i h (fun hm => ?_) hi
    rw [hs i h hm hi] at hf; cases hf
  intro x y h
  have hone := C.rel_one h
  cases x with
  | junk => exact h
  | v x => exact h
  | ref i =>
    simp only [C.kills]
    split
    · exact hone
    · rename_i hi; exact ⟨hk i _ (fun hm => hi (isIn_iff.2 hm)) h.1, h.2⟩
  | ptr i o => obtain ⟨b, h1, h2⟩ := h; exact ⟨b, hfix i _ rfl h1, h2⟩
  | sl i o n m => obtain ⟨b, h1, h2⟩ := h; exact ⟨b, hfix i _ rfl h1, h2⟩
  | elt i k sz o =>
    simp only [C.kills]
    split
    · exact hone
    · rename_i hi; obtain ⟨b, n, m, h1, h2⟩ := h; exact ⟨b, n, m, hk i _ (fun hm => hi (isIn_iff.2 hm)) h1, h2⟩
  | seg i k n' sz =>
    simp only [C.kills]
    split
    · exact hone
    · rename_i hi; obtain ⟨b, n, m, h1, h2⟩ := h; exact ⟨b, n, m, hk i _ (fun hm => hi (isIn_iff.2 hm)) h1, h2⟩
  | clo f cs =>
    obtain ⟨ys, h1, h2, h3⟩ := h
    refine ⟨ys, h1, h2, fun j c z hc hz => ?_⟩
    have := h3 j c z hc hz
    cases c with
    | inl i => obtain ⟨b, k1, k2⟩ := this; exact ⟨b, hfix i _ rfl k1, k2⟩
    | inr u => exact this

theorem compRel_kills {l : List Nat} {ρ2 : List Value} (hk : ∀ (i : Nat) h, i ∉ l → ρ[i]? = some h → ρ2[i]? = some h) (hs : ∀ (i : Nat) h, i ∈ l → ρ[i]? = some h → fixedH h = false) : ∀ (p : Bool × List C) (z : Value), compRel ρ p z → compRel ρ2 (p.1, p.2.map (C.kills l)) z
  | (true, cs), z, hz => by obtain ⟨zs, k1, k2⟩ := hz; exact ⟨zs, k1, rels_map _ (C.rel_kills hk hs) k2⟩
  | (false, [x]), z, hz => C.rel_kills hk hs x z hz
  | (false, []), _, hz => hz.elim
  | (false, _ :: _ :: _), _, hz => hz.elim

theorem SV.rel_kills {l : List Nat} {ρ2 : List Value} (hk : ∀ (i : Nat) h, i ∉ l → ρ[i]? = some h → ρ2[i]? = some h) (hs : ∀ (i : Nat) h, i ∈ l → ρ[i]? = some h → fixedH h = false) (x : SV) (y : Value) (h : x.rel ρ y) : (x.kills l).rel ρ2 y := by
  cases x with
  | c x =>
    by_cases hj : x = .junk
    · subst hj; trivial
    · exact sv_of_c (C.rel_kills hk hs x y (rel_c hj h))
  | agg xs => obtain ⟨ys, g1, g2⟩ := h; exact ⟨ys, g1, rels_map _ (C.rel_kills hk hs) g2⟩
  | tup xs =>
    obtain ⟨ys, g1, g2⟩ := h
    exact ⟨ys, g1, rels_map _ (compRel_kills hk hs) g2⟩

theorem Res.holds_kills {l : List Nat} {ρ2 : List Value} (hk : ∀ (i : Nat) h, i ∉ l → ρ[i]? = some h → ρ2[i]? = some h) (hs : ∀ (i : Nat) h, i ∈ l → ρ[i]? = some h → fixedH h = false) {x : Res} {h : Value} (hx : x.holds ρ h w) : (x.kills l).holds ρ2 h w := by
  cases x with
  | gone => trivial
  | box cs => obtain ⟨b, T, xs, g1, g2, g3⟩ := hx; exact ⟨b, T, xs, g1, g2, rels_map _ (C.rel_kills hk hs) g3⟩
  | row sh e xs => exact hx
  | map k e es => exact hx
  | iter k e m ents clock left cur => exact hx
  | ext Q => exact hx
  | pool sh e l => exact hx

theorem killsT_eq (l : List Nat) (t : List SV) : ∀ k : List SV → Prop, killsT l t k = k (t.map (SV.kills l)) := by
  induction t with
  | nil => intro k; rfl
  | cons x xs ih => intro k; simp only [killsT, force_eq, ih, List.map_cons]
theorem killsR_eq (l : List Nat) (r : List Res) : ∀ k : List Res → Prop, killsR l r k = k (r.map (Res.kills l)) := by
  induction r with
  | nil => intro k; rfl
  | cons x xs ih => intro k; simp only [killsR, forceR_eq, ih, List.map_cons]

theorem C.rel_back {idx : List Nat} {ρ' ρ2 : List Value} (hk : ∀ (p : Nat) h, ρ'[p]? = some h → ∃ i, idx[p]? = some i ∧ ρ2[i]? = some h) : ∀ (x : C) (y : Value), x.rel ρ' y → (x.back idx).rel ρ2 y := by
  intro x y h
  have hone := C.rel_one h
  cases x with
  | junk => exact h
  | v x => exact h
  | ref p =>
    obtain ⟨i, hp, hi⟩ := hk p y h.1
    simp only [C.back, hp]
    exact ⟨hi, h.2⟩
  | ptr p o =>
    obtain ⟨b, h1, h2⟩ := h
    obtain ⟨i, hp, hi⟩ := hk p _ h1
    simp only [C.back, hp]
    exact ⟨b, hi, h2⟩
  | sl p o n m =>
    obtain ⟨b, h1, h2⟩ := h
    obtain ⟨i, hp, hi⟩ := hk p _ h1
    simp only [C.back, hp]
    exact ⟨b, hi, h2⟩
  | elt i k sz o => exact hone
  | seg i k n sz => exact hone
  | clo f cs => exact hone

theorem compRel_back {idx : List Nat} {ρ' ρ2 : List Value} (hk : ∀ (p : Nat) h, ρ'[p]? = some h → ∃ i, idx[p]? = some i ∧ ρ2[i]? = some h) : ∀ (x : Bool × List C) (y : Value), compRel ρ' x y → compRel ρ2 (x.1, x.2.map (C.back idx)) y
  | (true, _), _, ⟨ys, g1, g2⟩ => ⟨ys, g1, rels_map _ (C.rel_back hk) g2⟩
  | (false, [x]), y, k => C.rel_back hk x y k
  | (false, []), _, k => k.elim
  | (false, _ :: _ :: _), _, k => k.elim
theorem SV.rel_back {idx : List Nat} {ρ' ρ2 : List Value} (hk : ∀ (p : Nat) h, ρ'[p]? = some h → ∃ i, idx[p]? = some i ∧ ρ2[i]? = some h) (x : SV) (y : Value) (k : x.rel ρ' y) : (x.back idx).rel ρ2 y := by
  cases x with
  | c x =>
    by_cases hj : x = .junk
    · subst hj; trivial
    · exact sv_of_c (C.rel_back hk x y (rel_c hj k))
  | agg xs => obtain ⟨ys, g1, g2⟩ := k; exact ⟨ys, g1, rels_map _ (C.rel_back hk) g2⟩
  | tup xs => obtain ⟨ys, g1, g2⟩ := k; exact ⟨ys, g1, rels_map _ (compRel_back hk) g2⟩
theorem Res.holds_back {idx : List Nat} {ρ' ρ2 : List Value} (hk : ∀ (p : Nat) h, ρ'[p]? = some h → ∃ i, idx[p]? = some i ∧ ρ2[i]? = some h) {x : Res} {h : Value} (hx : x.holds ρ' h w) : (x.back idx).holds ρ2 h w := by
  cases x with
  | gone => trivial
  | box cs => obtain ⟨b, T, xs, g1, g2, g3⟩ := hx; exact ⟨b, T, xs, g1, g2, rels_map _ (C.rel_back hk) g3⟩
  | row sh e xs => exact hx
  | map k e es => exact hx
  | iter k e m ents clock left cur => exact hx
  | ext Q => exact hx
  | pool sh e l => exact hx

/-- Only a row's handle may turn. -/
theorem holds_fixed {x : Res} {h : Value} (hx : x.holds ρ h w) (ha : x.alive = true) (hr : ∀ sh e xs, x ≠ .row sh e xs) : fixedH h = true := by
  cases x with
  | gone => cases ha
  | box cs => obtain ⟨b, T, xs, rfl, _⟩ := hx; rfl
  | row sh e xs => exact absurd rfl (hr sh e xs)
  | map k e es => obtain ⟨b, ents, clock, rfl, _⟩ := hx; rfl
  | iter k e m ents clock left cur => obtain ⟨b, seen, rfl, _⟩ := hx; rfl
  | ext Q => exact hx.1
  | pool sh e l => rw [hx.1]; rfl

theorem holds_turns {sh : Shape} {e : TypeId} {xs : List sh.T} {h : Value} (hx : (Res.row sh e xs).holds ρ h w) : fixedH h = false := by
  obtain ⟨⟨_, h2⟩, _⟩ := hx
  rcases h2 with ⟨rfl, _⟩ | ⟨g, cap, cur, rfl, _⟩ <;> rfl

/-- The handles behind such a call. -/
structure Backs (idx : List Nat) (r : List Res) (ρ ρ' ρ2 : List Value) : Prop where
  len : ρ2.length = ρ.length
  other : ∀ (i : Nat), (∀ p : Nat, idx[p]? ≠ some i) → ρ2[i]? = ρ[i]?
  at_ : ∀ (p i : Nat) h, idx[p]? = some i → ρ'[p]? = some h → ρ2[i]? = some h
  back : ∀ (p : Nat) h, ρ'[p]? = some h → ∃ i, idx[p]? = some i ∧ ρ2[i]? = some h
  fixed : ∀ (i : Nat) h, fixedH h = true → ρ[i]? = some h → ρ2[i]? = some h
  kept : ∀ (i : Nat) h, i ∉ rowsIn r idx → ρ[i]? = some h → ρ2[i]? = some h
  turns : ∀ (i : Nat) h, i ∈ rowsIn r idx → ρ[i]? = some h → fixedH h = false

theorem backs {idx : List Nat} {outs : List Res} {ρ' : List Value} {B' : Base} (hs : Stab w0 B ρ r S w) (hnd : nodupB idx = true) (hv : Valid idx ρ r) (hlen : outs.length = (insOf idx r).length)
    (hB : B'.h = subH idx ρ) (hsub : Stab w B' ρ' outs S' w') : Backs idx r ρ ρ' (putAll idx ρ' ρ) := by
  have hlen' : idx.length = ρ'.length := by rw [hsub.len, hlen]; simp [insOf]
  have hlt : ∀ i ∈ idx, i < ρ.length := by
    intro i hi
    obtain ⟨p, hp⟩ := List.getElem?_of_mem hi
    obtain ⟨x, h, _, _, _, h4, _⟩ := hv p i hp
    exact (List.getElem?_eq_some_iff.1 h4).1
  have hat := putAll_at idx ρ' ρ hnd hlen' hlt
  have hpos : ∀ j, (∃ p : Nat, idx[p]? = some j) ∨ ∀ p : Nat, idx[p]? ≠ some j := by
    intro j
    by_cases h : ∃ p : Nat, idx[p]? = some j
    · exact .inl h
    · exact .inr fun p hp => h ⟨p, hp⟩
  have hfix : ∀ (i : Nat) h, fixedH h = true → ρ[i]? = some h → (putAll idx ρ' ρ)[i]? = some h := by
    intro i h hf hi
    rcases hpos i with ⟨p, hp⟩ | hno
    · exact hat p i h hp (hsub.pre p h (by rw [hB]; exact subH_get hp hi) hf)
    · rw [putAll_other idx ρ' ρ hno]; exact hi
  refine ⟨putAll_length .., fun i hno => putAll_other idx ρ' ρ hno, hat, ?_, hfix, ?_, ?_⟩
  · intro p h hp
    have hpl : p < idx.length := by rw [hlen']; exact (List.getElem?_eq_some_iff.1 hp).1
    exact ⟨idx[p], List.getElem?_eq_getElem hpl, hat p _ h (List.getElem?_eq_getElem hpl) hp⟩
  · intro i h hi hh
    rcases hpos i with ⟨p, hp⟩ | hno
    · obtain ⟨x, g, h1, h2, h3, h4, _⟩ := hv p i hp
      obtain ⟨g', hg', hgh⟩ := hs.res i x h1
      rw [hh] at hg'
      simp only [Option.some.injEq] at hg'
      subst hg'
      refine hfix i h (holds_fixed hgh h3 fun sh e xs e1 => ?_) hh
      subst e1
      exact hi (rowsIn_of h2 (List.mem_of_getElem? hp))
    · rw [putAll_other idx ρ' ρ hno]; exact hh
  · intro i h hi hh
    obtain ⟨hm, sh, e, xs, hr⟩ := rowsIn_mem hi
    obtain ⟨g', hg', hgh⟩ := hs.res i _ (nthR_some hr (by simp))
    rw [hh] at hg'
    simp only [Option.some.injEq] at hg'
    subst hg'
    exact holds_turns hgh

theorem back_stab {idx : List Nat} {l : List Nat} {outs : List Res} {ρ' : List Value} (hs : Stab w0 B ρ r S w) (hnd : nodupB idx = true) (hv : Valid idx ρ r) (hlen : outs.length = (insOf idx r).length)
    (hsub : Stab w ⟨Owned (insOf idx r) (subH idx ρ), S, subH idx ρ⟩ ρ' outs S' w') (hsame : ∀ b, b < w.heap.size → ¬ Owned (insOf idx r) (subH idx ρ) b → (∀ i, S'.c b i = S.c b i) ∧ S'.o b = S.o b)
    (hkept : ∀ (i : Nat) h, i ∉ l → ρ[i]? = some h → (putAll idx ρ' ρ)[i]? = some h) (hturns : ∀ (i : Nat) h, i ∈ l → ρ[i]? = some h → fixedH h = false) :
    Stab w0 B (putAll idx ρ' ρ) (putAll idx (outs.map (Res.back idx)) (r.map (Res.kills (l)))) S' w' := by
  have hbk := backs hs hnd hv hlen rfl hsub
  have hlen' : idx.length = outs.length := by rw [hlen]; simp [insOf]
  have hlt : ∀ i ∈ idx, i < r.length := by
    intro i hi
    obtain ⟨p, hp⟩ := List.getElem?_of_mem hi
    obtain ⟨x, h, h1, _⟩ := hv p i hp
    exact (List.getElem?_eq_some_iff.1 h1).1
  have hat := putAll_at idx (outs.map (Res.back idx)) (r.map (Res.kills (l))) hnd (by simpa using hlen') (by simpa using hlt)
  -- an owned block is the block of one of the caller's
  have howned : ∀ b, Owned (insOf idx r) (subH idx ρ) b → ∃ (p i : Nat) (x : Res) (h : Value), idx[p]? = some i ∧ r[i]? = some x ∧ x.alive = true ∧ ρ[i]? = some h ∧ x.foot h b := by
    rintro b ⟨p, y, h, hy, hya, hh, hb⟩
    cases hp : idx[p]? with
    | none => simp [insOf, hp] at hy
    | some i =>
      obtain ⟨x, g, h1, h2, h3, h4, h5, h6⟩ := hv p i hp
      rw [h5] at hh
      simp only [Option.some.injEq] at hh
      subst hh
      rw [h6] at hy
      simp only [Option.some.injEq] at hy
      subst hy
      rw [ren_foot] at hb
      exact ⟨p, i, x, g, hp, h1, h3, h4, hb⟩
  have hnot : ∀ (j : Nat) z g b, (∀ p : Nat, idx[p]? ≠ some j) → r[j]? = some z → z.alive = true → ρ[j]? = some g → z.foot g b → ¬ Owned (insOf idx r) (subH idx ρ) b := by
    intro j z g b hj hz hza hg hb ho
    obtain ⟨p, i, x, h, hp, hr, ha, hh, hb'⟩ := howned b ho
    have := hs.disj j i z x g h b hz hr hza ha hg hh hb hb'
    exact hj p (by rw [this]; exact hp)
  have hpos : ∀ j, (∃ p : Nat, idx[p]? = some j) ∨ ∀ p : Nat, idx[p]? ≠ some j := by
    intro j
    by_cases h : ∃ p : Nat, idx[p]? = some j
    · exact .inl h
    · exact .inr fun p hp => h ⟨p, hp⟩
  have hcase : ∀ (j : Nat) z, (putAll idx (outs.map (Res.back idx)) (r.map (Res.kills (l))))[j]? = some z → (∃ (p : Nat) (y : Res), idx[p]? = some j ∧ outs[p]? = some y ∧ z = y.back idx) ∨ ((∀ p : Nat, idx[p]? ≠ some j) ∧ ∃ y, r[j]? = some y ∧ z = y.kills (l)) := by
    intro j z hz
    rcases hpos j with ⟨p, hp⟩ | hno
    · have hpl : p < outs.length := by rw [← hlen']; exact (List.getElem?_eq_some_iff.1 hp).1
      have := hat p j (outs[p].back idx) hp (by simp [hpl])
      rw [this] at hz
      simp only [Option.some.injEq] at hz
      exact .inl ⟨p, _, hp, List.getElem?_eq_getElem hpl, hz.symm⟩
    · rw [putAll_other idx _ _ hno, List.getElem?_map] at hz
      cases hr : r[j]? with
      | none => simp [hr] at hz
      | some y => simp [hr] at hz; exact .inr ⟨hno, y, rfl, hz.symm⟩
  -- a block of one that was handed on
  have hin : ∀ (p j : Nat) y g b, idx[p]? = some j → outs[p]? = some y → y.alive = true → (putAll idx ρ' ρ)[j]? = some g → y.foot g b → ρ'[p]? = some g ∧ b < w'.heap.size ∧ (w.heap.size ≤ b ∨ Owned (insOf idx r) (subH idx ρ) b) ∧ (∀ o, S'.c b o = none) ∧ S'.o b = none := by
    intro p j y g b hp hy hya hg hb
    obtain ⟨g', hg', _⟩ := hsub.res p y hy
    have h1 := hbk.at_ p j g' hp hg'
    rw [hg] at h1
    simp only [Option.some.injEq] at h1
    subst h1
    exact ⟨hg', hsub.own p y g b hy hya hg' hb⟩
  have hno1 : ∀ b, b < w0.heap.size → ¬ B.p b → ¬ Owned (insOf idx r) (subH idx ρ) b := by
    intro b hb hnb ho
    obtain ⟨p, i, x, h, hp, hr, ha, hh, hb'⟩ := howned b ho
    rcases (hs.own i x h b hr ha hh hb').2.1 with h1 | h1
    · omega
    · exact hnb h1
  refine ⟨by rw [putAll_length, putAll_length, List.length_map]; exact hs.len, ?_, ?_, ?_, hsub.sub, hsub.os.trans hs.os, hsub.tape.trans hs.tape, hsub.output.trans hs.output, Nat.le_trans hs.size hsub.size, ?_, ?_, fun i h hi hf => hbk.fixed i h hf (hs.pre i h hi hf)⟩
  · intro j z hz
    rcases hcase j z hz with ⟨p, y, hp, hy, rfl⟩ | ⟨hno, y, hr, rfl⟩
    · obtain ⟨g, hg, hgh⟩ := hsub.res p y hy
      exact ⟨g, hbk.at_ p j g hp hg, Res.holds_back hbk.back hgh⟩
    · obtain ⟨g, hg, hgh⟩ := hs.res j y hr
      exact ⟨g, by rw [hbk.other j hno]; exact hg, Res.holds_kills hkept hturns (Res.holds_near hgh fun hza b hb => hsub.block b (hs.own j y g b hr hza hg hb).1 (hnot j y g b hno hr hza hg hb))⟩
  · intro j k z1 z2 g1 g2 b hj hk hz1 hz2 hg1 hg2 hb1 hb2
    rcases hcase j z1 hj with ⟨p, y, hp, hy, rfl⟩ | ⟨hno, y, hr, rfl⟩ <;> rcases hcase k z2 hk with ⟨q, u, hq, hu, rfl⟩ | ⟨hno2, u, hr2, rfl⟩
    · rw [back_alive] at hz1 hz2
      rw [back_foot] at hb1 hb2
      obtain ⟨e1, _⟩ := hin p j y g1 b hp hy hz1 hg1 hb1
      obtain ⟨e2, _⟩ := hin q k u g2 b hq hu hz2 hg2 hb2
      have := hsub.disj p q y u g1 g2 b hy hu hz1 hz2 e1 e2 hb1 hb2
      subst this
      rw [hp] at hq
      simpa using hq
    · exfalso
      rw [back_alive] at hz1
      rw [back_foot] at hb1
      rw [kills_alive] at hz2
      rw [kills_foot] at hb2
      rw [hbk.other k hno2] at hg2
      obtain ⟨_, _, h1, _⟩ := hin p j y g1 b hp hy hz1 hg1 hb1
      have := (hs.own k u g2 b hr2 hz2 hg2 hb2).1
      rcases h1 with h1 | h1
      · omega
      · exact hnot k u g2 b hno2 hr2 hz2 hg2 hb2 h1
    · exfalso
      rw [back_alive] at hz2
      rw [back_foot] at hb2
      rw [kills_alive] at hz1
      rw [kills_foot] at hb1
      rw [hbk.other j hno] at hg1
      obtain ⟨_, _, h1, _⟩ := hin q k u g2 b hq hu hz2 hg2 hb2
      have := (hs.own j y g1 b hr hz1 hg1 hb1).1
      rcases h1 with h1 | h1
      · omega
      · exact hnot j y g1 b hno hr hz1 hg1 hb1 h1
    · rw [kills_alive] at hz1 hz2
      rw [kills_foot] at hb1 hb2
      rw [hbk.other j hno] at hg1
      rw [hbk.other k hno2] at hg2
      exact hs.disj j k y u g1 g2 b hr hr2 hz1 hz2 hg1 hg2 hb1 hb2
  · intro j z g b hz hza hg hb
    rcases hcase j z hz with ⟨p, y, hp, hy, rfl⟩ | ⟨hno, y, hr, rfl⟩
    · rw [back_alive] at hza
      rw [back_foot] at hb
      obtain ⟨_, h1, h2, h3⟩ := hin p j y g b hp hy hza hg hb
      refine ⟨h1, ?_, h3⟩
      rcases h2 with h2 | h2
      · exact .inl (Nat.le_trans hs.size h2)
      · obtain ⟨_, i, x, h, _, hr, ha, hh, hb'⟩ := howned b h2
        exact (hs.own i x h b hr ha hh hb').2.1
    · rw [kills_alive] at hza
      rw [kills_foot] at hb
      rw [hbk.other j hno] at hg
      obtain ⟨h1, h2, h3, h4⟩ := hs.own j y g b hr hza hg hb
      obtain ⟨e1, e2⟩ := hsame b h1 (hnot j y g b hno hr hza hg hb)
      exact ⟨Nat.lt_of_lt_of_le h1 hsub.size, h2, fun o => by rw [e1 o]; exact h3 o, by rw [e2]; exact h4⟩
  · intro b hb hnb
    rw [hsub.block b (Nat.lt_of_lt_of_le hb hs.size) (hno1 b hb hnb)]
    exact hs.block b hb hnb
  · intro b hb hnb
    obtain ⟨e1, e2⟩ := hsame b (Nat.lt_of_lt_of_le hb hs.size) (hno1 b hb hnb)
    obtain ⟨l1, l2⟩ := hs.low b hb hnb
    exact ⟨fun o x hx => l1 o x (by rw [← e1 o]; exact hx), fun x hx => l2 x (by rw [← e2]; exact hx)⟩

theorem evs_rel (ht : rels (SV.rel ρ) t a.tmps.toList) : ∀ (xs : List Operand), rels (SV.rel ρ) (evs t xs) (xs.map a.eval)
  | [] => trivial
  | x :: xs => ⟨ev_rel ht x, evs_rel ht xs⟩

theorem ok_callR (hg : Gam w0 B ρ t r S a w) {o : Oper} {f : FuncId} {args : List SV} {vs : List Value} (W : Nat → Prop) (hW : ∀ j, ok j = true → W j) (hrun : (execOp a.eval o).run P w = .ok (.enter f vs.toArray) w)
    (hargs : rels (SV.rel ρ) args vs) (h : vcCallR P ok t r S o.dst f args K) : OpOk P w0 B W ρ r S a w o K := by
  obtain ⟨idx, A, out, outs, Post', hidx, hspec, h⟩ := h
  have hv := valid_of hg.st hidx
  have hidx' := hidx
  simp only [idxOk, Bool.and_eq_true, List.all_eq_true] at hidx
  intro Q
  unfold Oper.wp
  rw [hrun, Oper.upon_enter]
  refine (hspec w (subH idx ρ) vs (sub_stab hg.st hidx.1 hv) (rels_map _ (fun x y k => SV.rel_ren x y k) hargs)).mono ?_
  rintro e w' ⟨v, x, S', ρ', rfl, hrel, hlen, hst, hS, hsame, hpost⟩
  have h1 := h S' x hS hpost
  simp only [killsT_eq, killsR_eq, putBackK_eq, put_eq] at h1
  have hbk := backs hg.st hidx.1 hv hlen rfl hst
  have hr := SV.rel_back hbk.back _ _ hrel
  have hst' := back_stab hg.st hidx.1 hv hlen hst hsame hbk.kept hbk.turns
  have hnotW : ∀ i, ¬ W i → ∀ p : Nat, idx[p]? ≠ some i := fun i hi p hp => hi (hW i (hidx.2 i (List.mem_of_getElem? hp)).1)
  refine ⟨putAll idx ρ' ρ, _, _, S', ⟨rels_put (rels_map _ (SV.rel_kills hbk.kept hbk.turns) hg.tmps) hr, defers_put hg.defers, hst'⟩, ⟨hS, fun i h hi hh => by rw [hbk.other i (hnotW i hi)]; exact hh, ?_, ?_⟩, h1⟩
  · intro i y hi hy hya
    exact ⟨y.kills (rowsIn r idx), by rw [putAll_other idx _ _ (hnotW i hi), List.getElem?_map, hy]; rfl, by rw [kills_alive]; exact hya, fun _ _ => (kills_foot _ _ _ _).symm⟩
  · intro i y g b hi hy hya hgi hb
    refine hst.block b (hg.st.own i y g b hy hya hgi hb).1 ?_
    rintro ⟨p, z, h2, hz, hza, hh, hb'⟩
    cases hp : idx[p]? with
    | none => simp [insOf, hp] at hz
    | some j =>
      obtain ⟨x', g', k1, k2, k3, k4, k5, k6⟩ := hv p j hp
      rw [k5] at hh
      simp only [Option.some.injEq] at hh
      subst hh
      rw [k6] at hz
      simp only [Option.some.injEq] at hz
      subst hz
      rw [ren_foot] at hb'
      have := hg.st.disj i j y x' g g' b hy k1 hya k3 hgi k4 hb hb'
      exact hnotW i hi p (by rw [this]; exact hp)

theorem ok_callK (hg : Gam w0 B ρ t r S a w) {o : Oper} {f : FuncId} {args : List SV} {vs : List Value} (W : Nat → Prop) (hW : ∀ j, ok j = true → W j) (hrun : (execOp a.eval o).run P w = .ok (.enter f vs.toArray) w)
    (hargs : rels (SV.rel ρ) args vs) (h : vcCallK P ok t r S o.dst f args K) : OpOk P w0 B W ρ r S a w o K := by
  obtain ⟨idx, A, out, outs, Post', hidx, hspec, h⟩ := h
  have hv := valid_of hg.st hidx
  have hidx' := hidx
  simp only [idxOk, Bool.and_eq_true, List.all_eq_true] at hidx
  intro Q
  unfold Oper.wp
  rw [hrun, Oper.upon_enter]
  refine (hspec w (subH idx ρ) vs (sub_stab hg.st hidx.1 hv) (rels_map _ (fun x y k => SV.rel_ren x y k) hargs)).mono ?_
  rintro e w' ⟨v, x, S', rfl, hrel, hlen, hst, hS, hsame, hpost⟩
  have h1 := h S' x hS hpost
  simp only [killsT_eq, killsR_eq, putBackK_eq, put_eq] at h1
  have hbk := backs hg.st hidx.1 hv hlen rfl hst
  have hall : ∀ (i : Nat) h, ρ[i]? = some h → (putAll idx (subH idx ρ) ρ)[i]? = some h := by
    intro i h hi
    by_cases hp : ∃ p : Nat, idx[p]? = some i
    · obtain ⟨p, hp⟩ := hp
      obtain ⟨x', g', k1, k2, k3, k4, k5, k6⟩ := hv p i hp
      rw [hi] at k4
      simp only [Option.some.injEq] at k4
      subst k4
      exact hbk.at_ p i h hp k5
    · rw [hbk.other i fun p hpi => hp ⟨p, hpi⟩]; exact hi
  have hst' := back_stab (l := []) hg.st hidx.1 hv hlen hst hsame (fun i h _ => hall i h) (fun i h hi => by cases hi)
  have hr := SV.rel_app (ρ := []) (l := putAll idx (subH idx ρ) ρ) _ _ hrel
  simp only [List.nil_append] at hr
  have hnotW : ∀ i, ¬ W i → ∀ p : Nat, idx[p]? ≠ some i := fun i hi p hp => hi (hW i (hidx.2 i (List.mem_of_getElem? hp)).1)
  refine ⟨putAll idx (subH idx ρ) ρ, _, _, S', ⟨rels_put (rels_map _ (SV.rel_kills (l := []) (fun i h _ => hall i h) (fun i h hi => by cases hi)) hg.tmps) hr, defers_put hg.defers, hst'⟩, ⟨hS, fun i h hi hh => by rw [hbk.other i (hnotW i hi)]; exact hh, ?_, ?_⟩, h1⟩
  · intro i y hi hy hya
    exact ⟨y.kills [], by rw [putAll_other idx _ _ (hnotW i hi), List.getElem?_map, hy]; rfl, by rw [kills_alive]; exact hya, fun _ _ => (kills_foot _ _ _ _).symm⟩
  · intro i y g b hi hy hya hgi hb
    refine hst.block b (hg.st.own i y g b hy hya hgi hb).1 ?_
    rintro ⟨p, z, h2, hz, hza, hh, hb'⟩
    cases hp : idx[p]? with
    | none => simp [insOf, hp] at hz
    | some j =>
      obtain ⟨x', g', k1, k2, k3, k4, k5, k6⟩ := hv p j hp
      rw [k5] at hh
      simp only [Option.some.injEq] at hh
      subst hh
      rw [k6] at hz
      simp only [Option.some.injEq] at hz
      subst hz
      rw [ren_foot] at hb'
      have := hg.st.disj i j y x' g g' b hy k1 hya k3 hgi k4 hb hb'
      exact hnotW i hi p (by rw [this]; exact hp)

theorem get_shift {α : Type} {l m : List α} {i : Nat} {x : α} (h : m[i]? = some x) : (l ++ m)[i + l.length]? = some x := by
  rw [List.getElem?_append_right (by omega)]
  simpa using h
theorem C.rel_shift {ρ' : List Value} : ∀ (x : C) (y : Value), x.rel ρ' y → (x.shift ρ.length).rel (ρ ++ ρ') y
  | .junk, _, h => h
  | .v _, _, h => h
  | .ptr _ _, _, ⟨b, h1, h2⟩ => ⟨b, get_shift h1, h2⟩
  | .sl _ _ _ _, _, ⟨b, h1, h2⟩ => ⟨b, get_shift h1, h2⟩
  | .ref _, _, ⟨h1, h2⟩ => ⟨get_shift h1, h2⟩
  | .elt _ _ _ _, _, ⟨b, n, m, h1, h2⟩ => ⟨b, n, m, get_shift h1, h2⟩
  | .seg _ _ _ _, _, ⟨p, n, m, h1, h2⟩ => ⟨p, n, m, get_shift h1, h2⟩
  | .clo _ cs, _, ⟨ys, h1, h2, h3⟩ => ⟨ys, h1, by simpa using h2, fun j c z hc hz => by
      rw [List.getElem?_map] at hc
      cases hcs : cs[j]? with
      | none => simp [hcs] at hc
      | some c' =>
        simp only [hcs, Option.map_some, Option.some.injEq] at hc
        subst hc
        have := h3 j c' z hcs hz
        cases c' with
        | inl k => obtain ⟨b, k1, k2⟩ := this; exact ⟨b, get_shift k1, k2⟩
        | inr u => exact this⟩
theorem compRel_shift {ρ' : List Value} : ∀ (x : Bool × List C) (y : Value), compRel ρ' x y → compRel (ρ ++ ρ') (x.1, x.2.map (C.shift ρ.length)) y
  | (true, _), _, ⟨ys, g1, g2⟩ => ⟨ys, g1, rels_map _ C.rel_shift g2⟩
  | (false, [x]), y, k => C.rel_shift x y k
  | (false, []), _, k => k.elim
  | (false, _ :: _ :: _), _, k => k.elim
theorem SV.rel_shift {ρ' : List Value} (x : SV) (y : Value) (k : x.rel ρ' y) : (x.shift ρ.length).rel (ρ ++ ρ') y := by
  cases x with
  | c x =>
    by_cases hj : x = .junk
    · subst hj; trivial
    · exact sv_of_c (C.rel_shift x y (rel_c hj k))
  | agg xs => obtain ⟨ys, g1, g2⟩ := k; exact ⟨ys, g1, rels_map _ C.rel_shift g2⟩
  | tup xs => obtain ⟨ys, g1, g2⟩ := k; exact ⟨ys, g1, rels_map _ (fun x y h => compRel_shift x y h) g2⟩
theorem Res.holds_shift {ρ' : List Value} {x : Res} {g : Value} (hx : x.holds ρ' g w) : (x.shift ρ.length).holds (ρ ++ ρ') g w := by
  cases x with
  | gone => trivial
  | box cs => obtain ⟨b, T, xs, g1, g2, g3⟩ := hx; exact ⟨b, T, xs, g1, g2, rels_map _ C.rel_shift g3⟩
  | row sh e xs => exact hx
  | map k e es => exact hx
  | iter k e m ents clock left cur => exact hx
  | ext Q => exact hx
  | pool sh e l => exact hx
theorem shift_alive (n : Nat) (x : Res) : (x.shift n).alive = x.alive := by cases x <;> rfl
theorem shift_foot (n : Nat) (x : Res) (h : Value) (b : Nat) : (x.shift n).foot h b ↔ x.foot h b := by cases x <;> exact Iff.rfl

theorem appR_eq : ∀ (xs r : List Res) (k : List Res → Prop), appR r xs k = k (r ++ xs)
  | [], r, k => by simp [appR]
  | x :: xs, r, k => by simp only [appR, forceR_eq, snocK_eq, appR_eq xs]; simp

/-- What a call has made is owned from now on. -/
theorem Stab.join {ρ' : List Value} {r' : List Res} (hs : Stab w0 B ρ r S w) (hn : Stab w ⟨fun _ => False, S, []⟩ ρ' r' S' w') (hsame : ∀ b, b < w.heap.size → (∀ i, S'.c b i = S.c b i) ∧ S'.o b = S.o b) :
    Stab w0 B (ρ ++ ρ') (r ++ r'.map (Res.shift ρ.length)) S' w' := by
  have hold : Old w w' := ⟨hn.os, hn.tape, hn.output, hn.size, fun k hk => hn.block k hk (fun h => h)⟩
  have h1 := hs.call hold hn.sub hsame
  have hlen := hs.len
  have hlen' := hn.len
  have new : ∀ (i : Nat) x, ¬ i < r.length → (r ++ r'.map (Res.shift ρ.length))[i]? = some x → ∃ z, r'[i - r.length]? = some z ∧ x = z.shift ρ.length := by
    intro i x hi hx
    rw [List.getElem?_append_right (by omega), List.getElem?_map] at hx
    cases hz : r'[i - r.length]? with
    | none => simp [hz] at hx
    | some z => simp only [hz, Option.map_some, Option.some.injEq] at hx; exact ⟨z, rfl, hx.symm⟩
  have newh : ∀ (i : Nat) h, ¬ i < r.length → (ρ ++ ρ')[i]? = some h → ρ'[i - r.length]? = some h := by
    intro i h hi hh
    rw [List.getElem?_append_right (by omega)] at hh
    rwa [hlen] at hh
  have oldr : ∀ (i : Nat) x, i < r.length → (r ++ r'.map (Res.shift ρ.length))[i]? = some x → r[i]? = some x := by
    intro i x hi hx
    rwa [List.getElem?_append_left hi] at hx
  have oldh : ∀ (i : Nat) h, i < r.length → (ρ ++ ρ')[i]? = some h → ρ[i]? = some h := by
    intro i h hi hh
    rwa [List.getElem?_append_left (by omega)] at hh
  refine ⟨by simp [hlen, hlen'], ?_, ?_, ?_, hn.sub, h1.os, h1.tape, h1.output, h1.size, h1.block, h1.low, fun i h hi hf => get_app (h1.pre i h hi hf)⟩
  · intro i x hx
    by_cases hi : i < r.length
    · obtain ⟨h, hh, hxh⟩ := h1.res i x (oldr i x hi hx)
      exact ⟨h, get_app hh, Res.holds_app hxh⟩
    · obtain ⟨z, hz, rfl⟩ := new i x hi hx
      obtain ⟨h, hh, hxh⟩ := hn.res _ z hz
      refine ⟨h, ?_, Res.holds_shift hxh⟩
      have := get_shift (l := ρ) hh
      rwa [show i - r.length + ρ.length = i by omega] at this
  · intro i j x y g h b hx hy hxa hya hg hh hbx hby
    by_cases hi : i < r.length
    · by_cases hj : j < r.length
      · exact h1.disj i j x y g h b (oldr i x hi hx) (oldr j y hj hy) hxa hya (oldh i g hi hg) (oldh j h hj hh) hbx hby
      · obtain ⟨z, hz, rfl⟩ := new j y hj hy
        have k1 := (hs.own i x g b (oldr i x hi hx) hxa (oldh i g hi hg) hbx).1
        have k2 := (hn.own _ z h b hz (by rwa [shift_alive] at hya) (newh j h hj hh) ((shift_foot ..).1 hby)).2.1
        rcases k2 with k2 | k2
        · omega
        · exact k2.elim
    · obtain ⟨z, hz, rfl⟩ := new i x hi hx
      have k2 := (hn.own _ z g b hz (by rwa [shift_alive] at hxa) (newh i g hi hg) ((shift_foot ..).1 hbx)).2.1
      by_cases hj : j < r.length
      · have k1 := (hs.own j y h b (oldr j y hj hy) hya (oldh j h hj hh) hby).1
        rcases k2 with k2 | k2
        · omega
        · exact k2.elim
      · obtain ⟨u, hu, rfl⟩ := new j y hj hy
        have := hn.disj _ _ z u g h b hz hu (by rwa [shift_alive] at hxa) (by rwa [shift_alive] at hya) (newh i g hi hg) (newh j h hj hh) ((shift_foot ..).1 hbx) ((shift_foot ..).1 hby)
        omega
  · intro i x h b hx hxa hh hb
    by_cases hi : i < r.length
    · exact h1.own i x h b (oldr i x hi hx) hxa (oldh i h hi hh) hb
    · obtain ⟨z, hz, rfl⟩ := new i x hi hx
      obtain ⟨k1, k2, k3⟩ := hn.own _ z h b hz (by rwa [shift_alive] at hxa) (newh i h hi hh) ((shift_foot ..).1 hb)
      refine ⟨k1, .inl ?_, k3⟩
      rcases k2 with k2 | k2
      · exact Nat.le_trans hs.size k2
      · exact k2.elim

theorem ok_callN (hg : Gam w0 B ρ t r S a w) {o : Oper} {f : FuncId} {vs : List Value} (W : Nat → Prop) (hrun : (execOp a.eval o).run P w = .ok (.enter f vs.toArray) w)
    (h : vcCallN P t r S o.dst f vs K) : OpOk P w0 B W ρ r S a w o K := by
  obtain ⟨A, out, news, Post', hp, h⟩ := h
  intro Q
  unfold Oper.wp
  rw [hrun, Oper.upon_enter]
  refine (hp w hg.st.sub).mono ?_
  rintro e w' ⟨v, x, S', ρ', rfl, hrel, hst, hS, hsame, hpost⟩
  have h1 := h S' x hS hpost
  simp only [lenK_eq, put_eq, appR_eq] at h1
  rw [← hg.st.len] at h1
  have hr := SV.rel_shift (ρ := ρ) _ _ hrel
  have hold : Old w w' := ⟨hst.os, hst.tape, hst.output, hst.size, fun k hk => hst.block k hk (fun h => h)⟩
  exact ⟨ρ ++ ρ', _, _, S', ⟨rels_put (rels_app_slots hg.tmps) hr, defers_put hg.defers, hg.st.join hst hsame⟩, ⟨hS, fun _ _ _ h => get_app h, fun _ y _ h ha => ⟨y, get_app h, ha, fun _ _ => Iff.rfl⟩, fun i y h b _ hi ha hh hb => hold.block b (hg.st.own i y h b hi ha hh hb).1⟩, h1⟩

theorem capVals_rel : ∀ {cs : List SV} {vs ws : List Value}, vcCalls.capVals cs = some vs → rels (SV.rel ρ) cs ws → ws = vs
  | [], vs, ws, h, hr => by
    simp [vcCalls.capVals] at h
    subst h
    cases ws with
    | nil => rfl
    | cons _ _ => exact hr.elim
  | .c (.v x) :: cs, vs, ws, h, hr => by
    simp only [vcCalls.capVals] at h
    split at h
    · rename_i ys hys
      simp only [Option.some.injEq] at h
      subst h
      cases ws with
      | nil => exact hr.elim
      | cons w ws =>
        obtain ⟨h1, h2⟩ := hr
        rw [capVals_rel hys h2, h1.1]
    · cases h
  | .c .junk :: _, _, _, h, _ | .c (.ptr _ _) :: _, _, _, h, _ | .c (.sl _ _ _ _) :: _, _, _, h, _ | .c (.ref _) :: _, _, _, h, _ | .c (.elt _ _ _ _) :: _, _, _, h, _ | .c (.seg _ _ _ _) :: _, _, _, h, _ | .c (.clo _ _) :: _, _, _, h, _ | .agg _ :: _, _, _, h, _ | .tup _ :: _, _, _, h, _ => by simp [vcCalls.capVals] at h

theorem plain_rel : ∀ {l : List Value}, (∀ v ∈ l, v.oneCell' = true) → rels (SV.rel ρ) (l.map fun x => SV.c (.v x)) l
  | [], _ => trivial
  | x :: xs, h => ⟨⟨rfl, h x (by simp)⟩, plain_rel fun v hv => h v (by simp [hv])⟩

theorem svs_rel : ∀ {args : List Value}, (args.all argOk) = true → rels (SV.rel ρ) (args.map svOf) args
  | [], _ => trivial
  | v :: vs, h => by
    simp only [List.all_cons, Bool.and_eq_true] at h
    refine ⟨?_, svs_rel h.2⟩
    cases v <;> first | exact ⟨rfl, h.1⟩ | skip
    rename_i cs
    refine ⟨cs.toList, by simp, ?_⟩
    have : ∀ l : List Value, (l.all fun v => v.oneCell') = true → rels (C.rel ρ) (l.map .v) l := by
      intro l
      induction l with
      | nil => intro _; trivial
      | cons x xs ih =>
        intro h
        simp only [List.all_cons, Bool.and_eq_true] at h
        exact ⟨⟨rfl, h.1⟩, ih h.2⟩
    exact this _ h.1

theorem rels_of_get {α β : Type} {R : α → β → Prop} : ∀ {xs : List α} {ys : List β}, xs.length = ys.length → (∀ (j : Nat) x y, xs[j]? = some x → ys[j]? = some y → R x y) → rels R xs ys
  | [], [], _, _ => trivial
  | x :: xs, y :: ys, hl, h => ⟨h 0 x y rfl rfl, rels_of_get (by simpa using hl) fun j x y hx hy => h (j + 1) x y (by simpa using hx) (by simpa using hy)⟩
  | [], _ :: _, hl, _ => by simp at hl
  | _ :: _, [], hl, _ => by simp at hl

theorem ok_lent (hg : Gam w0 B ρ t r S a w) {S1 : Store} (hS1 : S1.le (Store.of w)) {o : Oper} {f : FuncId} {vs : List Value} (W : Nat → Prop) (hrun : (execOp a.eval o).run P w = .ok (.enter f vs.toArray) w)
    (h : vcCallB P S1 f vs fun x => put t o.dst x fun t => K t r S) : OpOk P w0 B W ρ r S a w o K := by
  obtain ⟨A, out, Post', hp, h⟩ := h
  intro Q
  unfold Oper.wp
  rw [hrun, Oper.upon_enter]
  refine (hp w hS1).mono ?_
  rintro e w' ⟨v, x, S', rfl, hrel, hS, hS', hold, hb, hpost⟩
  have h1 := h S' x hS hpost
  simp only [put_eq] at h1
  have hr := SV.rel_app (ρ := []) (l := ρ) _ _ hrel
  simp only [List.nil_append] at hr
  have hle : S.le (Store.of w') := Store.le_of hg.st.sub (fun b hk => hold.block b (by
    rcases Nat.lt_or_ge b w.heap.size with hb | hb
    · exact hb
    · have := Store.lt_of hg.st.sub hb
      rcases hk with ⟨o, x, hx⟩ | ⟨x, hx⟩
      · rw [this.1 o] at hx; cases hx
      · rw [this.2] at hx; cases hx))
  exact ⟨ρ, _, _, S, ⟨rels_put hg.tmps hr, defers_put hg.defers, hg.st.call hold hle (fun _ _ => ⟨fun _ => rfl, rfl⟩)⟩, ⟨Store.le_refl S, fun _ _ _ h => h, fun _ y _ h ha => ⟨y, h, ha, fun _ _ => Iff.rfl⟩, fun i y h b _ hi ha hh hb => hold.block b (hg.st.own i y h b hi ha hh hb).1⟩, h1⟩

theorem ok_lent2 (hg : Gam w0 B ρ t r S a w) {S1 : Store} (hS1 : S1.le (Store.of w)) (hle1 : S.le S1) {o : Oper} {f : FuncId} {vs : List Value} (W : Nat → Prop) (hrun : (execOp a.eval o).run P w = .ok (.enter f vs.toArray) w)
    (h : vcCallL P t r S S1 o.dst f vs K) : OpOk P w0 B W ρ r S a w o K := by
  obtain ⟨A, out, Post', hp, h⟩ := h
  intro Q
  unfold Oper.wp
  rw [hrun, Oper.upon_enter]
  refine (hp w hS1).mono ?_
  rintro e w' ⟨v, x, S', rfl, hrel, hS, hS', hold, hb, hpost⟩
  have hlt : ∀ b, w.heap.size ≤ b → (∀ o, S.c b o = none) ∧ S.o b = none := fun b hb => Store.lt_of hg.st.sub hb
  have hsame : ∀ b, b < w.heap.size → (∀ i, (⟨fun b i => if b < w.heap.size then S.c b i else S'.c b i, fun b => if b < w.heap.size then S.o b else S'.o b⟩ : Store).c b i = S.c b i) ∧ (⟨fun b i => if b < w.heap.size then S.c b i else S'.c b i, fun b => if b < w.heap.size then S.o b else S'.o b⟩ : Store).o b = S.o b := fun b hb => ⟨fun i => by simp [hb], by simp [hb]⟩
  have hle0 : S.le (Store.of w') := Store.le_of hg.st.sub (fun b hk => hold.block b (by
    rcases Nat.lt_or_ge b w.heap.size with hb | hb
    · exact hb
    · have := hlt b hb
      rcases hk with ⟨o, x, hx⟩ | ⟨x, hx⟩
      · rw [this.1 o] at hx; cases hx
      · rw [this.2] at hx; cases hx))
  have hle : S.le ⟨fun b i => if b < w.heap.size then S.c b i else S'.c b i, fun b => if b < w.heap.size then S.o b else S'.o b⟩ := by
    refine ⟨fun b i x hx => ?_, fun b x hx => ?_⟩
    · show (if b < w.heap.size then S.c b i else S'.c b i) = some x
      split
      · exact hx
      · rename_i hn
        rw [(hlt b (by omega)).1 i] at hx; cases hx
    · show (if b < w.heap.size then S.o b else S'.o b) = some x
      split
      · exact hx
      · rename_i hn
        rw [(hlt b (by omega)).2] at hx; cases hx
  have hle' : Store.le ⟨fun b i => if b < w.heap.size then S.c b i else S'.c b i, fun b => if b < w.heap.size then S.o b else S'.o b⟩ (Store.of w') := by
    refine ⟨fun b i x hx => ?_, fun b x hx => ?_⟩
    · have hx : (if b < w.heap.size then S.c b i else S'.c b i) = some x := hx
      split at hx
      · exact hle0.1 b i x hx
      · exact hS'.1 b i x hx
    · have hx : (if b < w.heap.size then S.o b else S'.o b) = some x := hx
      split at hx
      · exact hle0.2 b x hx
      · exact hS'.2 b x hx
  have h1 := h S' x hS hpost _ hle (fun b hn => by
    obtain ⟨hn1, hn2⟩ := hn
    refine ⟨fun i => ?_, ?_⟩
    · show (if b < w.heap.size then S.c b i else S'.c b i) = S'.c b i
      split
      · rename_i hlt'
        rw [(hb b hlt').1 i, hn1 i]
        cases hc : S.c b i with
        | none => rfl
        | some z => have := hle1.1 b i z hc; rw [hn1 i] at this; cases this
      · rfl
    · show (if b < w.heap.size then S.o b else S'.o b) = S'.o b
      split
      · rename_i hlt'
        rw [(hb b hlt').2, hn2]
        cases hc : S.o b with
        | none => rfl
        | some z => have := hle1.2 b z hc; rw [hn2] at this; cases this
      · rfl)
  simp only [put_eq] at h1
  have hr := SV.rel_app (ρ := []) (l := ρ) _ _ hrel
  simp only [List.nil_append] at hr
  exact ⟨ρ, _, _, _, ⟨rels_put hg.tmps hr, defers_put hg.defers, hg.st.call hold hle' hsame⟩, ⟨hle, fun _ _ _ h => h, fun _ y _ h ha => ⟨y, h, ha, fun _ _ => Iff.rfl⟩, fun i y h b _ hi ha hh hb => hold.block b (hg.st.own i y h b hi ha hh hb).1⟩, h1⟩

theorem ok_callsX (hg : Gam w0 B ρ t r S a w) {o : Oper} {args : Array Operand} {f : FuncId} {first : List Value} {caps : List SV} {capv : Array Value}
    (hexec : ∀ vs : List Value, vs = first ++ args.toList.map a.eval ++ capv.toList → (execOp a.eval o).run P w = .ok (.enter f vs.toArray) w)
    (h1 : (first.all argOk) = true) (hcap : rels (SV.rel ρ) caps capv.toList) (W : Nat → Prop) (hW : ∀ j, ok j = true → W j) (h : vcCalls P ok t r S o.dst f first args.toList caps K) : OpOk P w0 B W ρ r S a w o K := by
  obtain ⟨-, h⟩ := h
  rcases h with h | h | h | h | h | ⟨fz, h⟩ | h
  · refine ok_froze (frzOps_sound hW args.toList _ t r S hg h) fun t' r' S' hg' h => ?_
    split at h
    · rename_i vs cs hvs hcs
      have e1 := valsOf_rel hg'.tmps hvs
      have e2 := capVals_rel hcs hcap
      refine ok_pure hg' W (hexec _ ?_) h
      rw [e1, e2]
    · exact h.elim
  · refine ok_callR hg W hW (hexec _ rfl) ?_ h
    refine rels_append (rels_append ?_ (evs_rel hg.tmps args.toList)) hcap
    exact svs_rel h1
  · obtain ⟨t', r', S', hg', _, _, h⟩ := frzOps_sound (W := fun _ => True) (fun _ _ => trivial) args.toList _ t r S hg h
    split at h
    · rename_i vs cs hvs hcs
      have e1 := valsOf_rel hg'.tmps hvs
      have e2 := capVals_rel hcs hcap
      obtain ⟨r2, S2, hst2, h⟩ := frzPools_sound r' 0 r' S' (fun k x hx => by simpa using hx) hg'.st h
      refine ok_lent hg hst2.sub W (hexec _ ?_) h
      rw [e1, e2]
    · exact h.elim
  · refine ok_callK hg W hW (hexec _ rfl) ?_ h
    refine rels_append (rels_append ?_ (evs_rel hg.tmps args.toList)) hcap
    exact svs_rel h1
  · refine ok_froze (frzOps_sound hW args.toList _ t r S hg h) fun t' r' S' hg' h => ?_
    split at h
    · rename_i vs cs hvs hcs
      have e1 := valsOf_rel hg'.tmps hvs
      have e2 := capVals_rel hcs hcap
      refine ok_callN hg' W (hexec _ ?_) h
      rw [e1, e2]
    · exact h.elim
  · refine ok_froze (frzLo_sound hW fz _ t r S hg h) fun t' r' S' hg' h => ?_
    refine ok_callR hg' W hW (hexec _ rfl) ?_ h
    refine rels_append (rels_append ?_ (evs_rel hg'.tmps args.toList)) hcap
    exact svs_rel h1
  · obtain ⟨t', r', S', hg', hle, _, h⟩ := frzOps_sound (W := fun _ => True) (fun _ _ => trivial) args.toList _ t r S hg h
    split at h
    · rename_i vs cs hvs hcs
      have e1 := valsOf_rel hg'.tmps hvs
      have e2 := capVals_rel hcs hcap
      obtain ⟨r2, S2, hst2, hle2, h⟩ := frzPools_sound' r' 0 r' S' (fun k x hx => by simpa using hx) hg'.st h
      refine ok_lent2 hg hst2.sub (Store.le_trans hle hle2) W (hexec _ ?_) h
      rw [e1, e2]
    · exact h.elim

theorem ok_calls (hg : Gam w0 B ρ t r S a w) {o : Oper} {c : Operand} {args : Array Operand} {argTypes : Array TypeId} (ho : o.op = .call { callee := .value c, args, argTypes }) {f : FuncId} {first : List Value} {caps : List SV} {capv : Array Value}
    (hc : a.eval c = .func (.func f) first.toArray capv) (h1 : (first.all argOk) = true) (hcap : rels (SV.rel ρ) caps capv.toList) (W : Nat → Prop) (hW : ∀ j, ok j = true → W j) (h : vcCalls P ok t r S o.dst f first args.toList caps K) : OpOk P w0 B W ρ r S a w o K := by
  obtain ⟨fn, hf1, hf2, hf3⟩ := h.1
  have hexec : ∀ vs : List Value, vs = first ++ args.toList.map a.eval ++ capv.toList → (execOp a.eval o).run P w = .ok (.enter f vs.toArray) w := by
    intro vs hvs
    have harr : first.toArray ++ args.map a.eval ++ capv = vs.toArray := by
      apply Array.ext'; simp [hvs]
    simp only [execOp, ho, resolve, hc, Deferred.ofValue, Sem.run_bind, Sem.run_pure, Result.andThen, invoke, callFunc, run_program, hf1, hf2, hf3, Bool.false_eq_true, if_false, harr]
  exact ok_callsX hg hexec h1 hcap W hW h

theorem ok_invoke (hg : Gam w0 B ρ t r S a w) {o : Oper} {x : Operand} {name : String} {args : Array Operand} {argTypes : Array TypeId} (ho : o.op = .call { callee := .invoke x name, args, argTypes }) (W : Nat → Prop) (hW : ∀ j, ok j = true → W j) (h : vcE P tt ok t r S o.dst (.call { callee := .invoke x name, args, argTypes }) K) : OpOk P w0 B W ρ r S a w o K := by
  have hx := ev_rel hg.tmps x
  simp only [vcE] at h
  split at h
  · rename_i T v hev
    obtain ⟨hx, -⟩ := rel_v hx hev
    have h0 : (#[a.eval x] ++ args.map a.eval)[0]? = some (.iface T v) := by rw [hx, Array.getElem?_append_left (by simp)]; rfl
    have h1 : (#[a.eval x] ++ args.map a.eval).extract 1 (#[a.eval x] ++ args.map a.eval).size = args.map a.eval := by
      apply Array.ext'
      simp only [Array.toList_extract, Array.toList_append, Array.toList_map, List.extract_eq_take_drop]
      simp only [List.cons_append, List.nil_append, List.drop_succ_cons, List.drop_zero]
      exact List.take_of_length_le (by simp)
    rcases h with ⟨f, rv, hm, hrv, h⟩ | ⟨u, hm, rfl, hu, h⟩
    · obtain ⟨fn, hf1, hf2, hf3⟩ := h.1
      refine ok_callsX hg (first := [rv]) (caps := []) (capv := #[]) (fun vs hvs => ?_) (by simp [hrv]) trivial W hW h
      have harr : #[rv] ++ args.map a.eval = vs.toArray := by apply Array.ext'; simp [hvs]
      simp only [execOp, ho, resolve, Sem.run_bind, Sem.run_pure, Result.andThen, invoke, h0, h1, callMethod, run_program, hm w, callFunc, hf1, hf2, hf3, Bool.false_eq_true, if_false, harr]
    · rw [put_eq] at h
      refine ok_quiet hg (sv := .c (.v u)) (v := u) ⟨rfl, hu⟩ ?_ h W
      have hm' := hm w
      simp only [List.map_toArray, List.map_nil] at h0 h1
      simp only [execOp, ho, resolve, Sem.run_bind, Sem.run_pure, Result.andThen, invoke, List.map_toArray, List.map_nil, h0, h1, hm']
  · exact h.elim

theorem comp_rel {v : Value} (h : argOk v = true) : compRel ρ (compOf v) v := by
  cases v <;> first | exact ⟨rfl, h⟩ | skip
  rename_i cs
  refine ⟨cs.toList, by simp, ?_⟩
  have : ∀ l : List Value, (l.all fun v => v.oneCell') = true → rels (C.rel ρ) (l.map .v) l := by
    intro l
    induction l with
    | nil => intro _; trivial
    | cons x xs ih =>
      intro h
      simp only [List.all_cons, Bool.and_eq_true] at h
      exact ⟨⟨rfl, h.1⟩, ih h.2⟩
  exact this _ h

theorem zero_comp (hA : Agrees P tt) {ty : Nat} {ti : TI} (hti : tt ty = some ti) {vs : List Value} (hz : toVals ti.zero = some vs) (hl : vs.length = ti.sz) (h1 : ∀ v ∈ vs, v.oneCell' = true) : compRel ρ (ti.sh.agg, ti.zero) (mkVal ti.sh.agg vs) := by
  have hr := toVals_rel (ρ := ρ) hz h1
  cases ha : ti.sh.agg with
  | true => exact ⟨vs, rfl, hr⟩
  | false =>
    have hsz := (hA _ _ hti).one ha
    rw [hsz] at hl
    match vs, hl, hr with
    | [v], _, hr =>
      match hzz : ti.zero, hr with
      | [c], hr => exact hr.1
      | [], hr => exact hr.elim
      | _ :: _ :: _, hr => exact hr.2.elim

theorem missing_eq (want : Array (String × TypeId)) (got : Array Method) : (Instr.missingMethod want got).isNone = want.toList.all fun (name, sig) => got.any fun m => m.name == name && m.sig == sig := by
  have least_some : ∀ l : List String, l ≠ [] → ∃ s, Instr.least l = some s := by
    intro l hl
    cases l with
    | nil => exact absurd rfl hl
    | cons a l => exact ⟨_, rfl⟩
  unfold Instr.missingMethod
  simp only [List.partition_eq_filter_filter]
  cases hall : (want.toList.all fun x => match x with | (name, sig) => got.any fun m => m.name == name && m.sig == sig) with
  | true =>
    have : (want.toList.filter fun x => match x with | (name, sig) => !got.any fun m => m.name == name && m.sig == sig) = [] := by
      rw [List.filter_eq_nil_iff]
      intro x hx
      have := List.all_eq_true.1 hall x hx
      obtain ⟨n, s⟩ := x
      simp only at this ⊢
      rw [this]
      simp
    rw [this]
    rfl
  | false =>
    have hne : ((want.toList.filter fun x => match x with | (name, sig) => !got.any fun m => m.name == name && m.sig == sig).map (·.1)) ≠ [] := by
      intro h
      rw [List.map_eq_nil_iff, List.filter_eq_nil_iff] at h
      have : (want.toList.all fun x => match x with | (name, sig) => got.any fun m => m.name == name && m.sig == sig) = true := by
        rw [List.all_eq_true]
        intro x hx
        have := h x hx
        obtain ⟨n, s⟩ := x
        simpa using this
      rw [this] at hall
      cases hall
    generalize ((want.toList.filter fun x => match x with | (name, sig) => !got.any fun m => m.name == name && m.sig == sig).map (·.1)) = missing at hne
    by_cases h2 : missing.filter (not ∘ fun x => x.contains '.') = []
    · have h3 : missing.filter (fun x => x.contains '.') ≠ [] := by
        intro h3
        apply hne
        cases missing with
        | nil => rfl
        | cons a l =>
          exfalso
          have e2 := (List.filter_eq_nil_iff.1 h2) a (by simp)
          have e3 := (List.filter_eq_nil_iff.1 h3) a (by simp)
          simp only [Function.comp_apply, Bool.not_eq_true, Bool.not_eq_false'] at e2 e3
          rw [e2] at e3
          cases e3
      obtain ⟨s, hs⟩ := least_some ((missing.filter fun x => x.contains '.').map fun id => (id.splitOn ".").getLastD id) (by simpa using h3)
      rw [h2, hs]
      rfl
    · obtain ⟨s, hs⟩ := least_some _ h2
      rw [hs]
      rfl

theorem ok_assert (hA : Agrees P tt) (hg : Gam w0 B ρ t r S a w) {o : Oper} {x : Operand} {ty asserted : Nat} (ho : o.op = .typeAssert x ty asserted true) (W : Nat → Prop) (h : assertK P tt t r S o.dst x asserted K) : OpOk P w0 B W ρ r S a w o K := by
  have hx := ev_rel hg.tmps x
  unfold assertK at h
  split at h
  · rename_i T v hev
    obtain ⟨hx, hx1⟩ := rel_v hx hev
    obtain ⟨res, hres, h⟩ := h
    have key : ∀ (sv : SV) (u : Value), sv.rel ρ u → (Instr.typeAssert (.iface T v) ty asserted true).run P w = .ok u w → (put t o.dst sv fun t => K t r S) → OpOk P w0 B W ρ r S a w o K := by
      intro sv u hsv hrun hk
      rw [put_eq] at hk
      refine ok_quiet hg hsv ?_ hk W
      simp only [execOp, ho, hx, Sem.run_bind, hrun, Sem.run_pure, Result.andThen]
    unfold asserts at hres
    split at hres
    · rename_i want hu
      split at hres
      · rename_i i hi
        simp only [Option.some.injEq] at hres
        subst hres
        have hme := missing_eq want i.methods
        rw [← hme] at h
        cases hm : Instr.missingMethod want i.methods with
        | none =>
          rw [hm] at h
          refine key (.tup [(false, [.v (.iface T v)]), (false, [.v (.bool true)])]) (.tuple #[.iface T v, .bool true]) ⟨[_, _], rfl, ⟨rfl, rfl⟩, ⟨rfl, rfl⟩, trivial⟩ ?_ h
          simp only [Instr.typeAssert, Sem.run_bind, run_underlying hu, Result.andThen, typeInfo, run_program, hi, Sem.run_pure, hm]
          rfl
        | some m =>
          rw [hm] at h
          simp only [Option.isNone_some] at h
          split at h
          · rename_i ti hti
            obtain ⟨j, hj, hjs, hjb, vs, hz, hzl, hz1, hz3⟩ := (hA _ _ hti).info
            have hzr : (zeroValue asserted).run P w = .ok (mkVal ti.sh.agg vs) w := by
              simp only [zeroValue, typeInfo, Sem.run_bind, run_program, Result.andThen, hj, Sem.run_pure, hz3]
            refine key (.tup [(ti.sh.agg, ti.zero), (false, [.v (.bool false)])]) (.tuple #[mkVal ti.sh.agg vs, .bool false]) ⟨[_, _], rfl, zero_comp hA hti hz hzl hz1, ⟨rfl, rfl⟩, trivial⟩ ?_ h
            simp only [Instr.typeAssert, Sem.run_bind, run_underlying hu, Result.andThen, typeInfo, run_program, hi, Sem.run_pure, hm, if_true, hzr]
          · exact h.elim
      · cases hres
    · rename_i d hni hu
      simp only [Option.some.injEq] at hres
      subst hres
      by_cases hT : T = asserted
      · rw [decide_eq_true hT] at h
        obtain ⟨hv, h⟩ := h
        refine key (.tup [compOf v, (false, [.v (.bool true)])]) (.tuple #[v, .bool true]) ⟨[_, _], rfl, comp_rel hv, ⟨rfl, rfl⟩, trivial⟩ ?_ h
        simp only [Instr.typeAssert, Sem.run_bind, run_underlying hu, Result.andThen]
        cases d <;> first | (simp only [if_pos hT]; rfl) | exact absurd rfl (hni _)
      · rw [decide_eq_false hT] at h
        simp only at h
        split at h
        · rename_i ti hti
          obtain ⟨j, hj, hjs, hjb, vs, hz, hzl, hz1, hz3⟩ := (hA _ _ hti).info
          have hzr : (zeroValue asserted).run P w = .ok (mkVal ti.sh.agg vs) w := by
            simp only [zeroValue, typeInfo, Sem.run_bind, run_program, Result.andThen, hj, Sem.run_pure, hz3]
          refine key (.tup [(ti.sh.agg, ti.zero), (false, [.v (.bool false)])]) (.tuple #[mkVal ti.sh.agg vs, .bool false]) ⟨[_, _], rfl, zero_comp hA hti hz hzl hz1, ⟨rfl, rfl⟩, trivial⟩ ?_ h
          simp only [Instr.typeAssert, Sem.run_bind, run_underlying hu, Result.andThen]
          cases d <;> first | (simp only [if_neg hT, if_true, Sem.run_bind, hzr, Result.andThen, Sem.run_pure]) | exact absurd rfl (hni _)
        · exact h.elim
    · cases hres
  · exact h.elim

theorem ok_call (hg : Gam w0 B ρ t r S a w) {o : Oper} {f : Operand} {args : Array Operand} {argTypes : Array TypeId} (ho : o.op = .call { callee := .value f, args, argTypes }) (W : Nat → Prop) (hW : ∀ j, ok j = true → W j) (h : vcE P tt ok t r S o.dst (.call { callee := .value f, args, argTypes }) K) : OpOk P w0 B W ρ r S a w o K := by
  have hf := ev_rel hg.tmps f
  have dyn : (match ev t f with
    | .c (.v u) => ∃ g first caps, u = .func (.func g) first caps ∧ (first.toList.all argOk) = true ∧ (∀ v ∈ caps, v.oneCell' = true) ∧ vcCalls P ok t r S o.dst g first.toList args.toList (caps.toList.map fun x => .c (.v x)) K
    | .c (.clo g caps) => vcCalls P ok t r S o.dst g [] args.toList (caps.map fun c => match c with
      | Sum.inl i => .c (.ptr i 0)
      | Sum.inr x => .c (.v x)) K
    | _ => False) → OpOk P w0 B W ρ r S a w o K := by
    intro h
    split at h
    · rename_i u hev
      rw [hev] at hf
      obtain ⟨g, first, caps, rfl, h1, h2, h⟩ := h
      obtain ⟨hf, -⟩ := hf
      have e1 : first = first.toList.toArray := by simp
      refine ok_calls hg ho (first := first.toList) (by rw [hf, ← e1]) h1 (plain_rel fun v hv => h2 v (by simpa using hv)) W hW h
    · rename_i g caps hev
      rw [hev] at hf
      obtain ⟨ys, hy, hl, hc⟩ := hf
      refine ok_calls hg ho (first := []) (capv := ys.toArray) hy rfl (rels_of_get (by simpa using hl.symm) fun j x y hx hy => ?_) W hW h
      rw [List.getElem?_map] at hx
      cases hcj : caps[j]? with
      | none => simp [hcj] at hx
      | some c =>
        simp only [hcj, Option.map_some, Option.some.injEq] at hx
        subst hx
        have h3 := hc j c y hcj hy
        cases c with
        | inl i => obtain ⟨b, k1, k2⟩ := h3; exact ⟨b, k1, k2⟩
        | inr u => exact ⟨h3.1, h3.2⟩
    · exact h.elim
  cases f with
  | func g => exact ok_calls hg ho (first := []) (caps := []) (capv := #[]) rfl rfl trivial W hW h
  | tmp i => exact dyn h
  | const v => exact dyn h
  | global g => exact dyn h

theorem nameK_sound {i : Nat} {W : Nat → Prop} (hW' : ∀ j, ok j = true → W j) (hg : Gam w0 B ρ t r S a w) (h : nameK ok i K t r S) : Froze w0 B W ρ r S a w K := by
  have stay : K t r S → Froze w0 B W ρ r S a w K := fun h => ⟨t, r, S, hg, Store.le_refl S, fun j y _ hy hya => ⟨y, hy, hya, fun _ _ => Iff.rfl⟩, h⟩
  unfold nameK at h
  split at h
  case isFalse => exact stay h
  rename_i hoki
  have hW := hW' i hoki
  split at h
  · rename_i cs hr
    have hr' := nthR_some hr (by simp)
    split at h
    · rename_i vs hvs
      obtain ⟨v, hv, b, T, xs, rfl, hb, hrel⟩ := hg.st.res i _ hr'
      have hx : xs.toList = vs := toVals_same hvs hrel
      have h1 := h b
      simp only [subT_eq, subR_eq, setR_eq] at h1
      have hget : ∀ (k : Nat) x, ((r.map (Res.sub i (.pointer (some ⟨b, 0, none⟩)))).set i (.ext (BoxAt b vs none)))[k]? = some x → (k = i ∧ x = .ext (BoxAt b vs none)) ∨ (k ≠ i ∧ ∃ z, r[k]? = some z ∧ x = z.sub i (.pointer (some ⟨b, 0, none⟩))) := by
        intro k x hx
        by_cases hki : k = i
        · subst hki
          rw [List.getElem?_set_self (by simpa using (List.getElem?_eq_some_iff.1 hr').1)] at hx
          exact .inl ⟨rfl, by simpa using hx.symm⟩
        · rw [List.getElem?_set_ne (Ne.symm hki), List.getElem?_map] at hx
          cases hz : r[k]? with
          | none => simp [hz] at hx
          | some z => simp [hz] at hx; exact .inr ⟨hki, z, rfl, hx.symm⟩
      have hst : Stab w0 B ρ ((r.map (Res.sub i (.pointer (some ⟨b, 0, none⟩)))).set i (.ext (BoxAt b vs none))) S w := by
        refine hg.st.regroup (by simp) id ?_ ?_
        · intro k x hk
          rcases hget k x hk with ⟨rfl, rfl⟩ | ⟨_, z, hz, rfl⟩
          · refine ⟨_, hv, rfl, rfl, ?_, T, [], (fun t e => by cases e), ?_⟩
            · rw [← hx]; exact rels_one hrel
            · show w.heap[b]? = _
              rw [hb, ← hx, List.append_nil]
          · obtain ⟨g, hg1, hg2⟩ := hg.st.res k z hz
            exact ⟨g, hg1, Res.holds_sub hv rfl hg2⟩
        · intro k x hh c hk hxa hρk hc
          rcases hget k x hk with ⟨rfl, rfl⟩ | ⟨_, z, hz, rfl⟩
          · exact ⟨k, _, hh, hr', rfl, hρk, hc, rfl⟩
          · rw [sub_alive] at hxa
            rw [sub_foot] at hc
            exact ⟨k, z, hh, hz, hxa, hρk, hc, rfl⟩
      refine ⟨_, _, S, ⟨rels_map _ (fun x y k => SV.rel_sub hv rfl x y k) hg.tmps, hg.defers, hst⟩, Store.le_refl S, ?_, h1⟩
      intro j y hj hy hya
      have hji : j ≠ i := fun e => hj (e ▸ hW)
      exact ⟨y.sub i _, get_set_ne (by rw [List.getElem?_map, hy]; rfl) hji, by rw [sub_alive]; exact hya, fun _ _ => (sub_foot _ _ _).symm⟩
    · exact stay h
  · rename_i k e es hr
    have hr' := nthR_some hr (by simp)
    obtain ⟨v, hv, b, ents, clock, rfl, hb, hmap⟩ := hg.st.res i _ hr'
    have h1 := h b
    simp only [subT_eq, subR_eq, setR_eq] at h1
    have hget : ∀ (j : Nat) x, ((r.map (Res.sub i (.map (some b)))).set i (.ext (MapN k e b es)))[j]? = some x → (j = i ∧ x = .ext (MapN k e b es)) ∨ (j ≠ i ∧ ∃ z, r[j]? = some z ∧ x = z.sub i (.map (some b))) := by
      intro j x hx
      by_cases hki : j = i
      · subst hki
        rw [List.getElem?_set_self (by simpa using (List.getElem?_eq_some_iff.1 hr').1)] at hx
        exact .inl ⟨rfl, by simpa using hx.symm⟩
      · rw [List.getElem?_set_ne (Ne.symm hki), List.getElem?_map] at hx
        cases hz : r[j]? with
        | none => simp [hz] at hx
        | some z => simp [hz] at hx; exact .inr ⟨hki, z, rfl, hx.symm⟩
    have hst : Stab w0 B ρ ((r.map (Res.sub i (.map (some b)))).set i (.ext (MapN k e b es))) S w := by
      refine hg.st.regroup (by simp) id ?_ ?_
      · intro j x hk
        rcases hget j x hk with ⟨rfl, rfl⟩ | ⟨_, z, hz, rfl⟩
        · exact ⟨_, hv, rfl, rfl, ents, clock, hb, hmap⟩
        · obtain ⟨g, hg1, hg2⟩ := hg.st.res j z hz
          exact ⟨g, hg1, Res.holds_sub hv rfl hg2⟩
      · intro j x hh c hk hxa hρk hc
        rcases hget j x hk with ⟨rfl, rfl⟩ | ⟨_, z, hz, rfl⟩
        · exact ⟨j, _, hh, hr', rfl, hρk, hc, rfl⟩
        · rw [sub_alive] at hxa
          rw [sub_foot] at hc
          exact ⟨j, z, hh, hz, hxa, hρk, hc, rfl⟩
    refine ⟨_, _, S, ⟨rels_map _ (fun x y q => SV.rel_sub hv rfl x y q) hg.tmps, hg.defers, hst⟩, Store.le_refl S, ?_, h1⟩
    intro j y hj hy hya
    have hji : j ≠ i := fun e => hj (e ▸ hW)
    exact ⟨y.sub i _, get_set_ne (by rw [List.getElem?_map, hy]; rfl) hji, by rw [sub_alive]; exact hya, fun _ _ => (sub_foot _ _ _).symm⟩
  · exact stay h

theorem nameOps_sound {W : Nat → Prop} (hW' : ∀ j, ok j = true → W j) : ∀ (l : List Operand) (K : SK) (t : List SV) (r : List Res) (S : Store), Gam w0 B ρ t r S a w → nameOps ok l K t r S → Froze w0 B W ρ r S a w K
  | [], K, t, r, S, hg, h => ⟨t, r, S, hg, Store.le_refl S, fun j y _ hy hya => ⟨y, hy, hya, fun _ _ => Iff.rfl⟩, h⟩
  | x :: xs, K, t, r, S, hg, h => by
    simp only [nameOps] at h
    split at h
    · obtain ⟨t1, r1, S1, hg1, hle1, ha1, h1⟩ := nameK_sound hW' hg h
      obtain ⟨t2, r2, S2, hg2, hle2, ha2, h2⟩ := nameOps_sound hW' xs K t1 r1 S1 hg1 h1
      refine ⟨t2, r2, S2, hg2, Store.le_trans hle1 hle2, fun j y hj hy hya => ?_, h2⟩
      obtain ⟨y1, hy1, hya1, hf1⟩ := ha1 j y hj hy hya
      obtain ⟨y2, hy2, hya2, hf2⟩ := ha2 j y1 hj hy1 hya1
      exact ⟨y2, hy2, hya2, fun u c => (hf1 u c).trans (hf2 u c)⟩
    · exact nameOps_sound hW' xs K t r S hg h

theorem ok_copy (hA : Agrees P tt) (hg : Gam w0 B ρ t r S a w) {o : Oper} {args : Array Operand} {argTypes : Array TypeId} (ho : o.op = .call { callee := .builtin .copy, args, argTypes }) (W : Nat → Prop)
    (hW : ∀ i, ok i = true → W i) (h : vcE P tt ok t r S o.dst (.call { callee := .builtin .copy, args, argTypes }) K) : OpOk P w0 B W ρ r S a w o K := by
  simp only [vcE, copyK] at h
  split at h
  · rename_i x s ty ty' hargs htys
    have hx := ev_rel hg.tmps x
    have hs := ev_rel hg.tmps s
    split at h
    · rename_i ti i p n c hti hev hev2
      rw [hev] at hx
      obtain ⟨hx, -⟩ := hx
      obtain ⟨hs, -⟩ := rel_v hs hev2
      have hkind := (hA _ _ hti).kind
      split at h
      · rename_i e sh e' xs hk hr
        rw [hk] at hkind
        simp only [Kind.fits] at hkind
        have hr' := nthR_some hr (by simp)
        split at h
        · rename_i ei hei
          split at h
          · rename_i hc
            obtain ⟨⟨hsn, hs1⟩, hoki⟩ := hc
            obtain ⟨ys, hrd, hyn, hyx, hn0, h⟩ := h
            simp only [put_eq, setR_eq] at h
            obtain ⟨g, hρ, how, hok⟩ := hg.st.res i _ hr'
            rw [hx] at hρ
            obtain rfl := Option.some.inj hρ
            obtain ⟨q, hq, hsz, -⟩ := (hA _ _ hei).info
            rcases how.2 with ⟨-, hz⟩ | ⟨b, cap, cur, hv, hb0, hb, hnc, hcm, hcs, htake⟩
            · omega
            rcases hrd.1 with hz | ⟨b2, o2, rfl, hcell⟩
            · exfalso; rw [hz] at hyn; simp at hyn; omega
            have hlen : (sh.encs ys).length = ys.length := by rw [encs_length, hsn, hs1, Nat.mul_one]
            have hrun := run_copy_row (P := P) w ty ty' o.type e b 0 xs.length cap ⟨b2, o2, none⟩ n c cur e' (sh.encs ys) hkind (by rw [hq]; simp [hsz, hs1]) hb (by rw [hlen]; show _ = Nat.min n xs.length; rw [← hyn, ← hyx]; exact (Nat.min_self _).symm)
              (fun j v hj => by
                have hadd : (⟨b2, o2, none⟩ : Addr).add j = ⟨b2, o2 + j, none⟩ := by unfold Addr.add; split <;> simp_all
                rw [hadd]
                exact hg.st.sub.1 _ _ _ (hcell j v hj)) (by rw [hlen, hcs, Nat.zero_add, hsn, hs1, Nat.mul_one, hyx]; exact hnc) (fun v hv => by
                obtain ⟨y, hy, hv⟩ := List.mem_flatMap.1 hv
                exact rels_one (ρ := ρ) (cs_rel sh y (hrd.2 y hy)) v hv)
            rw [hlen] at hrun
            have hexec : (execOp a.eval o).run P w = .ok (.value (goInt ys.length)) (w.setRow b (cur.toList.take 0 ++ sh.encs ys ++ cur.toList.drop (0 + ys.length)).toArray) := by
              have h1 : argTypes = #[ty, ty'] := by apply Array.ext'; simpa using htys
              have h2 : args.map a.eval = #[a.eval x, a.eval s] := by apply Array.ext'; simp [hargs]
              rw [hv] at h2
              rw [hs] at h2
              simp only [execOp, ho, resolve, Sem.run_bind, Sem.run_pure, Result.andThen, invoke, builtin, h1, h2, hrun]
            refine ok_writeG (b := b) hg hr' rfl hx (by rw [hv]; rfl) hexec (fun k hk => setRow_other w b k _ hk) (by simp [World.setRow]) rfl rfl rfl ?_ (sv := .c (.v (.int .i64 n))) ⟨by rw [hyn]; rfl, rfl⟩ h W (hW i hoki)
            refine ⟨⟨encs_length ys, .inr ⟨b, cap, (cur.toList.take 0 ++ sh.encs ys ++ cur.toList.drop (0 + ys.length)).toArray, by rw [hv, hyx], Nat.zero_le _, ?_, by rw [hyx]; exact hnc, hcm, ?_, ?_⟩⟩, hrd.2⟩
            · have := setRow_heap w b cur (cur.toList.take 0 ++ sh.encs ys ++ cur.toList.drop (0 + ys.length)).toArray e' (0, 0) hb
              exact this
            · simp only [List.take_zero, List.nil_append, Nat.zero_add, List.size_toArray, List.length_append, hlen, List.length_drop, Array.length_toList, hcs, hsn, hs1, Nat.mul_one]
              omega
            · simp only [List.take_zero, List.nil_append, Nat.zero_add]
              rw [hsn, hs1, Nat.mul_one, ← hlen, List.take_left]
          · exact h.elim
        · exact h.elim
      · exact h.elim
    · exact h.elim
  · exact h.elim

theorem vcE_sound (hA : Agrees P tt) (hg : Gam w0 B ρ t r S a w) {o : Oper} (W : Nat → Prop) (hW : ∀ j, Wr t o.op j → W j) (hok : ∀ j, ok j = true → W j) (h : vcE P tt ok t r S o.dst o.op K) : OpOk P w0 B W ρ r S a w o K := by
  obtain ⟨dst, op, type, pos, after, guard⟩ := o
  cases op
  case alloc ty => exact ok_alloc hA hg rfl W h
  case box ty x => exact ok_box hg rfl W h
  case buildSlice ty n parts =>
    simp only [vcE] at h
    split at h
    · exact ok_froze (frzOps_sound hok _ _ t r S hg h) fun t' r' S' hg' h => ok_buildSlice hA hg' rfl W h
    · split at h
      · exact ok_froze (nameOps_sound hok _ _ t r S hg h) fun t' r' S' hg' h => ok_buildSlice hA hg' rfl W h
      · exact ok_buildSlice hA hg rfl W h
  case store ty d x =>
    simp only [vcE] at h
    split at h
    · exact ok_froze (frzOp_sound hok x 24 _ t r S hg h) fun t' r' S' hg' h => ok_store hA hg' rfl W hok h
    · exact ok_store hA hg rfl W hok h
  case typeAssert x ty asserted b =>
    cases b with
    | true => exact ok_assert hA hg rfl W h
    | false => exact h.elim
  case range ty x => exact ok_range hA hg rfl W hok h
  case next x b => exact ok_next hg rfl W (fun i o hev => hW i ⟨i, o, hev, rfl⟩) hok h
  case makeSlice ty ln cp => exact ok_makeSlice hA hg rfl W h
  case makeMap ty res =>
    cases res with
    | none => exact ok_makeMap hg rfl W h
    | some x => exact h.elim
  case insert ty m k x => exact ok_froze (frzOp_sound hok x 24 _ t r S hg h) fun t' r' S' hg' h => ok_mapPut hA hg' (.inr rfl) W hok h
  case mapUpdate ty m k x => exact ok_froze (frzOp_sound hok x 24 _ t r S hg h) fun t' r' S' hg' h => ok_mapPut hA hg' (.inl rfl) W hok h
  case call c =>
    obtain ⟨callee, args, argTypes⟩ := c
    cases callee with
    | value f => exact ok_call hg rfl W hok h
    | invoke x m => exact ok_invoke hg rfl W hok h
    | builtin b =>
      cases b <;> first
        | exact ok_append hA hg rfl W (fun s x i hsx hev => hW i ⟨s, x, i, hsx, hev, rfl⟩) hok h
        | exact ok_delete hA hg rfl W hok h
        | exact ok_clear hA hg rfl W hok h
        | exact ok_copy hA hg rfl W hok h
        | exact h.elim
  all_goals exact h.elim

theorem near_self (hg : Stab w0 B ρ r S w) : Near ρ r S w w := ⟨fun _ _ _ _ _ _ _ _ => rfl, hg.sub⟩

theorem ok_strB (hA : Agrees P tt) (hg : Gam w0 B ρ t r S a w) {o : Oper} (hq : isStrB tt o.op = true) (h : strBK t r S o.dst o.op K) (W : Nat → Prop) : OpOk P w0 B W ρ r S a w o K := by
  unfold isStrB at hq
  split at hq
  · rename_i src dst x ho
    split at hq
    · rename_i si di hsi hdi
      split at hq
      · rename_i e hk1 hk2
        split at hq
        · rename_i ei hei
          split at hq
          · rename_i hk3
            have h1 := (hA _ _ hsi).kind
            have h2 := (hA _ _ hdi).kind
            have h3 := (hA _ _ hei).kind
            rw [hk1] at h1
            rw [hk2] at h2
            rw [hk3] at h3
            have h1 : P.underlying src = some .string := h1
            have h2 : P.underlying dst = some (.slice e) := h2
            have h3 : P.underlying e = some (.int .u8) := h3
            simp only [strBK, ho] at h
            split at h
            · rename_i s hev
              have hx : a.eval x = .string s := by have := ev_rel hg.tmps x; rw [hev] at this; exact this.1
              have hrun : (execOp a.eval o).run P w = .ok (.value (.slice (some ⟨w.heap.size, 0, none⟩) s.size (grownCap w s.size 0 e))) (Lib.bytesWorld w e s) := by
                simp only [execOp, ho, hx, Sem.run_bind, Lib.run_convert_string_bytes w src dst e s h1 h2 h3, Result.andThen, Sem.run_pure]
              intro Q
              unfold Oper.wp
              rw [hrun, Oper.upon_value]
              have hlen := hg.st.len
              have hsz := Lib.bytesWorld_size w e s
              have hold : ∀ b, b < w.heap.size → (Lib.bytesWorld w e s).heap[b]? = w.heap[b]? := fun b hb => Lib.bytesWorld_at_old w e s b hb
              have st1 : Stab w0 B (ρ ++ [.pointer (some ⟨w.heap.size, 0, none⟩)]) (r ++ [.ext fun _ _ => True]) S (Lib.bytesWorld w e s) :=
                hg.st.addG hold (by omega) rfl rfl rfl (.ext fun _ _ => True) (.pointer (some ⟨w.heap.size, 0, none⟩)) (fun b hb => by
                  have : b = w.heap.size := by
                    have hb : some w.heap.size = some b := hb
                    exact (Option.some.inj hb).symm
                  omega) ⟨rfl, trivial⟩
              obtain ⟨hle, st2⟩ := st1.thaw (i := r.length) (x := .ext fun _ _ => True) (h := .pointer (some ⟨w.heap.size, 0, none⟩)) (by simp) rfl (by rw [← hlen]; simp)
              have hset : (r ++ [Res.ext fun _ _ => True]).set r.length .gone = r ++ [.gone] := by rw [List.set_append_right _ _ (Nat.le_refl _), Nat.sub_self]; rfl
              rw [hset] at st2
              have hrd : RowRd (S.with (Lib.bytesWorld w e s) ((Res.ext fun _ _ => True).foot (.pointer (some ⟨w.heap.size, 0, none⟩)))) (some ⟨w.heap.size, 0, none⟩) (.int .u8) (strInts s) := by
                refine ⟨.inr ⟨w.heap.size, 0, rfl, fun j u hu => ?_⟩, fun y hy => ?_⟩
                · simp only [Store.with, if_pos (show (Res.ext fun _ _ => True).foot (.pointer (some ⟨w.heap.size, 0, none⟩)) w.heap.size from rfl), Store.of]
                  rw [Nat.zero_add]
                  have he : (strInts s).flatMap (Shape.enc (.int .u8)) = s.data.toList.map fun b => Value.int .u8 b.toNat := by
                    unfold strInts
                    generalize s.data.toList = l
                    induction l with
                    | nil => rfl
                    | cons b l ih => rw [List.map_cons, List.flatMap_cons, ih]; rfl
                  rw [he, List.getElem?_map] at hu
                  cases hq : s.data.toList[j]? with
                  | none => rw [hq] at hu; cases hu
                  | some b =>
                    rw [hq] at hu
                    have hu : Value.int .u8 b.toNat = u := Option.some.inj hu
                    have hj : j < s.size := by have := (List.getElem?_eq_some_iff.1 hq).1; simpa using this
                    rw [Lib.bytesWorld_cell w e s j hj, List.getD_eq_getElem?_getD, hq]
                    exact congrArg some hu
                · exact trivial
              have hK := h w.heap.size (grownCap w s.size 0 e) _ hle hrd (by have := grownCap_ge w s.size 0 e; omega)
              simp only [put_eq, snocK_eq] at hK
              refine ⟨ρ ++ [.pointer (some ⟨w.heap.size, 0, none⟩)], _, _, _, ⟨rels_put (rels_app_slots hg.tmps) (show (SV.c (.v (.slice (some ⟨w.heap.size, 0, none⟩) s.size (grownCap w s.size 0 e)))).rel _ _ from ⟨rfl, rfl⟩), defers_put hg.defers, st2⟩, ⟨hle, fun i h _ hi => get_app hi, fun i y _ hi ha => ⟨y, get_app hi, ha, fun _ _ => Iff.rfl⟩, ?_⟩, hK⟩
              intro i y h b _ hi ha hh hb
              exact hold b (hg.st.own i y h b hi ha hh hb).1
            · exact h.elim
          · cases hq
        · cases hq
      · cases hq
    · cases hq
  · cases hq
theorem vcOp_sound (hA : Agrees P tt) (hg : Gam w0 B ρ t r S a w) {o : Oper} (W : Nat → Prop) (hW : ∀ j, W j) (h : vcOp P tt o K t r S) : OpOk P w0 B W ρ r S a w o K := by
  unfold vcOp at h
  split at h
  · split at h
    · rename_i hq
      exact ok_strB hA hg hq h W
    · obtain ⟨sv, v, h1, h2, h3⟩ := vcQ_sound hA hg.st.sees hg.tmps h
      rw [put_eq] at h2
      exact ok_quiet hg h1 (h3 w (near_self hg.st) o rfl) h2 W
  · exact vcE_sound hA hg W (fun j _ => hW j) (fun j _ => hW j) h

theorem undef_rel : (SV.tup []).rel ρ undef := ⟨[], rfl, trivial⟩

/-- The guard, decided. -/
theorem vcGuard_sound {ops : Array Oper} {o : Oper} {kn : List Nat} {go skip : List Nat → SK} (ht : rels (SV.rel ρ) t a.tmps.toList) (h : vcGuard ops o kn go skip t r S) :
    (Region.wanted o (yielded ops a.tmps) = true ∧ ∃ t' kn', rels (SV.rel ρ) t' a.tmps.toList ∧ go kn' t' r S) ∨
    (Region.wanted o (yielded ops a.tmps) = false ∧ ∃ t' kn', rels (SV.rel ρ) t' a.tmps.toList ∧ skip kn' (putL t' o.dst (.tup [])) r S) := by
  unfold vcGuard at h
  split at h
  · rename_i hgd
    exact .inl ⟨by simp [Region.wanted, hgd], t, kn, ht, h⟩
  · rename_i j want hgd
    split at h
    · rename_i u hu
      have hy : ∀ b, a.tmps[u]? = some (.bool b) → yielded ops a.tmps j = some b := fun b hb => by simp [yielded, hu, hb]
      have hget : ∀ (i : Nat) x, t[i]? = some x → ∃ y, a.tmps[i]? = some y ∧ x.rel ρ y := fun i x hx => by
        obtain ⟨y, h1, h2⟩ := rels_get ht i x hx
        exact ⟨y, by simpa using h1, h2⟩
      have hnth : ∀ (l : List SV) (i : Nat) x, nth l i = x → x ≠ .c .junk → l[i]? = some x := by
        intro l
        induction l with
        | nil => intro i x h hx; exact absurd h.symm hx
        | cons z l ih =>
          intro i x h hx
          cases i with
          | zero => simpa [nth] using h
          | succ i => simpa using ih i x h hx
      split at h
      · split at h
        · rename_i b hb
          obtain ⟨y, hy1, hy2⟩ := hget u _ (hnth t u _ hb (by simp))
          obtain ⟨rfl, -⟩ := hy2
          have hyb := hy b hy1
          cases b <;> cases want <;> simp only [put_eq] at h
          · exact .inl ⟨by simp [Region.wanted, hgd, hyb], _, _, ht, h⟩
          · exact .inr ⟨by simp [Region.wanted, hgd, hyb], _, _, ht, h⟩
          · exact .inr ⟨by simp [Region.wanted, hgd, hyb], _, _, ht, h⟩
          · exact .inl ⟨by simp [Region.wanted, hgd, hyb], _, _, ht, h⟩
        · rename_i hb
          obtain ⟨y, hy1, hy2⟩ := hget u _ (hnth t u _ hb (by simp))
          obtain ⟨ys, rfl, hys⟩ := hy2
          rw [put_eq] at h
          exact .inr ⟨by simp [Region.wanted, hgd, yielded, hu, hy1], t, _, ht, h⟩
        · exact h.elim
      · split at h
        · rename_i b hb
          obtain ⟨y, hy1, hy2⟩ := hget u _ (hnth t u _ hb (by simp))
          obtain ⟨rfl, -⟩ := hy2
          have hyb := hy b hy1
          have hset : ∀ c, c = b → rels (SV.rel ρ) (t.set u (.c (.v (.bool c)))) a.tmps.toList := by
            intro c hc
            subst hc
            have hl : u < a.tmps.size := (Array.getElem?_eq_some_iff.1 hy1).1
            have hs := rels_set u ht (x := .c (.v (.bool c))) (y := .bool c) (show (SV.c (.v (.bool c))).rel ρ (.bool c) from ⟨rfl, rfl⟩)
            have he : a.tmps.toList.set u (.bool c) = a.tmps.toList := by
              apply List.ext_getElem?
              intro i
              by_cases hi : u = i
              · subst hi; rw [List.getElem?_set_self (by simpa using hl)]; simpa using hy1.symm
              · rw [List.getElem?_set_ne hi]
            rwa [he] at hs
          unfold split at h
          cases b with
          | true =>
            have h1 := h.1 rfl
            simp only [setK_eq] at h1
            cases want with
            | true => exact .inl ⟨by simp [Region.wanted, hgd, hyb], _, _, hset true rfl, h1⟩
            | false =>
              rw [put_eq] at h1
              exact .inr ⟨by simp [Region.wanted, hgd, hyb], _, _, hset true rfl, h1⟩
          | false =>
            have h1 := h.2 rfl
            simp only [setK_eq] at h1
            cases want with
            | false => exact .inl ⟨by simp [Region.wanted, hgd, hyb], _, _, hset false rfl, h1⟩
            | true =>
              rw [put_eq] at h1
              exact .inr ⟨by simp [Region.wanted, hgd, hyb], _, _, hset false rfl, h1⟩
        · rename_i hb
          obtain ⟨y, hy1, hy2⟩ := hget u _ (hnth t u _ hb (by simp))
          obtain ⟨ys, rfl, hys⟩ := hy2
          rw [put_eq] at h
          exact .inr ⟨by simp [Region.wanted, hgd, yielded, hu, hy1], t, _, ht, h⟩
        · exact h.elim
    · exact h.elim

theorem vcOps_sound (hA : Agrees P tt) {ops : Array Oper} {Q : Exit → Act → World → Prop} (hQ : ∀ ρ t r S a w, Gam w0 B ρ t r S a w → K t r S → Q .normal a w) :
    ∀ (l : List Oper) (kn : List Nat) (ρ : List Value) (t : List SV) (r : List Res) (S : Store) (a : Act) (w : World), Gam w0 B ρ t r S a w → vcOps P tt ops K l kn t r S → wpList P ops Q l a w
  | [], _, ρ, t, r, S, a, w, hg, h => hQ ρ t r S a w hg h
  | o :: rest, kn, ρ, t, r, S, a, w, hg, h => by
    simp only [vcOps] at h
    unfold wpList
    rcases vcGuard_sound hg.tmps h with ⟨hw, t', kn', ht', h⟩ | ⟨hw, t', kn', ht', h⟩
    · rw [if_pos hw]
      refine .inl (Oper.wp_mono ?_ (vcOp_sound hA ⟨ht', hg.defers, hg.st⟩ (fun _ => True) (fun _ => trivial) h Q))
      rintro a' w' ⟨ρ', t'', r', S', hg', _, hK⟩
      exact vcOps_sound hA hQ rest _ ρ' t'' r' S' a' w' hg' hK
    · rw [if_neg (by simp [hw])]
      exact vcOps_sound hA hQ rest _ ρ _ r S _ w ⟨rels_put ht' undef_rel, defers_put hg.defers, hg.st⟩ h

/-! ### A region that draws its order -/

/-- Whatever order is picked from here on; 'Z' holds of every world on the way, and may be made stricter; so does 'Y', while nothing that is there is written. -/
def Draws (P : Program) (tt : Nat → Option TI) (ops : Array Oper) (F : List Nat) (Q : Exit → Act → World → Prop) : Nat → Array Bool → (World → Prop) → (World → Prop) → Act → World → Prop
  | 0, listed, _, _, a, w => Region.ready .any ops listed = [] ∧ Q .normal a w
  | n + 1, listed, Z, Y, a, w => (Region.ready .any ops listed = [] → Q .normal a w) ∧
    ∀ i ∈ Region.ready .any ops listed, wpOp P ops Q i (fun a' w' => ∃ Z' Y' : World → Prop, (∀ x, Z' x → Z x) ∧ Z' w' ∧ (softAt tt ops F i = true → ∀ x, Y' x → Y x) ∧ Y' w' ∧ Draws P tt ops F Q n (listed.setIfInBounds i true) Z' Y' a' w') a w

theorem any_of_draws {ops : Array Oper} {F : List Nat} {Q : Exit → Act → World → Prop} : ∀ (n : Nat) (listed : Array Bool) (Z Y : World → Prop) (a : Act) (w : World), Draws P tt ops F Q n listed Z Y a w → wpAny P .any ops Q n listed a w
  | 0, _, _, _, _, _, h => h
  | n + 1, _, _, _, _, _, h => ⟨h.1, fun i hi => wpOp_mono (fun a' w' ⟨Z', Y', _, _, _, _, h'⟩ => any_of_draws n _ Z' Y' a' w' h') (h.2 i hi)⟩

theorem YieldsIf.strict {ops : Array Oper} {Z Z' : World → Prop} (hZ : ∀ x, Z' x → Z x) {o : Oper} {v : Value} (h : YieldsIf P ops Z o v a) : YieldsIf P ops Z' o v a :=
  h.imp (fun ⟨h1, h2⟩ => ⟨h1, fun w hw => h2 w (hZ w hw)⟩) id

theorem draws_first {ops : Array Oper} {F : List Nat} {Q : Exit → Act → World → Prop} {i : Nat} {oi : Oper} {v : Value} (hi : ops[i]? = some oi) (hsel : ∀ (j : Nat) (o : Oper) cs b, ops[j]? = some o → o.op ≠ .select cs b)
    (hQ : ∀ c a w, Q (.panic c) (a.put oi.dst v) w → Q (.panic c) a w) :
    ∀ (fuel : Nat) (listed : Array Bool) (Z Y : World → Prop) (a : Act) (w : World),
      (∀ j oj, ops[j]? = some oj → j ≠ i → listed.getD j true = false → (∀ e ∈ oj.after, Region.binds .any e = true → e.on ≠ i) → oi.apart ops oj = true) →
      i ∈ Region.ready .any ops listed → YieldsIf P ops Z oi v a → Z w → Y w →
      Draws P tt ops F Q fuel (listed.setIfInBounds i true) Z Y (a.put oi.dst v) w → Draws P tt ops F Q (fuel + 1) listed Z Y a w := by
  intro fuel
  induction fuel with
  | zero =>
    intro listed Z Y a w _ hr hy hS hYw H
    refine ⟨fun h => (by rw [h] at hr; cases hr), fun j hj => ?_⟩
    by_cases hji : j = i
    · subst hji; exact hy.wpOp hi hS ⟨Z, Y, fun _ h => h, hS, fun _ _ h => h, hYw, H⟩
    · have := ready_mono hj hji
      rw [H.1] at this
      cases this
  | succ fuel ih =>
    intro listed Z Y a w hfree hr hy hS hYw H
    refine ⟨fun h => (by rw [h] at hr; cases hr), fun j hj => ?_⟩
    by_cases hji : j = i
    · subst hji; exact hy.wpOp hi hS ⟨Z, Y, fun _ h => h, hS, fun _ _ h => h, hYw, H⟩
    · have h1 := H.2 j (ready_mono hj hji)
      obtain ⟨hjun, oj, hoj, hall⟩ := mem_ready.1 hj
      have hnot : ∀ e ∈ oj.after, Region.binds .any e = true → e.on ≠ i := fun e he hb heq => by
        have h1 := hall e he hb
        have h0 := (mem_ready.1 hr).1
        rw [heq] at h1
        rcases Nat.lt_or_ge i listed.size with h' | h'
        · simp [h'] at h0 h1; rw [h0] at h1; cases h1
        · simp [Array.getElem?_eq_none h'] at h1
      have h2 := wpOp_putIf hoj (hfree j oj hoj hji hjun hnot) (fun cs b => hsel i oi cs b hi) (fun cs b => hsel j oj cs b hoj) hQ hy h1
      have hfree' : ∀ k ok, ops[k]? = some ok → k ≠ i → (listed.setIfInBounds j true).getD k true = false →
          (∀ e ∈ ok.after, Region.binds .any e = true → e.on ≠ i) → oi.apart ops ok = true := fun k ok hk hki hun hno => by
        refine hfree k ok hk hki ?_ hno
        by_cases hjk : j = k
        · subst hjk; exact hjun
        · rw [getD_set_ne true hjk] at hun; exact hun
      refine wpOp_mono ?_ h2
      rintro a' w' ⟨hy', Z', Y', hZ', hw', hY', hYw', hD⟩
      refine ⟨Z', Y', hZ', hw', hY', hYw', ih (listed.setIfInBounds j true) Z' Y' a' w' hfree' (ready_mono hr (Ne.symm hji)) (YieldsIf.strict hZ' hy') hw' hYw' ?_⟩
      rw [Array.setIfInBounds_comm _ _ hji]
      exact hD

/-- The same for an operation ahead of which nothing that is there is written. -/
theorem draws_calm {ops : Array Oper} {F : List Nat} {Q : Exit → Act → World → Prop} {i : Nat} {oi : Oper} {v : Value} {D : List Nat} (hi : ops[i]? = some oi) (hsel : ∀ (j : Nat) (o : Oper) cs b, ops[j]? = some o → o.op ≠ .select cs b)
    (hQ : ∀ c a w, Q (.panic c) (a.put oi.dst v) w → Q (.panic c) a w)
    (hD : ∀ d ∈ D, d ≠ i → ∃ o, ops[d]? = some o ∧ ∃ e ∈ o.after, Region.binds .any e = true ∧ e.on ∈ D) :
    ∀ (fuel : Nat) (listed : Array Bool) (Z Y : World → Prop) (a : Act) (w : World),
      (∀ j oj, ops[j]? = some oj → j ≠ i → listed.getD j true = false → (∀ e ∈ oj.after, Region.binds .any e = true → e.on ≠ i) → oi.apart ops oj = true) →
      (∀ d ∈ D, listed.getD d true = false) → (∀ j, listed.getD j true = false → j ∉ D → softAt tt ops F j = true) →
      i ∈ Region.ready .any ops listed → YieldsIf P ops Y oi v a → Z w → Y w →
      Draws P tt ops F Q fuel (listed.setIfInBounds i true) Z Y (a.put oi.dst v) w → Draws P tt ops F Q (fuel + 1) listed Z Y a w := by
  intro fuel
  induction fuel with
  | zero =>
    intro listed Z Y a w _ _ _ hr hy hS hYw H
    refine ⟨fun h => (by rw [h] at hr; cases hr), fun j hj => ?_⟩
    by_cases hji : j = i
    · subst hji; exact hy.wpOp hi hYw ⟨Z, Y, fun _ h => h, hS, fun _ _ h => h, hYw, H⟩
    · have := ready_mono hj hji
      rw [H.1] at this
      cases this
  | succ fuel ih =>
    intro listed Z Y a w hfree hDl hsoft hr hy hS hYw H
    refine ⟨fun h => (by rw [h] at hr; cases hr), fun j hj => ?_⟩
    by_cases hji : j = i
    · subst hji; exact hy.wpOp hi hYw ⟨Z, Y, fun _ h => h, hS, fun _ _ h => h, hYw, H⟩
    · have h1 := H.2 j (ready_mono hj hji)
      obtain ⟨hjun, oj, hoj, hall⟩ := mem_ready.1 hj
      have hun : ∀ k, listed.getD k true = false → listed[k]? ≠ some true := fun k hk e => by
        rcases Nat.lt_or_ge k listed.size with h' | h'
        · simp [h'] at hk e; rw [hk] at e; cases e
        · simp [Array.getElem?_eq_none h'] at e
      have hnot : ∀ e ∈ oj.after, Region.binds .any e = true → e.on ≠ i := fun e he hb heq => by
        have h1 := hall e he hb
        have h0 := (mem_ready.1 hr).1
        rw [heq] at h1
        rcases Nat.lt_or_ge i listed.size with h' | h'
        · simp [h'] at h0 h1; rw [h0] at h1; cases h1
        · simp [Array.getElem?_eq_none h'] at h1
      have hjD : j ∉ D := fun hjd => by
        obtain ⟨o, ho, e, he, hb, hon⟩ := hD j hjd hji
        rw [hoj] at ho
        simp only [Option.some.injEq] at ho
        subst ho
        have h1 := hall e he hb
        have h0 := hDl _ hon
        rcases Nat.lt_or_ge e.on listed.size with h' | h'
        · simp [h'] at h0 h1; rw [h0] at h1; cases h1
        · simp [Array.getElem?_eq_none h'] at h1
      have hjs : softAt tt ops F j = true := hsoft j hjun hjD
      have h2 := wpOp_putIf hoj (hfree j oj hoj hji hjun hnot) (fun cs b => hsel i oi cs b hi) (fun cs b => hsel j oj cs b hoj) hQ hy h1
      have hback : ∀ k, (listed.setIfInBounds j true).getD k true = false → listed.getD k true = false := fun k hk => by
        by_cases hjk : j = k
        · subst hjk; exact hjun
        · rw [getD_set_ne true hjk] at hk; exact hk
      have hfree' : ∀ k ok, ops[k]? = some ok → k ≠ i → (listed.setIfInBounds j true).getD k true = false →
          (∀ e ∈ ok.after, Region.binds .any e = true → e.on ≠ i) → oi.apart ops ok = true := fun k ok hk hki hun hno => hfree k ok hk hki (hback k hun) hno
      refine wpOp_mono ?_ h2
      rintro a' w' ⟨hy', Z', Y', hZ', hw', hY', hYw', hDr⟩
      refine ⟨Z', Y', hZ', hw', hY', hYw', ih (listed.setIfInBounds j true) Z' Y' a' w' hfree' (fun d hd => ?_) (fun k hk hkD => hsoft k (hback k hk) hkD) (ready_mono hr (Ne.symm hji)) (YieldsIf.strict (hY' hjs) hy') hw' hYw' ?_⟩
      · rw [getD_set_ne true (fun e : j = d => hjD (by rw [e]; exact hd))]; exact hDl d hd
      · rw [Array.setIfInBounds_comm _ _ hji]
        exact hDr

theorem Went.weak {W W' : Nat → Prop} {ρ' : List Value} {r' : List Res} (hW : ∀ j, W j → W' j) (h : Went W ρ r S w ρ' r' S' w') : Went W' ρ r S w ρ' r' S' w' :=
  ⟨h.store, fun i g hi => h.handle i g fun e => hi (hW i e), fun i x hi => h.alive i x fun e => hi (hW i e), fun i x g b hi => h.keep i x g b fun e => hi (hW i e)⟩

theorem soft_sound (hA : Agrees P tt) (hg : Gam w0 B ρ t r S a w) {o : Oper} (W : Nat → Prop) (hq : quietOp o.op = false) (hs : softOp tt o.op = true) (h : vcE P tt ok t r S o.dst o.op K) : OpOk P w0 B W ρ r S a w o K := by
  obtain ⟨dst, op, type, pos, after, guard⟩ := o
  simp only at hq
  simp only [softOp, hq, Bool.false_or] at hs
  split at hs
  · exact ok_alloc hA hg rfl W h
  · exact ok_box hg rfl W h
  · exact ok_makeMap hg rfl W h
  · rename_i ty n parts
    simp only [Bool.and_eq_true, Bool.not_eq_true'] at hs
    simp only [vcE, hs.1, hs.2] at h
    exact ok_buildSlice hA hg rfl W h
  · exact ok_makeSlice hA hg rfl W h
  · cases hs

/-- The resources that the region writes, left out. -/
def hideL (W : List Nat) : List Res → Nat → List Res
  | [], _ => []
  | x :: xs, n => (if W.contains n = true then .gone else x) :: hideL W xs (n + 1)

theorem hideK_eq (W : List Nat) : ∀ (l : List Res) (n : Nat) (k : List Res → Prop), hideK W l n k = k (hideL W l n)
  | [], _, _ => rfl
  | x :: xs, n, k => by
    simp only [hideK, hideL]
    split <;> exact hideK_eq W xs (n + 1) _

theorem hideL_get (W : List Nat) : ∀ (l : List Res) (n i : Nat) (x : Res), (hideL W l n)[i]? = some x → x.alive = true → l[i]? = some x ∧ W.contains (n + i) = false
  | [], _, _, _, h, _ => by simp [hideL] at h
  | y :: ys, n, 0, x, h, ha => by
    simp only [hideL, List.getElem?_cons_zero, Option.some.injEq] at h
    split at h
    · subst h; cases ha
    · rename_i hw; subst h; exact ⟨rfl, by simpa using hw⟩
  | y :: ys, n, i + 1, x, h, ha => by
    simp only [hideL, List.getElem?_cons_succ] at h
    obtain ⟨h1, h2⟩ := hideL_get W ys (n + 1) i x h ha
    exact ⟨by simpa using h1, by rw [← h2]; congr 1; omega⟩

theorem hideL_length (W : List Nat) : ∀ (l : List Res) (n : Nat), (hideL W l n).length = l.length
  | [], _ => rfl
  | _ :: ys, n => by simp [hideL, hideL_length W ys (n + 1)]

theorem sees_hide (hs : Stab w0 B ρ r S w) (W : List Nat) : Sees ρ (hideL W r 0) S w := by
  refine ⟨fun i x hx => ?_, hs.sub⟩
  have hil : i < r.length := by have := (List.getElem?_eq_some_iff.1 hx).1; rwa [hideL_length] at this
  obtain ⟨h, hh, hxh⟩ := hs.res i r[i] (List.getElem?_eq_getElem hil)
  refine ⟨h, hh, ?_⟩
  cases hxa : x.alive with
  | false => cases x <;> first | trivial | cases hxa
  | true =>
    have := (hideL_get W r 0 i x hx hxa).1
    rw [List.getElem?_eq_getElem hil] at this
    simp only [Option.some.injEq] at this
    rw [← this]; exact hxh

theorem wr_of_ok {W : List Nat} {op : Op} (h : wrOk W t op = true) : ∀ j, Wr t op j → W.contains j = true := by
  intro j hj
  unfold Wr at hj
  split at hj
  · obtain ⟨i, o, k, sz, hev, rfl⟩ := hj
    rcases hev with hev | hev <;> simpa [wrOk, hev] using h
  · obtain ⟨i, hev, rfl⟩ := hj
    simpa [wrOk, hev] using h
  · obtain ⟨i, hev, rfl⟩ := hj
    simpa [wrOk, hev] using h
  · obtain ⟨s, x, i, hargs, hev, rfl⟩ := hj
    simpa [wrOk, hargs, hev] using h
  · obtain ⟨i, o, hev, rfl⟩ := hj
    simpa [wrOk, hev] using h
  · exact hj.elim

theorem hide_get (W : List Nat) : ∀ (l : List Res) (n k : Nat) (y : Res), l[k]? = some y → W.contains (n + k) = false → (hideL W l n)[k]? = some y
  | [], _, _, _, h, _ => by simp at h
  | z :: zs, n, k, y, h, hc => by
    cases k with
    | zero =>
      have hc' : W.contains n = false := by simpa using hc
      simp only [List.getElem?_cons_zero, Option.some.injEq] at h
      subst h
      simp [hideL]
      intro hh
      rw [List.contains_iff_mem.2 hh] at hc'
      cases hc'
    | succ k =>
      simp only [hideL, List.getElem?_cons_succ]
      exact hide_get W zs (n + 1) k y (by simpa using h) (by rw [← hc]; congr 1; omega)

theorem near_went {W : Nat → Prop} {U : List Nat} {ρ' : List Value} {r' : List Res} (h : Went W ρ r S w ρ' r' S' w') (hU : ∀ k, W k → U.contains k = true) : ∀ x, Near ρ' (hideL U r' 0) S' w' x → Near ρ (hideL U r 0) S w x := by
  intro x hx
  refine ⟨?_, Store.le_trans h.store hx.sub⟩
  intro k y g b hy hya hh hb
  obtain ⟨h1, h2⟩ := hideL_get U r 0 k y hy hya
  have hkW : ¬ W k := by rw [Nat.zero_add] at h2; intro e; rw [hU k e] at h2; cases h2
  rw [← h.keep k y g b hkW h1 hya hh hb]
  obtain ⟨y', h4, hya', hyf'⟩ := h.alive k y hkW h1 hya
  exact hx.same k y' g b (hide_get U r' 0 k y' h4 h2) hya' (h.handle k g hkW hh) ((hyf' g b).1 hb)

theorem hideL_nil : ∀ (l : List Res) (n : Nat), hideL [] l n = l
  | [], _ => rfl
  | x :: xs, n => by simp [hideL, hideL_nil xs]

/-- One operation that takes its place among those that act on memory. -/
theorem placed_step (hA : Agrees P tt) {ops : Array Oper} {Q : Exit → Act → World → Prop} {W F : List Nat} {i : Nat} {rest : Ord} {n : Nat} {listed : Array Bool} {kn : List Nat}
    (ih : ∀ (kn : List Nat) (ρ : List Value) (t : List SV) (r : List Res) (S : Store) (a : Act) (w : World), Gam w0 B ρ t r S a w → vcOrd P tt ops W F K rest kn t r S → Draws P tt ops F Q n (listed.setIfInBounds i true) (Near ρ (hideL W r 0) S w) (Near ρ r S w) a w)
    (hp : placed ops F i = true) (hg : Gam w0 B ρ t r S a w) (h : match ops[i]? with
      | none => False
      | some o => vcGuard ops o kn (fun kn => vcOpD P tt W F i o (vcOrd P tt ops W F K rest kn)) (vcOrd P tt ops W F K rest) t r S) :
    wpOp P ops Q i (fun a' w' => ∃ Z' Y' : World → Prop, (∀ x, Z' x → Near ρ (hideL W r 0) S w x) ∧ Z' w' ∧ (softAt tt ops F i = true → ∀ x, Y' x → Near ρ r S w x) ∧ Y' w' ∧ Draws P tt ops F Q n (listed.setIfInBounds i true) Z' Y' a' w') a w := by
  cases hi : ops[i]? with
  | none => simp [hi] at h
  | some o =>
    simp only [hi] at h
    simp only [placed, hi, Bool.not_eq_true'] at hp
    have hnear : Near ρ (hideL W r 0) S w w := ⟨fun _ _ _ _ _ _ _ _ => rfl, hg.st.sub⟩
    have hself : ∀ {ρ : List Value} {r : List Res} {S : Store} {w : World}, S.le (Store.of w) → Near ρ r S w w := fun h => ⟨fun _ _ _ _ _ _ _ _ => rfl, h⟩
    rcases vcGuard_sound hg.tmps h with ⟨hw, t', kn', ht', h⟩ | ⟨hw, t', kn', ht', h⟩
    · have common : ∀ (W' : Nat → Prop), (∀ k, W' k → W.contains k = true) → (softAt tt ops F i = true → ∀ k, ¬ W' k) → OpOk P w0 B W' ρ r S a w o (vcOrd P tt ops W F K rest kn') →
          wpOp P ops Q i (fun a' w' => ∃ Z' Y' : World → Prop, (∀ x, Z' x → Near ρ (hideL W r 0) S w x) ∧ Z' w' ∧ (softAt tt ops F i = true → ∀ x, Y' x → Near ρ r S w x) ∧ Y' w' ∧ Draws P tt ops F Q n (listed.setIfInBounds i true) Z' Y' a' w') a w := by
        intro W' hW1 hW2 hE
        unfold wpOp
        simp only [hi, hw, if_true]
        refine .inl (Oper.wp_mono ?_ (hE Q))
        rintro a' w' ⟨ρ', t'', r', S', hg', hwent, hK⟩
        refine ⟨Near ρ' (hideL W r' 0) S' w', Near ρ' r' S' w', near_went hwent hW1, hself hg'.st.sub, fun hsf x hx => ?_, hself hg'.st.sub, ih _ ρ' t'' r' S' a' w' hg' hK⟩
        have := near_went (U := []) hwent (fun k hk => absurd hk (hW2 hsf k)) x
        rw [hideL_nil, hideL_nil] at this
        exact this hx
      unfold vcOpD at h
      cases hq : quietOp o.op with
      | true =>
        cases hF : isIn i F with
        | false => rw [hq, hF] at hp; cases hp
        | true =>
          simp only [hq, hF] at h
          obtain ⟨sv, v, h1, h2, h3⟩ := vcQ_sound hA hg.st.sees ht' h
          rw [put_eq] at h2
          exact common (fun _ => False) (fun _ h => h.elim) (fun _ _ h => h) (ok_quiet ⟨ht', hg.defers, hg.st⟩ h1 (h3 w (near_self hg.st) o rfl) h2 _)
      | false =>
        simp only [hq] at h
        split at h
        · rename_i hwr
          cases hsf : softOp tt o.op with
          | true => exact common (fun _ => False) (fun _ h => h.elim) (fun _ _ h => h) (soft_sound hA (o := o) (ok := match softCall F i o.op with | true => fun _ => false | false => W.contains) ⟨ht', hg.defers, hg.st⟩ _ hq hsf h)
          | false =>
            cases hsc : softCall F i o.op with
            | false =>
              simp only [hsc] at h
              exact common (fun j => W.contains j = true) (fun _ h => h) (fun hh => by simp [softAt, hi, hsf, hsc] at hh) (vcE_sound hA (o := o) ⟨ht', hg.defers, hg.st⟩ (fun j => W.contains j = true) (wr_of_ok hwr) (fun _ hj => hj) h)
            | true =>
              simp only [hsc] at h
              refine common (fun _ => False) (fun _ h => h.elim) (fun _ _ h => h) (vcE_sound hA (o := o) ⟨ht', hg.defers, hg.st⟩ (fun _ => False) (fun j hj => ?_) (fun j hj => by cases hj) h)
              unfold softCall at hsc
              split at hsc
              · rename_i hop; rw [hop] at hj; exact hj
              · cases hsc
        · exact h.elim
    · have hg' : Gam w0 B ρ (putL t' o.dst (.tup [])) r S (a.put o.dst undef) w := ⟨rels_put ht' undef_rel, defers_put hg.defers, hg.st⟩
      unfold wpOp
      simp only [hi, hw, Bool.false_eq_true, if_false]
      exact ⟨_, _, fun _ h => h, hnear, fun _ _ h => h, hself hg.st.sub, ih _ ρ _ r S _ w hg' h⟩

theorem vcOrd_sound (hA : Agrees P tt) {ops : Array Oper} {Q : Exit → Act → World → Prop} (hQ : ∀ ρ t r S a w, Gam w0 B ρ t r S a w → K t r S → Q .normal a w) (hQp : ∀ c a w, ¬ Q (.panic c) a w) (hsel : Region.noSelect ops = true) (W F : List Nat) (ord : Ord) :
    (∀ (n : Nat) (kn : List Nat) (listed : Array Bool) (ρ : List Value) (t : List SV) (r : List Res) (S : Store) (a : Act) (w : World), drawOk tt ops F ord false n listed = true → Gam w0 B ρ t r S a w → vcOrd P tt ops W F K ord kn t r S →
      Draws P tt ops F Q n listed (Near ρ (hideL W r 0) S w) (Near ρ r S w) a w) ∧
    (∀ (n : Nat) (kn : List Nat) (listed : Array Bool) (ρ : List Value) (t : List SV) (r : List Res) (S : Store) (a : Act) (w : World), drawOk tt ops F ord true (n + 1) listed = true → Gam w0 B ρ t r S a w → vcOrd P tt ops W F K ord kn t r S →
      ∀ j ∈ ord.heads, wpOp P ops Q j (fun a' w' => ∃ Z' Y' : World → Prop, (∀ x, Z' x → Near ρ (hideL W r 0) S w x) ∧ Z' w' ∧ (softAt tt ops F j = true → ∀ x, Y' x → Near ρ r S w x) ∧ Y' w' ∧ Draws P tt ops F Q n (listed.setIfInBounds j true) Z' Y' a' w') a w) := by
  induction ord with
  | done =>
    refine ⟨fun n kn listed ρ t r S a w hok hg h => ?_, fun n kn listed ρ t r S a w _ _ _ j hj => by simp [Ord.heads] at hj⟩
    simp only [drawOk, Bool.not_false, Bool.true_and, Bool.and_eq_true, beq_iff_eq] at hok
    obtain ⟨rfl, hok⟩ := hok
    exact ⟨by simpa using hok, hQ ρ t r S a w hg h⟩
  | stop => exact ⟨fun n kn listed ρ t r S a w hok _ _ => by simp [drawOk] at hok, fun n kn listed ρ t r S a w _ _ _ j hj => by simp [Ord.heads] at hj⟩
  | op i rest ih =>
    refine ⟨fun n kn listed ρ t r S a w hok hg h => ?_, fun n kn listed ρ t r S a w _ _ _ j hj => by simp [Ord.heads] at hj⟩
    cases n with
    | zero => simp [drawOk] at hok
    | succ n =>
    simp only [drawOk, Bool.not_false, Bool.true_and, Bool.and_eq_true] at hok
    obtain ⟨hok1, hok2⟩ := hok
    have hnear : Near ρ (hideL W r 0) S w w := ⟨fun _ _ _ _ _ _ _ _ => rfl, hg.st.sub⟩
    have hself : Near ρ r S w w := ⟨fun _ _ _ _ _ _ _ _ => rfl, hg.st.sub⟩
    cases hi : ops[i]? with
    | none => simp [hi] at hok1
    | some o =>
      simp only [hi] at hok1
      cases hq : (quietOp o.op && !(isIn i F)) with
      | true =>
        simp only [hq, Bool.and_eq_true] at hok1
        simp only [vcOrd, hi] at h
        rcases vcGuard_sound hg.tmps h with ⟨hw, t', kn', ht', h⟩ | ⟨hw, t', kn', ht', h⟩
        · unfold vcOpD at h
          simp only [Bool.and_eq_true, Bool.not_eq_true'] at hq
          simp only [hq.1, hq.2, hideK_eq] at h
          obtain ⟨sv, v, h1, h2, h3⟩ := vcQ_sound hA (sees_hide hg.st W) ht' h
          rw [put_eq] at h2
          have hg' : Gam w0 B ρ (putL t' o.dst sv) r S (a.put o.dst v) w := ⟨rels_put ht' h1, defers_put hg.defers, hg.st⟩
          exact draws_first hi (Region.noSelect_spec hsel) (fun c a w hp => absurd hp (hQp c _ w)) n listed _ _ a w (Region.free_spec hi hok1.2) (by simpa using hok1.1) (.inl ⟨hw, fun w' hn => h3 w' hn o rfl⟩) hnear hself (ih.1 n _ _ ρ _ r S _ w hok2 hg' h2)
        · have hg' : Gam w0 B ρ (putL t' o.dst (.tup [])) r S (a.put o.dst undef) w := ⟨rels_put ht' undef_rel, defers_put hg.defers, hg.st⟩
          exact draws_first hi (Region.noSelect_spec hsel) (fun c a w hp => absurd hp (hQp c _ w)) n listed _ _ a w (Region.free_spec hi hok1.2) (by simpa using hok1.1) (.inr ⟨hw, rfl⟩) hnear hself (ih.1 n _ _ ρ _ r S _ w hok2 hg' h)
      | false =>
        simp only [hq, decide_eq_true_eq] at hok1
        refine ⟨fun h0 => (by rw [hok1] at h0; cases h0), ?_⟩
        rw [hok1]
        intro j hj
        simp only [List.mem_singleton] at hj
        subst hj
        exact placed_step hA (fun kn ρ t r S a w hg h => ih.1 n kn _ ρ t r S a w hok2 hg h) (by simp [placed, hi, hq]) hg h
  | calm i D rest ih =>
    refine ⟨fun n kn listed ρ t r S a w hok hg h => ?_, fun n kn listed ρ t r S a w _ _ _ j hj => by simp [Ord.heads] at hj⟩
    cases n with
    | zero => simp [drawOk] at hok
    | succ n =>
    simp only [drawOk, Bool.not_false, Bool.true_and, Bool.and_eq_true] at hok
    obtain ⟨hok1, hok2⟩ := hok
    have hnear : Near ρ (hideL W r 0) S w w := ⟨fun _ _ _ _ _ _ _ _ => rfl, hg.st.sub⟩
    have hself : Near ρ r S w w := ⟨fun _ _ _ _ _ _ _ _ => rfl, hg.st.sub⟩
    cases hi : ops[i]? with
    | none => simp [hi] at hok1
    | some o =>
      simp only [hi, Bool.and_eq_true] at hok1
      obtain ⟨⟨⟨hq, hrd⟩, hfr⟩, hcalm⟩ := hok1
      simp only [calmOk, Bool.and_eq_true, List.all_eq_true, List.mem_range] at hcalm
      obtain ⟨⟨hiD, hDa⟩, hsf⟩ := hcalm
      have hDl : ∀ d ∈ D, listed.getD d true = false := fun d hd => by have := (hDa d hd).1; simpa using this
      have hDc : ∀ d ∈ D, d ≠ i → ∃ o, ops[d]? = some o ∧ ∃ e ∈ o.after, Region.binds .any e = true ∧ e.on ∈ D := by
        intro d hd hdi
        have := (hDa d hd).2
        rw [Bool.or_eq_true] at this
        rcases this with h | h
        · exact absurd (by simpa using h) hdi
        · cases ho : ops[d]? with
          | none => simp [ho] at h
          | some o' =>
            simp only [ho, Array.any_eq_true'] at h
            obtain ⟨e, he, h⟩ := h
            simp only [Bool.and_eq_true, List.contains_iff_mem] at h
            exact ⟨o', rfl, e, he, h.1, h.2⟩
      have hsoft : ∀ j, listed.getD j true = false → j ∉ D → softAt tt ops F j = true := by
        intro j hj hjD
        rcases Nat.lt_or_ge j ops.size with hlt | hge
        · have := hsf j hlt
          rw [Bool.or_eq_true, Bool.or_eq_true] at this
          rcases this with (h | h) | h
          · rw [hj] at h; cases h
          · exact absurd (List.contains_iff_mem.1 h) hjD
          · exact h
        · simp [softAt, Array.getElem?_eq_none hge]
      simp only [vcOrd, hi] at h
      rcases vcGuard_sound hg.tmps h with ⟨hw, t', kn', ht', h⟩ | ⟨hw, t', kn', ht', h⟩
      · obtain ⟨sv, v, h1, h2, h3⟩ := vcQ_sound hA hg.st.sees ht' h
        rw [put_eq] at h2
        have hg' : Gam w0 B ρ (putL t' o.dst sv) r S (a.put o.dst v) w := ⟨rels_put ht' h1, defers_put hg.defers, hg.st⟩
        exact draws_calm hi (Region.noSelect_spec hsel) (fun c a w hp => absurd hp (hQp c _ w)) hDc n listed _ _ a w (Region.free_spec hi hfr) hDl hsoft (by simpa using hrd) (.inl ⟨hw, fun w' hn => h3 w' hn o rfl⟩) hnear hself (ih.1 n _ _ ρ _ r S _ w hok2 hg' h2)
      · have hg' : Gam w0 B ρ (putL t' o.dst (.tup [])) r S (a.put o.dst undef) w := ⟨rels_put ht' undef_rel, defers_put hg.defers, hg.st⟩
        exact draws_calm hi (Region.noSelect_spec hsel) (fun c a w hp => absurd hp (hQp c _ w)) hDc n listed _ _ a w (Region.free_spec hi hfr) hDl hsoft (by simpa using hrd) (.inr ⟨hw, rfl⟩) hnear hself (ih.1 n _ _ ρ _ r S _ w hok2 hg' h)
  | alt i rest other ih1 ih2 =>
    have key : ∀ (b : Bool) (n : Nat) (kn : List Nat) (listed : Array Bool) (ρ : List Value) (t : List SV) (r : List Res) (S : Store) (a : Act) (w : World), drawOk tt ops F (.alt i rest other) b (n + 1) listed = true → Gam w0 B ρ t r S a w → vcOrd P tt ops W F K (.alt i rest other) kn t r S →
        ∀ j ∈ Ord.heads (.alt i rest other), wpOp P ops Q j (fun a' w' => ∃ Z' Y' : World → Prop, (∀ x, Z' x → Near ρ (hideL W r 0) S w x) ∧ Z' w' ∧ (softAt tt ops F j = true → ∀ x, Y' x → Near ρ r S w x) ∧ Y' w' ∧ Draws P tt ops F Q n (listed.setIfInBounds j true) Z' Y' a' w') a w := by
      intro b n kn listed ρ t r S a w hok hg h j hj
      simp only [drawOk, Bool.and_eq_true] at hok
      obtain ⟨⟨⟨_, hp⟩, hok1⟩, hok2⟩ := hok
      simp only [Ord.heads, List.mem_cons] at hj
      rcases hj with rfl | hj
      · exact placed_step hA (fun kn ρ t r S a w hg h => ih1.1 n kn _ ρ t r S a w hok1 hg h) hp hg h.1
      · exact ih2.2 n kn listed ρ t r S a w hok2 hg h.2 j hj
    refine ⟨fun n kn listed ρ t r S a w hok hg h => ?_, fun n => key true n⟩
    cases n with
    | zero => simp [drawOk] at hok
    | succ n =>
      have hready : Region.ready .any ops listed = i :: other.heads := by
        simp only [drawOk, Bool.false_or, Bool.and_eq_true, decide_eq_true_eq] at hok
        exact hok.1.1.1
      refine ⟨fun h0 => (by rw [hready] at h0; cases h0), ?_⟩
      rw [hready]
      exact key false n kn listed ρ t r S a w hok hg h

theorem Stab.drew (hs : Stab w0 B ρ r S w) : Stab w0 B ρ r S { w with drawn := w.drawn + 1 } :=
  ⟨hs.len, fun i x hx => let ⟨h, h1, h2⟩ := hs.res i x hx; ⟨h, h1, Res.holds_near h2 fun _ _ _ => rfl⟩, hs.disj, hs.own, hs.sub, hs.os, hs.tape, hs.output, hs.size, hs.block, hs.low, hs.pre⟩

theorem vcDraw_sound (hA : Agrees P tt) {ops : Array Oper} {id : Nat} {Q : Exit → Act → World → Prop} (hQ : ∀ ρ t r S a w, Gam w0 B ρ t r S a w → K t r S → Q .normal a w) (hg : Gam w0 B ρ t r S a w) (h : vcDraw P tt ops K t r S) : (Code.region id ops true).wp P Q a w := by
  obtain ⟨ord, W, F, hok, h⟩ := h
  simp only [Bool.and_eq_true] at hok
  obtain ⟨⟨hm, hsel⟩, hok⟩ := hok
  refine wp_mono (Q := fun e a w => match e with
    | .normal => Q .normal a w
    | _ => False) ?_ ?_
  · refine wp_region_any hm (any_of_draws (tt := tt) (F := F) _ _ (Near ρ (hideL W r 0) S { w with drawn := w.drawn + 1 }) (Near ρ r S { w with drawn := w.drawn + 1 }) _ _ ?_)
    exact (vcOrd_sound (Q := fun e a w => match e with
      | .normal => Q .normal a w
      | _ => False) hA (fun ρ t r S a w hg hK => hQ ρ t r S a w hg hK) (fun _ _ _ h => h) hsel W F ord).1 _ [] _ ρ t r S a _ hok ⟨hg.tmps, hg.defers, hg.st.drew⟩ h
  · intro e a w h
    cases e <;> first | exact h | exact h.elim

/-! ### Code -/

/-- What the walk knows at an exit. -/
def Ends (w0 : World) (B : Base) (Q : Exit → SK) (e : Exit) (a : Act) (w : World) : Prop := ∃ ρ t r S, Gam w0 B ρ t r S a w ∧ Q e t r S

theorem junkK_eq : ∀ (ws : List Nat) (l : List SV) (k : List SV → Prop), junkK l ws k = k (junkAll l ws)
  | [], _, _ => rfl
  | w :: ws, l, k => by simp only [junkK, setK_eq, junkAll]; exact junkK_eq ws _ k
theorem updK_eq : ∀ (ws : List (Nat × SV)) (l : List SV) (k : List SV → Prop), updK l ws k = k (updAll l ws)
  | [], _, _ => rfl
  | (w, x) :: ws, l, k => by simp only [updK, setK_eq, updAll]; exact updK_eq ws _ k

theorem leT_rel : ∀ {t u : List SV} {l : List Value}, leT t u → rels (SV.rel ρ) t l → rels (SV.rel ρ) u l
  | [], [], _, _, h => h
  | x :: xs, y :: ys, [], _, h => h.elim
  | x :: xs, y :: ys, z :: zs, ⟨h1, h2⟩, ⟨h3, h4⟩ => by
    refine ⟨?_, leT_rel h2 h4⟩
    unfold leSV at h1
    split at h1
    · trivial
    · rw [← h1]; exact h3
  | [], _ :: _, _, h, _ => h.elim
  | _ :: _, [], _, h, _ => h.elim

theorem Stab.weak (hs : Stab w0 B ρ r S w) (h : S'.le S) : Stab w0 B ρ r S' w := by
  refine ⟨hs.len, hs.res, hs.disj, ?_, Store.le_trans h hs.sub, hs.os, hs.tape, hs.output, hs.size, hs.block, fun b hb hnb => ⟨fun o x hx => (hs.low b hb hnb).1 o x (h.1 b o x hx), fun x hx => (hs.low b hb hnb).2 x (h.2 b x hx)⟩, hs.pre⟩
  intro i x g b hx ha hg hb
  obtain ⟨h1, h2, h3, h4⟩ := hs.own i x g b hx ha hg hb
  refine ⟨h1, h2, fun o => ?_, ?_⟩
  · cases hc : S'.c b o with
    | none => rfl
    | some y => have := h.1 b o y hc; rw [h3 o] at this; cases this
  · cases hc : S'.o b with
    | none => rfl
    | some y => have := h.2 b y hc; rw [h4] at this; cases this

theorem nth_get : ∀ {l : List SV} {i : Nat} {x : SV}, nth l i = x → x ≠ .c .junk → l[i]? = some x
  | [], _, _, h, hx => absurd h.symm hx
  | _ :: _, 0, _, h, _ => by simpa [nth] using h
  | _ :: l, i + 1, _, h, hx => by simpa using nth_get (l := l) (i := i) h hx

theorem matL_sound : ∀ (l : List (Nat × Shape × TypeId)) (K : SK) (ρ : List Value) (t : List SV) (r : List Res) (S : Store), Gam w0 B ρ t r S a w → matL l K t r S → ∃ ρ' t' r' S', Gam w0 B ρ' t' r' S' a w ∧ K t' r' S'
  | [], _, ρ, t, r, S, hg, h => ⟨ρ, t, r, S, hg, h⟩
  | (u, sh, e) :: l, K, ρ, t, r, S, hg, h => by
    simp only [matL] at h
    split at h
    · obtain ⟨t1, r1, S1, hg1, -, -, h1⟩ := nameK_sound (W := fun _ => True) (fun _ _ => trivial) hg h
      exact matL_sound l K ρ t1 r1 S1 hg1 h1
    split at h
    · split at h
      · rename_i cs hn
        split at h
        · rename_i hk
          simp only [lenK_eq, forceL_eq, setR_eq, snocK_eq] at h
          have hi := nthR_some hn (by simp)
          have hst := hg.st.addG (w' := w) (fun _ _ => rfl) (Nat.le_refl _) rfl rfl rfl (.row sh e []) (.slice none 0 0) (fun b hb => by cases hb) ⟨⟨by simp [Shape.encs], .inl ⟨rfl, rfl⟩⟩, by simp⟩
          have hi2 : (r ++ [Res.row sh e []])[(u - 300000) % 1000]? = some (.box cs) := get_app hi
          obtain ⟨g, hgi, b, T, xs, rfl, hb, hrel⟩ := hst.res _ _ hi2
          obtain ⟨z, hz, hzr⟩ := rels_get hrel _ _ hk
          have hz1 : z = .slice none 0 0 := hzr.1
          subst hz1
          have hst2 := hst.write (w' := w) (y := .box (cs.set ((u - 300000) / 1000) (.ref r.length))) hi2 rfl hgi rfl (fun c hc => hc) (fun _ _ => rfl) rfl rfl rfl rfl ⟨b, T, xs, rfl, hb, by
            have h1 := rels_set ((u - 300000) / 1000) hrel (x := C.ref r.length) (y := .slice none 0 0) (show (C.ref r.length).rel (ρ ++ [.slice none 0 0]) (.slice none 0 0) from ⟨by rw [← hg.st.len]; simp, rfl⟩)
            have he : xs.toList.set ((u - 300000) / 1000) (.slice none 0 0) = xs.toList := by
              apply List.ext_getElem?
              intro i
              by_cases hi : (u - 300000) / 1000 = i
              · subst hi; rw [List.getElem?_set_self (List.getElem?_eq_some_iff.1 hz).1, hz]
              · rw [List.getElem?_set_ne hi]
            rw [he] at h1
            exact h1⟩
          rw [List.set_append_left _ _ (List.getElem?_eq_some_iff.1 hi).1] at hst2
          exact matL_sound l K _ _ _ S ⟨rels_app_slots hg.tmps, hg.defers, hst2⟩ h
        · exact h.elim
      · exact h.elim
    split at h
    · exact matL_sound l K ρ t r S hg h
    split at h
    · simp only [snocK_eq] at h
      have hst := hg.st.addG (w' := w) (fun _ _ => rfl) (Nat.le_refl _) rfl rfl rfl (.pool sh e []) .nilFunc (fun b hb => by obtain ⟨p, hp, _⟩ := hb; cases hp) ⟨rfl, by simp, by simp⟩
      exact matL_sound l K _ _ _ S ⟨rels_app_slots hg.tmps, hg.defers, hst⟩ h
    split at h
    · rename_i hn
      simp only [lenK_eq, setK_eq, snocK_eq] at h
      have hx := nth_get hn (by simp)
      obtain ⟨y, hy, hrel⟩ := rels_get hg.tmps u _ hx
      obtain ⟨rfl, -⟩ := hrel
      have hst := hg.st.addG (w' := w) (fun _ _ => rfl) (Nat.le_refl _) rfl rfl rfl (.row sh e []) (.slice none 0 0) (fun b hb => by cases hb) ⟨⟨by simp [Shape.encs], .inl ⟨rfl, rfl⟩⟩, by simp⟩
      refine matL_sound l K _ _ _ S ⟨?_, hg.defers, hst⟩ h
      have h1 := rels_set u (rels_app_slots (l := [.slice none 0 0]) hg.tmps) (x := .c (.ref r.length)) (y := .slice none 0 0) (show (SV.c (.ref r.length)).rel (ρ ++ [.slice none 0 0]) (.slice none 0 0) from ⟨by rw [← hg.st.len]; simp, rfl⟩)
      have he : a.tmps.toList.set u (.slice none 0 0) = a.tmps.toList := by
        apply List.ext_getElem?
        intro i
        by_cases hi : u = i
        · subst hi; rw [List.getElem?_set_self (List.getElem?_eq_some_iff.1 hy).1, hy]
        · rw [List.getElem?_set_ne hi]
      rwa [he] at h1
    · exact h.elim

theorem capsLt_mem {n : Nat} : ∀ {cs : List (Nat ⊕ Value)}, C.lt.capsLt n cs = true → ∀ i, Sum.inl i ∈ cs → i < n
  | [], _, i, hi => by simp at hi
  | .inl j :: cs, h, i, hi => by
    simp only [C.lt.capsLt, Bool.and_eq_true, Nat.blt_eq] at h
    rcases List.mem_cons.1 hi with e | hi
    · cases e; exact h.1
    · exact capsLt_mem h.2 i hi
  | .inr _ :: cs, h, i, hi => by
    simp only [C.lt.capsLt] at h
    rcases List.mem_cons.1 hi with e | hi
    · cases e
    · exact capsLt_mem h i hi

theorem take_get {α : Type} {l : List α} {n i : Nat} {x : α} (hi : i < n) (h : l[i]? = some x) : (l.take n)[i]? = some x := by
  rw [List.getElem?_take, if_pos hi]; exact h

theorem C.rel_take {n : Nat} : ∀ (x : C) (y : Value), x.lt n = true → x.rel ρ y → x.rel (ρ.take n) y
  | .junk, _, _, h => h
  | .v _, _, _, h => h
  | .ptr i _, _, hl, ⟨b, h1, h2⟩ => ⟨b, take_get (by simpa [C.lt] using hl) h1, h2⟩
  | .sl i _ _ _, _, hl, ⟨b, h1, h2⟩ => ⟨b, take_get (by simpa [C.lt] using hl) h1, h2⟩
  | .ref i, _, hl, ⟨h1, h2⟩ => ⟨take_get (by simpa [C.lt] using hl) h1, h2⟩
  | .elt i _ _ _, _, hl, ⟨b, m, c, h1, h2⟩ => ⟨b, m, c, take_get (by simpa [C.lt] using hl) h1, h2⟩
  | .seg i _ _ _, _, hl, ⟨b, m, c, h1, h2⟩ => ⟨b, m, c, take_get (by simpa [C.lt] using hl) h1, h2⟩
  | .clo f cs, _, hl, ⟨ys, h1, h2, h3⟩ => by
    refine ⟨ys, h1, h2, fun j c z hc hz => ?_⟩
    have := h3 j c z hc hz
    cases c with
    | inl i => obtain ⟨b, k1, k2⟩ := this; exact ⟨b, take_get (capsLt_mem hl i (List.mem_of_getElem? hc)) k1, k2⟩
    | inr u => exact this

theorem cells_take {n : Nat} : ∀ {cs : List C} {vs : List Value}, ltL n cs = true → rels (C.rel ρ) cs vs → rels (C.rel (ρ.take n)) cs vs
  | [], [], _, _ => trivial
  | c :: cs, v :: vs, h, hr => by
    simp only [ltL, Bool.and_eq_true] at h
    exact ⟨C.rel_take c v h.1 hr.1, cells_take h.2 hr.2⟩
  | [], _ :: _, _, hr => hr.elim
  | _ :: _, [], _, hr => hr.elim

theorem compRel_take {n : Nat} : ∀ {p : Bool × List C} {z : Value}, ltL n p.2 = true → compRel ρ p z → compRel (ρ.take n) p z
  | (true, _), _, h, ⟨zs, k1, k2⟩ => ⟨zs, k1, cells_take h k2⟩
  | (false, [x]), z, h, hz => C.rel_take x z (by simpa [ltL] using h) hz
  | (false, []), _, _, hz => hz.elim
  | (false, _ :: _ :: _), _, _, hz => hz.elim

theorem tups_take {n : Nat} : ∀ {ps : List (Bool × List C)} {vs : List Value}, ltP n ps = true → rels (compRel ρ) ps vs → rels (compRel (ρ.take n)) ps vs
  | [], [], _, _ => trivial
  | p :: ps, v :: vs, h, hr => by
    simp only [ltP, Bool.and_eq_true] at h
    exact ⟨compRel_take h.1 hr.1, tups_take h.2 hr.2⟩
  | [], _ :: _, _, hr => hr.elim
  | _ :: _, [], _, hr => hr.elim

theorem SV.rel_take {n : Nat} (x : SV) (y : Value) (h : x.lt n = true) (hr : x.rel ρ y) : x.rel (ρ.take n) y := by
  cases x with
  | c x =>
    by_cases hj : x = .junk
    · subst hj; trivial
    · exact sv_of_c (C.rel_take x y h (rel_c hj hr))
  | agg xs => obtain ⟨ys, g1, g2⟩ := hr; exact ⟨ys, g1, cells_take h g2⟩
  | tup xs => obtain ⟨ys, g1, g2⟩ := hr; exact ⟨ys, g1, tups_take h g2⟩

theorem slots_take {n : Nat} : ∀ {t : List SV} {l : List Value}, ltT n t = true → rels (SV.rel ρ) t l → rels (SV.rel (ρ.take n)) t l
  | [], [], _, _ => trivial
  | x :: t, v :: l, h, hr => by
    simp only [ltT, Bool.and_eq_true] at h
    exact ⟨SV.rel_take x v h.1 hr.1, slots_take h.2 hr.2⟩
  | [], _ :: _, _, hr => hr.elim
  | _ :: _, [], _, hr => hr.elim

theorem ltR_mem {n : Nat} : ∀ {r : List Res} {cs : List C}, ltR n r = true → Res.box cs ∈ r → ltL n cs = true
  | [], _, _, h => by simp at h
  | x :: r, cs, h, hm => by
    rcases List.mem_cons.1 hm with e | hm
    · subst e; simp only [ltR, Bool.and_eq_true] at h; exact h.1
    · refine ltR_mem ?_ hm
      cases x <;> simp only [ltR, Bool.and_eq_true] at h <;> first | exact h | exact h.2

/-- What lies beyond n is let go. -/
theorem Stab.take {n : Nat} (hs : Stab w0 B ρ r S w) (hB : B.h.length ≤ n) (hr : ltR n (r.take n) = true) : Stab w0 B (ρ.take n) (r.take n) S w := by
  have key : ∀ {α : Type} {l : List α} {i : Nat} {x : α}, (l.take n)[i]? = some x → i < n ∧ l[i]? = some x := by
    intro α l i x h
    rw [List.getElem?_take] at h
    split at h
    · rename_i hi; exact ⟨hi, h⟩
    · cases h
  refine ⟨by simp [hs.len], ?_, ?_, ?_, hs.sub, hs.os, hs.tape, hs.output, hs.size, hs.block, hs.low, ?_⟩
  · intro i x hx
    obtain ⟨hi, hx'⟩ := key hx
    obtain ⟨h, hh, hold⟩ := hs.res i x hx'
    refine ⟨h, take_get hi hh, ?_⟩
    cases x with
    | box cs => obtain ⟨b, T, xs, h1, h2, h3⟩ := hold; exact ⟨b, T, xs, h1, h2, cells_take (ltR_mem hr (List.mem_of_getElem? hx)) h3⟩
    | gone => trivial
    | row sh e xs => exact hold
    | map k e es => exact hold
    | iter k e m ents clock left cur => exact hold
    | ext Q => exact hold
    | pool sh e l => exact hold
  · intro i j x y g h b hi hj hx hy hg hh hb1 hb2
    exact hs.disj i j x y g h b (key hi).2 (key hj).2 hx hy (key hg).2 (key hh).2 hb1 hb2
  · intro i x h b hx ha hh hb
    exact hs.own i x h b (key hx).2 ha (key hh).2 hb
  · intro i h hi hf
    have hl := (List.getElem?_eq_some_iff.1 hi).1
    exact take_get (by omega) (hs.pre i h hi hf)

theorem meets_gam {nb : Nat} (hB : B.h.length ≤ nb) {A : Type} {t0 : List SV} {g : A → List (Nat × SV)} {rs : A → List Res} {Sf : A → Store} {x : A} (h : meets nb t0 g rs Sf t r S x) (hg : Gam w0 B ρ t r S a w) :
    Gam w0 B (ρ.take (rs x).length) (updAll t0 (g x)) (rs x) (Sf x) a w := by
  unfold meets at h
  rw [updK_eq] at h
  obtain ⟨⟨h1, h2⟩, h3, h4⟩ := h
  simp only [Bool.and_eq_true, Nat.ble_eq] at h2
  obtain ⟨⟨⟨k1, k2⟩, k3⟩, k4⟩ := h2
  have hst := hg.st.take (Nat.le_trans hB k1) (by rw [h3]; exact k4)
  rw [h3] at hst
  exact ⟨slots_take k3 (leT_rel h1 hg.tmps), hg.defers, hst.weak h4⟩

theorem nth_some : ∀ {l : List SV} {i : Nat} {x : SV}, nth l i = x → x ≠ .c .junk → l[i]? = some x
  | [], _, _, h, hx => absurd h.symm hx
  | _ :: _, 0, _, h, _ => by simpa [nth] using h
  | _ :: l, i + 1, _, h, hx => by simpa using nth_some (l := l) (i := i) h hx

theorem set_lit (ht : rels (SV.rel ρ) t a.tmps.toList) {i : Nat} {b : Bool} (h : nth t i = .c (.v (.bool b))) : a.eval (.tmp i) = .bool b ∧ rels (SV.rel ρ) (t.set i (.c (.v (.bool b)))) a.tmps.toList := by
  obtain ⟨y, hy, hr⟩ := rels_get ht i _ (nth_some h (by simp))
  obtain ⟨rfl, -⟩ := hr
  have hy' : a.tmps[i]? = some (.bool b) := by simpa using hy
  refine ⟨by simp [Act.eval, hy'], ?_⟩
  have hs := rels_set i ht (x := .c (.v (.bool b))) (y := .bool b) (show (SV.c (.v (.bool b))).rel ρ (.bool b) from ⟨rfl, rfl⟩)
  have he : a.tmps.toList.set i (.bool b) = a.tmps.toList := by
    apply List.ext_getElem?
    intro j
    by_cases hj : i = j
    · subst hj; rw [List.getElem?_set_self (List.getElem?_eq_some_iff.1 hy).1, hy]
    · rw [List.getElem?_set_ne hj]
  rwa [he] at hs

theorem vcCode_sound (hA : Agrees P tt) {nb : Nat} (hB : B.h.length ≤ nb) : ∀ (c : Code) (Q : Exit → SK) (ρ : List Value) (t : List SV) (r : List Res) (S : Store) (a : Act) (w : World), Gam w0 B ρ t r S a w → vcCode P tt nb c Q t r S → c.wp P (Ends w0 B Q) a w := by
  intro c
  induction c with
  | skip => exact fun Q ρ t r S a w hg h => wp_skip ⟨ρ, t, r, S, hg, h⟩
  | region id ops draw =>
    intro Q ρ t r S a w hg h
    cases draw with
    | false => exact wp_region_list (vcOps_sound (K := Q .normal) hA (fun ρ t r S a w hg hK => ⟨ρ, t, r, S, hg, hK⟩) ops.toList [] ρ t r S a w hg h)
    | true => exact vcDraw_sound (K := Q .normal) hA (fun ρ t r S a w hg hK => ⟨ρ, t, r, S, hg, hK⟩) hg h
  | seq x y ihx ihy =>
    intro Q ρ t r S a w hg h
    refine wp_seq (wp_mono (ihx _ ρ t r S a w hg h) ?_)
    rintro e a' w' ⟨ρ', t', r', S', hg', hq⟩
    cases e with
    | normal => exact ihy Q ρ' t' r' S' a' w' hg' hq
    | _ => exact ⟨ρ', t', r', S', hg', hq⟩
  | cond o x y ihx ihy =>
    intro Q ρ t r S a w hg h
    simp only [vcCode] at h
    split at h
    · rename_i i
      split at h
      · rename_i b hb
        obtain ⟨he, hs⟩ := set_lit hg.tmps hb
        unfold split at h
        cases b with
        | true =>
          have h1 := h.1 rfl
          simp only [setK_eq] at h1
          exact wp_cond_true he (ihx Q ρ _ r S a w ⟨hs, hg.defers, hg.st⟩ h1)
        | false =>
          have h1 := h.2 rfl
          simp only [setK_eq] at h1
          exact wp_cond_false he (ihy Q ρ _ r S a w ⟨hs, hg.defers, hg.st⟩ h1)
      · exact h.elim
    · exact h.elim
  | block id x ih =>
    intro Q ρ t r S a w hg h
    refine wp_block (wp_mono (ih _ ρ t r S a w hg h) ?_)
    rintro e a' w' ⟨ρ', t', r', S', hg', hq⟩
    cases e with
    | exit j =>
      simp only at hq
      simp only [Exit.inBlock]
      split at hq
      · rename_i hj; rw [if_pos hj]; exact ⟨ρ', t', r', S', hg', hq⟩
      · rename_i hj; rw [if_neg hj]; exact ⟨ρ', t', r', S', hg', hq⟩
    | _ => exact ⟨ρ', t', r', S', hg', hq⟩
  | loop x ih =>
    intro Q ρ t r S a w hg h
    obtain ⟨fz, mt, h⟩ := h
    obtain ⟨t, r, S, hg, -, -, h⟩ := frzL_sound fz _ t r S hg h
    obtain ⟨ρ, t, r, S, hg, h⟩ := matL_sound mt _ ρ t r S hg h
    obtain ⟨A, ws, g, rs, Sf, inv, μ, h⟩ := h
    rw [junkK_eq] at h
    obtain ⟨⟨x0, hm0, hi0⟩, hround⟩ := h
    refine wp_loop_ghost (fun n a w => ∃ (ρ : List Value) (x : A), μ x = n ∧ inv x ∧ Gam w0 B ρ (updAll (junkAll t ws) (g x)) (rs x) (Sf x) a w) (μ x0) ⟨_, x0, rfl, hi0, meets_gam hB hm0 hg⟩ ?_
    rintro n a w ⟨ρ, y, rfl, hiy, hgy⟩
    have h1 := hround y hiy
    rw [updK_eq] at h1
    refine wp_mono (ih _ ρ _ _ _ a w hgy h1) ?_
    rintro e a' w' ⟨ρ', t', r', S', hg', hq⟩
    cases e with
    | normal =>
      obtain ⟨t1, r1, S1, hg1, _, _, z, hz1, hz2, hz3⟩ := frzOps_sound (W := fun _ => True) (fun _ _ => trivial) _ _ t' r' S' hg' hq
      exact ⟨μ z, hz3, _, z, rfl, hz2, meets_gam hB hz1 hg1⟩
    | _ => exact ⟨ρ', t', r', S', hg', hq⟩
  | exit id => exact fun Q ρ t r S a w hg h => wp_exit ⟨ρ, t, r, S, hg, h⟩
  | ret => exact fun Q ρ t r S a w hg h => wp_ret ⟨ρ, t, r, S, hg, h⟩
  | rangeFunc _ _ _ _ _ _ => exact fun Q ρ t r S a w hg h => h.elim
  | scope _ _ => exact fun Q ρ t r S a w hg h => h.elim
  | label _ => exact fun Q ρ t r S a w hg h => h.elim
  | goto _ => exact fun Q ρ t r S a w hg h => h.elim
  | refuse _ => exact fun Q ρ t r S a w hg h => h.elim

end Go.Vc
