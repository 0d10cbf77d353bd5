/- Verification conditions, ninth part: one operation, a region in order, a region that draws its order. -/
import Derived.Test.YtapblcfbmaikjaaGreatDoorVcH
import Derived.OrdersHeld
import Derived.Deep.LoopGhost
namespace Go.Vc
open Go

variable {P : Program} {tt : Nat → Option TI} {ok : Nat → Bool} {w0 w w' : World} {B : Base} {ρ : List Value} {r : List Res} {S S' : Store} {t : List SV} {a : Act} {K : SK}

/-- What an operation may write. -/
def Wr (t : List SV) (op : Op) (j : Nat) : Prop := match op with
  | .store _ d _ => ∃ i o k sz, (ev t d = .c (.ptr i o) ∨ ev t d = .c (.elt i k sz o)) ∧ j = i
  | .mapUpdate _ m _ _ => ∃ i, ev t m = .c (.ref i) ∧ j = i
  | .insert _ m _ _ => ∃ i, ev t m = .c (.ref i) ∧ j = i
  | .call { callee := .builtin .append, args, .. } => ∃ s x i, args.toList = [s, x] ∧ ev t s = .c (.ref i) ∧ j = i
  | .next x _ => ∃ i o, ev t x = .c (.ptr i o) ∧ j = i
  | _ => False

/-! ### Freezing -/

theorem subT_eq (i : Nat) (h : Value) (l : List SV) : ∀ k : List SV → Prop, subT i h l k = k (l.map (SV.sub i h)) := by
  induction l with
  | nil => intro k; rfl
  | cons x xs ih => intro k; simp [subT, force_eq, ih]
theorem subR_eq (i : Nat) (h : Value) (l : List Res) : ∀ k : List Res → Prop, subR i h l k = k (l.map (Res.sub i h)) := by
  induction l with
  | nil => intro k; rfl
  | cons x xs ih => intro k; simp [subR, forceR_eq, ih]

section sub
variable {i : Nat} {h : Value}

theorem cloN_rel {ρ : List Value} {f : FuncId} {caps : List (Nat ⊕ Value)} {y : Value} (h : (C.clo f caps).rel ρ y) : (cloN f caps).rel ρ y := by
  unfold cloN
  split
  · rename_i vs hvs
    obtain ⟨ys, rfl, h2, h3⟩ := h
    have key : ∀ (caps : List (Nat ⊕ Value)) (vs ys : List Value), caps1 caps = some vs → ys.length = caps.length → (∀ (j : Nat) c z, caps[j]? = some c → ys[j]? = some z → capRel ρ c z) → ys = vs := by
      intro caps
      induction caps with
      | nil => intro vs ys h hl _; simp [caps1] at h; subst h; simpa using hl
      | cons c cs ih =>
        intro vs ys h hl hr
        cases c with
        | inl i => simp [caps1] at h
        | inr u =>
          simp only [caps1] at h
          split at h
          · rename_i us hus
            simp only [Option.some.injEq] at h
            subst h
            cases ys with
            | nil => simp at hl
            | cons y ys =>
              rw [ih us ys hus (by simpa using hl) fun j c z hc hz => hr (j + 1) c z (by simpa using hc) (by simpa using hz), (hr 0 _ y rfl rfl).1]
          · cases h
    rw [key caps vs ys hvs h2 h3]
    exact ⟨rfl, rfl⟩
  · exact h

theorem C.rel_sub (hρ : ρ[i]? = some h) (h1 : h.oneCell' = true) : ∀ (x : C) (y : Value), x.rel ρ y → (x.sub i h).rel ρ y
  | .junk, _, k => k
  | .v _, _, k => k
  | .ref j, y, ⟨g1, g2⟩ => by
    by_cases hj : j = i
    · simp only [C.sub, hj, if_true]
      rw [hj, hρ] at g1
      simp only [Option.some.injEq] at g1
      exact ⟨g1.symm, h1⟩
    · simp only [C.sub, hj, if_false]; exact ⟨g1, g2⟩
  | .ptr j o, y, ⟨b, g1, g2⟩ => by
    by_cases hj : j = i
    · rw [hj, hρ] at g1
      simp only [Option.some.injEq] at g1
      simp only [C.sub, hj, if_true, g1]
      exact ⟨g2, rfl⟩
    · simp only [C.sub, hj, if_false]; exact ⟨b, g1, g2⟩
  | .sl j o n m, y, ⟨b, g1, g2⟩ => by
    by_cases hj : j = i
    · rw [hj, hρ] at g1
      simp only [Option.some.injEq] at g1
      simp only [C.sub, hj, if_true, g1]
      exact ⟨g2, rfl⟩
    · simp only [C.sub, hj, if_false]; exact ⟨b, g1, g2⟩
  | .elt j k sz o, y, ⟨b, n, m, g1, g2⟩ => by
    by_cases hj : j = i
    · simp only [C.sub, hj, if_true]; rw [g2]; rfl
    · simp only [C.sub, hj, if_false]; exact ⟨b, n, m, g1, g2⟩
  | .seg j k n' sz, y, ⟨p, n, m, g1, g2, g3⟩ => by
    by_cases hj : j = i
    · rw [hj, hρ] at g1
      simp only [Option.some.injEq] at g1
      simp only [C.sub, hj, if_true, g1]
      exact ⟨g3, rfl⟩
    · simp only [C.sub, hj, if_false]; exact ⟨p, n, m, g1, g2, g3⟩
  | .clo f cs, y, ⟨ys, g1, g2, g3⟩ => cloN_rel ⟨ys, g1, by simpa using g2, fun j c z hc hz => by
      rw [List.getElem?_map] at hc
      cases hcs : cs[j]? with
      | none => simp [hcs] at hc
      | some c' =>
        simp only [hcs, Option.map_some, Option.some.injEq] at hc
        have := g3 j c' z hcs hz
        cases c' with
        | inl k =>
          obtain ⟨b, k1, k2⟩ := this
          by_cases hk : k = i
          · rw [hk, hρ] at k1
            simp only [Option.some.injEq] at k1
            simp only [hk, if_true, k1] at hc
            subst hc
            exact ⟨k2, rfl⟩
          · simp only [hk, if_false] at hc
            subst hc
            exact ⟨b, k1, k2⟩
        | inr u => subst hc; exact this⟩

theorem compRel_sub (hρ : ρ[i]? = some h) (h1 : h.oneCell' = true) : ∀ (x : Bool × List C) (y : Value), compRel ρ x y → compRel ρ (x.1, x.2.map (C.sub i h)) y
  | (true, _), _, ⟨ys, g1, g2⟩ => ⟨ys, g1, rels_map _ (C.rel_sub hρ h1) g2⟩
  | (false, [x]), y, k => C.rel_sub hρ h1 x y k
  | (false, []), _, k => k.elim
  | (false, _ :: _ :: _), _, k => k.elim

theorem sv_of_c {x : C} {y : Value} (h : x.rel ρ y) : (SV.c x).rel ρ y := by cases x <;> first | exact h | trivial

theorem SV.rel_sub (hρ : ρ[i]? = some h) (h1 : h.oneCell' = true) (x : SV) (y : Value) (k : x.rel ρ y) : (x.sub i h).rel ρ y := by
  cases x with
  | c x =>
    by_cases hj : x = .junk
    · subst hj; trivial
    · exact sv_of_c (C.rel_sub hρ h1 x y (rel_c hj k))
  | agg xs => obtain ⟨ys, g1, g2⟩ := k; exact ⟨ys, g1, rels_map _ (C.rel_sub hρ h1) g2⟩
  | tup xs => obtain ⟨ys, g1, g2⟩ := k; exact ⟨ys, g1, rels_map _ (fun x y h => compRel_sub hρ h1 x y h) g2⟩

theorem Res.holds_sub (hρ : ρ[i]? = some h) (h1 : h.oneCell' = true) {x : Res} {g : Value} (hx : x.holds ρ g w) : (x.sub i h).holds ρ g w := by
  cases x with
  | gone => trivial
  | box cs => obtain ⟨b, T, xs, g1, g2, g3⟩ := hx; exact ⟨b, T, xs, g1, g2, rels_map _ (C.rel_sub hρ h1) g3⟩
  | row sh e xs => exact hx
  | map k e es => exact hx
  | iter k e m ents clock left cur => exact hx
  | ext Q => exact hx
  | pool sh e l => exact hx
theorem sub_alive (x : Res) : (x.sub i h).alive = x.alive := by cases x <;> rfl
theorem sub_foot (x : Res) (g : Value) (b : Nat) : (x.sub i h).foot g b ↔ x.foot g b := by cases x <;> exact Iff.rfl
end sub

open Classical in
/-- The store with some blocks more. -/
noncomputable def Store.with (S : Store) (w : World) (p : Nat → Prop) : Store :=
  ⟨fun b o => if p b then (Store.of w).c b o else S.c b o, fun b => if p b then (Store.of w).o b else S.o b⟩

theorem Stab.freezeG (hs : Stab w0 B ρ r S w) {i : Nat} {x : Res} {h : Value} (hi : r[i]? = some x) (hxa : x.alive = true) (hρ : ρ[i]? = some h) (f : Res → Res) (sub_alive : ∀ x, (f x).alive = x.alive) (sub_foot : ∀ x g b, (f x).foot g b ↔ x.foot g b)
    (sub_holds : ∀ x g, x.holds ρ g w → (f x).holds ρ g w) :
    S.le (S.with w (x.foot h)) ∧ Stab w0 B ρ ((r.map (f)).set i .gone) (S.with w (x.foot h)) w := by
  have hnone : ∀ b, x.foot h b → (∀ o, S.c b o = none) ∧ S.o b = none := fun b hb => (hs.own i x h b hi hxa hρ hb).2.2
  have hle : S.le (S.with w (x.foot h)) := by
    constructor
    · intro b o y hy
      simp only [Store.with]
      split
      · rename_i hb; rw [(hnone b hb).1 o] at hy; cases hy
      · exact hy
    · intro b y hy
      simp only [Store.with]
      split
      · rename_i hb; rw [(hnone b hb).2] at hy; cases hy
      · exact hy
  have back : ∀ (j : Nat) z, ((r.map (f)).set i .gone)[j]? = some z → z.alive = true → j ≠ i ∧ ∃ z', r[j]? = some z' ∧ z = f z' ∧ z'.alive = true := by
    intro j z hz hza
    by_cases hji : j = i
    · subst hji
      rw [List.getElem?_set_self (by simpa using (List.getElem?_eq_some_iff.1 hi).1)] at hz
      simp at hz; subst hz; cases hza
    · rw [List.getElem?_set_ne (Ne.symm hji), List.getElem?_map] at hz
      cases hr : r[j]? with
      | none => simp [hr] at hz
      | some z' => simp [hr] at hz; subst hz; exact ⟨hji, z', rfl, rfl, by rwa [sub_alive] at hza⟩
  refine ⟨hle, by simp [hs.len], ?_, ?_, ?_, ?_, hs.os, hs.tape, hs.output, hs.size, hs.block, ?_, hs.pre⟩
  · intro j z hz
    by_cases hji : j = i
    · subst hji
      rw [List.getElem?_set_self (by simpa using (List.getElem?_eq_some_iff.1 hi).1)] at hz
      simp at hz; subst hz
      exact ⟨h, hρ, trivial⟩
    · rw [List.getElem?_set_ne (Ne.symm hji), List.getElem?_map] at hz
      cases hr : r[j]? with
      | none => simp [hr] at hz
      | some z' =>
        simp [hr] at hz; subst hz
        obtain ⟨g, hg, hgh⟩ := hs.res j z' hr
        exact ⟨g, hg, sub_holds _ _ hgh⟩
  · intro j k z1 z2 g1 g2 d hj hk hz1 hz2 hg1 hg2 hd1 hd2
    obtain ⟨_, u1, hu1, rfl, ha1⟩ := back j z1 hj hz1
    obtain ⟨_, u2, hu2, rfl, ha2⟩ := back k z2 hk hz2
    rw [sub_foot] at hd1 hd2
    exact hs.disj j k u1 u2 g1 g2 d hu1 hu2 ha1 ha2 hg1 hg2 hd1 hd2
  · intro j z g d hz hza hg hd
    obtain ⟨hji, u, hu, rfl, ha⟩ := back j z hz hza
    rw [sub_foot] at hd
    obtain ⟨k1, k2, k3, k4⟩ := hs.own j u g d hu ha hg hd
    have hne : ¬ x.foot h d := fun e => hji (hs.disj j i u x g h d hu hi ha hxa hg hρ hd e)
    exact ⟨k1, k2, fun o => by simp only [Store.with, if_neg hne]; exact k3 o, by simp only [Store.with, if_neg hne]; exact k4⟩
  · constructor
    · intro b o y hy
      simp only [Store.with] at hy
      split at hy
      · exact hy
      · exact hs.sub.1 b o y hy
    · intro b y hy
      simp only [Store.with] at hy
      split at hy
      · exact hy
      · exact hs.sub.2 b y hy
  · intro b hb hnb
    have hne : ¬ x.foot h b := by
      intro e
      rcases (hs.own i x h b hi hxa hρ e).2.1 with h2 | h2
      · omega
      · exact hnb h2
    simp only [Store.with, if_neg hne]
    exact hs.low b hb hnb

theorem Stab.freeze (hs : Stab w0 B ρ r S w) {i : Nat} {x : Res} {h : Value} (hi : r[i]? = some x) (hxa : x.alive = true) (hρ : ρ[i]? = some h) (h1 : h.oneCell' = true) :
    S.le (S.with w (x.foot h)) ∧ Stab w0 B ρ ((r.map (Res.sub i h)).set i .gone) (S.with w (x.foot h)) w :=
  hs.freezeG hi hxa hρ (Res.sub i h) (fun x => sub_alive x) (fun x g b => sub_foot x g b) (fun _ _ hx => Res.holds_sub hρ h1 hx)

theorem Stab.thaw (hs : Stab w0 B ρ r S w) {i : Nat} {x : Res} {h : Value} (hi : r[i]? = some x) (hxa : x.alive = true) (hρ : ρ[i]? = some h) :
    S.le (S.with w (x.foot h)) ∧ Stab w0 B ρ (r.set i .gone) (S.with w (x.foot h)) w := by
  have := hs.freezeG hi hxa hρ id (fun x => rfl) (fun x g b => Iff.rfl) (fun _ _ hx => hx)
  rwa [List.map_id] at this

/-- What a pool's rows hold, behind its freezing. -/
theorem pool_rd {sh : Shape} {e : TypeId} {l : List (Value × List sh.T)} {h : Value} (hh : (Res.pool sh e l).holds ρ h w) : ∀ p ∈ l, RowIs (S.with w ((Res.pool sh e l).foot h)) p.1 sh p.2 := by
  intro p hp
  obtain ⟨how, hok⟩ := hh.2.1 p hp
  rcases how.2 with ⟨hv, hn⟩ | ⟨g, cap, cur, hv, _, hg, hnc, hcm, hcs, htake⟩
  · exact ⟨none, 0, by rw [hn]; exact hv, .inl (List.eq_nil_of_length_eq_zero hn), hok⟩
  · refine ⟨some ⟨g, 0, none⟩, cap, hv, .inr ⟨g, 0, rfl, ?_⟩, hok⟩
    intro j u hu
    have := how.cells (g := g) (by rw [hv]; rfl) j u hu
    simp only [Store.with, if_pos (show (Res.pool sh e l).foot h g from ⟨p, hp, by rw [hv]; rfl⟩), Store.of]
    rw [Addr.add_lit] at this
    exact this

theorem frzPools_sound {lo : Nat} {K : List Res → Store → Prop} : ∀ (l : List Res) (i : Nat) (r : List Res) (S : Store), (∀ (k : Nat) x, l[k]? = some x → r[i + k]? = some x) → Stab w0 B ρ r S w → frzPools lo K l i r S →
    ∃ r' S', Stab w0 B ρ r' S' w ∧ K r' S'
  | [], _, r, S, _, hs, h => ⟨r, S, hs, h⟩
  | x :: l, i, r, S, hl, hs, h => by
    have hrest : ∀ (k : Nat) y, l[k]? = some y → r[i + 1 + k]? = some y := fun k y hy => by
      have := hl (k + 1) y (by simpa using hy)
      rwa [show i + (k + 1) = i + 1 + k by omega] at this
    have hx := hl 0 x rfl
    simp only [Nat.add_zero] at hx
    simp only [frzPools] at h
    split at h
    · rename_i sh e l0
      split at h
      · exact frzPools_sound l (i + 1) r S hrest hs h
      · obtain ⟨g, hρ, hh⟩ := hs.res i _ hx
        obtain ⟨hle, hst⟩ := hs.thaw hx rfl hρ
        have h1 := h _ hle (pool_rd hh)
        rw [setR_eq] at h1
        refine frzPools_sound l (i + 1) _ _ (fun k y hy => ?_) hst h1
        exact get_set_ne (hrest k y hy) (by omega)
    · exact frzPools_sound l (i + 1) r S hrest hs h

theorem frzPools_sound' {lo : Nat} {K : List Res → Store → Prop} : ∀ (l : List Res) (i : Nat) (r : List Res) (S : Store), (∀ (k : Nat) x, l[k]? = some x → r[i + k]? = some x) → Stab w0 B ρ r S w → frzPools lo K l i r S →
    ∃ r' S', Stab w0 B ρ r' S' w ∧ S.le S' ∧ K r' S'
  | [], _, r, S, _, hs, h => ⟨r, S, hs, Store.le_refl S, h⟩
  | x :: l, i, r, S, hl, hs, h => by
    have hrest : ∀ (k : Nat) y, l[k]? = some y → r[i + 1 + k]? = some y := fun k y hy => by
      have := hl (k + 1) y (by simpa using hy)
      rwa [show i + (k + 1) = i + 1 + k by omega] at this
    have hx := hl 0 x rfl
    simp only [Nat.add_zero] at hx
    simp only [frzPools] at h
    split at h
    · rename_i sh e l0
      split at h
      · exact frzPools_sound' l (i + 1) r S hrest hs h
      · obtain ⟨g, hρ, hh⟩ := hs.res i _ hx
        obtain ⟨hle, hst⟩ := hs.thaw hx rfl hρ
        have h1 := h _ hle (pool_rd hh)
        rw [setR_eq] at h1
        obtain ⟨r', S', q1, q2, q3⟩ := frzPools_sound' l (i + 1) _ _ (fun k y hy => get_set_ne (hrest k y hy) (by omega)) hst h1
        exact ⟨r', S', q1, Store.le_trans hle q2, q3⟩
    · exact frzPools_sound' l (i + 1) r S hrest hs h

/-- What freezing leads to. -/
def Froze (w0 : World) (B : Base) (W : Nat → Prop) (ρ : List Value) (r : List Res) (S : Store) (a : Act) (w : World) (K : SK) : Prop :=
  ∃ t' r' S', Gam w0 B ρ t' r' S' a w ∧ S.le S' ∧ (∀ (i : Nat) x, ¬ W i → r[i]? = some x → x.alive = true → ∃ y, r'[i]? = some y ∧ y.alive = true ∧ ∀ h b, x.foot h b ↔ y.foot h b) ∧ K t' r' S'

theorem poolFor_get {e : TypeId} : ∀ {r : List Res} {n j : Nat}, poolFor e r n = some j → ∃ k, j = n + k ∧ ∃ sh l, r[k]? = some (.pool sh e l)
  | [], _, _, h => by simp [poolFor] at h
  | x :: r, n, j, h => by
    have step : poolFor e r (n + 1) = some j → ∃ k, j = n + k ∧ ∃ sh l, (x :: r)[k]? = some (.pool sh e l) := fun h => by
      obtain ⟨k, rfl, sh, l, hk⟩ := poolFor_get h
      exact ⟨k + 1, by omega, sh, l, by simpa using hk⟩
    cases x with
    | pool sh e' l =>
      simp only [poolFor] at h
      split at h
      · rename_i he
        subst he
        simp only [Option.some.injEq] at h
        subst h
        exact ⟨0, rfl, sh, l, rfl⟩
      · exact step h
    | _ => exact step h

theorem frz_sound {i : Nat} {W : Nat → Prop} (hW' : ∀ j, ok j = true → W j) (hg : Gam w0 B ρ t r S a w) (h : frz ok i K t r S) : Froze w0 B W ρ r S a w K := by
  unfold frz at h
  split at h
  case isFalse => exact h.elim
  rename_i hoki
  have hW := hW' i hoki
  have fin : ∀ (x : Res) (v : Value), r[i]? = some x → x.alive = true → ρ[i]? = some v → v.oneCell' = true → K (t.map (SV.sub i v)) ((r.map (Res.sub i v)).set i .gone) (S.with w (x.foot v)) → Froze w0 B W ρ r S a w K := by
    intro x v hx hxa hv h1 hK
    obtain ⟨hle, hst⟩ := hg.st.freeze hx hxa hv h1
    refine ⟨_, _, _, ⟨rels_map _ (fun x y k => SV.rel_sub hv h1 x y k) hg.tmps, hg.defers, hst⟩, hle, ?_, hK⟩
    intro j y hj hy hya
    have hji : j ≠ i := fun e => hj (e ▸ hW)
    exact ⟨y.sub i v, get_set_ne (by rw [List.getElem?_map, hy]; rfl) hji, by rw [sub_alive]; exact hya, fun _ _ => (sub_foot _ _ _).symm⟩
  split at h
  · rename_i sh e xs hr
    have hr' := nthR_some hr (by simp)
    obtain ⟨v, hv, how, hok⟩ := hg.st.res i _ hr'
    split at h
    · rename_i j hj
      split at h
      case isFalse => exact h.elim
      rename_i hokj
      have hWj := hW' j hokj
      split at h
      · rename_i sh' e' l hrj
        obtain ⟨rfl, h⟩ := h
        have hrj' := nthR_some hrj (by simp)
        have hee : e' = e := by
          obtain ⟨k, rfl, sh2, l2, hk⟩ := poolFor_get hj
          rw [Nat.zero_add] at hrj'
          rw [hrj'] at hk
          simp only [Option.some.injEq] at hk
          cases hk; rfl
        subst hee
        obtain ⟨g, hρj, rfl, hall, hpw⟩ := hg.st.res j _ hrj'
        have hij : i ≠ j := fun e => by subst e; rw [hr'] at hrj'; cases hrj'
        have hil := (List.getElem?_eq_some_iff.1 hr').1
        have hjl := (List.getElem?_eq_some_iff.1 hrj').1
        obtain ⟨p, c, hvf, hpf⟩ := owns_form how
        have h1 := h p c hpf
        simp only [subT_eq, subR_eq, setR_eq] at h1
        rw [← hvf] at h1
        have hone : v.oneCell' = true := by rw [hvf]; rfl
        have hget : ∀ (k : Nat) x, (((r.map (Res.sub i v)).set j (.pool sh e' (l ++ [(v, xs)]))).set i .gone)[k]? = some x → (k = i ∧ x = .gone) ∨ (k = j ∧ x = .pool sh e' (l ++ [(v, xs)])) ∨ (k ≠ i ∧ k ≠ j ∧ ∃ z, r[k]? = some z ∧ x = z.sub i v) := by
          intro k x hx
          by_cases hki : k = i
          · subst hki
            rw [List.getElem?_set_self (by simpa using hil)] at hx
            exact .inl ⟨rfl, by simpa using hx.symm⟩
          · rw [List.getElem?_set_ne (Ne.symm hki)] at hx
            by_cases hkj : k = j
            · subst hkj
              rw [List.getElem?_set_self (by simpa using hjl)] at hx
              exact .inr (.inl ⟨rfl, by simpa using hx.symm⟩)
            · rw [List.getElem?_set_ne (Ne.symm hkj), List.getElem?_map] at hx
              cases hz : r[k]? with
              | none => simp [hz] at hx
              | some z => simp [hz] at hx; exact .inr (.inr ⟨hki, hkj, z, rfl, hx.symm⟩)
        have hst : Stab w0 B ρ (((r.map (Res.sub i v)).set j (.pool sh e' (l ++ [(v, xs)]))).set i .gone) S w := by
          refine hg.st.regroup (by simp) (fun k => if k = i then j else k) ?_ ?_
          · intro k x hx
            rcases hget k x hx with ⟨rfl, rfl⟩ | ⟨rfl, rfl⟩ | ⟨_, _, z, hz, rfl⟩
            · exact ⟨v, hv, trivial⟩
            · refine ⟨_, hρj, rfl, ?_, ?_⟩
              · intro q hq
                rcases List.mem_append.1 hq with hq | hq
                · exact hall q hq
                · simp only [List.mem_singleton] at hq; subst hq; exact ⟨how, hok⟩
              · rw [List.pairwise_append]
                refine ⟨hpw, by simp, ?_⟩
                intro q hq q' hq' b hb hb'
                simp only [List.mem_singleton] at hq'
                subst hq'
                exact hij (hg.st.disj i _ _ _ _ _ b hr' hrj' rfl rfl hv hρj hb' ⟨q, hq, hb⟩)
            · obtain ⟨g, hg1, hg2⟩ := hg.st.res k z hz
              exact ⟨g, hg1, Res.holds_sub hv hone hg2⟩
          · intro k x hh c hx hxa hρk hc
            rcases hget k x hx with ⟨rfl, rfl⟩ | ⟨rfl, rfl⟩ | ⟨hki, _, z, hz, rfl⟩
            · cases hxa
            · obtain ⟨q, hq, hqc⟩ := hc
              rcases List.mem_append.1 hq with hq | hq
              · exact ⟨_, _, _, hrj', rfl, hρj, ⟨q, hq, hqc⟩, by simp [Ne.symm hij]⟩
              · simp only [List.mem_singleton] at hq
                subst hq
                exact ⟨i, _, _, hr', rfl, hv, hqc, by simp⟩
            · rw [sub_alive] at hxa
              rw [sub_foot] at hc
              exact ⟨k, z, hh, hz, hxa, hρk, hc, by simp [hki]⟩
        refine ⟨_, _, S, ⟨rels_map _ (fun x y k => SV.rel_sub hv hone x y k) hg.tmps, hg.defers, hst⟩, Store.le_refl S, ?_, h1⟩
        intro k y hk hy hya
        have hki : k ≠ i := fun e => hk (e ▸ hW)
        have hkj : k ≠ j := fun e => hk (e ▸ hWj)
        exact ⟨y.sub i v, get_set_ne (get_set_ne (by rw [List.getElem?_map, hy]; rfl) hkj) hki, by rw [sub_alive]; exact hya, fun _ _ => (sub_foot _ _ _).symm⟩
      · exact h.elim
    · rcases how.2 with ⟨rfl, hn⟩ | ⟨b, cap, cur, rfl, _, hb, hnc, hcm, hcs, htake⟩
      · have hnil : xs = [] := List.eq_nil_of_length_eq_zero hn
        refine fin _ _ hr' rfl hv rfl ?_
        have h1 := h none 0 _ (hg.st.freeze hr' rfl hv rfl).1 ⟨.inl hnil, hok⟩ ⟨.inl ⟨rfl, hn, rfl⟩, fun a e => (by cases e), fun a e => (by cases e)⟩
        simp only [subT_eq, subR_eq, setR_eq, hn] at h1
        exact h1
      · refine fin _ _ hr' rfl hv rfl ?_
        have hrd : (S.with w (Res.foot (.row sh e xs) (.slice (some ⟨b, 0, none⟩) xs.length cap))).rd b 0 (xs.flatMap sh.enc) := by
          intro j u hu
          simp only [Store.with, if_pos (show Res.foot (.row sh e xs) (.slice (some ⟨b, 0, none⟩) xs.length cap) b from rfl), Store.of, Nat.zero_add]
          have := how.cellAt j (by rw [← how.1]; exact (List.getElem?_eq_some_iff.1 hu).1)
          rw [this]; exact hu
        have h1 := h (some ⟨b, 0, none⟩) cap _ (hg.st.freeze hr' rfl hv rfl).1 ⟨.inr ⟨b, 0, rfl, hrd⟩, hok⟩ ⟨.inr ⟨b, rfl, hnc⟩, fun a e => by
          obtain rfl := Option.some.inj e
          exact (hg.st.own i _ _ b hr' rfl hv rfl).2.2, fun a e => by
          obtain rfl := Option.some.inj e
          refine ⟨cur.toList.drop (xs.length * sh.n), ?_⟩
          simp only [Store.with, if_pos (show Res.foot (.row sh _ xs) (.slice (some ⟨b, 0, none⟩) xs.length cap) b from rfl), Store.of, hb]
          have hc : xs.flatMap sh.enc ++ cur.toList.drop (xs.length * sh.n) = cur.toList := by
            have := htake
            unfold Shape.encs at this
            rw [← this, List.take_append_drop]
          rw [hc]⟩
        simp only [subT_eq, subR_eq, setR_eq] at h1
        exact h1
  · rename_i sh e l hr
    have hr' := nthR_some hr (by simp)
    obtain ⟨v, hv, hh⟩ := hg.st.res i _ hr'
    obtain ⟨hle, hst⟩ := hg.st.thaw hr' rfl hv
    have h1 := h _ hle (pool_rd hh)
    rw [setR_eq] at h1
    refine ⟨_, _, _, ⟨hg.tmps, hg.defers, hst⟩, hle, ?_, h1⟩
    intro j y hj hy hya
    have hji : j ≠ i := fun e => hj (e ▸ hW)
    exact ⟨y, get_set_ne hy hji, hya, fun _ _ => Iff.rfl⟩
  · rename_i k e es hr
    have hr' := nthR_some hr (by simp)
    obtain ⟨v, hv, b, ents, clock, rfl, hb, hm⟩ := hg.st.res i _ hr'
    refine fin _ _ hr' rfl hv rfl ?_
    have h1 := h b _ (hg.st.freeze hr' rfl hv rfl).1 ⟨⟨ents, clock, by simp [Store.with, if_pos (show Res.foot (.map k e es) (.map (some b)) b from rfl), Store.of, hb], hm⟩, fun a e => by
      obtain rfl := Option.some.inj e
      exact (hg.st.own i _ _ b hr' rfl hv rfl).2.2⟩
    simp only [subT_eq, subR_eq, setR_eq] at h1
    exact h1
  · rename_i cs hr
    have hr' := nthR_some hr (by simp)
    split at h
    · rename_i vs hvs
      obtain ⟨v, hv, b, T, xs, rfl, hb, hrel⟩ := hg.st.res i _ hr'
      refine fin _ _ hr' rfl hv rfl ?_
      have hxs : xs.toList = vs := by
        have hh := toVal_rel (ρ := ρ) (x := .agg cs) (u := .agg vs.toArray) (y := .agg xs) (by simp [toVal, hvs]) ⟨xs.toList, by simp, hrel⟩
        simp only [Value.agg.injEq] at hh
        rw [hh]
      have hrd : (S.with w (Res.foot (.box cs) (.pointer (some ⟨b, 0, none⟩)))).rd b 0 vs := by
        intro j u hu
        simp only [Store.with, if_pos (show Res.foot (.box cs) (.pointer (some ⟨b, 0, none⟩)) b from rfl), Store.of, Nat.zero_add, World.cell?, hb, Option.isSome_none, Bool.false_eq_true, if_false]
        rw [← hxs] at hu
        simpa using hu
      have h1 := h b _ (hg.st.freeze hr' rfl hv rfl).1 ⟨hrd, fun a e => by
        obtain rfl := Option.some.inj e
        exact (hg.st.own i _ _ b hr' rfl hv rfl).2.2⟩
      simp only [subT_eq, subR_eq, setR_eq] at h1
      exact h1
    · exact h.elim
  · exact h.elim

/-- Some steps of freezing. -/
theorem Froze.trans {W : Nat → Prop} {K' : SK} (h : Froze w0 B W ρ r S a w K) (hk : ∀ t r S, Gam w0 B ρ t r S a w → K t r S → Froze w0 B W ρ r S a w K') : Froze w0 B W ρ r S a w K' := by
  obtain ⟨t1, r1, S1, hg1, hle1, ha1, hK1⟩ := h
  obtain ⟨t2, r2, S2, hg2, hle2, ha2, hK2⟩ := hk t1 r1 S1 hg1 hK1
  refine ⟨t2, r2, S2, hg2, Store.le_trans hle1 hle2, fun i x hi hx hxa => ?_, hK2⟩
  obtain ⟨y, hy, hya, hyf⟩ := ha1 i x hi hx hxa
  obtain ⟨z, hz, hza, hzf⟩ := ha2 i y hi hy hya
  exact ⟨z, hz, hza, fun h b => (hyf h b).trans (hzf h b)⟩

theorem Froze.self {W : Nat → Prop} (hg : Gam w0 B ρ t r S a w) (h : K t r S) : Froze w0 B W ρ r S a w K :=
  ⟨t, r, S, hg, Store.le_refl S, fun _ x _ hx hxa => ⟨x, hx, hxa, fun _ _ => Iff.rfl⟩, h⟩

theorem frzOp_sound {W : Nat → Prop} (hW : ∀ j, ok j = true → W j) (x : Operand) : ∀ (n : Nat) (K : SK) (t : List SV) (r : List Res) (S : Store), Gam w0 B ρ t r S a w → frzOp ok x n K t r S → Froze w0 B W ρ r S a w K
  | 0, _, _, _, _, hg, h => Froze.self hg h
  | n + 1, K, t, r, S, hg, h => by
    simp only [frzOp] at h
    split at h
    · exact Froze.self hg h
    · exact (frz_sound hW hg h).trans fun t r S hg h => frzOp_sound hW x n K t r S hg h

theorem frzOps_sound {W : Nat → Prop} (hW : ∀ j, ok j = true → W j) : ∀ (xs : List Operand) (K : SK) (t : List SV) (r : List Res) (S : Store), Gam w0 B ρ t r S a w → frzOps ok xs K t r S → Froze w0 B W ρ r S a w K
  | [], _, _, _, _, hg, h => Froze.self hg h
  | x :: xs, K, t, r, S, hg, h => (frzOp_sound hW x 24 _ t r S hg h).trans fun t r S hg h => frzOps_sound hW xs K t r S hg h

theorem frzLo_sound {W : Nat → Prop} (hW : ∀ j, ok j = true → W j) : ∀ (xs : List Nat) (K : SK) (t : List SV) (r : List Res) (S : Store), Gam w0 B ρ t r S a w → frzLo ok xs K t r S → Froze w0 B W ρ r S a w K
  | [], _, _, _, _, hg, h => Froze.self hg h
  | _ :: xs, K, _, _, _, hg, h => (frz_sound hW hg h).trans fun t r S hg h => frzLo_sound hW xs K t r S hg h

theorem frzL_sound : ∀ (xs : List Nat) (K : SK) (t : List SV) (r : List Res) (S : Store), Gam w0 B ρ t r S a w → frzL xs K t r S → Froze w0 B (fun _ => True) ρ r S a w K
  | [], _, _, _, _, hg, h => Froze.self hg h
  | _ :: xs, K, _, _, _, hg, h => (frz_sound (fun _ _ => trivial) hg h).trans fun t r S hg h => frzL_sound xs K t r S hg h

theorem ok_froze {W : Nat → Prop} {o : Oper} {K' : SK} (h : Froze w0 B W ρ r S a w K') (hk : ∀ t r S, Gam w0 B ρ t r S a w → K' t r S → OpOk P w0 B W ρ r S a w o K) : OpOk P w0 B W ρ r S a w o K := by
  obtain ⟨t1, r1, S1, hg1, hle1, ha1, hK1⟩ := h
  intro Q
  refine Oper.wp_mono ?_ (hk t1 r1 S1 hg1 hK1 Q)
  rintro a' w' ⟨ρ', t', r', S', hg', hw, hK⟩
  refine ⟨ρ', t', r', S', hg', ⟨Store.le_trans hle1 hw.store, hw.handle, ?_, ?_⟩, hK⟩
  · intro i x hi hx hxa
    obtain ⟨y, hy, hya, hyf⟩ := ha1 i x hi hx hxa
    obtain ⟨z, hz, hza, hzf⟩ := hw.alive i y hi hy hya
    exact ⟨z, hz, hza, fun h b => (hyf h b).trans (hzf h b)⟩
  · intro i x h b hi hx hxa hh hb
    obtain ⟨y, hy, hya, hyf⟩ := ha1 i x hi hx hxa
    exact hw.keep i y h b hi hy hya hh ((hyf h b).1 hb)

theorem ok_quiet {sv : SV} {v : Value} (hg : Gam w0 B ρ t r S a w) {o : Oper} (hsv : sv.rel ρ v) (hrun : (execOp a.eval o).run P w = .ok (.value v) w) (hK : K (putL t o.dst sv) r S) (W : Nat → Prop) : OpOk P w0 B W ρ r S a w o K := by
  intro Q
  unfold Oper.wp
  rw [hrun, Oper.upon_value]
  exact ⟨ρ, _, _, S, ⟨rels_put hg.tmps hsv, defers_put hg.defers, hg.st⟩, ⟨Store.le_refl S, fun _ _ _ h => h, fun _ y _ h ha => ⟨y, h, ha, fun _ _ => Iff.rfl⟩, fun _ _ _ _ _ _ _ _ _ => rfl⟩, hK⟩

theorem ok_range (hA : Agrees P tt) (hg : Gam w0 B ρ t r S a w) {o : Oper} {ty : Nat} {x : Operand} (ho : o.op = .range ty x) (W : Nat → Prop) (hok : ∀ j, ok j = true → W j) (h : vcE P tt ok t r S o.dst (.range ty x) K) : OpOk P w0 B W ρ r S a w o K := by
  have hx := ev_rel hg.tmps x
  simp only [vcE] at h
  split at h
  · rename_i ti b hti hev
    obtain ⟨hx, -⟩ := rel_v hx hev
    have hkind := (hA _ _ hti).kind
    split at h
    · rename_i kt et hk
      rw [hk] at hkind
      simp only [Kind.fits] at hkind
      split at h
      · rename_i ki ei hki hei
        split at h
        · rename_i hkf
          obtain ⟨ents, clock, l, hb, h⟩ := h
          simp only [lenK_eq, put_eq, snocK_eq] at h
          have hko : ∀ y : ki.sh.T, ki.sh.ok y := by
            intro y
            revert hkf y
            generalize ki.sh = s
            generalize ki.kind = kd
            intro hkf y
            cases s <;> first | exact trivial | (cases kd <;> simp [keyFits] at hkf)
          have hw : ∀ (c : Obj), blk (.pointer (some ⟨w.heap.size, 0, none⟩)) = some w.heap.size := fun _ => rfl
          cases b with
          | none =>
            obtain ⟨rfl, rfl⟩ := hb
            refine ok_add hg W (g := .pointer (some ⟨w.heap.size, 0, none⟩)) (h := .pointer (some ⟨w.heap.size, 0, none⟩)) (ob := .mapIter none 0 #[] 0) (sv := .c (.ptr r.length 0)) ?_ (.inl rfl) ?_ ?_ h
            · simp only [execOp, ho, hx, Instr.range, Sem.run_bind, run_underlying hkind, Result.andThen, Sem.run_pure, newObj, Sem.run]
              rfl
            · exact ⟨w.heap.size, #[], rfl, heap_alloc_new w _, fun _ => ⟨rfl, rfl⟩, fun hne => absurd rfl hne⟩
            · rw [← hg.st.len]; exact ptr_new _ _
          | some b =>
            obtain ⟨hS, hm⟩ := hb
            have hbw : w.heap[b]? = some (.map ents clock) := by
              exact hg.st.sub.2 b _ hS
            refine ok_add hg W (g := .pointer (some ⟨w.heap.size, 0, none⟩)) (h := .pointer (some ⟨w.heap.size, 0, none⟩)) (ob := .mapIter (some b) clock #[] clock) (sv := .c (.ptr r.length 0)) ?_ (.inl rfl) ?_ ?_ h
            · simp only [execOp, ho, hx, Instr.range, Sem.run_bind, run_underlying hkind, Result.andThen, Sem.run_pure, newObj, getObj, Sem.run, hbw]
              rfl
            · refine ⟨w.heap.size, #[], rfl, heap_alloc_new w _, fun h => (by cases h), fun _ => ⟨⟨l, hm⟩, ?_, fun p hp => ⟨hko _, hm.2.1 p hp⟩, fun p hp => by cases hp⟩⟩
              have : (leftOf ents #[]).toList = ents.toList := by
                unfold leftOf
                rw [Array.toList_filter]
                exact List.filter_eq_self.2 (fun x _ => by simp)
              rw [this]
              exact hm.1
            · rw [← hg.st.len]; exact ptr_new _ _
        · exact h.elim
      · exact h.elim
    · exact h.elim
  · rename_i ti i hti hev
    rw [hev] at hx
    obtain ⟨hx, -⟩ := hx
    have hkind := (hA _ _ hti).kind
    split at h
    · rename_i kt et k e es hk hr
      rw [hk] at hkind
      simp only [Kind.fits] at hkind
      have hr' := nthR_some hr (by simp)
      split at h
      · rename_i hoki
        obtain ⟨g, hg', b, ents, clock, rfl, hb, hmap⟩ := hg.st.res i _ hr'
        rw [hx] at hg'
        simp only [Option.some.injEq] at hg'
        have hll : ents.toList.length = es.length := by simpa using congrArg List.length hmap.1
        have hz : ((ents.toList.map (·.born)).zip es).map (·.2) = es := List.map_snd_zip (by simp at hll ⊢; omega)
        have hz1 : ((ents.toList.map (·.born)).zip es).map (·.1) = ents.toList.map (·.born) := List.map_fst_zip (by simp at hll ⊢; omega)
        have h1 := h b clock ((ents.toList.map (·.born)).zip es) hz (by rw [hz1]; exact hmap.2.2.1)
        simp only [lenK_eq, put_eq, snocK_eq, setR_eq] at h1
        have hst : Stab w0 B ρ (r.set i (.ext (MapAt k e b clock ((ents.toList.map (·.born)).zip es)))) S w :=
          hg.st.write hr' rfl (by rw [hx, hg']) (show blk (.map (some b)) = some b from rfl) (fun c hc => hc) (fun _ _ => rfl) rfl rfl rfl rfl ⟨rfl, rfl, ents, by simp [blk, hb], hz1.symm, by rw [hz]; exact hmap⟩
        refine ok_froze (K' := fun t' r' S' => t' = t ∧ r' = r.set i (.ext (MapAt k e b clock ((ents.toList.map (·.born)).zip es))) ∧ S' = S) ⟨t, _, S, ⟨hg.tmps, hg.defers, hst⟩, Store.le_refl S, ?_, rfl, rfl, rfl⟩ ?_
        · intro j y hj hy hya
          have hji : j ≠ i := fun e => hj (e ▸ hok i hoki)
          exact ⟨y, get_set_ne hy hji, hya, fun _ _ => Iff.rfl⟩
        · rintro t' r' S' hg1 ⟨rfl, rfl, rfl⟩
          refine ok_add hg1 W (g := .pointer (some ⟨w.heap.size, 0, none⟩)) (h := .pointer (some ⟨w.heap.size, 0, none⟩)) (ob := .mapIter (some b) clock #[] clock) (x := .ext (IterAt b clock [])) (sv := .c (.ptr r.length 0)) ?_ (.inl rfl) ?_ ?_ h1
          · simp only [execOp, ho, hg', Instr.range, Sem.run_bind, run_underlying hkind, Result.andThen, Sem.run_pure, newObj, getObj, Sem.run, hb]
            rfl
          · exact ⟨rfl, ⟨_, rfl⟩, heap_alloc_new w _⟩
          · have := hg.st.len; rw [← this]; exact ptr_new _ _
      · exact h.elim
    · exact h.elim
  · exact h.elim

theorem filter_push {ents : List MapEntry} (hnd : (ents.map (·.born)).Nodup) {seen : Array Nat} {e : MapEntry} {pre post : List MapEntry} (h : ents.filter (fun x => !seen.contains x.born) = pre ++ e :: post) :
    ents.filter (fun x => !(seen.push e.born).contains x.born) = pre ++ post := by
  have h1 : ents.filter (fun x => !(seen.push e.born).contains x.born) = (ents.filter (fun x => !seen.contains x.born)).filter (fun x => !(x.born == e.born)) := by
    rw [List.filter_filter]
    congr 1
    funext x
    rw [contains_push]
    cases seen.contains x.born <;> simp
  rw [h1, h]
  have hsub : ((pre ++ e :: post).map (·.born)).Nodup := by
    rw [← h]
    exact hnd.sublist ((List.filter_sublist).map _)
  rw [List.map_append, List.map_cons, List.nodup_append] at hsub
  obtain ⟨h2, h3, h4⟩ := hsub
  rw [List.nodup_cons] at h3
  rw [List.filter_append, List.filter_cons]
  simp only [beq_self_eq_true, Bool.not_true, Bool.false_eq_true, if_false]
  rw [List.filter_eq_self.2, List.filter_eq_self.2]
  · intro x hx
    have : x.born ≠ e.born := fun e1 => h3.1 (by rw [← e1]; exact List.mem_map_of_mem hx)
    simpa using this
  · intro x hx
    have : x.born ≠ e.born := h4 x.born (List.mem_map_of_mem hx) e.born (by simp)
    simpa using this

theorem ok_next (hg : Gam w0 B ρ t r S a w) {o : Oper} {x : Operand} {b : Bool} (ho : o.op = .next x b) (W : Nat → Prop) (hW : ∀ i o, ev t x = .c (.ptr i o) → W i) (hok : ∀ j, ok j = true → W j) (h : vcE P tt ok t r S o.dst (.next x b) K) : OpOk P w0 B W ρ r S a w o K := by
  cases b with
  | true => exact h.elim
  | false =>
  have hx := ev_rel hg.tmps x
  simp only [vcE] at h
  split at h
  · rename_i i hev
    have hWi := hW i 0 hev
    rw [hev] at hx
    obtain ⟨bi, h1, h2⟩ := hx
    split at h
    · rename_i k e m ents clock left cur hr
      have hr' := nthR_some hr (by simp)
      obtain ⟨hS, hnil, hcons⟩ := h
      obtain ⟨g, hg', bi', seen, rfl, hb, hm0, hm⟩ := hg.st.res i _ hr'
      rw [h1] at hg'
      simp only [Option.some.injEq, Value.pointer.injEq, Addr.mk.injEq] at hg'
      obtain ⟨rfl, -⟩ := hg'
      have hover : ∀ (hl : left = []), (Instr.next (.pointer (some ⟨bi, 0, none⟩)) false o.type).run P w = .ok (.tuple #[.bool false]) w → OpOk P w0 B W ρ r S a w o K := by
        intro hl hrun
        have hK := hnil hl
        rw [put_eq] at hK
        refine ok_quiet hg (sv := .tup [(false, [.v (.bool false)])]) (v := .tuple #[.bool false]) ⟨[_], rfl, ⟨rfl, rfl⟩, trivial⟩ ?_ hK W
        simp only [execOp, ho, h2, Sem.run_bind, hrun, Result.andThen, Sem.run_pure]
      cases m with
      | none =>
        refine hover (hm0 rfl).1 ?_
        simp only [Instr.next, getObj, Sem.run_bind, Sem.run, hb, Result.andThen, Sem.run_pure]
      | some mb =>
        obtain ⟨⟨l, hmap⟩, hleft, hlok, _⟩ := hm (by simp)
        have hbw : w.heap[mb]? = some (.map ents clock) := by
          exact hg.st.sub.2 mb _ hS
        have hnd : (ents.toList.map (·.born)).Nodup := hmap.2.2.1
        rcases run_next_at (P := P) w o.type bi mb clock clock seen ents clock hb hbw hmap.2.2.2 (Nat.le_refl _) with ⟨h0, hrun⟩ | ⟨en, hen, w1, hw1, hrun⟩
        · refine hover ?_ hrun
          have hll := congrArg List.length hleft
          simp only [List.length_map, Array.length_toList, h0] at hll
          exact List.eq_nil_of_length_eq_zero hll.symm
        · obtain ⟨pre, post, hsplit⟩ := List.append_of_mem hen
          rw [hsplit, List.map_append, List.map_cons] at hleft
          have hex : ∃ lp p lq, left = lp ++ p :: lq ∧ pre.map (fun x => (x.key, x.val)) = lp.map (fun p => (k.val p.1, e.val p.2)) ∧ (en.key, en.val) = (k.val p.1, e.val p.2) ∧ post.map (fun x => (x.key, x.val)) = lq.map (fun p => (k.val p.1, e.val p.2)) := by
            obtain ⟨l1, l2, hl12, e1, e2⟩ := List.map_eq_append_iff.1 hleft.symm
            obtain ⟨p, l3, hp, e3, e4⟩ := List.map_eq_cons_iff.1 e2
            exact ⟨l1, p, l3, by rw [hl12, hp], e1.symm, e3.symm, e4.symm⟩
          obtain ⟨lp, p, lq, rfl, e1, e2, e3⟩ := hex
          have hK := hcons lp p lq rfl
          simp only [put_eq, setR_eq] at hK
          simp only [Prod.mk.injEq] at e2
          have hpo := hlok p (by simp)
          have hbl := (Array.getElem?_eq_some_iff.1 hb).1
          have hc : ∀ (s : Shape) (y : s.T), s.ok y → compRel ρ (s.agg, s.cs y) (s.val y) := by
            intro s y hy
            cases ha : s.agg with
            | true => exact ⟨s.enc y, by rw [mkVal_enc, ha]; rfl, cs_rel s y hy⟩
            | false => cases s <;> first | (simp [Shape.agg] at ha; done) | exact ⟨rfl, rfl⟩ | exact ⟨rfl, hy⟩
          have hheap : ∀ (ww : World), ww = w ∨ ww = w.drew → ww.heap = w.heap ∧ ww.os = w.os ∧ ww.tape = w.tape ∧ ww.output = w.output := by
            rintro ww (rfl | rfl) <;> exact ⟨rfl, rfl, rfl, rfl⟩
          obtain ⟨hh, hos, htape, hout⟩ := hheap w1 hw1
          refine ok_writeG hg hr' rfl h1 rfl (w' := ChangeMaps.setBlock w1 bi (.mapIter (some mb) clock (seen.push en.born) clock)) (v := .tuple #[.bool true, en.key, en.val]) (sv := .tup [(false, [.v (.bool true)]), (k.agg, k.cs p.1), (e.agg, e.cs p.2)]) ?_ ?_ ?_ hos htape hout ?_ ?_ hK W hWi
          · simp only [execOp, ho, h2, Sem.run_bind, hrun, Result.andThen, Sem.run_pure]
          · intro c hc
            show (w1.heap.setIfInBounds bi _)[c]? = _
            rw [Array.getElem?_setIfInBounds_ne (Ne.symm hc), hh]
          · show (w1.heap.setIfInBounds bi _).size = _
            rw [Array.size_setIfInBounds, hh]
          · refine ⟨bi, seen.push en.born, rfl, ?_, fun h => (by cases h), fun _ => ⟨⟨l, hmap⟩, ?_, ?_, ?_⟩⟩
            · show (w1.heap.setIfInBounds bi _)[bi]? = _
              rw [hh]; simp [hbl]
            · have hf : ents.toList.filter (fun x => !seen.contains x.born) = pre ++ en :: post := by
                rw [← hsplit]; unfold leftOf; rw [Array.toList_filter]
              have := filter_push hnd hf
              have hlo : (leftOf ents (seen.push en.born)).toList = pre ++ post := by
                rw [← this]; unfold leftOf; rw [Array.toList_filter]
              rw [hlo, List.map_append, List.map_append, e1, e3]
            · intro q hq
              refine hlok q ?_
              rcases List.mem_append.1 hq with hq | hq <;> simp [hq]
            · intro q hq
              simp only [Option.some.injEq] at hq
              subst hq
              exact ⟨en, seen, (mem_left hen).1, rfl, e2.1, e2.2, hpo.1, hpo.2⟩
          · exact ⟨[_, _, _], rfl, ⟨rfl, rfl⟩, by rw [e2.1]; exact hc k p.1 hpo.1, by rw [e2.2]; exact hc e p.2 hpo.2, trivial⟩
    · obtain ⟨j, k, e, mb, clock, l, seen, hri, hrj, hoj, hko, hnil, hcons⟩ := h
      have hri' := nthR_some hri (by simp)
      have hrj' := nthR_some hrj (by simp)
      obtain ⟨g, hg', -, ⟨bi', rfl⟩, hb⟩ := hg.st.res i _ hri'
      rw [h1] at hg'
      simp only [Option.some.injEq, Value.pointer.injEq, Addr.mk.injEq] at hg'
      obtain ⟨rfl, -⟩ := hg'
      obtain ⟨g, hgj, -, rfl, ents, hm, hbo, hmap⟩ := hg.st.res j _ hrj'
      have hb : w.heap[bi]? = some (.mapIter (some mb) clock seen.toArray clock) := hb
      have hm : w.heap[mb]? = some (.map ents clock) := hm
      rcases run_next_at (P := P) w o.type bi mb clock clock seen.toArray ents clock hb hm hmap.2.2.2 (Nat.le_refl _) with ⟨h0, hrun⟩ | ⟨en, hen, w1, hw1, hrun⟩
      · have hall : ∀ p ∈ l, p.1 ∈ seen := by
          intro p hp
          have hpb : p.1 ∈ ents.toList.map (·.born) := by rw [hbo]; exact List.mem_map_of_mem hp
          obtain ⟨x', hx', hxb⟩ := List.mem_map.1 hpb
          have : leftOf ents seen.toArray = #[] := Array.eq_empty_of_size_eq_zero h0
          unfold leftOf at this
          rw [Array.filter_eq_empty_iff] at this
          have := this x' (by simpa using hx')
          simpa [hxb] using this
        have hK := hnil hall
        simp only [put_eq, setR_eq] at hK
        refine ok_writeG hg hrj' rfl hgj rfl (w' := w) (v := .tuple #[.bool false]) (sv := .tup [(false, [.v (.bool false)])]) ?_ (fun _ _ => rfl) rfl rfl rfl rfl ?_ ⟨[_], rfl, ⟨rfl, rfl⟩, trivial⟩ hK W (hok j hoj)
        · simp only [execOp, ho, h2, Sem.run_bind, hrun, Result.andThen, Sem.run_pure]
        · exact ⟨mb, ents, clock, rfl, hm, hmap⟩
      · obtain ⟨hen1, hen2⟩ := mem_left hen
        have hex : ∃ p ∈ l, en.born = p.1 ∧ en.key = k.val p.2.1 ∧ en.val = e.val p.2.2 := by
          obtain ⟨n, hn⟩ := List.getElem?_of_mem hen1
          have e1 := congrArg (·[n]?) hbo
          have e2 := congrArg (·[n]?) hmap.1
          simp only [List.getElem?_map, hn, Option.map_some] at e1 e2
          cases hl : l[n]? with
          | none => simp [hl] at e1
          | some p =>
            simp only [hl, Option.map_some, Option.some.injEq, Prod.mk.injEq] at e1 e2
            exact ⟨p, List.mem_of_getElem? hl, e1, e2.1, e2.2⟩
        obtain ⟨p, hp, hpb, hpk, hpv⟩ := hex
        have hns : p.1 ∉ seen := by
          rw [hpb] at hen2
          simpa using hen2
        have hK := hcons p hp hns
        simp only [put_eq, setR_eq] at hK
        have hbl := (Array.getElem?_eq_some_iff.1 hb).1
        have hc : ∀ (s : Shape) (y : s.T), s.ok y → compRel ρ (s.agg, s.cs y) (s.val y) := by
          intro s y hy
          cases ha : s.agg with
          | true => exact ⟨s.enc y, by rw [mkVal_enc, ha]; rfl, cs_rel s y hy⟩
          | false => cases s <;> first | (simp [Shape.agg] at ha; done) | exact ⟨rfl, rfl⟩ | exact ⟨rfl, hy⟩
        have hheap : ∀ (ww : World), ww = w ∨ ww = w.drew → ww.heap = w.heap ∧ ww.os = w.os ∧ ww.tape = w.tape ∧ ww.output = w.output := by
          rintro ww (rfl | rfl) <;> exact ⟨rfl, rfl, rfl, rfl⟩
        obtain ⟨hh, hos, htape, hout⟩ := hheap w1 hw1
        refine ok_writeG hg hri' rfl h1 rfl (w' := ChangeMaps.setBlock w1 bi (.mapIter (some mb) clock (seen.toArray.push en.born) clock)) (v := .tuple #[.bool true, en.key, en.val]) (sv := .tup [(false, [.v (.bool true)]), (k.agg, k.cs p.2.1), (e.agg, e.cs p.2.2)]) ?_ ?_ ?_ hos htape hout ?_ ?_ hK W hWi
        · simp only [execOp, ho, h2, Sem.run_bind, hrun, Result.andThen, Sem.run_pure]
        · intro c hc
          show (w1.heap.setIfInBounds bi _)[c]? = _
          rw [Array.getElem?_setIfInBounds_ne (Ne.symm hc), hh]
        · show (w1.heap.setIfInBounds bi _).size = _
          rw [Array.size_setIfInBounds, hh]
        · refine ⟨rfl, ⟨bi, rfl⟩, ?_⟩
          show (w1.heap.setIfInBounds bi _)[bi]? = _
          rw [hh, hpb]; simp [hbl]
        · exact ⟨[_, _, _], rfl, ⟨rfl, rfl⟩, by rw [hpk]; exact hc k p.2.1 (hko p hp), by rw [hpv]; exact hc e p.2.2 (hmap.2.1 p.2 (List.mem_map_of_mem hp)), trivial⟩
    · exact h.elim
  · exact h.elim

end Go.Vc
