/- Verification conditions, third part: what a symbolic state says of a world; operations that leave memory alone are sound. -/
import Derived.Test.YtapblcfbmaikjaaGreatDoorVcB2
namespace Go.Vc
open Go

section lists
variable {α β : Type} {R : α → β → Prop}
theorem rels_length : ∀ {xs : List α} {ys : List β}, rels R xs ys → xs.length = ys.length
  | [], [], _ => rfl
  | _ :: _, _ :: _, h => by simp [rels_length h.2]
  | [], _ :: _, h => h.elim
  | _ :: _, [], h => h.elim
theorem rels_get : ∀ {xs : List α} {ys : List β}, rels R xs ys → ∀ (i : Nat) x, xs[i]? = some x → ∃ y, ys[i]? = some y ∧ R x y
  | [], [], _, i, x, h => by simp at h
  | x :: xs, y :: ys, h, 0, z, hz => by simp at hz; subst hz; exact ⟨y, rfl, h.1⟩
  | x :: xs, y :: ys, h, i + 1, z, hz => by simpa using rels_get h.2 i z (by simpa using hz)
  | [], _ :: _, h, _, _, _ => h.elim
  | _ :: _, [], h, _, _, _ => h.elim
theorem rels_drop : ∀ {xs : List α} {ys : List β} (n : Nat), rels R xs ys → rels R (xs.drop n) (ys.drop n)
  | xs, ys, 0, h => by simpa using h
  | [], [], n + 1, _ => by simp [rels]
  | x :: xs, y :: ys, n + 1, h => by simpa using rels_drop n h.2
  | [], _ :: _, _ + 1, h => h.elim
  | _ :: _, [], _ + 1, h => h.elim
theorem rels_take : ∀ {xs : List α} {ys : List β} (n : Nat), rels R xs ys → rels R (xs.take n) (ys.take n)
  | xs, ys, 0, _ => by simp [rels]
  | [], [], n + 1, _ => by simp [rels]
  | x :: xs, y :: ys, n + 1, h => by simpa [rels] using ⟨h.1, rels_take n h.2⟩
  | [], _ :: _, _ + 1, h => h.elim
  | _ :: _, [], _ + 1, h => h.elim
theorem rels_append : ∀ {xs us : List α} {ys vs : List β}, rels R xs ys → rels R us vs → rels R (xs ++ us) (ys ++ vs)
  | [], _, [], _, _, h => by simpa using h
  | x :: xs, _, y :: ys, _, h, k => by simpa [rels] using ⟨h.1, rels_append h.2 k⟩
  | [], _, _ :: _, _, h, _ => h.elim
  | _ :: _, _, [], _, h, _ => h.elim
theorem rels_mono {R' : α → β → Prop} (hR : ∀ x y, R x y → R' x y) : ∀ {xs : List α} {ys : List β}, rels R xs ys → rels R' xs ys
  | [], [], _ => trivial
  | _ :: _, _ :: _, h => ⟨hR _ _ h.1, rels_mono hR h.2⟩
  | [], _ :: _, h => h.elim
  | _ :: _, [], h => h.elim
theorem rels_set : ∀ {xs : List α} {ys : List β} (i : Nat) {x y}, rels R xs ys → R x y → rels R (xs.set i x) (ys.set i y)
  | [], [], i, _, _, _, _ => by simp [rels]
  | _ :: _, _ :: _, 0, _, _, h, k => ⟨k, h.2⟩
  | _ :: _, _ :: _, i + 1, _, _, h, k => ⟨h.1, rels_set i h.2 k⟩
  | [], _ :: _, _, _, _, h, _ => h.elim
  | _ :: _, [], _, _, _, h, _ => h.elim
theorem rels_all {Q : β → Prop} (hR : ∀ x y, R x y → Q y) : ∀ {xs : List α} {ys : List β}, rels R xs ys → ∀ y ∈ ys, Q y
  | [], [], _, y, hy => by simp at hy
  | x :: xs, z :: ys, h, y, hy => by
    rcases List.mem_cons.1 hy with rfl | hy
    · exact hR _ _ h.1
    · exact rels_all hR h.2 y hy
  | [], _ :: _, h, _, _ => h.elim
  | _ :: _, [], h, _, _ => h.elim
end lists

theorem setK_eq (l : List SV) : ∀ (n : Nat) (v : SV) (k : List SV → Prop), setK l n v k = k (l.set n v) := by
  induction l with
  | nil => intro n v k; cases n <;> simp [setK]
  | cons x xs ih => intro n v k; cases n <;> simp [setK, ih]
theorem setR_eq (l : List Res) : ∀ (n : Nat) (v : Res) (k : List Res → Prop), setR l n v k = k (l.set n v) := by
  induction l with
  | nil => intro n v k; cases n <;> simp [setR]
  | cons x xs ih => intro n v k; cases n <;> simp [setR, ih]
theorem snocK_eq (l : List Res) (x : Res) : ∀ k : List Res → Prop, snocK l x k = k (l ++ [x]) := by
  induction l with
  | nil => intro k; rfl
  | cons y ys ih => intro k; simp [snocK, ih]
theorem lenK_eq (l : List Res) : ∀ k : Nat → Prop, lenK l k = k l.length := by
  induction l with
  | nil => intro k; rfl
  | cons y ys ih => intro k; simp [lenK, ih]
theorem forceC_eq (x : C) (k : C → Prop) : forceC x k = k x := by cases x <;> rfl
theorem forceL_eq (l : List C) : ∀ k : List C → Prop, forceL l k = k l := by
  induction l with
  | nil => intro k; rfl
  | cons y ys ih => intro k; simp [forceL, forceC_eq, ih]
theorem forceT_eq (l : List (Bool × List C)) : ∀ k : List (Bool × List C) → Prop, forceT l k = k l := by
  induction l with
  | nil => intro k; rfl
  | cons y ys ih => intro k; obtain ⟨b, cs⟩ := y; cases b <;> simp [forceT, forceL_eq, ih]
theorem force_eq (x : SV) (k : SV → Prop) : force x k = k x := by cases x <;> simp [force, forceC_eq, forceL_eq, forceT_eq]
def putL (t : List SV) (d : Option Tmp) (v : SV) : List SV := match d with
  | none => t
  | some d => t.set d v
theorem put_eq (t : List SV) (d : Option Tmp) (v : SV) (k : List SV → Prop) : put t d v k = k (putL t d v) := by
  cases d <;> simp [put, putL, force_eq, setK_eq]
theorem nthR_eq : ∀ (l : List Res) (i : Nat), nthR l i = (l[i]?).getD .gone
  | [], _ => rfl
  | _ :: _, 0 => rfl
  | _ :: xs, i + 1 => by simpa [nthR] using nthR_eq xs i
theorem nthR_some {l : List Res} {i : Nat} {x : Res} (h : nthR l i = x) (hx : x ≠ .gone) : l[i]? = some x := by
  rw [nthR_eq] at h
  cases hg : l[i]? with
  | none => simp [hg] at h; exact absurd h.symm hx
  | some y => simp [hg] at h; rw [h]

/-- What an operation that leaves memory alone sees. -/
structure Sees (ρ : List Value) (r : List Res) (S : Store) (w : World) : Prop where
  res : ∀ (i : Nat) x, r[i]? = some x → ∃ h, ρ[i]? = some h ∧ x.holds ρ h w
  sub : S.le (Store.of w)

/-- The program's types are as the table says. -/
def Kind.fits (P : Program) (t : TypeId) : Kind → Prop
  | .int k => P.underlying t = some (.int k)
  | .bool => P.underlying t = some .bool
  | .str => P.underlying t = some .string
  | .slice e => P.underlying t = some (.slice e)
  | .map k e => P.underlying t = some (.map k e)
  | .struct fs => ∃ fa, P.underlying t = some (.struct fa) ∧ fa.toList.map (fun f => (f.offset, f.type)) = fs ∧ (fa.toList.all fun f => (P.info? f.type).isSome) = true
  | .array n e => P.underlying t = some (.array n e)
  | .ptr e => P.underlying t = some (.pointer e)
  | .func => ∃ a b c, P.underlying t = some (.func a b c)
  | .iface => ∃ ms, P.underlying t = some (.interface ms)
  | .other => True

def mkVal : Bool → List Value → Value
  | true, l => .agg l.toArray
  | false, [x] => x
  | _, _ => undef

def isAggD : TypeDesc → Bool
  | .struct _ | .array _ _ => true
  | _ => false

structure Fits (P : Program) (t : TypeId) (ti : TI) : Prop where
  kind : ti.kind.fits P t
  agg : ∃ d, P.underlying t = some d ∧ isAggD d = ti.sh.agg
  one : ti.sh.agg = false → ti.sz = 1
  n : ti.sh.n = ti.sz
  info : ∃ i, P.info? t = some i ∧ i.size = ti.sz ∧ i.bytes = ti.bytes ∧ ∃ vs, toVals ti.zero = some vs ∧ vs.length = ti.sz ∧ (∀ v ∈ vs, v.oneCell' = true) ∧ i.zero = some (mkVal ti.sh.agg vs)
  eqOk : ti.eq = true → P.stoodInHeld t = false ∧ P.eqGuardType P.depth t = false ∧ ((P.fieldsOf t).toList.all fun f => f.name != "_") = true

theorem fits_mk {P : Program} {t : TypeId} {ti : TI} {d : TypeDesc} {vs : List Value} (hk : ti.kind.fits P t) (hd : P.underlying t = some d) (hagg : isAggD d = ti.sh.agg) (hone : ti.sh.agg = false → ti.sz = 1) (hn : ti.sh.n = ti.sz)
    (hi : (P.info? t).map (fun i => (i.size, i.bytes, i.zero)) = some (ti.sz, ti.bytes, some (mkVal ti.sh.agg vs))) (hv : toVals ti.zero = some vs) (hl : vs.length = ti.sz) (h1 : (vs.all fun v => v.oneCell') = true)
    (he : ti.eq = true → P.stoodInHeld t = false ∧ P.eqGuardType P.depth t = false ∧ ((P.fieldsOf t).toList.all fun f => f.name != "_") = true) : Fits P t ti := by
  refine ⟨hk, ⟨d, hd, hagg⟩, hone, hn, ?_, he⟩
  cases hq : P.info? t with
  | none => simp [hq] at hi
  | some i =>
    simp only [hq, Option.map_some, Option.some.injEq, Prod.mk.injEq] at hi
    exact ⟨i, rfl, hi.1, hi.2.1, vs, hv, hl, fun v hvm => List.all_eq_true.1 h1 v hvm, hi.2.2⟩

/-- The table as a tree. -/
inductive TTree where
  | leaf
  | node (k : Nat) (i : TI) (l r : TTree)
def TTree.look : TTree → Nat → Option TI
  | .leaf, _ => none
  | .node k i l r, t => if t = k then some i else match Nat.blt t k with
    | true => l.look t
    | false => r.look t
def TTree.fits (P : Program) : TTree → Prop
  | .leaf => True
  | .node k i l r => Fits P k i ∧ l.fits P ∧ r.fits P

def Agrees (P : Program) (tt : Nat → Option TI) : Prop := ∀ t ti, tt t = some ti → Fits P t ti

theorem TTree.agrees {P : Program} : ∀ {T : TTree}, T.fits P → Agrees P T.look
  | .leaf, _, t, ti, h => by simp [TTree.look] at h
  | .node k i l r, ⟨h1, h2, h3⟩, t, ti, h => by
    simp only [TTree.look] at h
    split at h
    · rename_i hk; simp only [Option.some.injEq] at h; rw [hk, ← h]; exact h1
    · split at h
      · exact TTree.agrees h2 t ti h
      · exact TTree.agrees h3 t ti h

theorem C.rel_one {ρ : List Value} {x : C} {y : Value} (h : x.rel ρ y) : y.oneCell' = true := by
  cases x <;> simp only [C.rel] at h
  case junk => exact h
  case v => obtain ⟨rfl, h⟩ := h; exact h
  case ptr => obtain ⟨b, _, rfl⟩ := h; rfl
  case sl => obtain ⟨b, _, rfl⟩ := h; rfl
  case ref => exact h.2
  case elt => obtain ⟨b, n, m, _, rfl⟩ := h; rfl
  case seg => obtain ⟨p, len, m, _, _, rfl⟩ := h; rfl
  case clo => obtain ⟨ys, rfl, _⟩ := h; rfl

theorem nth_rel {ρ : List Value} : ∀ {t : List SV} {l : List Value}, rels (SV.rel ρ) t l → ∀ i : Nat, (nth t i).rel ρ (l.getD i undef)
  | [], [], _, i => by simp [nth, SV.rel]
  | _ :: _, _ :: _, h, 0 => by simpa [nth] using h.1
  | _ :: _, _ :: _, h, i + 1 => by simpa [nth] using nth_rel h.2 i
  | [], _ :: _, h, _ => h.elim
  | _ :: _, [], h, _ => h.elim

theorem ev_rel {ρ : List Value} {t : List SV} {a : Act} (h : rels (SV.rel ρ) t a.tmps.toList) (x : Operand) : (ev t x).rel ρ (a.eval x) := by
  cases x with
  | tmp i => simpa [ev, Act.eval] using nth_rel h i
  | const v => cases v <;> simp [ev, Act.eval, SV.rel, C.rel, Value.oneCell']
  | global g => simp [ev, Act.eval, SV.rel, C.rel, Value.oneCell']
  | func f => simp [ev, Act.eval, SV.rel, C.rel, Value.oneCell']

/-- What a value that is known says of the operand. -/
theorem rel_v {ρ : List Value} {x : SV} {y u : Value} (h : x.rel ρ y) (e : x = .c (.v u)) : y = u ∧ u.oneCell' = true := by
  subst e; exact h

theorem enc_length : ∀ (s : Shape) (x : s.T), (s.enc x).length = s.n
  | .int _, _ | .bool, _ | .str, _ | .slice, _ | .map, _ | .any, _ | .unit, _ => rfl
  | .pair a b, x => by simp [Shape.enc, Shape.n, enc_length a, enc_length b]
  | .st a, x => enc_length a x

theorem cs_rel {ρ : List Value} : ∀ (s : Shape) (x : s.T), s.ok x → rels (C.rel ρ) (s.cs x) (s.enc x)
  | .int _, _, _ | .bool, _, _ | .str, _, _ | .slice, _, _ | .map, _, _ => by simp [Shape.cs, Shape.enc, rels, C.rel, Value.oneCell']
  | .any, x, h => by simpa [Shape.cs, Shape.enc, rels, C.rel, Shape.ok] using h
  | .unit, _, _ => trivial
  | .pair a b, x, h => rels_append (cs_rel a x.1 h.1) (cs_rel b x.2 h.2)
  | .st a, x, h => cs_rel a x h

theorem sv_rel {ρ : List Value} (s : Shape) (x : s.T) (h : s.ok x) : (s.sv x).rel ρ (s.val x) := by
  cases s with
  | int k => simp [Shape.sv, Shape.val, SV.rel, C.rel, Value.oneCell']
  | bool => simp [Shape.sv, Shape.val, SV.rel, C.rel, Value.oneCell']
  | str => simp [Shape.sv, Shape.val, SV.rel, C.rel, Value.oneCell']
  | slice => simp [Shape.sv, Shape.val, SV.rel, C.rel, Value.oneCell']
  | map => simp [Shape.sv, Shape.val, SV.rel, C.rel, Value.oneCell']
  | any => simpa [Shape.sv, Shape.val, SV.rel, C.rel, Shape.ok] using h
  | unit => exact ⟨[], rfl, trivial⟩
  | pair a b => exact ⟨_, rfl, rels_append (cs_rel a x.1 h.1) (cs_rel b x.2 h.2)⟩
  | st a => exact ⟨_, rfl, cs_rel a x h⟩

theorem run_loadVar {P : Program} {t : TypeId} {ti : TI} (hf : Fits P t ti) {w : World} {b o : Nat} {l : List Value} (hl : l.length = ti.sz)
    (hc : ∀ (j : Nat) x, l[j]? = some x → w.cell? ⟨b, o + j, none⟩ = some x) : (loadVar t ⟨b, o, none⟩).run P w = .ok (mkVal ti.sh.agg l) w := by
  obtain ⟨d, hd, hagg⟩ := hf.agg
  obtain ⟨i, hi, hsz, hb, _⟩ := hf.info
  have hadd : ∀ j : Nat, (⟨b, o, none⟩ : Addr).add j = ⟨b, o + j, none⟩ := fun j => Addr.add_lit b o j
  have hisAgg : (isAgg t).run P w = .ok ti.sh.agg w := by
    simp only [isAgg, Sem.run_bind, run_underlying hd, Result.andThen]
    rw [← hagg]
    cases d <;> rfl
  have hsize : (sizeOf t).run P w = .ok ti.sz w := by
    simp [sizeOf, typeInfo, hi, hsz]
  cases ha : ti.sh.agg with
  | true =>
    have h1 := run_loadCells_list (P := P) w ⟨b, o, none⟩ l (fun j v hj => by rw [hadd]; exact hc j v hj)
    rw [hl] at h1
    simp [loadVar, hisAgg, ha, hsize, h1, mkVal]
  | false =>
    have h1 := hf.one ha
    match l, hl with
    | [x], _ =>
      have h2 := hc 0 x rfl
      simp [loadVar, hisAgg, ha, mkVal] at h2 ⊢
      rw [h2]
    | [], h => simp [h1] at h
    | _ :: _ :: _, h => simp [h1] at h

/-- A part of a row of cells that is known. -/
theorem partK_sound {P : Program} {t : TypeId} {ti : TI} (hf : Fits P t ti) {ρ : List Value} {cs : List C} {o : Nat} {K : SV → Prop} (h : partK ti cs o K) {l : List Value} (hl : rels (C.rel ρ) cs l) :
    ∃ sv, sv.rel ρ (mkVal ti.sh.agg ((l.drop o).take ti.sz)) ∧ K sv ∧ o + ti.sz ≤ l.length := by
  unfold partK at h
  split at h
  · rename_i hle
    have hlen := rels_length hl
    split at h
    · rename_i ha
      exact ⟨_, by rw [ha]; exact ⟨_, rfl, rels_take _ (rels_drop _ hl)⟩, h, by omega⟩
    · rename_i ha
      split at h
      · rename_i x hx
        obtain ⟨y, hy, hr⟩ := rels_get hl _ _ hx
        have h1 := hf.one ha
        have hd : (l.drop o).take ti.sz = [y] := by
          rw [h1]
          have hlt : o < l.length := (List.getElem?_eq_some_iff.1 hy).1
          rw [List.drop_eq_getElem_cons hlt]
          simp only [List.take_succ_cons, List.take_zero]
          rw [(List.getElem?_eq_some_iff.1 hy).2]
        refine ⟨_, ?_, h, by omega⟩
        rw [ha, hd]
        cases x <;> first | exact hr | trivial
      · exact h.elim
  · exact h.elim

/-- Another world in which what is owned is as it was, and the store's cells are there. -/
structure Near (ρ : List Value) (r : List Res) (S : Store) (w w' : World) : Prop where
  same : ∀ (i : Nat) x h b, r[i]? = some x → x.alive = true → ρ[i]? = some h → x.foot h b → w'.heap[b]? = w.heap[b]?
  sub : S.le (Store.of w')

theorem Res.holds_near {x : Res} {ρ : List Value} {h : Value} {w w' : World} (hx : x.holds ρ h w) (hb : x.alive = true → ∀ b, x.foot h b → w'.heap[b]? = w.heap[b]?) : x.holds ρ h w' := by
  cases x with
  | gone => trivial
  | box cs =>
    obtain ⟨b, T, xs, rfl, h1, h2⟩ := hx
    exact ⟨b, T, xs, rfl, by rw [hb rfl b rfl]; exact h1, h2⟩
  | row sh e xs =>
    obtain ⟨⟨h1, h2⟩, h3⟩ := hx
    refine ⟨⟨h1, ?_⟩, h3⟩
    rcases h2 with h2 | ⟨g, cap, cur, rfl, hg, hc, h4⟩
    · exact .inl h2
    · exact .inr ⟨g, cap, cur, rfl, hg, by rw [hb rfl g rfl]; exact hc, h4⟩
  | map k e es =>
    obtain ⟨b, ents, clock, rfl, h1, h2⟩ := hx
    exact ⟨b, ents, clock, rfl, by rw [hb rfl b rfl]; exact h1, h2⟩
  | iter k e m ents clock left cur =>
    obtain ⟨b, seen, rfl, h1, h2⟩ := hx
    exact ⟨b, seen, rfl, by rw [hb rfl b rfl]; exact h1, h2⟩
  | ext Q =>
    refine ⟨hx.1, ?_⟩
    have e : (blk h).bind (w'.heap[·]?) = (blk h).bind (w.heap[·]?) := by
      cases hk : blk h with
      | none => rfl
      | some b => simpa using hb rfl b hk
    rw [e]; exact hx.2
  | pool sh e l =>
    refine ⟨hx.1, fun p hp => ⟨?_, (hx.2.1 p hp).2⟩, hx.2.2⟩
    obtain ⟨h1, h2⟩ := (hx.2.1 p hp).1
    refine ⟨h1, ?_⟩
    rcases h2 with h2 | ⟨g, cap, cur, hv, hg, hc, h4⟩
    · exact .inl h2
    · exact .inr ⟨g, cap, cur, hv, hg, by rw [hb rfl g ⟨p, hp, by rw [hv]; rfl⟩]; exact hc, h4⟩

theorem Sees.near {ρ : List Value} {r : List Res} {S : Store} {w w' : World} (h : Sees ρ r S w) (hn : Near ρ r S w w') : Sees ρ r S w' :=
  ⟨fun i x hx => let ⟨g, h1, h2⟩ := h.res i x hx; ⟨g, h1, Res.holds_near h2 fun ha b hb => hn.same i x g b hx ha h1 hb⟩, hn.sub⟩

theorem rd_row {v : Value} {w : World} {sh : Shape} {e : TypeId} {xs : List sh.T} (how : w.ownsRow 0 e sh.n v xs.length (sh.encs xs)) (hok : ∀ x ∈ xs, sh.ok x) : RowIs (Store.of w) v sh xs := by
  rcases how.2 with ⟨rfl, hn⟩ | ⟨g, cap, cur, rfl, _, hg, hnc, hcm, hcs, htake⟩
  · exact ⟨none, 0, by rw [hn], .inl (List.eq_nil_of_length_eq_zero hn), hok⟩
  · refine ⟨some ⟨g, 0, none⟩, cap, rfl, .inr ⟨g, 0, rfl, ?_⟩, hok⟩
    intro j u hu
    have := how.cellAt j (by rw [← how.1]; exact (List.getElem?_eq_some_iff.1 hu).1)
    simp only [Store.of, Nat.zero_add]
    rw [this]; exact hu

/-- What the pools hold, the world's store knows. -/
theorem pools_of {ρ : List Value} {w : World} : ∀ {r : List Res}, (∀ x ∈ r, ∃ h, x.holds ρ h w) → poolsRd r (Store.of w)
  | [], _ => trivial
  | x :: r, h => by
    have ih := pools_of (r := r) (fun y hy => h y (by simp [hy]))
    obtain ⟨g, hg⟩ := h x (by simp)
    cases x <;> try exact ih
    exact ⟨fun p hp => rd_row (hg.2.1 p hp).1 (hg.2.1 p hp).2, ih⟩

theorem Sees.pools {ρ : List Value} {r : List Res} {S : Store} {w : World} (h : Sees ρ r S w) : poolsRd r (Store.of w) :=
  pools_of fun x hx => let ⟨i, hi⟩ := List.getElem?_of_mem hx; let ⟨g, _, hg⟩ := h.res i x hi; ⟨g, hg⟩

theorem Lk.now {ρ : List Value} {r : List Res} {S : Store} {w : World} {Q : Store → Prop} (h : Lk r S Q) (hs : Sees ρ r S w) (hm : Q S → Q (Store.of w)) : Q (Store.of w) := by
  unfold Lk at h
  split at h
  · exact h _ hs.sub hs.pools
  · exact hm h

/-- The operation yields the value and leaves the world. -/
def YieldV (P : Program) (op : Op) (a : Act) (w : World) (v : Value) : Prop := ∀ o : Oper, o.op = op → (execOp a.eval o).run P w = .ok (.value v) w

end Go.Vc
