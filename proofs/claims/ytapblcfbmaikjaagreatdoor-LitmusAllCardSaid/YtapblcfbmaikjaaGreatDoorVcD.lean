/- Verification conditions, fourth part: an operation that leaves memory alone yields what its condition says. -/
import Derived.Test.YtapblcfbmaikjaaGreatDoorVcC
namespace Go.Vc
open Go

variable {P : Program} {tt : Nat → Option TI} {ρ : List Value} {t : List SV} {r : List Res} {S : Store} {a : Act} {K : SV → Prop}

/-- What is to be shown of an operation. -/
def QSound (P : Program) (ρ : List Value) (r : List Res) (S : Store) (a : Act) (w : World) (op : Op) (K : SV → Prop) : Prop :=
  ∃ sv v, sv.rel ρ v ∧ K sv ∧ ∀ w', Near ρ r S w w' → YieldV P op a w' v

theorem fieldAt_some (hA : Agrees P tt) {s f off : Nat} {fi : TI} (h : fieldAt tt s f = some (off, fi)) :
    ∃ fa fd, P.underlying s = some (.struct fa) ∧ fa[f]? = some fd ∧ fd.offset = off ∧ Fits P fd.type fi := by
  unfold fieldAt at h
  split at h
  · rename_i ti hti
    split at h
    · rename_i fs hk
      split at h
      · rename_i off' t' hf
        split at h
        · rename_i fi' hfi
          simp only [Option.some.injEq, Prod.mk.injEq] at h
          obtain ⟨rfl, rfl⟩ := h
          have hkind := (hA s ti hti).kind
          rw [hk] at hkind
          obtain ⟨fa, h1, h2, -⟩ := hkind
          rw [← h2, List.getElem?_map] at hf
          cases hg : fa.toList[f]? with
          | none => simp [hg] at hf
          | some fd =>
            simp only [hg, Option.map_some, Option.some.injEq, Prod.mk.injEq] at hf
            obtain ⟨rfl, rfl⟩ := hf
            exact ⟨fa, fd, h1, by simpa using hg, rfl, hA _ _ hfi⟩
        · cases h
      · cases h
    · cases h
  · cases h

theorem run_sizeOf {t : Nat} {ti : TI} (hf : Fits P t ti) (w : World) : (sizeOf t).run P w = .ok ti.sz w := by
  obtain ⟨i, hi, hsz, _⟩ := hf.info
  simp [sizeOf, typeInfo, hi, hsz]

theorem run_fieldPlace {fd : Field} {fi : TI} (hf : Fits P fd.type fi) (hz : fi.sz ≠ 0) (b o : Nat) (w : World) :
    (fieldPlace ⟨b, o, none⟩ fd).run P w = .ok ⟨b, o + fd.offset, none⟩ w := by
  simp [fieldPlace, run_sizeOf hf, hz, Addr.add_lit]

theorem run_fieldAt {s f off : Nat} {fi : TI} (hA : Agrees P tt) (h : fieldAt tt s f = some (off, fi)) (hz : fi.sz ≠ 0) (b o : Nat) (w : World) :
    (Instr.fieldAt s (.pointer (some ⟨b, o, none⟩)) f).run P w = .ok (.pointer (some ⟨b, o + off, none⟩)) w := by
  obtain ⟨fa, fd, h1, h2, rfl, h4⟩ := fieldAt_some hA h
  simp [Instr.fieldAt, run_underlying h1, h2, Instr.sureAddr, run_fieldPlace h4 hz]

theorem run_part {t : Nat} {ti : TI} (hf : Fits P t ti) (xs : Array Value) (off : Nat) (hle : off + ti.sz ≤ xs.size) (w : World) :
    (part t xs off).run P w = .ok (mkVal ti.sh.agg ((xs.toList.drop off).take ti.sz)) w := by
  obtain ⟨d, hd, hagg⟩ := hf.agg
  have hisAgg : (isAgg t).run P w = .ok ti.sh.agg w := by
    simp only [isAgg, Sem.run_bind, run_underlying hd, Result.andThen]
    rw [← hagg]
    cases d <;> rfl
  cases ha : ti.sh.agg with
  | true =>
    simp only [part, Sem.run_bind, hisAgg, ha, Result.andThen, if_true, run_sizeOf hf, mkVal]
    simp [← Array.toList_inj, Array.toList_extract]
  | false =>
    have h1 := hf.one ha
    have hlt : off < xs.size := by omega
    have h3 : (xs.toList.drop off).take ti.sz = [xs[off]] := by
      rw [h1, List.drop_eq_getElem_cons (by simpa using hlt)]; simp
    simp [part, hisAgg, ha, h3, mkVal, hlt]

theorem cut_pos {α : Type} {l : List α} {x : α} (h : l = [x]) : l[0]? = some x := by subst h; rfl

theorem q_load_box (hA : Agrees P tt) {ty : Nat} {ti : TI} (hti : tt ty = some ti) {x : Operand} {i o : Nat} {cs : List C} (hr : r[i]? = some (.box cs)) {w : World} (hs : Sees ρ r S w)
    (hx : (SV.c (.ptr i o)).rel ρ (a.eval x)) (h : partK ti cs o K) : QSound P ρ r S a w (.load ty x) K := by
  obtain ⟨b, h1, h2⟩ := hx
  obtain ⟨g, hg, b', T, xs, rfl, hb, hrel⟩ := hs.res i _ hr
  rw [h1] at hg
  simp only [Option.some.injEq, Value.pointer.injEq, Addr.mk.injEq] at hg
  obtain ⟨rfl, -⟩ := hg
  obtain ⟨sv, hv, hK, hle⟩ := partK_sound (hA _ _ hti) h hrel
  refine ⟨sv, _, hv, hK, fun w' hn o' ho => ?_⟩
  have hb' : w'.heap[b]? = some (.cells xs T (0, 0)) := by rw [hn.same i _ _ b hr rfl h1 rfl]; exact hb
  have hlen : ((xs.toList.drop o).take ti.sz).length = ti.sz := by simp at hle ⊢; omega
  have hl := run_loadVar (hA _ _ hti) (w := w') (b := b) (o := o) hlen (fun j y hj => by
    simp only [World.cell?, hb', Option.isSome_none, Bool.false_eq_true, if_false]
    rw [List.getElem?_take, List.getElem?_drop] at hj
    split at hj
    · simpa using hj
    · cases hj)
  simp only [execOp, ho, h2, Sem.run_bind, Instr.loadAt, Instr.sureAddr, Sem.run_pure, Result.andThen, hl]

theorem rels_vals {ρ : List Value} : ∀ {vs : List Value}, (∀ v ∈ vs, v.oneCell' = true) → rels (C.rel ρ) (vs.map .v) vs
  | [], _ => trivial
  | v :: vs, h => ⟨⟨rfl, h v (by simp)⟩, rels_vals fun u hu => h u (by simp [hu])⟩
theorem q_load_named (hA : Agrees P tt) {ty : Nat} {ti : TI} (hti : tt ty = some ti) {x : Operand} {i b o : Nat} {vs : List Value} {q : Option TypeId} (hr : r[i]? = some (.ext (BoxAt b vs q))) {w : World} (hs : Sees ρ r S w)
    (hx : (SV.c (.v (.pointer (some ⟨b, o, none⟩)))).rel ρ (a.eval x)) (h : partK ti (vs.map .v) o K) : QSound P ρ r S a w (.load ty x) K := by
  obtain ⟨hx, -⟩ := hx
  obtain ⟨g, hg, -, rfl, hone, T, rest, -, hb⟩ := hs.res i _ hr
  have hb : w.heap[b]? = some (.cells (vs ++ rest).toArray T (0, 0)) := hb
  obtain ⟨sv, hv, hK, hle⟩ := partK_sound (ρ := ρ) (hA _ _ hti) h (rels_vals hone)
  refine ⟨sv, _, hv, hK, fun w' hn o' ho => ?_⟩
  have hb' : w'.heap[b]? = some (.cells (vs ++ rest).toArray T (0, 0)) := by rw [hn.same i _ _ b hr rfl hg rfl]; exact hb
  have hlen : ((vs.drop o).take ti.sz).length = ti.sz := by simp at hle ⊢; omega
  have hl := run_loadVar (hA _ _ hti) (w := w') (b := b) (o := o) hlen (fun j y hj => by
    simp only [World.cell?, hb', Option.isSome_none, Bool.false_eq_true, if_false]
    rw [List.getElem?_take, List.getElem?_drop] at hj
    split at hj
    · have hlt := (List.getElem?_eq_some_iff.1 hj).1
      have hj' : (vs ++ rest)[o + j]? = some y := by rw [List.getElem?_append_left hlt]; exact hj
      simpa using hj'
    · cases hj)
  simp only [execOp, ho, hx, Sem.run_bind, Instr.loadAt, Instr.sureAddr, Sem.run_pure, Result.andThen, hl]

theorem q_load_elt (hA : Agrees P tt) {ty : Nat} {ti : TI} (hti : tt ty = some ti) {x : Operand} {i k o : Nat} {sh : Shape} {e : TypeId} {xs : List sh.T} (hr : r[i]? = some (.row sh e xs)) {w : World} (hs : Sees ρ r S w)
    (hx : (SV.c (.elt i k sh.n o)).rel ρ (a.eval x)) {y : sh.T} (hy : xs[k]? = some y) (h : partK ti (sh.cs y) o K) : QSound P ρ r S a w (.load ty x) K := by
  obtain ⟨b, n, m, h1, h2⟩ := hx
  obtain ⟨g, hg, how, hok⟩ := hs.res i _ hr
  rw [h1] at hg
  simp only [Option.some.injEq] at hg
  subst hg
  obtain ⟨sv, hv, hK, hle⟩ := partK_sound (ρ := ρ) (hA _ _ hti) h (cs_rel sh y (hok y (List.mem_of_getElem? hy)))
  refine ⟨sv, _, hv, hK, fun w' hn o' ho => ?_⟩
  have how' : w'.ownsRow 0 e sh.n (.slice (some ⟨b, 0, none⟩) n m) xs.length (sh.encs xs) := by
    obtain ⟨h3, h4⟩ := how
    refine ⟨h3, ?_⟩
    rcases h4 with h4 | ⟨g, cap, cur, hv', hg, hc, h5⟩
    · cases h4.1
    · simp only [Value.slice.injEq, Option.some.injEq, Addr.mk.injEq, and_true] at hv'
      obtain ⟨rfl, rfl, rfl⟩ := hv'
      exact .inr ⟨_, _, cur, rfl, hg, by rw [hn.same i _ _ b hr rfl h1 rfl]; exact hc, h5⟩
  have hnn : n = xs.length := by
    rcases how'.2 with h4 | ⟨g, cap, cur, hv', _⟩
    · cases h4.1
    · simp only [Value.slice.injEq] at hv'; exact hv'.2.1
  subst hnn
  have hlen : (((sh.enc y).drop o).take ti.sz).length = ti.sz := by simp at hle ⊢; omega
  have hkl : k < xs.length := (List.getElem?_eq_some_iff.1 hy).1
  have hcell : ∀ j : Nat, ∀ u, (sh.enc y)[j]? = some u → (sh.encs xs)[k * sh.n + j]? = some u := by
    intro j u hj
    have hjl : j < sh.n := by have := (List.getElem?_eq_some_iff.1 hj).1; rwa [enc_length] at this
    clear hle hlen hv hK h sv how how' h1 h2 hn hs hr hok
    induction xs generalizing k with
    | nil => simp at hkl
    | cons z zs ih =>
      simp only [Shape.encs, List.flatMap_cons]
      cases k with
      | zero =>
        simp at hy; subst hy
        rw [List.getElem?_append_left (by rw [enc_length]; omega)]
        simpa using hj
      | succ k =>
        rw [List.getElem?_append_right (by rw [enc_length, Nat.succ_mul]; omega), enc_length]
        have := ih (k := k) (by simpa using hy) (by simpa using hkl)
        rw [show (k + 1) * sh.n + j - sh.n = k * sh.n + j by rw [Nat.succ_mul]; omega]
        exact this
  have hl := run_loadVar (hA _ _ hti) (w := w') (b := b) (o := k * sh.n + o) hlen (fun j z hj => by
    rw [List.getElem?_take, List.getElem?_drop] at hj
    split at hj
    · rename_i hjt
      have hc := hcell (o + j) z hj
      have hjn : k * sh.n + (o + j) < xs.length * sh.n := by
        have := (List.getElem?_eq_some_iff.1 hc).1
        rw [how'.1] at this; exact this
      rw [show k * sh.n + o + j = k * sh.n + (o + j) by omega, how'.cellAt _ hjn]
      exact hc
    · cases hj)
  simp only [execOp, ho, h2, Sem.run_bind, Instr.loadAt, Instr.sureAddr, Sem.run_pure, Result.andThen, hl]

theorem mkVal_enc : ∀ (s : Shape) (x : s.T), s.val x = mkVal s.agg (s.enc x)
  | .int _, _ | .bool, _ | .str, _ | .slice, _ | .map, _ | .any, _ | .unit, _ | .st _, _ | .pair _ _, _ => rfl

theorem q_load_store (hA : Agrees P tt) {ty : Nat} {ti : TI} (hti : tt ty = some ti) {x : Operand} {b o : Nat} {w : World}
    (hx : (SV.c (.v (.pointer (some ⟨b, o, none⟩)))).rel ρ (a.eval x)) {y : ti.sh.T} (hok : ti.sh.ok y) (hs : Sees ρ r S w) (hrd : Lk r S fun S => S.rd b o (ti.sh.enc y)) (h : K (ti.sh.sv y)) : QSound P ρ r S a w (.load ty x) K := by
  obtain ⟨hx, -⟩ := hx
  refine ⟨_, _, sv_rel _ y hok, h, fun w' hn o' ho => ?_⟩
  have hl := run_loadVar (hA _ _ hti) (w := w') (b := b) (o := o) (l := ti.sh.enc y) (by rw [enc_length, (hA _ _ hti).n]) (fun j z hj => hrd.now (hs.near hn) (fun h j z hj => hn.sub.1 b (o + j) z (h j z hj)) j z hj)
  simp only [execOp, ho, hx, Sem.run_bind, Instr.loadAt, Instr.sureAddr, Sem.run_pure, Result.andThen, hl, mkVal_enc]

theorem binOp_bits {op : BinOp} {ty : Nat} {k : IntKind} {u v : Int} (h : op = .and ∨ op = .or ∨ op = .xor ∨ op = .andNot) : binOp op ty (.int k u) (.int k v) = Op.intBits op k u v := by
  rcases h with rfl | rfl | rfl | rfl <;> simp [binOp]

theorem q_shift {op : BinOp} {ty yt : Nat} {x y : Operand} {k k' : IntKind} {u v z : Int} {w : World}
    (hx : (SV.c (.v (.int k u))).rel ρ (a.eval x)) (hy : (SV.c (.v (.int k' v))).rel ρ (a.eval y)) (h0 : 0 ≤ v)
    (hz : (op = .shl ∧ k.wrap (u * 2 ^ (min v.toNat k.bits)) = z) ∨ (op = .shr ∧ u.fdiv (2 ^ (min v.toNat k.bits)) = z)) (h : K (.c (.v (.int k z)))) : QSound P ρ r S a w (.binOp op ty x y yt) K := by
  obtain ⟨hx, -⟩ := hx
  obtain ⟨hy, -⟩ := hy
  have h1 : ¬ v < 0 := by omega
  rcases hz with ⟨rfl, rfl⟩ | ⟨rfl, rfl⟩
  · exact ⟨.c (.v (.int k _)), .int k _, ⟨rfl, rfl⟩, h, fun w' _ o' ho => by simp only [execOp, ho, hx, hy, eqGuard_at_int, binOp, Op.shift, if_neg h1]; rfl⟩
  · exact ⟨.c (.v (.int k _)), .int k _, ⟨rfl, rfl⟩, h, fun w' _ o' ho => by simp only [execOp, ho, hx, hy, eqGuard_at_int, binOp, Op.shift, if_neg h1]; rfl⟩

theorem q_binop_int {op : BinOp} {ty yt : Nat} {x y : Operand} {k k' : IntKind} {u v : Int} {w : World}
    (hx : (SV.c (.v (.int k u))).rel ρ (a.eval x)) (hy : (SV.c (.v (.int k' v))).rel ρ (a.eval y)) (hk : k = k')
    (h : match op with
        | .add => ∃ r, k.wrap (u + v) = r ∧ K (.c (.v (.int k r)))
        | .sub => ∃ r, k.wrap (u - v) = r ∧ K (.c (.v (.int k r)))
        | .mul => ∃ r, k.wrap (u * v) = r ∧ K (.c (.v (.int k r)))
        | .quo => v ≠ 0 ∧ ∃ r, k.wrap (u.tdiv v) = r ∧ K (.c (.v (.int k r)))
        | .rem => v ≠ 0 ∧ ∃ r, u.tmod v = r ∧ K (.c (.v (.int k r)))
        | .and => ∃ r, bitAnd k u v = r ∧ K (.c (.v (.int k r)))
        | .or => ∃ r, bitOr k u v = r ∧ K (.c (.v (.int k r)))
        | .xor => ∃ r, bitXor k u v = r ∧ K (.c (.v (.int k r)))
        | .andNot => ∃ r, bitAndNot k u v = r ∧ K (.c (.v (.int k r)))
        | .eql => K (.c (.v (.bool (u == v))))
        | .neq => K (.c (.v (.bool (u != v))))
        | .lss => K (.c (.v (.bool (decide (u < v)))))
        | .leq => K (.c (.v (.bool (decide (u ≤ v)))))
        | .gtr => K (.c (.v (.bool (decide (u > v)))))
        | .geq => K (.c (.v (.bool (decide (u ≥ v)))))
        | _ => False) : QSound P ρ r S a w (.binOp op ty x y yt) K := by
  obtain ⟨hx, -⟩ := hx
  obtain ⟨hy, -⟩ := hy
  subst hk
  have hrel : ∀ z : Int, (SV.c (.v (.int k z))).rel ρ (.int k z) := fun z => ⟨rfl, rfl⟩
  have hrelb : ∀ z : Bool, (SV.c (.v (.bool z))).rel ρ (.bool z) := fun z => ⟨rfl, rfl⟩
  cases op <;> simp only at h <;> try exact h.elim
  case add => obtain ⟨z, rfl, h⟩ := h; exact ⟨_, _, hrel _, h, fun w' _ o' ho => by simp only [execOp, ho, hx, hy, eqGuard_at_int, binOp_add]; rfl⟩
  case sub => obtain ⟨z, rfl, h⟩ := h; exact ⟨_, _, hrel _, h, fun w' _ o' ho => by simp only [execOp, ho, hx, hy, eqGuard_at_int, binOp_sub]; rfl⟩
  case mul => obtain ⟨z, rfl, h⟩ := h; exact ⟨_, _, hrel _, h, fun w' _ o' ho => by simp only [execOp, ho, hx, hy, eqGuard_at_int, binOp_mul]; rfl⟩
  case quo => obtain ⟨h0, z, rfl, h⟩ := h; exact ⟨_, _, hrel _, h, fun w' _ o' ho => by simp only [execOp, ho, hx, hy, eqGuard_at_int, binOp_quo, Op.intDiv, if_neg h0]; rfl⟩
  case rem => obtain ⟨h0, z, rfl, h⟩ := h; exact ⟨_, _, hrel _, h, fun w' _ o' ho => by simp only [execOp, ho, hx, hy, eqGuard_at_int, binOp_rem, Op.intDiv, if_neg h0]; rfl⟩
  case and => obtain ⟨z, rfl, h⟩ := h; exact ⟨_, _, hrel _, h, fun w' _ o' ho => by simp only [execOp, ho, hx, hy, eqGuard_at_int, binOp_bits (.inl rfl), Op.intBits]; rfl⟩
  case or => obtain ⟨z, rfl, h⟩ := h; exact ⟨_, _, hrel _, h, fun w' _ o' ho => by simp only [execOp, ho, hx, hy, eqGuard_at_int, binOp_bits (.inr (.inl rfl)), Op.intBits]; rfl⟩
  case xor => obtain ⟨z, rfl, h⟩ := h; exact ⟨_, _, hrel _, h, fun w' _ o' ho => by simp only [execOp, ho, hx, hy, eqGuard_at_int, binOp_bits (.inr (.inr (.inl rfl))), Op.intBits]; rfl⟩
  case andNot => obtain ⟨z, rfl, h⟩ := h; exact ⟨_, _, hrel _, h, fun w' _ o' ho => by simp only [execOp, ho, hx, hy, eqGuard_at_int, binOp_bits (.inr (.inr (.inr rfl))), Op.intBits]; rfl⟩
  case eql => exact ⟨_, _, hrelb _, h, fun w' _ o' ho => by simp only [execOp, ho, hx, hy, eqGuard_at_int, binOp_eql]; rfl⟩
  case neq => exact ⟨_, _, hrelb _, h, fun w' _ o' ho => by simp only [execOp, ho, hx, hy, eqGuard_at_int, binOp_neq]; rfl⟩
  case lss => exact ⟨_, _, hrelb _, h, fun w' _ o' ho => by simp only [execOp, ho, hx, hy, eqGuard_at_int, binOp_lss]; rfl⟩
  case leq => exact ⟨_, _, hrelb _, h, fun w' _ o' ho => by simp only [execOp, ho, hx, hy, eqGuard_at_int, binOp_leq]; rfl⟩
  case gtr => exact ⟨_, _, hrelb _, h, fun w' _ o' ho => by simp only [execOp, ho, hx, hy, eqGuard_at_int, binOp_gtr]; rfl⟩
  case geq => exact ⟨_, _, hrelb _, h, fun w' _ o' ho => by simp only [execOp, ho, hx, hy, eqGuard_at_int, binOp_geq]; rfl⟩

theorem run_mapM_ok {α β : Type} (f : α → Sem β) (g : α → β) (w : World) : ∀ l : List α, (∀ x ∈ l, (f x).run P w = .ok (g x) w) → (l.mapM f).run P w = .ok (l.map g) w
  | [], _ => by simp
  | x :: xs, h => by
    have ih := run_mapM_ok f g w xs (fun y hy => h y (List.mem_cons_of_mem _ hy))
    simp [List.mapM_cons, h x (by simp), ih]

theorem run_amapM_ok {α β : Type} (f : α → Sem β) (g : α → β) (w : World) (l : Array α) (h : ∀ x ∈ l.toList, (f x).run P w = .ok (g x) w) : (l.mapM f).run P w = .ok (l.map g) w := by
  rw [Array.mapM_eq_mapM_toList, Sem.run_map, run_mapM_ok f g w l.toList h]
  simp only [Result.andThen]
  congr 1
  apply Array.ext'
  simp

theorem foldl_lay (off : Nat) : ∀ (vs : List Value) (j : Nat) (cells : Array Value), off + j + vs.length ≤ cells.size →
    ((vs.zipIdx j).foldl (fun cs (c, j) => cs.setIfInBounds (off + j) c) cells).toList = cells.toList.take (off + j) ++ vs ++ cells.toList.drop (off + j + vs.length)
  | [], j, cells, _ => by simp
  | v :: vs, j, cells, h => by
    simp only [List.length_cons] at h
    have ih := foldl_lay off vs (j + 1) (cells.setIfInBounds (off + j) v) (by simp; omega)
    simp only [List.zipIdx_cons, List.foldl_cons]
    rw [ih]
    have hlt : off + j < cells.toList.length := by rw [Array.length_toList]; omega
    simp only [Array.toList_setIfInBounds, List.length_cons]
    have e1 : (cells.toList.set (off + j) v).take (off + (j + 1)) = cells.toList.take (off + j) ++ [v] := by
      rw [show off + (j + 1) = off + j + 1 by omega, List.take_succ_eq_append_getElem (by simpa using hlt)]
      simp [List.take_set_of_le]
    have e2 : (cells.toList.set (off + j) v).drop (off + (j + 1) + vs.length) = cells.toList.drop (off + j + (vs.length + 1)) := by
      rw [List.drop_set_of_lt (by omega)]; congr 1; omega
    rw [e1, e2]
    simp

theorem fill_step (place : Nat → Option (Nat × Nat)) (cells : Array Value) (i off : Nat) (v : Value) (vs : List Value) (rest : List (Nat × Value)) (hv : v.cells = vs.toArray)
    (hp : place i = some (off, vs.length)) (hle : off + vs.length ≤ cells.size) :
    Instr.fill place cells ((i, v) :: rest) = Instr.fill place (cells.toList.take off ++ vs ++ cells.toList.drop (off + vs.length)).toArray rest := by
  have h1 := foldl_lay off vs 0 cells (by omega)
  simp only [Instr.fill, hp, hv, List.size_toArray]
  rw [if_neg (by simp; omega)]
  congr 1
  apply Array.ext'
  simp only [Nat.add_zero] at h1
  rw [← h1]
  simp only [← Array.foldl_toList, Array.toList_zipIdx]

theorem cells_agg (l : List Value) : (Value.agg l.toArray).cells = l.toArray := rfl
theorem cells_one {v : Value} (h : v.oneCell' = true) : v.cells = #[v] := by cases v <;> simp_all [Value.oneCell', Value.cells]

theorem toVals_rel {ρ : List Value} : ∀ {cs : List C} {vs : List Value}, toVals cs = some vs → (∀ v ∈ vs, v.oneCell' = true) → rels (C.rel ρ) cs vs
  | [], vs, h, _ => by simp [toVals] at h; subst h; trivial
  | .v x :: xs, vs, h, ho => by
    simp only [toVals] at h
    split at h
    · rename_i ys hy
      simp only [Option.some.injEq] at h
      subst h
      exact ⟨⟨rfl, ho x (by simp)⟩, toVals_rel hy (fun v hv => ho v (by simp [hv]))⟩
    · cases h
  | .junk :: _, _, h, _ | .ptr _ _ :: _, _, h, _ | .sl _ _ _ _ :: _, _, h, _ | .ref _ :: _, _, h, _ | .elt _ _ _ _ :: _, _, h, _ | .seg _ _ _ _ :: _, _, h, _ | .clo _ _ :: _, _, h, _ => by simp [toVals] at h

theorem fill_sound (hA : Agrees P tt) {place : Nat → Option (Nat × Nat)} {fs : List (Nat × Nat)} (hpl : ∀ (f : Nat) off fty fi, fs[f]? = some (off, fty) → tt fty = some fi → place f = some (off, fi.sz)) (ht : rels (SV.rel ρ) t a.tmps.toList) :
    ∀ (parts : List (Nat × Operand)) (cs : List C) (vs : List Value), buildK tt fs t K cs parts → rels (C.rel ρ) cs vs →
      ∃ cs' vs', rels (C.rel ρ) cs' vs' ∧ K (.agg cs') ∧ vs'.length = vs.length ∧
        Instr.fill place vs.toArray (parts.map fun p => (p.1, a.eval p.2)) = some vs'.toArray
  | [], cs, vs, h, hr => ⟨cs, vs, hr, h, rfl, rfl⟩
  | (f, x) :: rest, cs, vs, h, hr => by
    have hlen := rels_length hr
    simp only [buildK] at h
    split at h
    · rename_i off fty hff
      split at h
      · rename_i fi hfi
        have hp := hpl f off fty fi hff hfi
        have hx := ev_rel ht x
        have key : ∀ (ys : List C) (us : List Value), rels (C.rel ρ) ys us → (a.eval x).cells = us.toArray → fi.sz = ys.length → off + ys.length ≤ cs.length →
            buildK tt fs t K (cs.take off ++ ys ++ cs.drop (off + ys.length)) rest →
            ∃ cs' vs', rels (C.rel ρ) cs' vs' ∧ K (.agg cs') ∧ vs'.length = vs.length ∧
              Instr.fill place vs.toArray (((f, x) :: rest).map fun p => (p.1, a.eval p.2)) = some vs'.toArray := by
          intro ys us hy hc hsz hle hb
          have hyl := rels_length hy
          obtain ⟨cs', vs', h1, h2, h4, h3⟩ := fill_sound hA hpl ht rest _ (vs.take off ++ us ++ vs.drop (off + us.length)) hb (by
            rw [← hyl]; exact rels_append (rels_append (rels_take _ hr) hy) (rels_drop _ hr))
          refine ⟨cs', vs', h1, h2, by rw [h4]; simp; omega, ?_⟩
          rw [List.map_cons, fill_step _ _ f off (a.eval x) us _ hc (by rw [hp, hsz, hyl]) (by simp; omega)]
          exact h3
        split at h
        · exact h.elim
        · rename_i y hnj hev
          rw [hev] at hx
          have hx' : y.rel ρ (a.eval x) := by cases y <;> first | exact hx | exact absurd rfl hnj
          split at h
          · rename_i hc
            rw [forceL_eq] at h
            exact key [y] [a.eval x] ⟨hx', trivial⟩ (cells_one (C.rel_one hx')) (by simpa using hc.1) (by simpa using hc.2) h
          · exact h.elim
        · rename_i ys hev
          rw [hev] at hx
          obtain ⟨us, hu, hrel⟩ := hx
          split at h
          · rename_i hc
            rw [forceL_eq] at h
            exact key ys us hrel (by rw [hu, cells_agg]) hc.1 hc.2 h
          · exact h.elim
        · exact h.elim
      · exact h.elim
    · exact h.elim

theorem place_fields (hA : Agrees P tt) {fa : Array Field} {fs : List (Nat × Nat)} (hfs : fa.toList.map (fun f => (f.offset, f.type)) = fs) (f : Nat) (off fty : Nat) (fi : TI) (hff : fs[f]? = some (off, fty)) (hfi : tt fty = some fi) :
    ((fa.map fun f => (f.offset, P.cellsOf f.type))[·]?) f = some (off, fi.sz) := by
  rw [← hfs, List.getElem?_map] at hff
  cases hg : fa.toList[f]? with
  | none => simp [hg] at hff
  | some fd =>
    simp only [hg, Option.map_some, Option.some.injEq, Prod.mk.injEq] at hff
    obtain ⟨rfl, rfl⟩ := hff
    have hco : P.cellsOf fd.type = fi.sz := by
      obtain ⟨i, hi, hs, _⟩ := (hA _ _ hfi).info
      simp [Program.cellsOf, hi, hs]
    have hg' : fa[f]? = some fd := by simpa using hg
    simp [hg', hco]

theorem q_build (hA : Agrees P tt) {ty : Nat} {ti : TI} (hti : tt ty = some ti) {fs : List (Nat × Nat)} (hk : ti.kind = .struct fs) (hagg : ti.sh.agg = true) (ht : rels (SV.rel ρ) t a.tmps.toList) {parts : Array (Nat × Operand)}
    {w : World} (h : buildK tt fs t K ti.zero parts.toList) : QSound P ρ r S a w (.build ty parts) K := by
  have hf := hA _ _ hti
  have hkind := hf.kind
  rw [hk] at hkind
  obtain ⟨fa, h1, h2, h3⟩ := hkind
  obtain ⟨i, hi, hsz, hb, hzero⟩ := hf.info
  obtain ⟨vs0, hz, hz1, hz2, hz3⟩ := hzero
  obtain ⟨cs', vs', g1, g2, -, g3⟩ := fill_sound (P := P) (K := K) hA (place_fields hA h2) ht parts.toList ti.zero vs0 h (toVals_rel hz hz2)
  refine ⟨.agg cs', .agg vs'.toArray, ⟨vs', rfl, g1⟩, g2, fun w' _ o' ho => ?_⟩
  have hzr : (zeroValue ty).run P w' = .ok (.agg vs0.toArray) w' := by
    simp only [zeroValue, typeInfo, Sem.run_bind, run_program, Result.andThen, hi, Sem.run_pure, hz3, hagg, mkVal]
  have hm : (fa.mapM (m := Sem) fun (f : Field) => do pure (f.offset, ← sizeOf f.type)).run P w' = .ok (fa.map fun f => (f.offset, P.cellsOf f.type)) w' := by
    refine run_amapM_ok (P := P) _ _ w' fa fun f hfm => ?_
    obtain ⟨j, hj⟩ := Option.isSome_iff_exists.1 (List.all_eq_true.1 h3 f hfm)
    simp [sizeOf, typeInfo, hj, Program.cellsOf]
  have hparts : (parts.map fun (i, x) => (i, a.eval x)).toList = parts.toList.map fun p => (p.1, a.eval p.2) := by simp
  simp only [execOp, ho, Sem.run_bind, Instr.build, hzr, run_underlying h1, Result.andThen, hm, Value.cells, hparts, g3, Sem.run_pure]

theorem q_buildArray (hA : Agrees P tt) {ty : Nat} {ti ei : TI} (hti : tt ty = some ti) {n e : Nat} (hk : ti.kind = .array n e) (hei : tt e = some ei) (hagg : ti.sh.agg = true) (ht : rels (SV.rel ρ) t a.tmps.toList) {parts : Array (Nat × Operand)}
    {w : World} (h : buildK tt ((List.range n).map fun i => (i * ei.sz, e)) t K ti.zero parts.toList) : QSound P ρ r S a w (.build ty parts) K := by
  have hf := hA _ _ hti
  have hkind := hf.kind
  rw [hk] at hkind
  simp only [Kind.fits] at hkind
  obtain ⟨i, hi, hsz, hb, hzero⟩ := hf.info
  obtain ⟨vs0, hz, hz1, hz2, hz3⟩ := hzero
  have hpl : ∀ (f : Nat) off fty fi, ((List.range n).map fun i => (i * ei.sz, e))[f]? = some (off, fty) → tt fty = some fi → (fun i => some (i * ei.sz, ei.sz)) f = some (off, fi.sz) := by
    intro f off fty fi hff hfi
    rw [List.getElem?_map] at hff
    cases hr : (List.range n)[f]? with
    | none => simp [hr] at hff
    | some j =>
      have hj : j = f := by
        have := List.getElem?_eq_some_iff.1 hr
        obtain ⟨h1, h2⟩ := this
        simpa using h2.symm
      subst hj
      simp only [hr, Option.map_some, Option.some.injEq, Prod.mk.injEq] at hff
      obtain ⟨rfl, rfl⟩ := hff
      rw [hei] at hfi
      simp only [Option.some.injEq] at hfi
      subst hfi
      rfl
  obtain ⟨cs', vs', g1, g2, -, g3⟩ := fill_sound (P := P) (K := K) hA hpl ht parts.toList ti.zero vs0 h (toVals_rel hz hz2)
  refine ⟨.agg cs', .agg vs'.toArray, ⟨vs', rfl, g1⟩, g2, fun w' _ o' ho => ?_⟩
  have hzr : (zeroValue ty).run P w' = .ok (.agg vs0.toArray) w' := by
    simp only [zeroValue, typeInfo, Sem.run_bind, run_program, Result.andThen, hi, Sem.run_pure, hz3, hagg, mkVal]
  have hparts : (parts.map fun (i, x) => (i, a.eval x)).toList = parts.toList.map fun p => (p.1, a.eval p.2) := by simp
  simp only [execOp, ho, Sem.run_bind, Instr.build, hzr, run_underlying hkind, Result.andThen, run_sizeOf (hA _ _ hei), Value.cells, hparts, g3, Sem.run_pure]

end Go.Vc
