/- Verification conditions, fifth part: every operation that leaves memory alone is sound. -/
import Derived.Test.YtapblcfbmaikjaaGreatDoorVcD
import Derived.Laws.BytesString
import Derived.Laws.Cells
namespace Go.Vc
open Go

variable {P : Program} {tt : Nat → Option TI} {ρ : List Value} {t : List SV} {r : List Res} {S : Store} {a : Act} {K : SV → Prop}

theorem q_pure {op : Op} {w : World} (sv : SV) (v : Value) (hv : sv.rel ρ v) (hK : K sv) (h : ∀ (w' : World) (o : Oper), Near ρ r S w w' → o.op = op → (execOp a.eval o).run P w' = .ok (.value v) w') : QSound P ρ r S a w op K :=
  ⟨sv, v, hv, hK, fun w' hn o ho => h w' o hn ho⟩

theorem rel_c {c : C} {y : Value} (hj : c ≠ .junk) (h : (SV.c c).rel ρ y) : c.rel ρ y := by cases c <;> first | exact h | exact absurd rfl hj

theorem run_equalIn_bool {ty : Nat} (h : P.underlying ty = some .bool) (d : Nat) (u v : Bool) (w : World) : (Op.equalIn (d + 1) ty (.bool u) (.bool v)).run P w = .ok (u == v) w := by
  simp [Op.equalIn, run_underlying h]
theorem run_equal_bool {ty : Nat} (h : P.underlying ty = some .bool) (u v : Bool) (w : World) : (Op.equal ty (.bool u) (.bool v)).run P w = .ok (u == v) w :=
  run_equalIn_bool h 9999 u v w
theorem q_val {op : Op} {w : World} (v : Value) (hv : v.oneCell' = true) (hK : K (.c (.v v))) (h : ∀ (w' : World) (o : Oper), Near ρ r S w w' → o.op = op → (execOp a.eval o).run P w' = .ok (.value v) w') : QSound P ρ r S a w op K :=
  ⟨.c (.v v), v, ⟨rfl, hv⟩, hK, fun w' hn o ho => h w' o hn ho⟩

theorem q_binop_bool (hA : Agrees P tt) {op : BinOp} {ty yt : Nat} {ti : TI} (hti : tt ty = some ti) (hk : ti.kind = .bool) {x y : Operand} {u v : Bool} {w : World}
    (hx : (SV.c (.v (.bool u))).rel ρ (a.eval x)) (hy : (SV.c (.v (.bool v))).rel ρ (a.eval y))
    (h : match op with | .eql => K (.c (.v (.bool (u == v)))) | .neq => K (.c (.v (.bool (!(u == v))))) | _ => False) : QSound P ρ r S a w (.binOp op ty x y yt) K := by
  obtain ⟨hx, -⟩ := hx
  obtain ⟨hy, -⟩ := hy
  have hkind := (hA _ _ hti).kind
  rw [hk] at hkind
  cases op <;> simp only at h <;> try exact h.elim
  case eql =>
    refine q_val (.bool (u == v)) rfl h fun w' o _ ho => ?_
    simp only [execOp, ho, hx, hy, eqGuard_at_bool, Sem.run_bind, Sem.run_pure, Result.andThen, binOp, run_equal_bool hkind]
  case neq =>
    refine q_val (.bool (!(u == v))) rfl h fun w' o _ ho => ?_
    simp only [execOp, ho, hx, hy, eqGuard_at_bool, Sem.run_bind, Sem.run_pure, Result.andThen, binOp, run_equal_bool hkind]

theorem q_binop_string {op : BinOp} {ty yt : Nat} {x y : Operand} {u v : ByteArray} {w : World}
    (hx : (SV.c (.v (.string u))).rel ρ (a.eval x)) (hy : (SV.c (.v (.string v))).rel ρ (a.eval y))
    (h : match op with
      | .eql => K (.c (.v (.bool (u.toList == v.toList))))
      | .neq => K (.c (.v (.bool (!(u.toList == v.toList)))))
      | .lss => K (.c (.v (.bool (Op.bytesLess u.toList v.toList))))
      | .leq => K (.c (.v (.bool (Op.bytesLess u.toList v.toList || u.toList == v.toList))))
      | .gtr => K (.c (.v (.bool (!(Op.bytesLess u.toList v.toList || u.toList == v.toList)))))
      | .geq => K (.c (.v (.bool (!(Op.bytesLess u.toList v.toList)))))
      | .add => u.size + v.size ≤ 9223372036854775807 ∧ K (.c (.v (.string (u ++ v))))
      | _ => False) : QSound P ρ r S a w (.binOp op ty x y yt) K := by
  obtain ⟨hx, -⟩ := hx
  obtain ⟨hy, -⟩ := hy
  have hb : ∀ op, binOp op ty (.string u) (.string v) = Op.stringOp op u v := fun op => by cases op <;> rfl
  cases op <;> simp only at h <;> try exact h.elim
  case eql =>
    refine q_val (.bool (u.toList == v.toList)) rfl h fun w' o _ ho => ?_
    simp only [execOp, ho, hx, hy, eqGuard_at_string, hb]; rfl
  case neq =>
    refine q_val (.bool (!(u.toList == v.toList))) rfl h fun w' o _ ho => ?_
    simp only [execOp, ho, hx, hy, eqGuard_at_string, hb]; rfl
  case lss =>
    refine q_val (.bool (Op.bytesLess u.toList v.toList)) rfl h fun w' o _ ho => ?_
    simp only [execOp, ho, hx, hy, eqGuard_at_string, hb]; rfl
  case leq =>
    refine q_val (.bool (Op.bytesLess u.toList v.toList || u.toList == v.toList)) rfl h fun w' o _ ho => ?_
    simp only [execOp, ho, hx, hy, eqGuard_at_string, hb]; rfl
  case gtr =>
    refine q_val (.bool (!(Op.bytesLess u.toList v.toList || u.toList == v.toList))) rfl h fun w' o _ ho => ?_
    simp only [execOp, ho, hx, hy, eqGuard_at_string, hb]; rfl
  case geq =>
    refine q_val (.bool (!(Op.bytesLess u.toList v.toList))) rfl h fun w' o _ ho => ?_
    simp only [execOp, ho, hx, hy, eqGuard_at_string, hb]; rfl
  case add =>
    refine q_val (.string (u ++ v)) rfl h.2 fun w' o _ ho => ?_
    have hm : IntKind.i64.max = 9223372036854775807 := by decide
    have hle : ¬ (((u.size + v.size : Nat) : Int) > IntKind.i64.max) := by rw [hm]; have := h.1; omega
    simp only [execOp, ho, hx, hy, eqGuard_at_string, hb, Op.stringOp, if_neg hle]; rfl

theorem q_unop {op : UnOp} {ty : Nat} {x : Operand} {w : World} (ht : rels (SV.rel ρ) t a.tmps.toList) (h : vcQ P tt t r S (.unOp op ty x) K) : QSound P ρ r S a w (.unOp op ty x) K := by
  have hx := ev_rel ht x
  simp only [vcQ] at h
  split at h
  · rename_i b hev
    obtain ⟨hx, -⟩ := rel_v hx hev
    refine q_val (.bool (!b)) rfl h fun w' o _ ho => ?_
    simp only [execOp, ho, hx]; rfl
  · rename_i k n hev
    obtain ⟨hx, -⟩ := rel_v hx hev
    obtain ⟨z, rfl, h⟩ := h
    refine q_val (.int k (k.wrap (0 - n))) rfl h fun w' o _ ho => ?_
    simp only [execOp, ho, hx]; rfl
  · exact h.elim

theorem toVal_rel {x : SV} {u y : Value} (h : toVal x = some u) (hr : x.rel ρ y) : y = u := by
  cases x with
  | c c =>
    cases c <;> simp [toVal] at h
    subst h
    exact hr.1
  | agg cs =>
    simp only [toVal] at h
    split at h
    · rename_i ys hys
      simp only [Option.some.injEq] at h
      subst h
      obtain ⟨zs, rfl, hz⟩ := hr
      have : ∀ (cs : List C) (ys zs : List Value), toVals cs = some ys → rels (C.rel ρ) cs zs → zs = ys := by
        intro cs
        induction cs with
        | nil => intro ys zs h k; simp [toVals] at h; subst h; cases zs with
          | nil => rfl
          | cons _ _ => exact k.elim
        | cons c cs ih =>
          intro ys zs h k
          cases zs with
          | nil => exact k.elim
          | cons z zs =>
            cases c <;> simp only [toVals] at h <;> try cases h
            split at h
            · rename_i us hus
              simp at h
              subst h
              rw [ih us zs hus k.2, k.1.1]
            · cases h
      rw [this cs ys zs hys hz]
    · cases h
  | tup xs => simp [toVal] at h

theorem enc_u8 : ∀ xs : List Int, List.flatMap (Shape.int IntKind.u8).enc xs = xs.map (Value.int .u8)
  | [] => rfl
  | x :: xs => by rw [List.flatMap_cons, enc_u8 xs]; rfl

theorem bytesTo_sound (hA : Agrees P tt) {src dst : Nat} {si di : TI} (hsi : tt src = some si) (hdi : tt dst = some di) (h : bytesTo tt si di = true) :
    ∃ e, P.underlying src = some (.slice e) ∧ P.underlying dst = some .string ∧ P.underlying e = some (.int .u8) := by
  unfold bytesTo at h
  split at h
  · rename_i e hk1 hk2
    split at h
    · rename_i ei hei
      split at h
      · rename_i hk3
        have h1 := (hA _ _ hsi).kind
        have h2 := (hA _ _ hdi).kind
        have h3 := (hA _ _ hei).kind
        rw [hk1] at h1
        rw [hk2] at h2
        rw [hk3] at h3
        exact ⟨e, h1, h2, h3⟩
      · cases h
    · cases h
  · cases h

theorem run_convertBytes {src dst e : Nat} (h1 : P.underlying src = some (.slice e)) (h2 : P.underlying dst = some .string) (h3 : P.underlying e = some (.int .u8)) {p : Option Addr} {c : Nat} {xs : List Int} {w : World}
    (hp : xs = [] ∨ ∃ b o, p = some ⟨b, o, none⟩ ∧ ∀ j x, xs[j]? = some x → w.cell? ⟨b, o + j, none⟩ = some (.int .u8 x)) :
    (convert src dst (.slice p xs.length c)).run P w = .ok (.string (bytesOf xs)) w := by
  have hr : (Conv.bytesToString (.slice p xs.length c)).run P w = .ok (.string (bytesOf xs)) w := by
    cases p with
    | none =>
      have hx : xs = [] := by
        rcases hp with h | ⟨_, _, h, _⟩
        · exact h
        · cases h
      subst hx
      simp only [Conv.bytesToString, Sem.run_pure]
      rfl
    | some ad =>
      refine run_bytesToString w ad xs.length c xs ?_
      have hl := run_loadCells_list (P := P) (w := w) ad (xs.map (Value.int .u8)) (fun j v hj => by
        rcases hp with h | ⟨b, o, h, hc⟩
        · subst h; simp at hj
        · simp only [Option.some.injEq] at h
          subst h
          rw [List.getElem?_map] at hj
          cases hx : xs[j]? with
          | none => simp [hx] at hj
          | some x =>
            simp only [hx, Option.map_some, Option.some.injEq] at hj
            subst hj
            rw [Addr.add_lit]
            exact hc j x hx)
      simpa using hl
  simp only [convert, Sem.run_bind, run_underlying h1, run_underlying h2, run_underlying h3, Result.andThen, hr]

theorem q_convert (hA : Agrees P tt) {src dst : Nat} {x : Operand} {w : World} (hs : Sees ρ r S w) (ht : rels (SV.rel ρ) t a.tmps.toList) (h : vcQ P tt t r S (.convert src dst x) K) : QSound P ρ r S a w (.convert src dst x) K := by
  have hx := ev_rel ht x
  simp only [vcQ] at h
  split at h
  · rename_i si di q n hsi hdi hev
    obtain ⟨hx, -⟩ := rel_v hx hev
    split at h
    · rename_i q1 k hk1 hk2
      have h1 := (hA _ _ hsi).kind
      have h2 := (hA _ _ hdi).kind
      rw [hk1] at h1
      rw [hk2] at h2
      obtain ⟨z, rfl, h⟩ := h
      refine q_val (.int k (k.wrap n)) rfl h fun w' o _ ho => ?_
      simp only [Kind.fits] at h1 h2
      simp only [execOp, ho, hx, convert, Sem.run_bind, run_underlying h1, run_underlying h2, Result.andThen, Conv.intToInt, Sem.run_pure]
    · exact h.elim
  · rename_i si di p n c hsi hdi hev
    obtain ⟨hx, -⟩ := rel_v hx hev
    split at h
    · rename_i hb
      obtain ⟨e, h1, h2, h3⟩ := bytesTo_sound hA hsi hdi hb
      obtain ⟨xs, rfl, hrd, h⟩ := h
      refine q_val (.string (bytesOf xs)) rfl h fun w' o hn ho => ?_
      have hc := run_convertBytes (P := P) h1 h2 h3 (p := p) (c := c) (xs := xs) (w := w') (by
        rcases hrd.1 with h | ⟨b, o, h, hr⟩
        · exact .inl h
        · refine .inr ⟨b, o, h, fun j x hj => hn.sub.1 b (o + j) _ (hr j _ ?_)⟩
          rw [enc_u8, List.getElem?_map, hj]
          rfl)
      simp only [execOp, ho, hx, Sem.run_bind, hc, Sem.run_pure, Result.andThen]
    · exact h.elim
  · rename_i si di i hsi hdi hev
    rw [hev] at hx
    obtain ⟨hx, -⟩ := hx
    split at h
    · rename_i e' xs hr
      split at h
      · rename_i hb
        obtain ⟨e, h1, h2, h3⟩ := bytesTo_sound hA hsi hdi hb
        have hr' := nthR_some hr (by simp)
        obtain ⟨g, hg, how, _⟩ := hs.res i _ hr'
        rw [hx] at hg
        simp only [Option.some.injEq] at hg
        subst hg
        have he : (Shape.int IntKind.u8).encs xs = xs.map (Value.int .u8) := enc_u8 xs
        have hv : ∃ p c, a.eval x = .slice p xs.length c ∧ ∀ w', Near ρ r S w w' → (xs = [] ∨ ∃ b o, p = some ⟨b, o, none⟩ ∧ ∀ j z, xs[j]? = some z → w'.cell? ⟨b, o + j, none⟩ = some (.int .u8 z)) := by
          rcases how.2 with ⟨hv, hn⟩ | ⟨g, cap, cur, hv, h4, hc, h5, h6, h7, h8⟩
          · refine ⟨none, 0, by rw [hv, hn], fun w' _ => .inl (List.length_eq_zero_iff.1 hn)⟩
          · refine ⟨_, cap, hv, fun w' hn => .inr ⟨g, 0, rfl, fun j z hj => ?_⟩⟩
            have hc' : w'.heap[g]? = some (.cells cur e' (0, 0)) := by rw [hn.same i _ _ g hr' rfl hx (by rw [hv]; rfl)]; exact hc
            have hlt : j < xs.length := (List.getElem?_eq_some_iff.1 hj).1
            have hcur : cur.toList[j]? = some (.int .u8 z) := by
              have := congrArg (·[j]?) h8
              simp only [Shape.n, Nat.mul_one] at this
              rw [List.getElem?_take_of_lt hlt, he, List.getElem?_map, hj] at this
              exact this
            rw [Nat.zero_add]
            simp only [World.cell?, hc']
            simpa using hcur
        obtain ⟨p, c, hv, hcells⟩ := hv
        refine q_val (.string (bytesOf xs)) rfl h fun w' o hn ho => ?_
        have hc := run_convertBytes (P := P) h1 h2 h3 (p := p) (c := c) (xs := xs) (w := w') (hcells w' hn)
        simp only [execOp, ho, hv, Sem.run_bind, hc, Sem.run_pure, Result.andThen]
      · exact h.elim
    · exact h.elim
  · rename_i si di s hsi hdi hev
    obtain ⟨hx, -⟩ := rel_v hx hev
    split at h
    · rename_i hk2
      have h2 := (hA _ _ hdi).kind
      rw [hk2] at h2
      simp only [Kind.fits] at h2
      obtain ⟨d, h1, -⟩ := (hA _ _ hsi).agg
      refine q_val (.string s) rfl h fun w' o _ ho => ?_
      simp only [execOp, ho, hx, convert, Sem.run_bind, run_underlying h1, run_underlying h2, Result.andThen, Sem.run_pure]
    · exact h.elim
  · exact h.elim

theorem q_makeInterface (hA : Agrees P tt) {ty : Nat} {x : Operand} {w : World} (ht : rels (SV.rel ρ) t a.tmps.toList) (h : vcQ P tt t r S (.makeInterface ty x) K) : QSound P ρ r S a w (.makeInterface ty x) K := by
  have hx := ev_rel ht x
  simp only [vcQ] at h
  split at h
  · rename_i ti hti
    split at h
    · rename_i v hk hv
      have hv := toVal_rel hv hx
      refine q_val (.iface ty v) rfl h fun w' o _ ho => ?_
      have hkind := (hA _ _ hti).kind
      obtain ⟨d, hd, hni⟩ : ∃ d, P.underlying ty = some d ∧ ∀ m, d ≠ .interface m := by
        cases hkk : ti.kind <;> rw [hkk] at hkind hk <;> simp only [Kind.fits, notIface] at hkind hk <;> first | exact absurd hk (by decide) | exact ⟨_, hkind, fun m e => by cases e⟩ | (obtain ⟨_, hkind, -⟩ := hkind; exact ⟨_, hkind, fun m e => by cases e⟩) | (obtain ⟨_, _, _, hkind⟩ := hkind; exact ⟨_, hkind, fun m e => by cases e⟩)
      have : (Instr.makeInterface ty v).run P w' = .ok (.iface ty v) w' := by
        simp only [Instr.makeInterface, Sem.run_bind, run_underlying hd, Result.andThen]
        cases d <;> first | rfl | exact absurd rfl (hni _)
      simp only [execOp, ho, hv, Sem.run_bind, this, Sem.run_pure, Result.andThen]
    · exact h.elim
  · exact h.elim

theorem q_indexAddr (hA : Agrees P tt) {ty : Nat} {x i : Operand} {w : World} (hs : Sees ρ r S w) (ht : rels (SV.rel ρ) t a.tmps.toList) (h : vcQ P tt t r S (.indexAddr ty x i) K) : QSound P ρ r S a w (.indexAddr ty x i) K := by
  have hx := ev_rel ht x
  have hi := ev_rel ht i
  simp only [vcQ] at h
  split at h
  · rename_i ti q n hti hev
    obtain ⟨hi, -⟩ := rel_v hi hev
    have hkind := (hA _ _ hti).kind
    split at h
    · rename_i e p len c hk hev2
      obtain ⟨hx, -⟩ := rel_v hx hev2
      rw [hk] at hkind
      simp only [Kind.fits] at hkind
      split at h
      · rename_i ei hei
        obtain ⟨h0, h1, b, o, rfl, h⟩ := h
        refine q_val _ rfl h fun w' o' _ ho => ?_
        simp only [execOp, ho, hx, hi, Instr.indexAt, Sem.run_bind, run_underlying hkind, asIntOf, Sem.run_pure, Result.andThen, if_pos (And.intro h0 h1), run_sizeOf (hA _ _ hei), Addr.add_lit]
      · exact h.elim
    · rename_i e j hk hev2
      rw [hk] at hkind
      simp only [Kind.fits] at hkind
      rw [hev2] at hx
      obtain ⟨hx, -⟩ := hx
      split at h
      · rename_i sh e' xs hr
        have hr' := nthR_some hr (by simp)
        split at h
        · rename_i ei hei
          split at h
          · rename_i hsz
            obtain ⟨h0, h1, h⟩ := h
            obtain ⟨g, hg, how, _⟩ := hs.res j _ hr'
            rw [hx] at hg
            simp only [Option.some.injEq] at hg
            subst hg
            rcases how.2 with hn | ⟨g, cap, cur, hv, _, _, hle, _⟩
            · exfalso; have := hn.2; omega
            · refine q_pure (.c (.elt j n.toNat ei.sz 0)) (.pointer (some ⟨g, n.toNat * ei.sz + 0, none⟩)) ⟨g, xs.length, cap, by rw [hx, hv], rfl⟩ h fun w' o' _ ho => ?_
              have hlt : 0 ≤ n ∧ n < ((xs.length : Nat) : Int) := ⟨h0, h1⟩
              simp only [execOp, ho, hv, hi, Instr.indexAt, Sem.run_bind, run_underlying hkind, asIntOf, Sem.run_pure, Result.andThen, if_pos hlt, run_sizeOf (hA _ _ hei), Addr.add_lit, Nat.zero_add, Nat.add_zero]
          · exact h.elim
        · exact h.elim
      · exact h.elim
    · rename_i m e i o hk hev2
      rw [hk] at hkind
      simp only [Kind.fits] at hkind
      rw [hev2] at hx
      obtain ⟨b, g1, g2⟩ := hx
      split at h
      · rename_i ei hei
        obtain ⟨h0, h1, h⟩ := h
        have hlt : 0 ≤ n ∧ n < ((m : Nat) : Int) := ⟨h0, h1⟩
        refine q_pure (.c (.ptr i (o + n.toNat * ei.sz))) (.pointer (some ⟨b, o + n.toNat * ei.sz, none⟩)) ⟨b, g1, rfl⟩ h fun w' o' _ ho => ?_
        simp only [execOp, ho, g2, hi, Instr.indexAt, Sem.run_bind, run_underlying hkind, asIntOf, Instr.sureAddr, Sem.run_pure, Result.andThen, if_pos hlt, run_sizeOf (hA _ _ hei), Addr.add_lit]
      · exact h.elim
    · rename_i m e b o hk hev2
      obtain ⟨hx, -⟩ := rel_v hx hev2
      rw [hk] at hkind
      simp only [Kind.fits] at hkind
      split at h
      · rename_i ei hei
        obtain ⟨h0, h1, h⟩ := h
        have hlt : 0 ≤ n ∧ n < ((m : Nat) : Int) := ⟨h0, h1⟩
        refine q_val _ rfl h fun w' o' _ ho => ?_
        simp only [execOp, ho, hx, hi, Instr.indexAt, Sem.run_bind, run_underlying hkind, asIntOf, Instr.sureAddr, Sem.run_pure, Result.andThen, if_pos hlt, run_sizeOf (hA _ _ hei), Addr.add_lit]
      · exact h.elim
    · rename_i e j o len c hk hev2
      rw [hk] at hkind
      simp only [Kind.fits] at hkind
      rw [hev2] at hx
      obtain ⟨b, g1, g2⟩ := hx
      split at h
      · rename_i ei hei
        obtain ⟨h0, h1, h⟩ := h
        have hlt : 0 ≤ n ∧ n < ((len : Nat) : Int) := ⟨h0, h1⟩
        refine q_pure (.c (.ptr j (o + n.toNat * ei.sz))) (.pointer (some ⟨b, o + n.toNat * ei.sz, none⟩)) ⟨b, g1, rfl⟩ h fun w' o' _ ho => ?_
        simp only [execOp, ho, g2, hi, Instr.indexAt, Sem.run_bind, run_underlying hkind, asIntOf, Sem.run_pure, Result.andThen, if_pos hlt, run_sizeOf (hA _ _ hei), Addr.add_lit]
      · exact h.elim
    · exact h.elim
  · exact h.elim

theorem q_len (hA : Agrees P tt) {args : Array Operand} {argTypes : Array TypeId} {w : World} (hs : Sees ρ r S w) (ht : rels (SV.rel ρ) t a.tmps.toList) (h : vcQ P tt t r S (.call { callee := .builtin .len, args, argTypes }) K) :
    QSound P ρ r S a w (.call { callee := .builtin .len, args, argTypes }) K := by
  simp only [vcQ] at h
  split at h
  · rename_i x ty hax hat
    have hx := ev_rel ht x
    have hmap : (args.map a.eval)[0]? = some (a.eval x) := by simp [hax]
    have hrun : ∀ (o : Oper) (w' : World) (v : Value), o.op = .call { callee := .builtin .len, args, argTypes } → (Builtin.len_ argTypes o.type (args.map a.eval)).run P w' = .ok v w' → (execOp a.eval o).run P w' = .ok (.value v) w' := by
      intro o w' v ho hl
      simp only [execOp, ho, resolve, Sem.run_bind, Sem.run_pure, Result.andThen, invoke, builtin, hl]
    split at h
    · rename_i ti p n c hti hev
      obtain ⟨hx, -⟩ := rel_v hx hev
      have hkind := (hA _ _ hti).kind
      split at h
      · rename_i e hk
        rw [hk] at hkind
        refine q_val (.int .i64 n) rfl h fun w' o _ ho => hrun o w' _ ho ?_
        simp only [Kind.fits] at hkind
        simp only [Builtin.len_, hat, hmap, hx, Sem.run_bind, run_underlying hkind, Result.andThen]; rfl
      · exact h.elim
    · rename_i ti s hti hev
      obtain ⟨hx, -⟩ := rel_v hx hev
      have hkind := (hA _ _ hti).kind
      split at h
      · rename_i hk
        rw [hk] at hkind
        refine q_val (.int .i64 s.size) rfl h fun w' o _ ho => hrun o w' _ ho ?_
        simp only [Kind.fits] at hkind
        simp only [Builtin.len_, hat, hmap, hx, Sem.run_bind, run_underlying hkind, Result.andThen]; rfl
      · exact h.elim
    · rename_i ti j hti hev
      rw [hev] at hx
      obtain ⟨hx, -⟩ := hx
      have hkind := (hA _ _ hti).kind
      split at h
      · rename_i e sh e' xs hk hr
        rw [hk] at hkind
        simp only [Kind.fits] at hkind
        obtain ⟨g, hg, how, _⟩ := hs.res j _ (nthR_some hr (by simp))
        rw [hx] at hg
        simp only [Option.some.injEq] at hg
        subst hg
        refine q_val (.int .i64 xs.length) rfl h fun w' o _ ho => hrun o w' _ ho ?_
        rcases how.2 with ⟨hv, hn⟩ | ⟨g, cap, cur, hv, _⟩
        · simp only [Builtin.len_, hat, hmap, hv, Sem.run_bind, run_underlying hkind, Result.andThen, hn]; rfl
        · simp only [Builtin.len_, hat, hmap, hv, Sem.run_bind, run_underlying hkind, Result.andThen]; rfl
      · rename_i k e k' e' es hk hr
        rw [hk] at hkind
        simp only [Kind.fits] at hkind
        have hr' := nthR_some hr (by simp)
        obtain ⟨g, hg, b, ents, clock, hv, hb, hents, _⟩ := hs.res j _ hr'
        rw [hx] at hg
        simp only [Option.some.injEq] at hg
        subst hg
        refine q_val (.int .i64 es.length) rfl h fun w' o hn ho => hrun o w' _ ho ?_
        have hb' : w'.heap[b]? = some (.map ents clock) := by rw [hn.same j _ _ b hr' rfl hx (by rw [hv]; rfl)]; exact hb
        have hlen : ents.size = es.length := by have := congrArg List.length hents; simpa using this
        simp only [Builtin.len_, hat, hmap, hv, Sem.run_bind, run_underlying hkind, Result.andThen, getObj, Sem.run, hb', hlen]; rfl
      · exact h.elim
    · rename_i ti b hti hev
      obtain ⟨hx, -⟩ := rel_v hx hev
      have hkind := (hA _ _ hti).kind
      split at h
      · rename_i kt et hk
        rw [hk] at hkind
        simp only [Kind.fits] at hkind
        split at h
        · rename_i ki ei hki hei
          obtain ⟨l, hrd, h⟩ := h
          refine q_val (.int .i64 l.length) rfl h fun w' o hn ho => hrun o w' _ ho ?_
          cases b with
          | none =>
            simp only [MapRd] at hrd
            subst hrd
            simp only [Builtin.len_, hat, hmap, hx, Sem.run_bind, run_underlying hkind, Result.andThen]; rfl
          | some b =>
            obtain ⟨ents, clock, hS, hents, _⟩ := hrd
            have hlen : ents.size = l.length := by have := congrArg List.length hents; simpa using this
            have hb' : w'.heap[b]? = some (.map ents clock) := by
              exact hn.sub.2 b _ hS
            simp only [Builtin.len_, hat, hmap, hx, Sem.run_bind, run_underlying hkind, Result.andThen, getObj, Sem.run, hb', hlen]; rfl
        · exact h.elim
      · exact h.elim
    · rename_i ti i o n c hti hev
      rw [hev] at hx
      obtain ⟨b, _, hx⟩ := hx
      have hkind := (hA _ _ hti).kind
      split at h
      · rename_i e hk
        rw [hk] at hkind
        refine q_val (.int .i64 n) rfl h fun w' o _ ho => hrun o w' _ ho ?_
        simp only [Kind.fits] at hkind
        simp only [Builtin.len_, hat, hmap, hx, Sem.run_bind, run_underlying hkind, Result.andThen]; rfl
      · exact h.elim
    · rename_i ti i lo n sz hti hev
      rw [hev] at hx
      obtain ⟨p, len, m, _, _, hx⟩ := hx
      have hkind := (hA _ _ hti).kind
      split at h
      · rename_i e hk
        rw [hk] at hkind
        refine q_val (.int .i64 n) rfl h fun w' o _ ho => hrun o w' _ ho ?_
        simp only [Kind.fits] at hkind
        simp only [Builtin.len_, hat, hmap, hx, Sem.run_bind, run_underlying hkind, Result.andThen]; rfl
      · exact h.elim
    · exact h.elim
  · exact h.elim

theorem q_max {args : Array Operand} {argTypes : Array TypeId} {w : World} (ht : rels (SV.rel ρ) t a.tmps.toList) (h : vcQ P tt t r S (.call { callee := .builtin .max, args, argTypes }) K) :
    QSound P ρ r S a w (.call { callee := .builtin .max, args, argTypes }) K := by
  simp only [vcQ] at h
  split at h
  · rename_i x y hxy
    have hx := ev_rel ht x
    have hy := ev_rel ht y
    split at h
    · rename_i k u k' v hu hv
      obtain ⟨hx, -⟩ := rel_v hx hu
      obtain ⟨hy, -⟩ := rel_v hy hv
      refine q_val _ rfl h fun w' o _ ho => ?_
      have he : (args.map a.eval).toList = [.int k u, .int k' v] := by simp [hxy, hx, hy]
      simp only [execOp, ho, resolve, Sem.run_bind, Sem.run_pure, Result.andThen, invoke, builtin, Builtin.max_, he]; rfl
    · exact h.elim
  · exact h.elim

theorem q_min {args : Array Operand} {argTypes : Array TypeId} {w : World} (ht : rels (SV.rel ρ) t a.tmps.toList) (h : vcQ P tt t r S (.call { callee := .builtin .min, args, argTypes }) K) :
    QSound P ρ r S a w (.call { callee := .builtin .min, args, argTypes }) K := by
  simp only [vcQ] at h
  split at h
  · rename_i x y hxy
    have hx := ev_rel ht x
    have hy := ev_rel ht y
    split at h
    · rename_i k u k' v hu hv
      obtain ⟨hx, -⟩ := rel_v hx hu
      obtain ⟨hy, -⟩ := rel_v hy hv
      refine q_val _ rfl h fun w' o _ ho => ?_
      have he : (args.map a.eval).toList = [.int k u, .int k' v] := by simp [hxy, hx, hy]
      simp only [execOp, ho, resolve, Sem.run_bind, Sem.run_pure, Result.andThen, invoke, builtin, Builtin.min_, he]; rfl
    · exact h.elim
  · exact h.elim

theorem ok_of_enc : ∀ (s : Shape) (x : s.T), (∀ v ∈ s.enc x, v.oneCell' = true) → s.ok x
  | .int _, _, _ | .bool, _, _ | .str, _, _ | .slice, _, _ | .map, _, _ | .unit, _, _ => trivial
  | .any, x, h => h x (by simp [Shape.enc])
  | .pair a b, x, h => ⟨ok_of_enc a x.1 fun v hv => h v (by simp [Shape.enc, hv]), ok_of_enc b x.2 fun v hv => h v (by simp [Shape.enc, hv])⟩
  | .st a, x, h => ok_of_enc a x h

theorem toVals_cs : ∀ (s : Shape) (x : s.T), toVals (s.cs x) = some (s.enc x)
  | .int _, _ | .bool, _ | .str, _ | .slice, _ | .map, _ | .any, _ | .unit, _ => rfl
  | .pair a b, x => by
    have app : ∀ (xs ys : List C) (us vs : List Value), toVals xs = some us → toVals ys = some vs → toVals (xs ++ ys) = some (us ++ vs) := by
      intro xs
      induction xs with
      | nil => intro ys us vs h k; simp [toVals] at h; subst h; simpa using k
      | cons z zs ih =>
        intro ys us vs h k
        cases z <;> simp only [toVals] at h <;> try cases h
        split at h
        · rename_i ws hws
          simp at h
          subst h
          simp [toVals, ih ys ws vs hws k]
        · cases h
    exact app _ _ _ _ (toVals_cs a x.1) (toVals_cs b x.2)
  | .st a, x => toVals_cs a x

theorem cellsOf_cells {x : SV} {cs : List C} {v : Value} (h : cellsOf x = some cs) (hr : x.rel ρ v) : ∃ vs, v.cells = vs.toArray ∧ rels (C.rel ρ) cs vs := by
  cases x with
  | c y =>
    have hj : y ≠ .junk := by intro e; subst e; simp [cellsOf] at h
    have h1 := rel_c hj hr
    have h2 : cs = [y] := by cases y <;> simp [cellsOf] at h <;> first | exact h.symm | exact absurd rfl hj
    subst h2
    exact ⟨[v], cells_one (C.rel_one h1), h1, trivial⟩
  | agg xs =>
    simp [cellsOf] at h
    subst h
    obtain ⟨ys, rfl, h1⟩ := hr
    exact ⟨ys, rfl, h1⟩
  | tup xs => simp [cellsOf] at h

theorem rels_cs {s : Shape} {x : s.T} {vs : List Value} (h : rels (C.rel ρ) (s.cs x) vs) : vs = s.enc x := by
  have h1 := toVals_cs s x
  generalize s.cs x = cs at h h1
  generalize s.enc x = us at h1
  induction cs generalizing vs us with
  | nil => cases vs with
    | nil => simp [toVals] at h1; exact h1.symm ▸ rfl
    | cons _ _ => exact h.elim
  | cons c cs ih =>
    cases vs with
    | nil => exact h.elim
    | cons v vs =>
      cases c <;> simp only [toVals] at h1 <;> try cases h1
      split at h1
      · rename_i ys hys
        simp at h1
        subst h1
        rw [ih h.2 _ hys, h.1.1]
      · cases h1

theorem cs_length (sh : Shape) (y : sh.T) : (sh.cs y).length = sh.n := by
  have := toVals_cs sh y
  have h3 : ∀ (l : List C) us, toVals l = some us → l.length = us.length := by
    intro l
    induction l with
    | nil => intro us hu; simp [toVals] at hu; subst hu; rfl
    | cons c l ih =>
      intro us hu
      cases c <;> simp only [toVals] at hu <;> try cases hu
      split at hu
      · rename_i ws hws; simp at hu; subst hu; simp [ih ws hws]
      · cases hu
  rw [h3 _ _ this, enc_length]

theorem sv_rel_cs (s : Shape) (x : s.T) {vs : List Value} (h : rels (C.rel ρ) (s.cs x) vs) (hv : vs = s.enc x) : (s.sv x).rel ρ (mkVal s.agg (s.enc x)) := by
  subst hv
  cases s <;> first | exact h.1 | exact ⟨_, rfl, h⟩

theorem sv_val : ∀ {s : Shape} {x : s.T} {v : Value}, (s.sv x).rel ρ v → v = s.val x
  | .int _, _, _, h | .bool, _, _, h | .str, _, _, h | .slice, _, _, h | .map, _, _, h | .any, _, _, h => h.1
  | .unit, _, _, ⟨ys, h1, h2⟩ => by
    cases ys with
    | nil => exact h1
    | cons _ _ => exact h2.elim
  | .pair a b, x, _, ⟨ys, h1, h2⟩ => by
    have := rels_cs (s := .pair a b) (x := x) h2
    rw [h1, this]; rfl
  | .st a, x, _, ⟨ys, h1, h2⟩ => by
    have := rels_cs (s := a) (x := x) h2
    rw [h1, this]; rfl

/-- A key's symbolic value is its datum's. -/
theorem key_val {kd : Kind} {ks : Shape} (hk : keyFits kd ks = true) {kk : ks.T} {v : Value} (hr : (ks.sv kk).rel ρ v) : v = ks.val kk := by
  cases ks <;> first | exact hr.1 | (cases kd <;> simp [keyFits] at hk)

theorem same_eq {kd : Kind} {ks : Shape} (hk : keyFits kd ks = true) {kt : Nat} (hf : kd.fits P kt) : ∃ d, P.underlying kt = some d ∧ ∀ x y : ks.T, Instr.sameNow d (ks.val x) (ks.val y) = some (ks.eq x y) := by
  cases ks <;> cases kd <;> simp [keyFits] at hk <;> simp only [Kind.fits] at hf
  case int.int k k' => exact ⟨_, hf, fun x y => by simp [Instr.sameNow, Shape.val, Shape.eq]⟩
  case bool.bool => exact ⟨_, hf, fun x y => by simp [Instr.sameNow, Shape.val, Shape.eq]⟩
  case str.str => exact ⟨_, hf, fun x y => by simp [Instr.sameNow, Shape.val, Shape.eq]⟩

theorem eq_val {kd : Kind} {ks : Shape} (hk : keyFits kd ks = true) {x y : ks.T} (h : ks.eq x y = true) : x = y := by
  cases ks <;> cases kd <;> simp [keyFits] at hk
  case int.int => exact eq_of_beq (α := Int) h
  case bool.bool => exact eq_of_beq (α := Bool) h
  case str.str =>
    have h1 : (x : ByteArray).data = (y : ByteArray).data := eq_of_beq (show ((x : ByteArray).data == (y : ByteArray).data) = true from h)
    exact ByteArray.ext h1

/-- Where a key stands among the entries. -/
theorem find_cases {d : TypeDesc} {ks es : Shape} (hs : ∀ x y : ks.T, Instr.sameNow d (ks.val x) (ks.val y) = some (ks.eq x y)) (kk : ks.T) : ∀ (ents : List MapEntry) (l : List (ks.T × es.T)),
    ents.map (fun x => (x.key, x.val)) = l.map (fun p => (ks.val p.1, es.val p.2)) →
    (mget ks l kk = none ∧ (∀ i, Instr.findNow d (ks.val kk) ents i = some none) ∧ ∀ v, mset ks l kk v = l ++ [(kk, v)]) ∨
    (∃ (j : Nat) (p : ks.T × es.T), l[j]? = some p ∧ ks.eq kk p.1 = true ∧ mget ks l kk = some p.2 ∧ (∀ i, Instr.findNow d (ks.val kk) ents i = some (some (i + j, es.val p.2))) ∧ (∀ v, mset ks l kk v = l.set j (kk, v)) ∧ ∀ q ∈ l.take j, ks.eq kk q.1 = false)
  | [], [], _ => .inl ⟨rfl, fun _ => rfl, fun _ => rfl⟩
  | e :: ents, p :: l, h => by
    simp only [List.map_cons, List.cons.injEq, Prod.mk.injEq] at h
    obtain ⟨⟨h1, h2⟩, h3⟩ := h
    cases hq : ks.eq kk p.1 with
    | true => exact .inr ⟨0, p, rfl, hq, by simp [mget, hq], fun i => by simp [Instr.findNow, h1, hs, hq, h2], fun v => by simp [mset, hq], by simp⟩
    | false =>
      rcases find_cases hs kk ents l h3 with ⟨g1, g2, g3⟩ | ⟨j, q, g0, g1, g2, g3, g4, g5⟩
      · exact .inl ⟨by simp [mget, hq, g1], fun i => by simp [Instr.findNow, h1, hs, hq, g2], fun v => by simp [mset, hq, g3]⟩
      · refine .inr ⟨j + 1, q, by simpa using g0, g1, by simp [mget, hq, g2], fun i => ?_, fun v => by simp [mset, hq, g4], by simpa [hq] using g5⟩
        simp only [Instr.findNow, h1, hs, hq, g3]
        congr 3
        omega
  | [], _ :: _, h => by simp at h
  | _ :: _, [], h => by simp at h

theorem run_checkKey {kd : Kind} {ks : Shape} (hk : keyFits kd ks = true) {kt : Nat} (hf : kd.fits P kt) (b : Bool) (n : Nat) (kk : ks.T) (w : World) : (Instr.checkKey b (n + 1) kt (ks.val kk)).run P w = .ok () w := by
  cases ks <;> cases kd <;> simp [keyFits] at hk <;> simp only [Kind.fits] at hf <;> simp [Instr.checkKey, run_underlying hf, Shape.val]

theorem valsOf_rel (ht : rels (SV.rel ρ) t a.tmps.toList) : ∀ {xs : List Operand} {vs : List Value}, valsOf t xs = some vs → xs.map a.eval = vs
  | [], vs, h => by simp [valsOf] at h; subst h; rfl
  | x :: xs, vs, h => by
    simp only [valsOf] at h
    split at h
    · rename_i y ys hy hys
      simp only [Option.some.injEq] at h
      subst h
      simp [toVal_rel hy (ev_rel ht x), valsOf_rel ht hys]
    · cases h

theorem isNilConst_eq {y : Operand} (h : isNilConst y = true) : y = .const .nilFunc := by
  cases y <;> simp [isNilConst] at h
  rename_i v
  cases v <;> simp at h
  rfl

theorem run_equal_nil {ty : Nat} {p q : Array TypeId} {c : Bool} (h : P.underlying ty = some (.func p q c)) {f : Value} (hf : f = .nilFunc ∨ ∃ g a c, f = .func g a c) (w : World) : (Op.equal ty f .nilFunc).run P w = .ok (isNilFunc f) w := by
  have key : ∀ d, (Op.equalIn (d + 1) ty f .nilFunc).run P w = .ok (isNilFunc f) w := by
    intro d
    rcases hf with rfl | ⟨g, a, c, rfl⟩ <;> simp [Op.equalIn, run_underlying h, isNilFunc]
  exact key 9999

theorem eqGuard_func {op : BinOp} {ty : Nat} {x y : Operand} {f v : Value} (hf : f = .nilFunc ∨ ∃ g a c, f = .func g a c) : eqGuard op ty x y f v = pure () := by
  rcases hf with rfl | ⟨g, a, c, rfl⟩ <;> cases op <;> rfl

theorem q_nil (hA : Agrees P tt) {op : BinOp} {ty yt : Nat} {x y : Operand} {w : World} (hy : isNilConst y = true) {f : Value} {ti : TI} (hti : tt ty = some ti) (hk : ti.kind = .func) (hx : (SV.c (.v f)).rel ρ (a.eval x))
    (hf : f = .nilFunc ∨ ∃ g a c, f = .func g a c) (h : match op with | .eql => K (.c (.v (.bool (isNilFunc f)))) | .neq => K (.c (.v (.bool (!(isNilFunc f))))) | _ => False) : QSound P ρ r S a w (.binOp op ty x y yt) K := by
  obtain ⟨hx, -⟩ := hx
  have hy' := isNilConst_eq hy
  subst hy'
  have hkind := (hA _ _ hti).kind
  rw [hk] at hkind
  obtain ⟨p, q, c, hu⟩ := hkind
  have hb1 : binOp .eql ty f .nilFunc = (do pure (.bool (← Op.equal ty f .nilFunc))) := by
    rcases hf with rfl | ⟨g, a, c, rfl⟩ <;> rfl
  have hb2 : binOp .neq ty f .nilFunc = (do pure (.bool (!(← Op.equal ty f .nilFunc)))) := by
    rcases hf with rfl | ⟨g, a, c, rfl⟩ <;> rfl
  have hc : a.eval (.const .nilFunc) = .nilFunc := rfl
  cases op <;> simp only at h <;> try exact h.elim
  case eql =>
    refine q_val (.bool (isNilFunc f)) rfl h fun w' o _ ho => ?_
    simp only [execOp, ho, hx, hc, eqGuard_func hf, hb1, Sem.run_bind, Sem.run_pure, Result.andThen, run_equal_nil hu hf]
  case neq =>
    refine q_val (.bool (!(isNilFunc f))) rfl h fun w' o _ ho => ?_
    simp only [execOp, ho, hx, hc, eqGuard_func hf, hb2, Sem.run_bind, Sem.run_pure, Result.andThen, run_equal_nil hu hf]

theorem q_nil2 (hA : Agrees P tt) {op : BinOp} {ty yt : Nat} {x y : Operand} {w : World} (hs : Sees ρ r S w) {ti : TI} (hti : tt ty = some ti) (hy : isNilAt y ti.kind = true) {b : Bool} (hb : nilQ r ti.kind (ev t x) = some b) (ht : rels (SV.rel ρ) t a.tmps.toList)
    (h : match op with | .eql => K (.c (.v (.bool b))) | .neq => K (.c (.v (.bool (!b)))) | _ => False) : QSound P ρ r S a w (.binOp op ty x y yt) K := by
  have hx := ev_rel ht x
  have hkind := (hA _ _ hti).kind
  have key : ∃ u v : Value, a.eval x = u ∧ a.eval y = v ∧ (∀ op, eqGuard op ty x y u v = pure ()) ∧ (binOp .eql ty u v = do pure (.bool (← Op.equal ty u v))) ∧ (binOp .neq ty u v = do pure (.bool (!(← Op.equal ty u v)))) ∧ ∀ w', (Op.equal ty u v).run P w' = .ok b w' := by
    unfold isNilAt at hy
    split at hy
    · rename_i k e hk
      rw [hk] at hkind hb
      have hu : P.underlying ty = some (.map k e) := hkind
      have hm : ∃ p : Option Nat, a.eval x = .map p ∧ b = p.isNone := by
        unfold nilQ at hb
        split at hb
        · rename_i p hev
          rw [hev] at hx
          simp at hb
          exact ⟨p, hx.1, hb.symm⟩
        · simp at hb
        · simp at hb
        · simp at hb
        · rename_i i hev
          rw [hev] at hx
          split at hb
          · rename_i hr hk'
            obtain ⟨g, hg, hgh⟩ := hs.res i _ (nthR_some hr (by simp))
            obtain ⟨bb, _, _, rfl, -⟩ := hgh
            rw [hx.1] at hg
            simp only [Option.some.injEq] at hg hb
            exact ⟨some bb, hg, hb.symm⟩
          · cases hb
        · cases hb
      obtain ⟨p, hp, rfl⟩ := hm
      refine ⟨_, .map none, hp, rfl, fun op => by cases op <;> rfl, rfl, rfl, fun w' => ?_⟩
      have key : ∀ d, (Op.equalIn (d + 1) ty (.map p) (.map none)).run P w' = .ok p.isNone w' := by
        intro d
        cases p <;> simp [Op.equalIn, run_underlying hu]
      exact key 9999
    · rename_i e hk
      rw [hk] at hkind hb
      have hu : P.underlying ty = some (.slice e) := hkind
      have hm : ∃ (p : Option Addr) (n c : Nat), a.eval x = .slice p n c ∧ b = p.isNone := by
        unfold nilQ at hb
        split at hb
        · simp at hb
        · rename_i p n c hev
          rw [hev] at hx
          simp at hb
          exact ⟨p, n, c, hx.1, hb.symm⟩
        · simp at hb
        · simp at hb
        · rename_i i hev
          split at hb
          · rename_i hr hk'; cases hk'
          · cases hb
        · cases hb
      obtain ⟨p, n, c, hp, rfl⟩ := hm
      refine ⟨_, .slice none 0 0, hp, rfl, fun op => by cases op <;> rfl, rfl, rfl, fun w' => ?_⟩
      have key : ∀ d, (Op.equalIn (d + 1) ty (.slice p n c) (.slice none 0 0)).run P w' = .ok p.isNone w' := by
        intro d
        cases p <;> simp [Op.equalIn, run_underlying hu]
      exact key 9999
    · rename_i hk
      rw [hk] at hkind hb
      obtain ⟨ms, hu⟩ : ∃ ms, P.underlying ty = some (.interface ms) := hkind
      have hm : (a.eval x = .nilIface ∧ b = true) ∨ ∃ T v, a.eval x = .iface T v ∧ b = false := by
        unfold nilQ at hb
        split at hb
        · simp at hb
        · simp at hb
        · rename_i hev
          rw [hev] at hx
          simp only [Option.some.injEq] at hb
          exact .inl ⟨hx.1, hb.symm⟩
        · rename_i T v hev
          rw [hev] at hx
          simp only [Option.some.injEq] at hb
          exact .inr ⟨T, v, hx.1, hb.symm⟩
        · rename_i i hev
          split at hb
          · rename_i hr hk'; cases hk'
          · cases hb
        · cases hb
      rcases hm with ⟨hp, rfl⟩ | ⟨T, v, hp, rfl⟩
      · refine ⟨_, .nilIface, hp, rfl, fun op => by cases op <;> cases x <;> rfl, rfl, rfl, fun w' => ?_⟩
        have key : ∀ d, (Op.equalIn (d + 1) ty .nilIface .nilIface).run P w' = .ok true w' := by
          intro d
          simp [Op.equalIn, run_underlying hu]
        exact key 9999
      · refine ⟨_, .nilIface, hp, rfl, fun op => by cases op <;> rfl, rfl, rfl, fun w' => ?_⟩
        have key : ∀ d, (Op.equalIn (d + 1) ty (.iface T v) .nilIface).run P w' = .ok false w' := by
          intro d
          simp [Op.equalIn, run_underlying hu]
        exact key 9999
    · cases hy
  obtain ⟨u, v, e1, e2, e3, e4, e5, e6⟩ := key
  cases op <;> simp only at h <;> try exact h.elim
  case eql =>
    refine q_val (.bool b) rfl h fun w' o _ ho => ?_
    simp only [execOp, ho, e1, e2, e3, e4, Sem.run_bind, Sem.run_pure, Result.andThen, e6]
  case neq =>
    refine q_val (.bool (!b)) rfl h fun w' o _ ho => ?_
    simp only [execOp, ho, e1, e2, e3, e5, Sem.run_bind, Sem.run_pure, Result.andThen, e6]

theorem eqFs_sound (hA : Agrees P tt) {xs ys : List C} {us vs : List Value} (hx : rels (C.rel ρ) xs us) (hy : rels (C.rel ρ) ys vs) (d : Nat) (w : World) : ∀ (fa : List Field) (b : Bool), eqFs tt xs ys (fa.map fun f => (f.offset, f.type)) = some b → (fa.all fun f => f.name != "_") = true →
    (Op.eqFields (d + 1) us.toArray vs.toArray fa).run P w = .ok b w
  | [], b, h, _ => by simp [eqFs] at h; subst h; rfl
  | f :: fa, b, h, hn => by
    simp only [List.all_cons, Bool.and_eq_true] at hn
    simp only [List.map_cons, eqFs] at h
    split at h
    · rename_i fi x y hfi hgx hgy
      obtain ⟨u, hu, hxu⟩ := rels_get hx _ _ hgx
      obtain ⟨v, hv, hyv⟩ := rels_get hy _ _ hgy
      have hf := hA _ _ hfi
      have hname : f.name ≠ "_" := by simpa using hn.1
      have hpart : ∀ (ws : List Value) (z : Value), ws[f.offset]? = some z → fi.sh.agg = false → (part f.type ws.toArray f.offset).run P w = .ok z w := by
        intro ws z hz hag
        have hlt := (List.getElem?_eq_some_iff.1 hz).1
        rw [run_part hf ws.toArray f.offset (by rw [hf.one hag, List.size_toArray]; exact hlt) w, hag, hf.one hag]
        simp only [List.drop_eq_getElem_cons hlt, List.take_succ_cons, List.take_zero, mkVal]
        rw [(List.getElem?_eq_some_iff.1 hz).2]
      have hag : ∀ d, P.underlying f.type = some d → isAggD d = false → fi.sh.agg = false := by
        intro d hd hd2
        obtain ⟨d', hd', ha⟩ := hf.agg
        rw [hd] at hd'
        simp only [Option.some.injEq] at hd'
        rw [← ha, ← hd', hd2]
      have hkind := hf.kind
      split at h
      · rename_i k0 k1 a1 k2 b1 hk
        rw [hk] at hkind
        simp only [Kind.fits] at hkind
        split at h
        · rename_i hkk
          subst hkk
          split at h
          · rename_i rr hrest
            simp only [Option.some.injEq] at h
            subst h
            have ih := eqFs_sound hA hx hy d w fa rr hrest hn.2
            have ha := hag _ hkind rfl
            rw [hxu.1] at hu
            rw [hyv.1] at hv
            simp only [Op.eqFields, if_pos hname, Sem.run_bind, hpart us _ hu ha, hpart vs _ hv ha, Result.andThen, run_equalIn_int w d f.type k1 k0 a1 b1 hkind]
            cases (a1 == b1)
            · simp [Sem.run_pure]
            · simpa using ih
          · cases h
        · cases h
      · rename_i a1 b1 hk
        rw [hk] at hkind
        simp only [Kind.fits] at hkind
        split at h
        · rename_i rr hrest
          simp only [Option.some.injEq] at h
          subst h
          have ih := eqFs_sound hA hx hy d w fa rr hrest hn.2
          have ha := hag _ hkind rfl
          rw [hxu.1] at hu
          rw [hyv.1] at hv
          simp only [Op.eqFields, if_pos hname, Sem.run_bind, hpart us _ hu ha, hpart vs _ hv ha, Result.andThen, run_equalIn_bool' w d f.type a1 b1 hkind]
          cases (a1 == b1)
          · simp [Sem.run_pure]
          · simpa using ih
        · cases h
      · rename_i a1 b1 hk
        rw [hk] at hkind
        simp only [Kind.fits] at hkind
        split at h
        · rename_i rr hrest
          simp only [Option.some.injEq] at h
          subst h
          have ih := eqFs_sound hA hx hy d w fa rr hrest hn.2
          have ha := hag _ hkind rfl
          rw [hxu.1] at hu
          rw [hyv.1] at hv
          simp only [Op.eqFields, if_pos hname, Sem.run_bind, hpart us _ hu ha, hpart vs _ hv ha, Result.andThen, run_equalIn_string w d f.type a1 b1 hkind]
          cases (a1.toList == b1.toList)
          · simp [Sem.run_pure]
          · simpa using ih
        · cases h
      · cases h
    · cases h

theorem eqFields_cons {d : Nat} {us vs : Array Value} {f : Field} {fa : List Field} {a r : Bool} {w : World} (h : (Op.eqFields d us vs [f]).run P w = .ok a w) (hr : (Op.eqFields d us vs fa).run P w = .ok r w) (hn : f.name ≠ "_")
    (hq : ∃ x y z : Value × Value × Bool, (part f.type us f.offset).run P w = .ok x.1 w ∧ (part f.type vs f.offset).run P w = .ok y.1 w ∧ (Op.equalIn d f.type x.1 y.1).run P w = .ok z.2.2 w) : (Op.eqFields d us vs (f :: fa)).run P w = .ok (a && r) w := by
  obtain ⟨⟨x, _⟩, ⟨y, _⟩, ⟨_, _, z⟩, h1, h2, h3⟩ := hq
  simp only at h1 h2 h3
  simp only [Op.eqFields, if_pos hn, Sem.run_bind, h1, h2, h3, Result.andThen] at h ⊢
  cases z with
  | true =>
    simp only [Bool.not_true, Bool.false_eq_true, if_false, Sem.run_pure] at h ⊢
    cases a with
    | true => simpa using hr
    | false => simp at h
  | false =>
    simp only [Bool.not_false, if_true, Sem.run_pure] at h ⊢
    cases a with
    | true => simp at h
    | false => rfl
theorem eqFs_one (hA : Agrees P tt) {xs ys : List C} {us vs : List Value} (hx : rels (C.rel ρ) xs us) (hy : rels (C.rel ρ) ys vs) (d : Nat) (w : World) (f : Field) (a : Bool) (h : eqFs tt xs ys [(f.offset, f.type)] = some a) :
    ∃ x y z : Value × Value × Bool, (part f.type us.toArray f.offset).run P w = .ok x.1 w ∧ (part f.type vs.toArray f.offset).run P w = .ok y.1 w ∧ (Op.equalIn (d + 1) f.type x.1 y.1).run P w = .ok z.2.2 w := by
  simp only [eqFs] at h
  split at h
  · rename_i fi x y hfi hgx hgy
    obtain ⟨u, hu, hxu⟩ := rels_get hx _ _ hgx
    obtain ⟨v, hv, hyv⟩ := rels_get hy _ _ hgy
    have hf := hA _ _ hfi
    have hpart : ∀ (ws : List Value) (z : Value), ws[f.offset]? = some z → fi.sh.agg = false → (part f.type ws.toArray f.offset).run P w = .ok z w := by
      intro ws z hz hag
      have hlt := (List.getElem?_eq_some_iff.1 hz).1
      rw [run_part hf ws.toArray f.offset (by rw [hf.one hag, List.size_toArray]; exact hlt) w, hag, hf.one hag]
      simp only [List.drop_eq_getElem_cons hlt, List.take_succ_cons, List.take_zero, mkVal]
      rw [(List.getElem?_eq_some_iff.1 hz).2]
    have hag : ∀ d, P.underlying f.type = some d → isAggD d = false → fi.sh.agg = false := by
      intro d hd hd2
      obtain ⟨d', hd', ha⟩ := hf.agg
      rw [hd] at hd'
      simp only [Option.some.injEq] at hd'
      rw [← ha, ← hd', hd2]
    have hkind := hf.kind
    split at h
    · rename_i k0 k1 a1 k2 b1 hk
      rw [hk] at hkind
      simp only [Kind.fits] at hkind
      split at h
      · rename_i hkk
        subst hkk
        have ha := hag _ hkind rfl
        rw [hxu.1] at hu
        rw [hyv.1] at hv
        exact ⟨(_, .int .i64 0, true), (_, .int .i64 0, true), (.int .i64 0, .int .i64 0, _), hpart us _ hu ha, hpart vs _ hv ha, run_equalIn_int w d f.type k1 k0 a1 b1 hkind⟩
      · cases h
    · rename_i a1 b1 hk
      rw [hk] at hkind
      simp only [Kind.fits] at hkind
      have ha := hag _ hkind rfl
      rw [hxu.1] at hu
      rw [hyv.1] at hv
      exact ⟨(_, .int .i64 0, true), (_, .int .i64 0, true), (.int .i64 0, .int .i64 0, _), hpart us _ hu ha, hpart vs _ hv ha, run_equalIn_bool' w d f.type a1 b1 hkind⟩
    · rename_i a1 b1 hk
      rw [hk] at hkind
      simp only [Kind.fits] at hkind
      have ha := hag _ hkind rfl
      rw [hxu.1] at hu
      rw [hyv.1] at hv
      exact ⟨(_, .int .i64 0, true), (_, .int .i64 0, true), (.int .i64 0, .int .i64 0, _), hpart us _ hu ha, hpart vs _ hv ha, run_equalIn_string w d f.type a1 b1 hkind⟩
    · cases h
  · cases h
theorem rels_sub {R : C → Value → Prop} : ∀ {xs : List C} {us : List Value} (_ : rels R xs us) (o n : Nat), rels R ((xs.drop o).take n) ((us.drop o).take n)
  | [], [], _, o, n => by simp; trivial
  | x :: xs, u :: us, h, 0, 0 => by simp; trivial
  | x :: xs, u :: us, h, 0, n + 1 => by
    have := rels_sub h.2 0 n
    simp only [List.drop_zero, List.take_succ_cons] at this ⊢
    exact ⟨h.1, this⟩
  | x :: xs, u :: us, h, o + 1, n => by
    have := rels_sub h.2 o n
    simpa using this
  | [], _ :: _, h, _, _ => h.elim
  | _ :: _, [], h, _, _ => h.elim
theorem eqFs2_sound (hA : Agrees P tt) {xs ys : List C} {us vs : List Value} (hx : rels (C.rel ρ) xs us) (hy : rels (C.rel ρ) ys vs) (d : Nat) (w : World) : ∀ (fa : List Field) (b : Bool), eqFs2 tt xs ys (fa.map fun f => (f.offset, f.type)) = some b → (fa.all fun f => f.name != "_") = true →
    (Op.eqFields (d + 2) us.toArray vs.toArray fa).run P w = .ok b w
  | [], b, h, _ => by simp [eqFs2] at h; subst h; rfl
  | f :: fa, b, h, hn => by
    simp only [List.all_cons, Bool.and_eq_true] at hn
    have hname : f.name ≠ "_" := by simpa using hn.1
    simp only [List.map_cons, eqFs2] at h
    split at h
    · rename_i fi hfi
      split at h
      · rename_i fs hk he
        split at h
        · rename_i hle
          split at h
          · rename_i a r ha hr
            simp only [Option.some.injEq] at h
            subst h
            have ih := eqFs2_sound hA hx hy d w fa r hr hn.2
            have hf := hA _ _ hfi
            obtain ⟨e1, e2, e3⟩ := hf.eqOk he
            have hkind := hf.kind
            rw [hk] at hkind
            obtain ⟨ga, hu1, hfs, -⟩ := hkind
            have hfo : P.fieldsOf f.type = ga := by simp [Program.fieldsOf, hu1]
            have hagg : fi.sh.agg = true := by
              obtain ⟨d', hd', ha'⟩ := hf.agg
              rw [hu1] at hd'
              simp only [Option.some.injEq] at hd'
              rw [← ha', ← hd']; rfl
            have hlx := rels_length hx
            have hly := rels_length hy
            have p1 : (part f.type us.toArray f.offset).run P w = .ok (.agg ((us.drop f.offset).take fi.sz).toArray) w := by
              rw [run_part hf us.toArray f.offset (by rw [List.size_toArray]; omega) w, hagg]; rfl
            have p2 : (part f.type vs.toArray f.offset).run P w = .ok (.agg ((vs.drop f.offset).take fi.sz).toArray) w := by
              rw [run_part hf vs.toArray f.offset (by rw [List.size_toArray]; omega) w, hagg]; rfl
            have hs := eqFs_sound hA (rels_sub hx f.offset fi.sz) (rels_sub hy f.offset fi.sz) d w ga.toList a (by rw [hfs]; exact ha) (by rw [← hfo]; exact e3)
            have p3 : (Op.equalIn (d + 2) f.type (.agg ((us.drop f.offset).take fi.sz).toArray) (.agg ((vs.drop f.offset).take fi.sz).toArray)).run P w = .ok a w := by
              rw [run_equalIn_struct w (d + 1) f.type _ _ (by rw [hfo]; exact hu1) e1, hfo]
              exact hs
            simp only [Op.eqFields, if_pos hname, Sem.run_bind, p1, p2, p3, Result.andThen]
            cases a with
            | true => simpa using ih
            | false => rfl
          · cases h
        · cases h
      · split at h
        · rename_i a r ha hr
          simp only [Option.some.injEq] at h
          subst h
          have ih := eqFs2_sound hA hx hy d w fa r hr hn.2
          have h1 := eqFs_sound hA hx hy (d + 1) w [f] a (by simpa using ha) (by simpa using hname)
          exact eqFields_cons h1 ih hname (eqFs_one hA hx hy (d + 1) w f a ha)
        · cases h
    · cases h
theorem eqFsN_sound (hA : Agrees P tt) {xs ys : List C} {us vs : List Value} (hx : rels (C.rel ρ) xs us) (hy : rels (C.rel ρ) ys vs) (d : Nat) (w : World) (fa : List Field) (b : Bool) (h : eqFsN tt xs ys (fa.map fun f => (f.offset, f.type)) = some b) (hn : (fa.all fun f => f.name != "_") = true) :
    (Op.eqFields (d + 2) us.toArray vs.toArray fa).run P w = .ok b w := by
  unfold eqFsN at h
  split at h
  · rename_i b' hb
    simp only [Option.some.injEq] at h
    subst h
    exact eqFs_sound hA hx hy (d + 1) w fa b' hb hn
  · exact eqFs2_sound hA hx hy d w fa b h hn

theorem sameBits_refl {kd : Kind} {ks : Shape} (hk : keyFits kd ks = true) {x y : ks.T} (h : ks.eq x y = true) (n : Nat) : Instr.sameBits n (ks.val y) (ks.val x) = true := by
  have := eq_val hk h
  subst this
  cases ks <;> cases kd <;> simp [keyFits] at hk <;> cases n <;> simp [Instr.sameBits, Shape.val]
  all_goals exact h


/-- What a map's runs ask of its keys. -/
structure KeyRuns (P : Program) (kt : TypeId) (ks : Shape) : Prop where
  check : ∀ (b : Bool) (kk : ks.T) (w : World), (Instr.checkKey b 10000 kt (ks.val kk)).run P w = .ok () w
  find : ∀ (es : Shape) (kk : ks.T) (ents : List MapEntry) (l : List (ks.T × es.T)) (w : World), ents.map (fun x => (x.key, x.val)) = l.map (fun p => (ks.val p.1, es.val p.2)) →
    (mget ks l kk = none ∧ (Instr.findKey kt (ks.val kk) ents).run P w = .ok none w ∧ ∀ v, mset ks l kk v = l ++ [(kk, v)]) ∨
    (∃ (j : Nat) (p : ks.T × es.T), l[j]? = some p ∧ ks.eq kk p.1 = true ∧ mget ks l kk = some p.2 ∧ (Instr.findKey kt (ks.val kk) ents).run P w = .ok (some (j, es.val p.2)) w ∧ (∀ v, mset ks l kk v = l.set j (kk, v)) ∧ ∀ q ∈ l.take j, ks.eq kk q.1 = false)
  bits : ∀ x y : ks.T, ks.eq x y = true → Instr.sameBits 10000 (ks.val y) (ks.val x) = true

theorem keyRuns_prim {kd : Kind} {ks : Shape} (hk : keyFits kd ks = true) {kt : Nat} (hf : kd.fits P kt) : KeyRuns P kt ks := by
  obtain ⟨d, hd, hsame⟩ := same_eq hk hf
  refine ⟨fun b kk w => run_checkKey hk hf b 9999 kk w, fun es kk ents l w h => ?_, fun x y h => sameBits_refl hk h 10000⟩
  rcases find_cases (es := es) hsame kk ents l h with ⟨g1, g2, g3⟩ | ⟨j, p, g0, g1, g2, g3, g4⟩
  · refine .inl ⟨g1, ?_, g3⟩
    simp only [Instr.findKey, Sem.run_bind, run_underlying hd, Result.andThen, g2, Sem.run_pure]
  · refine .inr ⟨j, p, g0, g1, g2, ?_, g4⟩
    simp only [Instr.findKey, Sem.run_bind, run_underlying hd, Result.andThen, g3, Sem.run_pure, Nat.zero_add]

/-- Where a key stands, each asked. -/
theorem find_asking {kt : TypeId} {ks es : Shape} (heq : ∀ (x y : ks.T) (w : World), (Op.equal kt (ks.val x) (ks.val y)).run P w = .ok (ks.eq x y) w) (kk : ks.T) (w : World) : ∀ (ents : List MapEntry) (l : List (ks.T × es.T)),
    ents.map (fun x => (x.key, x.val)) = l.map (fun p => (ks.val p.1, es.val p.2)) →
    (mget ks l kk = none ∧ (∀ i, (Instr.findAsking kt (ks.val kk) ents i).run P w = .ok none w) ∧ ∀ v, mset ks l kk v = l ++ [(kk, v)]) ∨
    (∃ (j : Nat) (p : ks.T × es.T), l[j]? = some p ∧ ks.eq kk p.1 = true ∧ mget ks l kk = some p.2 ∧ (∀ i, (Instr.findAsking kt (ks.val kk) ents i).run P w = .ok (some (i + j, es.val p.2)) w) ∧ (∀ v, mset ks l kk v = l.set j (kk, v)) ∧ ∀ q ∈ l.take j, ks.eq kk q.1 = false)
  | [], [], _ => .inl ⟨rfl, fun _ => rfl, fun _ => rfl⟩
  | e :: ents, p :: l, h => by
    simp only [List.map_cons, List.cons.injEq, Prod.mk.injEq] at h
    obtain ⟨⟨h1, h2⟩, h3⟩ := h
    cases hq : ks.eq kk p.1 with
    | true => exact .inr ⟨0, p, rfl, hq, by simp [mget, hq], fun i => by simp [Instr.findAsking, h1, heq, hq, h2, Result.andThen], fun v => by simp [mset, hq], by simp⟩
    | false =>
      rcases find_asking heq kk w ents l h3 with ⟨g1, g2, g3⟩ | ⟨j, q, g0, g1, g2, g3, g4, g5⟩
      · exact .inl ⟨by simp [mget, hq, g1], fun i => by simp [Instr.findAsking, h1, heq, hq, g2, Result.andThen], fun v => by simp [mset, hq, g3]⟩
      · refine .inr ⟨j + 1, q, by simpa using g0, g1, by simp [mget, hq, g2], fun i => ?_, fun v => by simp [mset, hq, g4], by simpa [hq] using g5⟩
        simp [Instr.findAsking, h1, heq, hq, g3, Result.andThen]
        omega
  | [], _ :: _, h => by simp at h
  | _ :: _, [], h => by simp at h

theorem prim_cs {kd : Kind} {s : Shape} (h : keyPrim kd s = true) (x : s.T) : ∃ v, s.cs x = [.v v] ∧ s.enc x = [v] := by
  cases kd <;> cases s <;> simp [keyPrim] at h <;> exact ⟨_, rfl, rfl⟩

theorem ba_beq (x y : ByteArray) : (x == y) = true ↔ x = y := by
  constructor
  · intro h
    have h1 : x.data = y.data := eq_of_beq (show (x.data == y.data) = true from h)
    exact ByteArray.ext h1
  · rintro rfl
    show (x.data == x.data) = true
    exact beq_self_eq_true _
theorem ba_data (s : ByteArray) : s.toList = s.data.toList := by
  have key : ∀ (n i : Nat) (r : List UInt8), s.size - i ≤ n → ByteArray.toList.loop s i r = r.reverse ++ s.data.toList.drop i := by
    intro n
    induction n with
    | zero =>
      intro i r h
      have hi : s.size ≤ i := by omega
      rw [ByteArray.toList.loop, if_neg (by omega)]
      rw [List.drop_of_length_le (by simpa using hi), List.append_nil]
    | succ n ih =>
      intro i r h
      rw [ByteArray.toList.loop]
      by_cases hi : i < s.size
      · rw [if_pos hi, ih _ _ (by omega)]
        have hd : s.data.toList.drop i = s.get! i :: s.data.toList.drop (i + 1) := by
          rw [← List.getElem_cons_drop (by simpa using hi)]
          congr 1
          rw [Array.getElem_toList]
          show _ = s.data[i]!
          rw [getElem!_pos s.data i hi]
        rw [hd]; simp
      · rw [if_neg hi, List.drop_of_length_le (by simpa using Nat.le_of_not_lt hi), List.append_nil]
  have := key s.size 0 [] (by omega)
  simpa [ByteArray.toList] using this
theorem ba_list (x y : ByteArray) : (x.toList == y.toList) = (x == y) := by
  rw [Bool.eq_iff_iff, ba_beq, beq_iff_eq]
  constructor
  · intro h
    have : x.data.toList = y.data.toList := by
      rw [← ba_data, ← ba_data]; exact h
    exact ByteArray.ext (Array.ext' this)
  · rintro rfl; rfl
/-- '==' on the fields of two keys. -/
theorem keyFs_eq (hA : Agrees P tt) : ∀ (fs : List (Nat × Nat)) (s : Shape) (o : Nat), keyFs tt fs s o = true → ∀ (x y : s.T) (px py : List C), px.length = o → py.length = o →
    eqFs tt (px ++ s.cs x) (py ++ s.cs y) fs = some (s.eq x y)
  | [], _, _, h, _, _, _, _, _, _ => by simp [keyFs] at h
  | [(off, ty)], s, o, h, x, y, px, py, h1, h2 => by
    simp only [keyFs, Bool.and_eq_true, beq_iff_eq] at h
    obtain ⟨rfl, h⟩ := h
    split at h
    · rename_i fi hfi
      cases hk : fi.kind <;> cases s <;> simp [keyPrim, hk] at h
      all_goals simp [eqFs, hfi, hk, Shape.cs, Shape.eq, ← h1, h, h2.trans h1.symm, ba_list]
      all_goals simp [h2, h1]
    · cases h
  | (off, ty) :: q :: rest, s, o, h, x, y, px, py, h1, h2 => by
    cases s with
    | pair a b =>
      simp only [keyFs, Bool.and_eq_true, beq_iff_eq] at h
      obtain ⟨⟨rfl, h⟩, h3⟩ := h
      split at h
      · rename_i fi hfi
        have ih := keyFs_eq hA (q :: rest) b (off + 1) h3 x.2 y.2 (px ++ a.cs x.1) (py ++ a.cs y.1)
        obtain ⟨u, hu, -⟩ := prim_cs h x.1
        obtain ⟨v, hv, -⟩ := prim_cs h y.1
        have ih := ih (by rw [hu]; simp [h1]) (by rw [hv]; simp [h2])
        have e1 : px ++ (Shape.pair a b).cs x = (px ++ a.cs x.1) ++ b.cs x.2 := by simp [Shape.cs]
        have e2 : py ++ (Shape.pair a b).cs y = (py ++ a.cs y.1) ++ b.cs y.2 := by simp [Shape.cs]
        rw [e1, e2, eqFs]
        rw [ih]
        have g1 : ((px ++ a.cs x.1) ++ b.cs x.2)[off]? = some (.v u) := by rw [hu]; simp [← h1]
        have g2 : ((py ++ a.cs y.1) ++ b.cs y.2)[off]? = some (.v v) := by rw [hv]; simp [← h2]
        rw [hfi, g1, g2]
        cases hk : fi.kind <;> cases a <;> simp [keyPrim, hk] at h
        all_goals
          simp [Shape.cs] at hu hv
          subst hu
          subst hv
          simp [Shape.eq, h, hk, ba_list]
      · cases h
    | _ => simp [keyFs] at h

theorem keyFs_bits : ∀ (fs : List (Nat × Nat)) (s : Shape) (o : Nat), keyFs tt fs s o = true → ∀ (x y : s.T), s.eq x y = true → s.enc x = s.enc y ∧ ((s.enc x).zip (s.enc y)).all (fun z => Instr.sameBits 9999 z.1 z.2) = true
  | [], _, _, h, _, _, _ => by simp [keyFs] at h
  | [(off, ty)], s, o, h, x, y, he => by
    simp only [keyFs, Bool.and_eq_true, beq_iff_eq] at h
    obtain ⟨-, h⟩ := h
    split at h
    · rename_i fi hfi
      cases hk : fi.kind <;> cases s <;> simp [keyPrim, hk] at h
      all_goals
        first
        | simp only [Shape.eq, beq_iff_eq] at he
          subst he
          simp [Shape.enc, Instr.sameBits]
          done
        | have he := (ba_beq _ _).1 he
          subst he
          simp [Shape.enc, Instr.sameBits, (ba_beq _ _).2 rfl]
    · cases h
  | (off, ty) :: q :: rest, s, o, h, x, y, he => by
    cases s with
    | pair a b =>
      simp only [keyFs, Bool.and_eq_true, beq_iff_eq] at h
      obtain ⟨⟨-, h⟩, h3⟩ := h
      simp only [Shape.eq, Bool.and_eq_true] at he
      have ih := keyFs_bits (q :: rest) b (o + 1) h3 x.2 y.2 he.2
      split at h
      · rename_i fi hfi
        have h1 : a.enc x.1 = a.enc y.1 ∧ ((a.enc x.1).zip (a.enc y.1)).all (fun z => Instr.sameBits 9999 z.1 z.2) = true := by
          have he1 := he.1
          generalize x.1 = x1 at he1 ⊢
          generalize y.1 = y1 at he1 ⊢
          cases hk : fi.kind <;> cases a <;> simp [keyPrim, hk] at h
          all_goals
            first
            | simp only [Shape.eq, beq_iff_eq] at he1
              subst he1
              simp [Shape.enc, Instr.sameBits]
              done
            | have he1 := (ba_beq _ _).1 he1
              subst he1
              simp [Shape.enc, Instr.sameBits, (ba_beq _ _).2 rfl]
        refine ⟨by simp only [Shape.enc]; rw [h1.1, ih.1], ?_⟩
        simp only [Shape.enc]
        rw [List.zip_append (by rw [h1.1]), List.all_append, h1.2, ih.2]
        rfl
      · cases h
    | _ => simp [keyFs] at h

theorem keyFs_symm : ∀ (fs : List (Nat × Nat)) (s : Shape) (o : Nat), keyFs tt fs s o = true → ∀ (x y : s.T), s.eq x y = true → s.eq y x = true
  | [], _, _, h, _, _, _ => by simp [keyFs] at h
  | [(off, ty)], s, o, h, x, y, he => by
    simp only [keyFs, Bool.and_eq_true, beq_iff_eq] at h
    obtain ⟨-, h⟩ := h
    split at h
    · rename_i fi hfi
      cases hk : fi.kind <;> cases s <;> simp [keyPrim, hk] at h
      all_goals
        first
        | simp only [Shape.eq, beq_iff_eq] at he ⊢
          exact he.symm
        | exact (ba_beq _ _).2 ((ba_beq _ _).1 he).symm
    · cases h
  | (off, ty) :: q :: rest, s, o, h, x, y, he => by
    cases s with
    | pair a b =>
      simp only [keyFs, Bool.and_eq_true, beq_iff_eq] at h
      obtain ⟨⟨-, h⟩, h3⟩ := h
      simp only [Shape.eq, Bool.and_eq_true] at he ⊢
      refine ⟨?_, keyFs_symm (q :: rest) b (o + 1) h3 x.2 y.2 he.2⟩
      have he1 := he.1
      generalize x.1 = x1 at he1 ⊢
      generalize y.1 = y1 at he1 ⊢
      split at h
      · rename_i fi hfi
        cases hk : fi.kind <;> cases a <;> simp [keyPrim, hk] at h
        all_goals
          first
          | simp only [Shape.eq, beq_iff_eq] at he1 ⊢
            exact he1.symm
          | exact (ba_beq _ _).2 ((ba_beq _ _).1 he1).symm
      · cases h
    | _ => simp [keyFs] at h

theorem keyFs_ok : ∀ (fs : List (Nat × Nat)) (s : Shape) (o : Nat), keyFs tt fs s o = true → ∀ x : s.T, s.ok x
  | [], _, _, h, _ => by simp [keyFs] at h
  | [(off, ty)], s, o, h, x => by
    simp only [keyFs, Bool.and_eq_true, beq_iff_eq] at h
    obtain ⟨-, h⟩ := h
    split at h
    · rename_i fi hfi
      cases hk : fi.kind <;> cases s <;> simp [keyPrim, hk] at h <;> exact trivial
    · cases h
  | (off, ty) :: q :: rest, s, o, h, x => by
    cases s with
    | pair a b =>
      simp only [keyFs, Bool.and_eq_true, beq_iff_eq] at h
      obtain ⟨⟨-, h⟩, h3⟩ := h
      refine ⟨?_, keyFs_ok (q :: rest) b (o + 1) h3 x.2⟩
      split at h
      · rename_i fi hfi
        generalize x.1 = x1
        cases hk : fi.kind <;> cases a <;> simp [keyPrim, hk] at h <;> exact trivial
      · cases h
    | _ => simp [keyFs] at h

/-- What stands in a key's fields. -/
theorem keyFs_parts : ∀ (fs : List (Nat × Nat)) (s : Shape) (o : Nat), keyFs tt fs s o = true → ∀ (x : s.T) (px : List Value), px.length = o →
    ∀ q ∈ fs, ∃ fi v, tt q.2 = some fi ∧ ((∃ k, fi.kind = .int k) ∨ fi.kind = .bool ∨ fi.kind = .str) ∧ (px ++ s.enc x)[q.1]? = some v
  | [], _, _, h, _, _, _ => by simp [keyFs] at h
  | [(off, ty)], s, o, h, x, px, hp => by
    simp only [keyFs, Bool.and_eq_true, beq_iff_eq] at h
    obtain ⟨rfl, h⟩ := h
    intro q hq
    have : q = (off, ty) := by simpa using hq
    subst this
    split at h
    · rename_i fi hfi
      obtain ⟨v, -, hv⟩ := prim_cs h x
      refine ⟨fi, v, hfi, ?_, by rw [hv]; simp [← hp]⟩
      cases hk : fi.kind <;> cases s <;> simp [keyPrim, hk] at h <;> simp
    · cases h
  | (off, ty) :: q' :: rest, s, o, h, x, px, hp => by
    cases s with
    | pair a b =>
      simp only [keyFs, Bool.and_eq_true, beq_iff_eq] at h
      obtain ⟨⟨rfl, h⟩, h3⟩ := h
      split at h
      · rename_i fi hfi
        obtain ⟨v, -, hv⟩ := prim_cs h x.1
        have ih := keyFs_parts (q' :: rest) b (off + 1) h3 x.2 (px ++ a.enc x.1) (by rw [hv]; simp [hp])
        have e1 : px ++ (Shape.pair a b).enc x = (px ++ a.enc x.1) ++ b.enc x.2 := by simp [Shape.enc]
        intro q hq
        rcases List.mem_cons.1 hq with hq | hq
        · subst hq
          refine ⟨fi, v, hfi, ?_, by rw [e1, hv]; simp [← hp]⟩
          cases hk : fi.kind <;> cases a <;> simp [keyPrim, hk] at h <;> simp
        · rw [e1]
          exact ih q hq
      · cases h
    | _ => simp [keyFs] at h

theorem keyRuns_struct (hA : Agrees P tt) {kt : Nat} {ki : TI} {fs : List (Nat × Nat)} {s : Shape} (hki : tt kt = some ki) (hk : ki.kind = .struct fs) (he : ki.eq = true) (hf : keyFs tt fs s 0 = true) : KeyRuns P kt (.st s) := by
  obtain ⟨h1, h2, h3⟩ := (hA _ _ hki).eqOk he
  have hkind := (hA _ _ hki).kind
  rw [hk] at hkind
  obtain ⟨fa, hu1, hfs, -⟩ := hkind
  have hfo : P.fieldsOf kt = fa := by simp [Program.fieldsOf, hu1]
  have hrel : ∀ x : s.T, rels (C.rel []) (s.cs x) (s.enc x) := fun x => cs_rel s x (keyFs_ok fs s 0 hf x)
  have heq : ∀ (x y : s.T) (w : World), (Op.equal kt ((Shape.st s).val x) ((Shape.st s).val y)).run P w = .ok (s.eq x y) w := by
    intro x y w
    show (Op.equalIn 10000 kt (.agg (s.enc x).toArray) (.agg (s.enc y).toArray)).run P w = .ok (s.eq x y) w
    rw [run_equalIn_struct w 9999 kt (s.enc x).toArray (s.enc y).toArray (by rw [hfo]; exact hu1) h1, hfo]
    refine eqFs_sound hA (hrel x) (hrel y) 9998 w fa.toList _ ?_ (by rw [← hfo]; exact h3)
    rw [hfs]
    exact keyFs_eq hA fs s 0 hf x y [] [] rfl rfl
  refine ⟨fun b kk w => ?_, fun es kk ents l w h => ?_, fun x y h => ?_⟩
  · show (Instr.checkKey b 10000 kt (.agg (s.enc kk).toArray)).run P w = .ok () w
    rw [Instr.checkKey]
    simp only [Sem.run_bind, run_underlying hu1, Result.andThen]
    rw [← Array.forIn_toList]
    have parts := keyFs_parts fs s 0 hf kk [] rfl
    have each : ∀ f ∈ fa.toList, ∃ fi v, tt f.type = some fi ∧ ((∃ k, fi.kind = .int k) ∨ fi.kind = .bool ∨ fi.kind = .str) ∧ (s.enc kk)[f.offset]? = some v := fun f hf' => by
      have := parts (f.offset, f.type) (by rw [← hfs]; exact List.mem_map.2 ⟨f, hf', rfl⟩)
      simpa using this
    have names : ∀ f ∈ fa.toList, f.name ≠ "_" := fun f hf' => by
      have := List.all_eq_true.1 (show (fa.toList.all fun f => f.name != "_") = true by rw [← hfo]; exact h3) f hf'
      simpa using this
    clear parts
    generalize fa.toList = L at each names
    induction L with
    | nil => simp
    | cons f L ih =>
      obtain ⟨fi, v, g1, g2, g3⟩ := each f (by simp)
      have hn := names f (by simp)
      have hf' := hA _ _ g1
      have hkind' := hf'.kind
      have hd : ∃ d, P.underlying f.type = some d ∧ isAggD d = false ∧ ∀ b v, (Instr.checkKey b 9999 f.type v).run P w = .ok () w := by
        rcases g2 with ⟨k, g2⟩ | g2 | g2
        · rw [g2] at hkind'
          simp only [Kind.fits] at hkind'
          exact ⟨_, hkind', rfl, fun b v => by
            show (Instr.checkKey b (9998 + 1) f.type v).run P w = _
            generalize 9998 = n
            simp [Instr.checkKey, run_underlying hkind']⟩
        · rw [g2] at hkind'
          simp only [Kind.fits] at hkind'
          exact ⟨_, hkind', rfl, fun b v => by
            show (Instr.checkKey b (9998 + 1) f.type v).run P w = _
            generalize 9998 = n
            simp [Instr.checkKey, run_underlying hkind']⟩
        · rw [g2] at hkind'
          simp only [Kind.fits] at hkind'
          exact ⟨_, hkind', rfl, fun b v => by
            show (Instr.checkKey b (9998 + 1) f.type v).run P w = _
            generalize 9998 = n
            simp [Instr.checkKey, run_underlying hkind']⟩
      obtain ⟨d, hd1, hd2, hd3⟩ := hd
      have hag : fi.sh.agg = false := by
        obtain ⟨d', hd', ha⟩ := hf'.agg
        rw [hd1] at hd'
        simp only [Option.some.injEq] at hd'
        rw [← ha, ← hd', hd2]
      have hpart : (part f.type (s.enc kk).toArray f.offset).run P w = .ok v w := by
        have hlt := (List.getElem?_eq_some_iff.1 g3).1
        rw [run_part hf' (s.enc kk).toArray f.offset (by rw [hf'.one hag, List.size_toArray]; exact hlt) w, hag, hf'.one hag]
        simp only [List.drop_eq_getElem_cons hlt, List.take_succ_cons, List.take_zero, mkVal]
        rw [(List.getElem?_eq_some_iff.1 g3).2]
      simp only [List.forIn_cons, Sem.run_bind, hn, ne_eq, not_false_eq_true, if_true, Result.andThen, hpart, hd3, Sem.run_pure]
      exact ih (fun f hf => each f (by simp [hf])) (fun f hf => names f (by simp [hf]))
  · have hfk : (Instr.findKey kt ((Shape.st s).val kk) ents).run P w = (Instr.findAsking kt ((Shape.st s).val kk) ents 0).run P w := by
      cases ents with
      | nil => simp [Instr.findKey, run_underlying hu1, Instr.findNow, Instr.findAsking]
      | cons e es => simp [Instr.findKey, run_underlying hu1, Instr.findNow, Instr.sameNow]
    rcases find_asking (ks := .st s) (es := es) heq kk w ents l h with ⟨g1, g2, g3⟩ | ⟨j, p, g0, g1, g2, g3, g4⟩
    · exact .inl ⟨g1, by rw [hfk]; exact g2 0, g3⟩
    · exact .inr ⟨j, p, g0, g1, g2, by rw [hfk, g3 0, Nat.zero_add], g4⟩
  · obtain ⟨e1, e2⟩ := keyFs_bits fs s 0 hf y x (by
      have h' : s.eq x y = true := h
      have := keyFs_bits fs s 0 hf x y h'
      exact keyFs_symm fs s 0 hf x y h')
    show Instr.sameBits (9999 + 1) (.agg (s.enc y).toArray) (.agg (s.enc x).toArray) = true
    simp only [Instr.sameBits, List.size_toArray, e1, beq_self_eq_true, Bool.true_and]
    rw [e1] at e2
    exact e2

theorem keyRuns_of (hA : Agrees P tt) {kt : Nat} {ki : TI} {ks : Shape} (hki : tt kt = some ki) (hk : keyOk tt ki ks = true) : KeyRuns P kt ks := by
  unfold keyOk at hk
  split at hk
  · rename_i fs hfs
    split at hk
    · rename_i s
      simp only [Bool.and_eq_true] at hk
      exact keyRuns_struct hA hki hfs hk.1 hk.2
    · cases hk
  · exact keyRuns_prim hk (hA _ _ hki).kind

/-- The run of a look into a map whose entries are known. -/
theorem run_lookup {ty kt et : Nat} (ht : P.underlying ty = some (.map kt et)) {ei : TI} (hei : Fits P et ei) {ks es : Shape} (hk : KeyRuns P kt ks) {l : List (ks.T × es.T)} (kk : ks.T) (z : es.T) (hz : es.cs z = ei.zero)
    (hagg : es.agg = ei.sh.agg) {x : Value} {ents : Array MapEntry} {w : World}
    (hx : (x = .map none ∧ ents = #[]) ∨ ∃ b clock, x = .map (some b) ∧ w.heap[b]? = some (.map ents clock)) (hents : ents.toList.map (fun x => (x.key, x.val)) = l.map (fun p => (ks.val p.1, es.val p.2))) (ok : Bool) :
    (Instr.lookup ty x (ks.val kk) ok).run P w = .ok (if ok then .tuple #[es.val ((mget ks l kk).getD z), .bool (mget ks l kk).isSome] else es.val ((mget ks l kk).getD z)) w := by
  obtain ⟨i, hi, _, _, vs, hv1, hv2, hv3, hv4⟩ := hei.info
  have hzv : vs = es.enc z := by
    have := toVals_cs es z
    rw [hz, hv1] at this
    simpa using this
  have hzero : ∀ w', (zeroValue et).run P w' = .ok (es.val z) w' := by
    intro w'
    simp only [zeroValue, typeInfo, Sem.run_bind, run_program, Result.andThen, hi, Sem.run_pure, hv4, hzv, ← hagg, ← mkVal_enc]
  have hck : ∀ b, (Instr.checkKey b 10000 kt (ks.val kk)).run P w = .ok () w := fun b => hk.check b kk w
  rcases hx with ⟨rfl, rfl⟩ | ⟨b, clock, rfl, hb⟩
  · have hl : l = [] := by simpa using hents.symm
    subst hl
    have hf : (Instr.findKey kt (ks.val kk) (#[] : Array MapEntry).toList).run P w = .ok none w := by
      rcases hk.find es kk [] [] w rfl with ⟨-, g2, -⟩ | ⟨j, p, g0, -⟩
      · exact g2
      · simp at g0
    simp only [Instr.lookup, Sem.run_bind, run_underlying ht, Result.andThen, Sem.run_pure, hck, hf, hzero, mget, Option.getD_none, Option.isSome_none]
  · simp only [Instr.lookup, Sem.run_bind, run_underlying ht, Result.andThen, getObj, Sem.run, hb, Sem.run_pure, hck]
    rcases hk.find es kk ents.toList l w hents with ⟨g1, g2, _⟩ | ⟨j, p, g0, g1, g2, g3, _⟩
    · simp only [g2, g1, Sem.run_pure, Sem.run_bind, hzero, Result.andThen, Option.getD_none, Option.isSome_none]
    · simp only [g3, g2, Sem.run_pure, Sem.run_bind, Result.andThen, Option.getD_some, Option.isSome_some]

theorem mget_mem {ks : Shape} {V : Type} : ∀ {l : List (ks.T × V)} {kk : ks.T} {v : V}, mget ks l kk = some v → ∃ k, (k, v) ∈ l
  | p :: l, kk, v, h => by
    simp only [mget] at h
    split at h
    · simp at h; subst h; exact ⟨p.1, by simp⟩
    · obtain ⟨k, hk⟩ := mget_mem h; exact ⟨k, by simp [hk]⟩

theorem q_lookK (hA : Agrees P tt) {ty kt et : Nat} {m k : Operand} {ok : Bool} (ht : P.underlying ty = some (.map kt et)) {ki ei : TI} (hki : tt kt = some ki) (hei : tt et = some ei) {ks es : Shape} {l : List (ks.T × es.T)} {w : World} (hrel : rels (SV.rel ρ) t a.tmps.toList)
    (hm : ∀ w', Near ρ r S w w' → ∃ ents : Array MapEntry, ((a.eval m = .map none ∧ ents = #[]) ∨ ∃ b clock, a.eval m = .map (some b) ∧ w'.heap[b]? = some (.map ents clock)) ∧ ents.toList.map (fun x => (x.key, x.val)) = l.map (fun p => (ks.val p.1, es.val p.2)))
    (hok : ∀ p ∈ l, es.ok p.2) (hagg : es.agg = ei.sh.agg) (h : lookK tt ki ks es ei.zero l (ev t k) ok K) : QSound P ρ r S a w (.lookup ty m k ok) K := by
  have hkr := ev_rel hrel k
  unfold lookK at h
  split at h
  · rename_i hk
    obtain ⟨kk, z, hkk, hz, h⟩ := h
    rw [hkk] at hkr
    have hkv := sv_val hkr
    have hzok : es.ok z := by
      obtain ⟨i, hi, _, _, vs, hv1, hv2, hv3, hv4⟩ := (hA _ _ hei).info
      have := toVals_cs es z
      rw [hz, hv1] at this
      simp only [Option.some.injEq] at this
      subst this
      exact ok_of_enc es z hv3
    have hgok : es.ok ((mget ks l kk).getD z) := by
      cases hg : mget ks l kk with
      | none => exact hzok
      | some v => obtain ⟨k', hk'⟩ := mget_mem hg; exact hok _ hk'
    have hrun : ∀ w', Near ρ r S w w' → (Instr.lookup ty (a.eval m) (a.eval k) ok).run P w' = .ok (if ok then .tuple #[es.val ((mget ks l kk).getD z), .bool (mget ks l kk).isSome] else es.val ((mget ks l kk).getD z)) w' := by
      intro w' hn
      obtain ⟨ents, h1, h2⟩ := hm w' hn
      rw [hkv]
      exact run_lookup ht (hA _ _ hei) (keyRuns_of hA hki hk) kk z hz hagg h1 h2 ok
    cases ok with
    | true =>
      refine q_pure _ (.tuple #[es.val ((mget ks l kk).getD z), .bool (mget ks l kk).isSome]) ?_ h fun w' o hn ho => ?_
      · refine ⟨[_, _], rfl, ?_, ⟨rfl, rfl⟩, trivial⟩
        generalize (mget ks l kk).getD z = y at hgok ⊢
        cases ha : es.agg with
        | true => exact ⟨es.enc y, by rw [mkVal_enc, ha]; rfl, cs_rel es y hgok⟩
        | false => cases es <;> first | (simp [Shape.agg] at ha; done) | exact ⟨rfl, rfl⟩ | exact ⟨rfl, hgok⟩
      · simp only [execOp, ho, Sem.run_bind, hrun w' hn, Result.andThen, if_true, Sem.run_pure]
    | false =>
      refine q_pure _ (es.val ((mget ks l kk).getD z)) (sv_rel es _ hgok) h fun w' o hn ho => ?_
      simp only [execOp, ho, Sem.run_bind, hrun w' hn, Result.andThen, Bool.false_eq_true, if_false, Sem.run_pure]
  · exact h.elim


theorem q_eqStruct (hA : Agrees P tt) {op : BinOp} {ty yt : Nat} {x y : Operand} {xs ys : List C} {ti : TI} {fs : List (Nat × Nat)} {b : Bool} {w : World} (hti : tt ty = some ti) (hk : ti.kind = .struct fs) (he : ti.eq = true)
    (hx : (SV.agg xs).rel ρ (a.eval x)) (hy : (SV.agg ys).rel ρ (a.eval y)) (hb : eqFsN tt xs ys fs = some b) (h : match op with | .eql => K (.c (.v (.bool b))) | .neq => K (.c (.v (.bool (!b)))) | _ => False) : QSound P ρ r S a w (.binOp op ty x y yt) K := by
  obtain ⟨us, hu, hxu⟩ := hx
  obtain ⟨vs, hv, hyv⟩ := hy
  obtain ⟨h1, h2, h3⟩ := (hA _ _ hti).eqOk he
  have hkind := (hA _ _ hti).kind
  rw [hk] at hkind
  obtain ⟨fa, hu1, hfs, -⟩ := hkind
  have hfo : P.fieldsOf ty = fa := by simp [Program.fieldsOf, hu1]
  have hrun : ∀ w' : World, (Op.equalIn 10000 ty (.agg us.toArray) (.agg vs.toArray)).run P w' = .ok b w' := by
    intro w'
    rw [run_equalIn_struct w' 9999 ty us.toArray vs.toArray (by rw [hfo]; exact hu1) h1, hfo]
    exact eqFsN_sound hA hxu hyv 9997 w' fa.toList b (by rw [hfs]; exact hb) (by rw [← hfo]; exact h3)
  cases op <;> simp only at h <;> try exact h.elim
  case eql =>
    refine q_val (.bool b) rfl h fun w' o _ ho => ?_
    simp only [execOp, ho, hu, hv, Sem.run_bind, run_eqGuard_agg _ _ _ _ _ _ _ h2, Result.andThen, run_eql_struct, hrun, Sem.run_pure]
  case neq =>
    refine q_val (.bool (!b)) rfl h fun w' o _ ho => ?_
    simp only [execOp, ho, hu, hv, Sem.run_bind, run_eqGuard_agg _ _ _ _ _ _ _ h2, Result.andThen, run_neq_struct, hrun, Sem.run_pure]

theorem q_entry {x : Operand} {w : World} (hs : Sees ρ r S w) (ht : rels (SV.rel ρ) t a.tmps.toList) (h : vcQ P tt t r S (.entry x) K) : QSound P ρ r S a w (.entry x) K := by
  have hx := ev_rel ht x
  simp only [vcQ] at h
  split at h
  · rename_i i hev
    rw [hev] at hx
    obtain ⟨b, h1, h2⟩ := hx
    split at h
    · rename_i k e m ents clock left p hr
      have hr' := nthR_some hr (by simp)
      obtain ⟨hS, h⟩ := h
      obtain ⟨g, hg, b', seen, rfl, hb, hm0, hm⟩ := hs.res i _ hr'
      rw [h1] at hg
      simp only [Option.some.injEq, Value.pointer.injEq, Addr.mk.injEq] at hg
      obtain ⟨rfl, -⟩ := hg
      cases m with
      | none => exact absurd (hm0 rfl).2 (by simp)
      | some m =>
      obtain ⟨⟨l, hmap⟩, _, _, hcur⟩ := hm (by simp)
      obtain ⟨x', s', hx', rfl, hk, hv, hko, heo⟩ := hcur p rfl
      have hnd : (ents.toList.map (·.born)).Nodup := hmap.2.2.1
      refine q_pure (.tup [(k.agg, k.cs p.1), (e.agg, e.cs p.2)]) (.tuple #[k.val p.1, e.val p.2]) ?_ h fun w' o hn ho => ?_
      · have hc : ∀ (s : Shape) (y : s.T), s.ok y → compRel ρ (s.agg, s.cs y) (s.val y) := by
          intro s y hy
          cases ha : s.agg with
          | true => exact ⟨s.enc y, by rw [mkVal_enc, ha]; rfl, cs_rel s y hy⟩
          | false => cases s <;> first | (simp [Shape.agg] at ha; done) | exact ⟨rfl, rfl⟩ | exact ⟨rfl, hy⟩
        exact ⟨[_, _], rfl, hc k p.1 hko, hc e p.2 heo, trivial⟩
      · have hb' : w'.heap[b]? = some (.mapIter (some m) clock (s'.push x'.born) clock) := by rw [hn.same i _ _ b hr' rfl h1 rfl]; exact hb
        have hm' : w'.heap[m]? = some (.map ents clock) := by
          exact hn.sub.2 m _ hS
        have hrun := run_entry_at (P := P) w' b m clock s' ents clock x' hb' hm' hx' hnd
        simp only [execOp, ho, h2, Sem.run_bind, hrun, Result.andThen, Sem.run_pure, hk, hv]
    · obtain ⟨j, k, e, mb, clock, l, seen, p, hri, hrj, hp, hko, h⟩ := h
      have hri' := nthR_some hri (by simp)
      have hrj' := nthR_some hrj (by simp)
      obtain ⟨g, hg, -, ⟨b', rfl⟩, hb⟩ := hs.res i _ hri'
      rw [h1] at hg
      simp only [Option.some.injEq, Value.pointer.injEq, Addr.mk.injEq] at hg
      obtain ⟨rfl, -⟩ := hg
      obtain ⟨g, hgj, -, rfl, ents, hm, hbo, hmap⟩ := hs.res j _ hrj'
      have hnd : (ents.toList.map (·.born)).Nodup := hmap.2.2.1
      have hex : ∃ x' ∈ ents.toList, x'.born = p.1 ∧ x'.key = k.val p.2.1 ∧ x'.val = e.val p.2.2 := by
        obtain ⟨n, hn⟩ := List.getElem?_of_mem hp
        have e1 := congrArg (·[n]?) hbo
        have e2 := congrArg (·[n]?) hmap.1
        simp only [List.getElem?_map, hn, Option.map_some] at e1 e2
        cases hx' : ents.toList[n]? with
        | none => simp [hx'] at e1
        | some x' =>
          simp only [hx', Option.map_some, Option.some.injEq, Prod.mk.injEq] at e1 e2
          exact ⟨x', List.mem_of_getElem? hx', e1, e2.1, e2.2⟩
      obtain ⟨x', hx', hbn, hk, hv⟩ := hex
      have heo : e.ok p.2.2 := hmap.2.1 p.2 (List.mem_map_of_mem hp)
      refine q_pure (.tup [(k.agg, k.cs p.2.1), (e.agg, e.cs p.2.2)]) (.tuple #[k.val p.2.1, e.val p.2.2]) ?_ h fun w' o hn ho => ?_
      · have hc : ∀ (s : Shape) (y : s.T), s.ok y → compRel ρ (s.agg, s.cs y) (s.val y) := by
          intro s y hy
          cases ha : s.agg with
          | true => exact ⟨s.enc y, by rw [mkVal_enc, ha]; rfl, cs_rel s y hy⟩
          | false => cases s <;> first | (simp [Shape.agg] at ha; done) | exact ⟨rfl, rfl⟩ | exact ⟨rfl, hy⟩
        exact ⟨[_, _], rfl, hc k p.2.1 hko, hc e p.2.2 heo, trivial⟩
      · have hb' : w'.heap[b]? = some (.mapIter (some mb) clock (seen.toArray.push x'.born) clock) := by
          rw [hn.same i _ _ b hri' rfl h1 rfl, hbn]
          have : w.heap[b]? = some (.mapIter (some mb) clock (seen ++ [p.1]).toArray clock) := hb
          rw [this]; simp
        have hm' : w'.heap[mb]? = some (.map ents clock) := by
          rw [hn.same j _ _ mb hrj' rfl hgj rfl]
          exact hm
        have hrun := run_entry_at (P := P) w' b mb clock seen.toArray ents clock x' hb' hm' hx' hnd
        simp only [execOp, ho, h2, Sem.run_bind, hrun, Result.andThen, Sem.run_pure, hk, hv]
    · exact h.elim
  · exact h.elim

theorem q_slice (hA : Agrees P tt) {ty : Nat} {x : Operand} {lo hi : Option Operand} {w : World} (hs : Sees ρ r S w) (ht : rels (SV.rel ρ) t a.tmps.toList) (h : vcQ P tt t r S (.slice ty x lo hi none) K) : QSound P ρ r S a w (.slice ty x lo hi none) K := by
  have hx := ev_rel ht x
  have hbound : ∀ (y : Option Operand) (d : Nat) (K' : Nat → Prop), boundK t y d K' → ∃ n : Nat, K' n ∧ ((y = none ∧ n = d) ∨ ∃ z k, y = some z ∧ a.eval z = .int k n) := by
    intro y d K' hK
    cases y with
    | none => exact ⟨d, hK, .inl ⟨rfl, rfl⟩⟩
    | some z =>
      simp only [boundK] at hK
      have hz := ev_rel ht z
      split at hK
      · rename_i k n hev
        obtain ⟨hz, -⟩ := rel_v hz hev
        refine ⟨n.toNat, hK.2, .inr ⟨z, k, rfl, ?_⟩⟩
        rw [hz]; congr 1; have := hK.1; omega
      · exact hK.elim
  have hsb : ∀ (isS : Bool) (len cap l hh : Nat) (w' : World), ((lo = none ∧ l = 0) ∨ ∃ z k, lo = some z ∧ a.eval z = .int k l) → ((hi = none ∧ hh = len) ∨ ∃ z k, hi = some z ∧ a.eval z = .int k hh) → l ≤ hh → hh ≤ cap →
      (Instr.sliceBounds isS len cap (lo.map a.eval) (hi.map a.eval) none).run P w' = .ok (l, hh, cap) w' := by
    intro isS len cap l hh w' hlo hhi h1 h2
    have hb1 : ∀ (k : IntKind) (n y : Nat) (code : BoundsCode), n ≤ y → (Instr.sliceBound (.int k n) y code).run P w' = .ok n w' := by
      intro k n y code hn
      have hc : (0 : Int) ≤ (n : Int) ∧ (n : Int) ≤ (y : Int) := ⟨by omega, by omega⟩
      simp only [Instr.sliceBound, asIntOf, Sem.run_bind, Sem.run_pure, Result.andThen, if_pos hc, Int.toNat_natCast]
    have hH : ∀ z k, hi = some z → a.eval z = .int k hh → hi.map a.eval = some (.int k hh) := fun z k e1 e2 => by rw [e1, Option.map_some, e2]
    have hL : ∀ z k, lo = some z → a.eval z = .int k l → lo.map a.eval = some (.int k l) := fun z k e1 e2 => by rw [e1, Option.map_some, e2]
    rcases hhi with ⟨e1, e2⟩ | ⟨z, k, e1, e2⟩ <;> rcases hlo with ⟨e3, e4⟩ | ⟨z', k', e3, e4⟩
    · subst e2 e4
      simp only [Instr.sliceBounds, e1, e3, Option.map_none, Sem.run_bind, Sem.run_pure, Result.andThen]
    · subst e2
      simp only [Instr.sliceBounds, e1, hL z' k' e3 e4, Option.map_none, Option.isSome_none, Bool.false_eq_true, if_false, Sem.run_bind, Sem.run_pure, Result.andThen, hb1 _ _ _ _ h1]
    · subst e4
      simp only [Instr.sliceBounds, hH z k e1 e2, e3, Option.map_none, Sem.run_bind, Sem.run_pure, Result.andThen, hb1 _ _ _ _ h2]
    · simp only [Instr.sliceBounds, hH z k e1 e2, hL z' k' e3 e4, Option.isSome_none, Bool.false_eq_true, if_false, Sem.run_bind, Sem.run_pure, Result.andThen, hb1 _ _ _ _ h1, hb1 _ _ _ _ h2]
  simp only [vcQ] at h
  split at h
  · rename_i ti i hti hev
    rw [hev] at hx
    obtain ⟨hx, -⟩ := hx
    have hkind := (hA _ _ hti).kind
    split at h
    · rename_i e sh e' xs hk hr
      rw [hk] at hkind
      simp only [Kind.fits] at hkind
      have hr' := nthR_some hr (by simp)
      split at h
      · rename_i ei hei
        split at h
        · rename_i hsz
          obtain ⟨l, h, hlo⟩ := hbound _ _ _ h
          obtain ⟨hh, h, hhi⟩ := hbound _ _ _ h
          obtain ⟨h1, h2, h⟩ := h
          obtain ⟨g, hg, how, _⟩ := hs.res i _ hr'
          rw [hx] at hg
          simp only [Option.some.injEq] at hg
          subst hg
          have hv : ∃ p c, a.eval x = .slice p xs.length c ∧ xs.length ≤ c := by
            rcases how.2 with ⟨hv, hn⟩ | ⟨g, cap, cur, hv, _, _, hnc, _⟩
            · exact ⟨none, 0, by rw [hv, hn], by omega⟩
            · exact ⟨_, cap, hv, hnc⟩
          obtain ⟨p, c, hv, hnc⟩ := hv
          refine q_pure (.c (.seg i l (hh - l) ei.sz)) (.slice (if c = l then p else p.map fun p => addrAdd p (l * ei.sz)) (hh - l) (c - l)) ⟨p, xs.length, c, by rw [hx, hv], by omega, rfl⟩ h fun w' o _ ho => ?_
          have hsa : (if c = l then p else p.map (·.add (l * ei.sz))) = (if c = l then p else p.map fun p => addrAdd p (l * ei.sz)) := by
            split
            · rfl
            · cases p with
              | none => rfl
              | some q => obtain ⟨b, o', sp⟩ := q; cases sp <;> simp [addrAdd, Addr.add_lit]
          simp only [execOp, ho, hv, Instr.sliceAt, Instr.slice, Sem.run_bind, run_underlying hkind, Result.andThen, hsb true xs.length c l hh w' hlo hhi h1 (by omega), run_sizeOf (hA _ _ hei), Sem.run_pure, Option.map_none, hsa]
        · exact h.elim
      · exact h.elim
    · exact h.elim
  · rename_i ti p n c hti hev
    obtain ⟨hx, -⟩ := rel_v hx hev
    have hkind := (hA _ _ hti).kind
    split at h
    · rename_i e hk
      rw [hk] at hkind
      simp only [Kind.fits] at hkind
      split at h
      · rename_i ei hei
        have hsa : ∀ l, (if c = l then p else p.map (·.add (l * ei.sz))) = (if c = l then p else p.map fun p => addrAdd p (l * ei.sz)) := by
          intro l
          split
          · rfl
          · cases p with
            | none => rfl
            | some q => obtain ⟨b, o', sp⟩ := q; cases sp <;> simp [addrAdd, Addr.add_lit]
        split at h
        · obtain ⟨hh, h, hhi⟩ := hbound _ _ _ h
          obtain ⟨h2, h⟩ := h
          refine q_val _ rfl h fun w' o _ ho => ?_
          have hp0 : (if c = 0 then p else p.map (·.add (0 * ei.sz))) = p := by
            split
            · rfl
            · cases p with
              | none => rfl
              | some q => simp [Addr.add]
          have hsb' := hsb true n c 0 hh w' (.inl ⟨rfl, rfl⟩) hhi (Nat.zero_le _) h2
          simp only [Option.map_none] at hsb'
          simp only [execOp, ho, hx, Instr.sliceAt, Instr.slice, Sem.run_bind, run_underlying hkind, Result.andThen, hsb', run_sizeOf (hA _ _ hei), Sem.run_pure, Option.map_none, hp0, Nat.sub_zero]
        · obtain ⟨l, h, hlo⟩ := hbound _ _ _ h
          obtain ⟨hh, h, hhi⟩ := hbound _ _ _ h
          obtain ⟨h1, h2, h⟩ := h
          refine q_val _ rfl h fun w' o _ ho => ?_
          simp only [execOp, ho, hx, Instr.sliceAt, Instr.slice, Sem.run_bind, run_underlying hkind, Result.andThen, hsb true n c l hh w' hlo hhi h1 h2, run_sizeOf (hA _ _ hei), Sem.run_pure, Option.map_none, hsa]
      · exact h.elim
    · exact h.elim
  · rename_i ti s hti hev
    obtain ⟨hx, -⟩ := rel_v hx hev
    have hkind := (hA _ _ hti).kind
    split at h
    · rename_i hk
      rw [hk] at hkind
      simp only [Kind.fits] at hkind
      obtain ⟨l, h, hlo⟩ := hbound _ _ _ h
      obtain ⟨hh, h, hhi⟩ := hbound _ _ _ h
      obtain ⟨h1, h2, h⟩ := h
      refine q_val _ rfl h fun w' o _ ho => ?_
      simp only [execOp, ho, hx, Instr.sliceAt, Instr.slice, Sem.run_bind, run_underlying hkind, Result.andThen, Option.map_none, Option.isSome_none, Bool.false_eq_true, if_false, hsb false s.size s.size l hh w' hlo hhi h1 h2, Sem.run_pure]
    · exact h.elim
  · rename_i ti i o hti hev
    rw [hev] at hx
    obtain ⟨b, hb, hx⟩ := hx
    have hkind := (hA _ _ hti).kind
    split at h
    · rename_i n e hk
      rw [hk] at hkind
      simp only [Kind.fits] at hkind
      split at h
      · rename_i ei hei
        obtain ⟨l, h, hlo⟩ := hbound _ _ _ h
        obtain ⟨hh, h, hhi⟩ := hbound _ _ _ h
        obtain ⟨h1, h2, h3, h⟩ := h
        refine q_pure (.c (.sl i (o + l * ei.sz) (hh - l) (n - l))) (.slice (some ⟨b, o + l * ei.sz, none⟩) (hh - l) (n - l)) ⟨b, hb, rfl⟩ h fun w' o' _ ho => ?_
        simp only [execOp, ho, hx, Instr.sliceAt, Instr.sureAddr, Sem.run_bind, run_underlying hkind, Result.andThen, Option.map_none, hsb false n n l hh w' hlo hhi h1 h2, run_sizeOf (hA _ _ hei), Sem.run_pure, if_neg (show ¬ n = l by omega), Addr.add_lit]
      · exact h.elim
    · exact h.elim
  · exact h.elim

theorem q_slice3 (hA : Agrees P tt) {ty : Nat} {x : Operand} {lo : Option Operand} {hi mx : Operand} {w : World} (ht : rels (SV.rel ρ) t a.tmps.toList) (h : vcQ P tt t r S (.slice ty x lo (some hi) (some mx)) K) : QSound P ρ r S a w (.slice ty x lo (some hi) (some mx)) K := by
  have hx := ev_rel ht x
  have hbound : ∀ (y : Operand) (d : Nat) (K' : Nat → Prop), boundK t (some y) d K' → ∃ n : Nat, K' n ∧ ∃ k, a.eval y = .int k n := by
    intro y d K' hK
    simp only [boundK] at hK
    have hz := ev_rel ht y
    split at hK
    · rename_i k n hev
      obtain ⟨hz, -⟩ := rel_v hz hev
      refine ⟨n.toNat, hK.2, k, ?_⟩
      rw [hz]; congr 1; have := hK.1; omega
    · exact hK.elim
  have hb1 : ∀ (k : IntKind) (n y : Nat) (code : BoundsCode) (w' : World), n ≤ y → (Instr.sliceBound (.int k n) y code).run P w' = .ok n w' := by
    intro k n y code w' hn
    have hc : (0 : Int) ≤ (n : Int) ∧ (n : Int) ≤ (y : Int) := ⟨by omega, by omega⟩
    simp only [Instr.sliceBound, asIntOf, Sem.run_bind, Sem.run_pure, Result.andThen, if_pos hc, Int.toNat_natCast]
  simp only [vcQ] at h
  split at h
  · rename_i ti p n c hti hev
    obtain ⟨hx, -⟩ := rel_v hx hev
    have hkind := (hA _ _ hti).kind
    split at h
    · rename_i e hk
      rw [hk] at hkind
      simp only [Kind.fits] at hkind
      split at h
      · rename_i ei hei
        have hsa : ∀ l m, (if m = l then p else p.map (·.add (l * ei.sz))) = (if m = l then p else p.map fun p => addrAdd p (l * ei.sz)) := by
          intro l m
          split
          · rfl
          · cases p with
            | none => rfl
            | some q => obtain ⟨b, o', sp⟩ := q; cases sp <;> simp [addrAdd, Addr.add_lit]
        cases lo with
        | none =>
          replace h : boundK t (some hi) 0 (fun h => boundK t (some mx) 0 fun m => 0 ≤ h ∧ h ≤ m ∧ m ≤ c ∧ K (.c (.v (.slice (if m = 0 then p else p.map fun p => addrAdd p (0 * ei.sz)) (h - 0) (m - 0))))) := h
          obtain ⟨hh, h, k2, hhi⟩ := hbound _ _ _ h
          obtain ⟨m, h, k3, hmx⟩ := hbound _ _ _ h
          obtain ⟨h1, h2, h3, h⟩ := h
          refine q_val _ rfl h fun w' o _ ho => ?_
          simp only [execOp, ho, hx, Instr.sliceAt, Instr.slice, Sem.run_bind, run_underlying hkind, Result.andThen, Instr.sliceBounds, Option.map_some, Option.map_none, hhi, hmx, hb1 _ _ _ _ _ h2, hb1 _ _ _ _ _ h3, Sem.run_pure, run_sizeOf (hA _ _ hei), hsa]
        | some lo =>
          obtain ⟨l, h, k1, hlo⟩ := hbound _ _ _ h
          obtain ⟨hh, h, k2, hhi⟩ := hbound _ _ _ h
          obtain ⟨m, h, k3, hmx⟩ := hbound _ _ _ h
          obtain ⟨h1, h2, h3, h⟩ := h
          refine q_val _ rfl h fun w' o _ ho => ?_
          simp only [execOp, ho, hx, Instr.sliceAt, Instr.slice, Sem.run_bind, run_underlying hkind, Result.andThen, Instr.sliceBounds, Option.map_some, Option.isSome_some, if_true, hlo, hhi, hmx, hb1 _ _ _ _ _ h1, hb1 _ _ _ _ _ h2, hb1 _ _ _ _ _ h3, Sem.run_pure, run_sizeOf (hA _ _ hei), hsa]
      · exact h.elim
    · exact h.elim
  · exact h.elim

theorem q_index (hA : Agrees P tt) {ty : Nat} {x i : Operand} {w : World} (ht : rels (SV.rel ρ) t a.tmps.toList) (h : vcQ P tt t r S (.index ty x i) K) : QSound P ρ r S a w (.index ty x i) K := by
  have hx := ev_rel ht x
  have hi := ev_rel ht i
  simp only [vcQ] at h
  split at h
  · rename_i ti s q n hti hev hevi
    obtain ⟨hx, -⟩ := rel_v hx hev
    obtain ⟨hi, -⟩ := rel_v hi hevi
    have hkind := (hA _ _ hti).kind
    split at h
    · rename_i hk
      rw [hk] at hkind
      simp only [Kind.fits] at hkind
      obtain ⟨h0, b, hb, h⟩ := h
      refine q_val (.int .u8 b.toNat) rfl h fun w' o _ ho => ?_
      simp only [execOp, ho, hx, hi, Instr.index, asIntOf, Sem.run_bind, Sem.run_pure, Result.andThen, run_underlying hkind, if_pos h0, hb]
    · exact h.elim
  · rename_i ti cs q n hti hev hevi
    rw [hev] at hx
    obtain ⟨ys, hy, hrel⟩ := hx
    obtain ⟨hi, -⟩ := rel_v hi hevi
    have hkind := (hA _ _ hti).kind
    split at h
    · rename_i m e hk
      rw [hk] at hkind
      simp only [Kind.fits] at hkind
      split at h
      · rename_i ei hei
        obtain ⟨h0, h1, x', hx', h⟩ := h
        have hlt : 0 ≤ n ∧ n < ((m : Nat) : Int) := ⟨h0, h1⟩
        have hf := hA _ _ hei
        have hrel2 := rels_take ei.sz (rels_drop (n.toNat * ei.sz) hrel)
        rw [hx'] at hrel2
        have hvs := rels_cs hrel2
        have hlen : ((cs.drop (n.toNat * ei.sz)).take ei.sz).length = ei.sz := by rw [hx', cs_length, hf.n]
        have hle : n.toNat * ei.sz + ei.sz ≤ ys.length ∨ ei.sz = 0 := by
          rw [← rels_length hrel]
          simp only [List.length_take, List.length_drop] at hlen
          omega
        have hle2 : n.toNat * ei.sz + ei.sz ≤ ys.length := by
          rcases hle with h | h
          · exact h
          · rw [h]; simp
        refine q_pure (ei.sh.sv x') (mkVal ei.sh.agg ((ys.drop (n.toNat * ei.sz)).take ei.sz)) ?_ h fun w' o _ ho => ?_
        · rw [hvs]; exact sv_rel_cs _ _ hrel2 hvs
        · have hp := run_part hf ys.toArray (n.toNat * ei.sz) (by simpa using hle2) w'
          simp only [execOp, ho, hy, hi, Instr.index, asIntOf, Sem.run_bind, Sem.run_pure, Result.andThen, run_underlying hkind, if_pos hlt, run_sizeOf hf, hp]
      · exact h.elim
    · exact h.elim
  · exact h.elim

theorem capsOf_rel (ht : rels (SV.rel ρ) t a.tmps.toList) : ∀ {xs : List Operand} {caps : List (Nat ⊕ Value)}, capsOf t xs = some caps →
    (xs.map a.eval).length = caps.length ∧ ∀ (j : Nat) c z, caps[j]? = some c → (xs.map a.eval)[j]? = some z → capRel ρ c z
  | [], caps, h => by simp [capsOf] at h; subst h; simp
  | x :: xs, caps, h => by
    have hx := ev_rel ht x
    simp only [capsOf] at h
    split at h
    · rename_i i ys he hys
      simp only [Option.some.injEq] at h
      subst h
      rw [he] at hx
      obtain ⟨h1, h2⟩ := capsOf_rel ht hys
      refine ⟨by simpa using h1, fun j c z hc hz => ?_⟩
      cases j with
      | zero =>
        simp only [List.getElem?_cons_zero, Option.some.injEq] at hc hz
        subst hc
        simp only [List.map_cons, List.getElem?_cons_zero, Option.some.injEq] at hz
        subst hz
        exact hx
      | succ j => exact h2 j c z (by simpa using hc) (by simpa using hz)
    · rename_i u ys he hys
      simp only [Option.some.injEq] at h
      subst h
      rw [he] at hx
      obtain ⟨h1, h2⟩ := capsOf_rel ht hys
      refine ⟨by simpa using h1, fun j c z hc hz => ?_⟩
      cases j with
      | zero =>
        simp only [List.getElem?_cons_zero, Option.some.injEq] at hc hz
        subst hc
        simp only [List.map_cons, List.getElem?_cons_zero, Option.some.injEq] at hz
        subst hz
        exact hx
      | succ j => exact h2 j c z (by simpa using hc) (by simpa using hz)
    · cases h

theorem q_makeFunc {fn : Fn} {first captured : Array Operand} {w : World} (ht : rels (SV.rel ρ) t a.tmps.toList) (h : vcQ P tt t r S (.makeFunc fn first captured) K) : QSound P ρ r S a w (.makeFunc fn first captured) K := by
  simp only [vcQ] at h
  split at h
  · rename_i fs cs h1 h2
    have e1 : first.map a.eval = fs.toArray := by apply Array.ext'; simp [valsOf_rel ht h1]
    have e2 : captured.map a.eval = cs.toArray := by apply Array.ext'; simp [valsOf_rel ht h2]
    refine q_val _ rfl h fun w' o _ ho => ?_
    simp only [execOp, ho, Instr.makeFunc, e1, e2, Sem.run_bind, Sem.run_pure, Result.andThen]
  · split at h
    · rename_i f caps hf hc
      obtain ⟨h1, h2⟩ := capsOf_rel ht hc
      have e0 : first = #[] := by apply Array.ext'; simpa using hf
      subst e0
      refine q_pure _ (.func (.func f) #[] (captured.map a.eval)) ?_ h fun w' o _ ho => ?_
      · exact ⟨(captured.map a.eval).toList, rfl, by simpa using h1, fun j c z hcj hz => h2 j c z hcj (by simpa using hz)⟩
      · simp only [execOp, ho, Instr.makeFunc, Sem.run_bind, Sem.run_pure, Result.andThen]
        simp
    · exact h.elim

theorem vcQ_sound (hA : Agrees P tt) {op : Op} {w : World} (hs : Sees ρ r S w) (ht : rels (SV.rel ρ) t a.tmps.toList) (h : vcQ P tt t r S op K) : QSound P ρ r S a w op K := by
  unfold vcQ at h
  split at h
  · rename_i x
    exact q_pure _ _ (ev_rel ht x) h fun w' o _ ho => by simp only [execOp, ho, Sem.run_pure]
  · rename_i x
    exact q_pure _ _ (ev_rel ht x) h fun w' o _ ho => by simp only [execOp, ho, Sem.run_pure]
  · rename_i x
    have hx := ev_rel ht x
    split at h
    · rename_i i o hev
      rw [hev] at hx
      obtain ⟨b, h1, h2⟩ := hx
      exact q_pure (.c (.ptr i o)) (.pointer (some ⟨b, o, none⟩)) ⟨b, h1, rfl⟩ h fun w' o _ ho => by simp only [execOp, ho, h2, Sem.run_pure]
    · rename_i i k sz o hev
      rw [hev] at hx
      obtain ⟨b, n, m, h1, h2⟩ := hx
      exact q_pure (.c (.elt i k sz o)) (.pointer (some ⟨b, k * sz + o, none⟩)) ⟨b, n, m, h1, rfl⟩ h fun w' o _ ho => by simp only [execOp, ho, h2, Sem.run_pure]
    · rename_i p hev
      obtain ⟨hx, -⟩ := rel_v hx hev
      exact q_val (.pointer (some p)) rfl h fun w' o _ ho => by simp only [execOp, ho, hx, Sem.run_pure]
    · rename_i name first caps hev
      obtain ⟨hx, -⟩ := rel_v hx hev
      split at h
      · rename_i T v hf
        obtain ⟨hnn, h⟩ := h
        refine q_val (.func (.method name) first caps) rfl h fun w' o _ ho => ?_
        simp only [execOp, ho, hx, hf, Sem.run_bind, run_program, Result.andThen, hnn w']
        rfl
      · exact h.elim
    · exact h.elim
  · rename_i c x y
    have hc := ev_rel ht c
    split at h
    · rename_i hev
      obtain ⟨hc, -⟩ := rel_v hc hev
      exact q_pure _ _ (ev_rel ht x) h fun w' o _ ho => by simp only [execOp, ho, hc, asBool, Sem.run_bind, Sem.run_pure, Result.andThen, if_true]
    · rename_i hev
      obtain ⟨hc, -⟩ := rel_v hc hev
      exact q_pure _ _ (ev_rel ht y) h fun w' o _ ho => by simp only [execOp, ho, hc, asBool, Sem.run_bind, Sem.run_pure, Result.andThen, Bool.false_eq_true, if_false]
    · exact h.elim
  · rename_i x i
    have hx := ev_rel ht x
    split at h
    · rename_i xs hev
      rw [hev] at hx
      obtain ⟨ys, hy, hrel⟩ := hx
      split at h
      · rename_i cs hxs
        obtain ⟨y, hy2, vs, hvs, hr⟩ := rels_get hrel i _ hxs
        refine q_pure (.agg cs) y ⟨vs, hvs, hr⟩ h fun w' o _ ho => ?_
        simp only [execOp, ho, hy, Instr.extract, List.getElem?_toArray, hy2, Sem.run_bind, Sem.run_pure, Result.andThen]
      · rename_i z hxs
        obtain ⟨y, hy2, hr⟩ := rels_get hrel i _ hxs
        refine q_pure (.c z) y (by cases z <;> first | exact hr | trivial) h fun w' o _ ho => ?_
        simp only [execOp, ho, hy, Instr.extract, List.getElem?_toArray, hy2, Sem.run_bind, Sem.run_pure, Result.andThen]
      · exact h.elim
    · exact h.elim
  · rename_i s x f
    have hx := ev_rel ht x
    split at h
    · rename_i off fi hfa
      split at h
      · exact h.elim
      · rename_i hz
        split at h
        · rename_i i o hev
          rw [hev] at hx
          obtain ⟨b, h1, h2⟩ := hx
          refine q_pure (.c (.ptr i (o + off))) (.pointer (some ⟨b, o + off, none⟩)) ⟨b, h1, rfl⟩ h fun w' o' _ ho => ?_
          simp only [execOp, ho, h2, Sem.run_bind, run_fieldAt hA hfa hz, Result.andThen, Sem.run_pure]
        · rename_i i k sz o hev
          rw [hev] at hx
          obtain ⟨b, n, m, h1, h2⟩ := hx
          refine q_pure (.c (.elt i k sz (o + off))) (.pointer (some ⟨b, k * sz + (o + off), none⟩)) ⟨b, n, m, h1, rfl⟩ h fun w' o' _ ho => ?_
          simp only [execOp, ho, h2, Sem.run_bind, run_fieldAt hA hfa hz, Result.andThen, Sem.run_pure, Nat.add_assoc]
        · rename_i b o hev
          obtain ⟨hx, -⟩ := rel_v hx hev
          refine q_val (.pointer (some ⟨b, o + off, none⟩)) rfl h fun w' o' _ ho => ?_
          simp only [execOp, ho, hx, Sem.run_bind, run_fieldAt hA hfa hz, Result.andThen, Sem.run_pure]
        · exact h.elim
    · exact h.elim
  · rename_i s x f
    have hx := ev_rel ht x
    split at h
    · rename_i off fi cs hfa hev
      rw [hev] at hx
      obtain ⟨ys, hy, hrel⟩ := hx
      obtain ⟨fa, fd, h1, h2, rfl, h4⟩ := fieldAt_some hA hfa
      obtain ⟨sv, hv, hK, hle⟩ := partK_sound h4 h hrel
      refine q_pure sv _ hv hK fun w' o' _ ho => ?_
      have hp := run_part h4 ys.toArray fd.offset (by simpa using hle) w'
      simp only [execOp, ho, hy, Instr.field, Sem.run_bind, run_underlying h1, h2, Result.andThen, asAgg, Sem.run_pure, hp]
    · exact h.elim
  · rename_i ty x
    have hx := ev_rel ht x
    split at h
    · rename_i ti i o hti hev
      rw [hev] at hx
      split at h
      · rename_i cs hr
        exact q_load_box hA hti (nthR_some hr (by simp)) hs hx h
      · exact h.elim
    · rename_i ti i k sz o hti hev
      rw [hev] at hx
      split at h
      · rename_i sh e xs hr
        split at h
        · rename_i hsz
          subst hsz
          obtain ⟨y, hy, h⟩ := h
          exact q_load_elt hA hti (nthR_some hr (by simp)) hs hx hy h
        · exact h.elim
      · exact h.elim
    · rename_i ti b o hti hev
      rw [hev] at hx
      split at h
      · rcases h with ⟨i, vs, q, hr, h⟩ | ⟨y, hok, hrd, h⟩
        · exact q_load_named hA hti (nthR_some hr (by simp)) hs hx h
        · exact q_load_store hA hti hx hok hs hrd h
      · obtain ⟨y, hok, hrd, h⟩ := h
        exact q_load_store hA hti hx hok hs hrd h
    · exact h.elim
  · rename_i op ty x y yt
    have hx := ev_rel ht x
    have hy := ev_rel ht y
    split at h
    · rename_i hnc
      split at h
      · rename_i f ti hev hti
        rw [hev] at hx
        split at h
        · rename_i hk
          exact q_nil hA hnc hti hk hx h.1 h.2
        · exact h.elim
      · exact h.elim
    split at h
    · split at h
      · rename_i ti hti
        split at h
        · rename_i b h1 h2; exact q_nil2 hA hs hti h1 h2 ht h
        · rename_i b h1 h2; exact q_nil2 hA hs hti h1 h2 ht h
        · exact h.elim
      · exact h.elim
    split at h
    · rename_i xs ys hu hv
      rw [hu] at hx
      rw [hv] at hy
      split at h
      · rename_i ti hti
        split at h
        · rename_i fs hk he
          split at h
          · rename_i b hb; exact q_eqStruct hA hti hk he hx hy hb h
          · rename_i b hb; exact q_eqStruct hA hti hk he hx hy hb h
          · exact h.elim
        · exact h.elim
      · exact h.elim
    · rename_i k u k' v hu hv
      rw [hu] at hx
      rw [hv] at hy
      split at h
      · obtain ⟨h0, z, hz, h⟩ := h; exact q_shift hx hy h0 (.inl ⟨rfl, hz⟩) h
      · obtain ⟨h0, z, hz, h⟩ := h; exact q_shift hx hy h0 (.inr ⟨rfl, hz⟩) h
      split at h
      · rename_i hk
        exact q_binop_int hx hy hk h
      · exact h.elim
    · rename_i u v hu hv
      rw [hu] at hx
      rw [hv] at hy
      split at h
      · rename_i ti hti
        split at h
        · rename_i hk; exact q_binop_bool hA hti hk hx hy h
        · rename_i hk; exact q_binop_bool hA hti hk hx hy h
        · exact h.elim
      · exact h.elim
    · rename_i u v hu hv
      rw [hu] at hx
      rw [hv] at hy
      exact q_binop_string hx hy h
    · exact h.elim
  · exact q_unop (tt := tt) ht h
  · exact q_convert hA hs ht h
  · exact q_makeInterface hA ht h
  · rename_i ty parts
    split at h
    · rename_i ti hti
      split at h
      · rename_i fs hk hagg
        exact q_build hA hti hk hagg ht h
      · rename_i n e hk hagg
        split at h
        · rename_i ei hei; exact q_buildArray hA hti hk hei hagg ht h
        · exact h.elim
      · exact h.elim
    · exact h.elim
  · rename_i ty m k ok
    have hm := ev_rel ht m
    split at h
    · rename_i ti hti
      have hkind := (hA _ _ hti).kind
      split at h
      · rename_i kt et hk
        rw [hk] at hkind
        simp only [Kind.fits] at hkind
        split at h
        · rename_i ki ei hki hei
          split at h
          · rename_i i hev
            rw [hev] at hm
            obtain ⟨hm, -⟩ := hm
            split at h
            · rename_i ks es l hr
              split at h
              · rename_i hagg
                have hr' := nthR_some hr (by simp)
                obtain ⟨g, hg, b, ents, clock, hv, hb, hents, hok, _⟩ := hs.res i _ hr'
                rw [hm] at hg
                simp only [Option.some.injEq] at hg
                subst hg
                exact q_lookK hA hkind hki hei ht (fun w' hn => ⟨ents, .inr ⟨b, clock, hv, by rw [hn.same i _ _ b hr' rfl hm (by rw [hv]; rfl)]; exact hb⟩, hents⟩) hok hagg h
              · exact h.elim
            · exact h.elim
          · rename_i b hev
            obtain ⟨hm, -⟩ := rel_v hm hev
            obtain ⟨l, hrd, h⟩ := h
            cases b with
            | none =>
              simp only [MapRd] at hrd
              subst hrd
              exact q_lookK hA hkind hki hei ht (fun w' hn => ⟨#[], .inl ⟨hm, rfl⟩, rfl⟩) (by simp) rfl h
            | some b =>
              obtain ⟨ents, clock, hS, hents, hok, _⟩ := hrd
              refine q_lookK hA hkind hki hei ht (fun w' hn => ⟨ents, .inr ⟨b, clock, hm, ?_⟩, hents⟩) hok rfl h
              exact hn.sub.2 b _ hS
          · exact h.elim
        · exact h.elim
      · exact h.elim
    · exact h.elim
  · exact q_indexAddr hA hs ht h
  · exact q_len hA hs ht h
  · exact q_entry (tt := tt) hs ht h
  · exact q_makeFunc (tt := tt) ht h
  · exact q_slice hA hs ht h
  · exact q_index hA ht h
  · exact q_max (tt := tt) ht h
  · exact q_min (tt := tt) ht h
  · exact q_slice3 hA ht h
  · exact h.elim

end Go.Vc
