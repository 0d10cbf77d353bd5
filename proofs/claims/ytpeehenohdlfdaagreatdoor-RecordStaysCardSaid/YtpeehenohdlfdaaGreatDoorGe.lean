/- law57: a history shares nothing: Call of a lent slice, Events and Pending whose slices are the caller's own. -/
import Derived.Test.YtpeehenohdlfdaaGreatDoorFz
import Derived.Test.YtpeehenohdlfdaaGreatDoorVcP
namespace Go.Proofs.YtpeehenohdlfdaaGreatDoor
open Go Go.Vc
set_option maxRecDepth 100000
set_option maxHeartbeats 8000000

/-- A slice that a call has made: nobody else's. -/
structure ArF (S S' : Store) (a : Hd) (ns : List Int) : Prop where
  ns' : NsIs S' a ns
  fr : Fresh S a.1
  wh : Whole S' a.1 2 (ns.flatMap shI.enc)
  pf : PForm a.1 ns.length a.2.2
theorem ArF.up {S S1 S2 : Store} (h : S1.le S2) {a ns} (x : ArF S S1 a ns) : ArF S S2 a ns := ⟨x.ns'.le h, x.fr, x.wh.le h, x.pf⟩
theorem ArF.down {S0 S S1 : Store} (h : S0.le S) {a ns} (x : ArF S S1 a ns) : ArF S0 S1 a ns := ⟨x.ns', x.fr.le h, x.wh, x.pf⟩
theorem cloneF_spec (S : Store) (q : Hd) (ns : List Int) (h : NsIs S q ns) (hn : ns.length ≤ 1000000) : Pure Tryz.prog 39 S [slV q] (A := Hd) (fun q => .c (.v (slV q))) (fun S' q => ArF S S' q ns) := by
  obtain ⟨p, n, c⟩ := q
  have hl : n = ns.length := h.len
  subst hl
  have hr : RowRd S p shI ns := h.row
  refine pure_vc agrees Tryz.func39 rfl rfl (fun S S' q hle h => h.up hle) ?_
  cases hp : p with
  | none =>
    subst hp
    have : ns = [] := by
      rcases hr.1 with e | ⟨b, o, e, -⟩
      · exact e
      · cases e
    subst this
    exact onT ⟨rfl, (none, 0, 0), rfl, ns_nil S, fun a e => (by cases e), fun a e => (by cases e), .inl ⟨rfl, rfl, rfl⟩⟩
  | some a =>
    subst hp
    refine onF ⟨ns, src_of rfl hr, fun _ _ => trivial, by show (0 + ns.length) * 8 ≤ 140737488355328; omega, ?_⟩
    intro p3 c3 S3 hS3 hr3 hpf3
    exact ⟨rfl, (p3, ([] ++ ns).length, c3), rfl, ⟨rfl, pform_le hpf3.1, hr3, h.ins⟩, hpf3.2.1, hpf3.2.2, hpf3.1⟩
theorem copiedF_spec (S : Store) (y : Ex) (e : Rc.Ev) (hy : EIs S y e) : Pure Tryz.prog 35 S [vE y] (A := Ex) rE (fun S' y => EIs S' y e ∧ ArF S S' y.2.2.2.1.2 e.as) := by
  obtain ⟨yk, yt, yn, ⟨ynm, yq⟩, ye, yv⟩ := y
  refine pure_vc agrees Tryz.func35 rfl rfl (fun S S' q hle h => ⟨h.1.le hle, h.2.up hle⟩) ?_
  refine ⟨⟨_, rfl, rfl, rfl⟩, .inl ⟨_, _, _, cloneF_spec S yq e.as hy.ar hy.cnt, fun S1 q hS1 hq => ⟨rfl, (yk, yt, yn, (ynm, q), ye, yv), rfl, ?_⟩⟩⟩
  have h1 := hy.le hS1
  exact ⟨⟨h1.k, h1.t, h1.n, h1.nm, hq.ns', h1.er, h1.va, h1.few, h1.cnt, h1.wide⟩, hq⟩
/-- Events that a call has made. -/
def EvF (S S' : Store) (q : Hd) (l : List Rc.Ev) : Prop := ∃ (L : List (Ex × Rc.Ev)) (Se : Store), L.map (·.2) = l ∧ q.2.1 = L.length ∧ PForm q.1 L.length q.2.2 ∧ S.le Se ∧ Se.le S' ∧ Fresh Se q.1 ∧ Whole S' q.1 47 ((L.map (·.1)).flatMap shE.enc) ∧ ∀ z ∈ L, ArF S Se z.1.2.2.2.1.2 z.2.as
theorem EvF.up {S S1 S2 : Store} (h : S1.le S2) {q l} (x : EvF S S1 q l) : EvF S S2 q l := by
  obtain ⟨L, Se, h1, h2, h3, h4, h5, h6, h7, h8⟩ := x
  exact ⟨L, Se, h1, h2, h3, h4, Store.le_trans h5 h, h6, h7.le h, h8⟩
theorem eventsF_spec (S : Store) (x : Hx) (l : List Rc.Ev) (hx : HIs S x l) : Pure Tryz.prog 18 S [vH x] (A := Hd) (fun q => .c (.v (slV q))) (fun S' q => EvF S S' q l) := by
  have hll := Rc.hist_len hx.hs
  obtain ⟨⟨p, n, c⟩, ob, lb⟩ := x
  obtain ⟨L, rfl, hlen, hcap, hr, hK⟩ := hx.ls
  have hlen : n = L.length := hlen
  subst hlen
  have hr : RowRd S p shE (L.map (·.1)) := hr
  rw [List.length_map] at hll
  refine pure_vc agrees Tryz.func18 rfl rfl (fun S S' q hle h => h.up hle) ?_
  refine ⟨[], [(3, shE, 47)], Nat × List (Ex × Rc.Ev) × Store, [4, 5] ++ List.range' 10 9, fun a => [(9, rI a.1)], fun a => [.box [.v (slV (p, L.length, c)), .v (.map ob), .v (.map lb)], .row shE 47 (a.2.1.map (·.1))], fun a => a.2.2,
    fun a => a.1 ≤ L.length ∧ S.le a.2.2 ∧ a.2.1.map (·.2) = (L.take a.1).map (·.2) ∧ ∀ z ∈ a.2.1, ArF S a.2.2 z.1.2.2.2.1.2 z.2.as, fun a => L.length - a.1, ?_⟩
  refine And.intro (Exists.intro (0, [], S) (And.intro (And.intro (And.intro ?_ rfl) (And.intro rfl (Store.le_refl _))) ⟨Nat.zero_le _, Store.le_refl _, rfl, fun z hz => (by cases hz)⟩)) ?_
  · repeat' first | exact trivial | exact rfl | refine And.intro ?_ ?_
  rintro ⟨i, M, Sa⟩ ⟨hi, hSa, hM, hMK⟩
  have hi : i ≤ L.length := hi
  have hSa : S.le Sa := hSa
  have hM : M.map (·.2) = (L.take i).map (·.2) := hM
  have hMK : ∀ z ∈ M, ArF S Sa z.1.2.2.2.1.2 z.2.as := hMK
  have hMl : M.length = i := by have := congrArg List.length hM; rw [List.length_map, List.length_map, List.length_take] at this; omega
  have i0 : (0 : Int) ≤ ((i : Nat) : Int) := Int.natCast_nonneg _
  refine And.intro (fun h => ?_) (fun h => ?_)
  · have hil : i < L.length := by
      have : ((i : Nat) : Int) < ((L.length : Nat) : Int) := of_decide_eq_true h
      omega
    obtain ⟨z, hz⟩ : ∃ z, L[i]? = some z := ⟨_, List.getElem?_eq_getElem hil⟩
    obtain ⟨b, o, hp, hok, hrd⟩ := row_at (hr.le hSa) (i := i) (x := z.1) (by rw [List.getElem?_map, hz]; rfl)
    have htk : L.take (i + 1) = L.take i ++ [z] := by rw [List.take_add_one, hz]; rfl
    have hzK := (hK z (List.mem_of_getElem? hz)).le hSa
    refine ⟨i0, by show ((i : Nat) : Int) < (L.length : Int); omega, b, o, hp, z.1, hok, hrd, ⟨_, rfl, rfl, rfl⟩, .inl ⟨_, _, _, copiedF_spec Sa z.1 z.2 hzK, fun S1 y hS1 hy => ?_⟩⟩
    refine ⟨[y], ⟨rfl, rfl⟩, okE _, by rw [List.length_map, hMl]; show (i + 1) * 80 ≤ 140737488355328; omega, ((i + 1 : Nat) : Int), wrap_i64 (by omega) (by omega), (i + 1, M ++ [(y, z.2)], S1), ⟨⟨?_, rfl⟩, ?_, Store.le_refl _⟩, ⟨hil, Store.le_trans hSa hS1, ?_, fun u hu => ?_⟩, by show L.length - (i + 1) < L.length - i; omega⟩
    · repeat' first | exact trivial | exact rfl | refine And.intro ?_ ?_
    · show [_, Res.row shE 47 _] = [_, Res.row shE 47 _]
      rw [List.map_append]; rfl
    · show (M ++ [(y, z.2)]).map (·.2) = (L.take (i + 1)).map (·.2)
      rw [htk, List.map_append, List.map_append, hM]; rfl
    · rcases List.mem_append.1 hu with hu | hu
      · exact (hMK u hu).up hS1
      · simp only [List.mem_singleton] at hu
        subst hu; exact hy.2.down hSa
  · have hil : i = L.length := by
      have : ¬ ((i : Nat) : Int) < ((L.length : Nat) : Int) := of_decide_eq_false h
      omega
    subst hil
    rw [List.take_length] at hM
    intro p3 c3 S3 hS3 hr3 hpf3
    exact ⟨rfl, (p3, (M.map (·.1)).length, c3), rfl, M, Sa, hM, List.length_map _, by have := hpf3.1; rw [List.length_map] at this; exact this, hSa, hS3, hpf3.2.1, hpf3.2.2, hMK⟩
theorem pure_to {f : FuncId} {S : Store} {args : List Value} {A B : Type} {out : A → SV} {Post : Store → A → Prop} {out' : B → SV} {Post' : Store → B → Prop} (h : Vc.Pure Tryz.prog f S args out Post) (hp : ∀ S' x, S.le S' → Post S' x → ∃ y, out' y = out x ∧ Post' S' y) : Vc.Pure Tryz.prog f S args out' Post' := by
  intro w hw
  refine (h w hw).mono ?_
  rintro e w' ⟨v, x, S', h1, h2, h3, h4, h5, h6, h7⟩
  obtain ⟨y, e1, h8⟩ := hp S' x h3 h7
  exact ⟨v, y, S', h1, e1 ▸ h2, h3, h4, h5, h6, h8⟩
abbrev Ow := Hd × List (Nat × List Value)
theorem flat_len {α : Type} (sh : Shape) (f : α → sh.T) : ∀ L : List α, ((L.map f).flatMap sh.enc).length = L.length * sh.n
  | [] => by simp
  | x :: L => by rw [List.map_cons, List.flatMap_cons, List.length_append, flat_len sh f L, enc_length, List.length_cons, Nat.add_mul]; omega
/-- What is known of the events of a history whose last is a call with three arguments: the row's block, the last arguments' block. -/
def EvO (S : Store) (n : Nat) (y : Ow) : Prop := ∃ (b b2 c c2 : Nat) (vs vs2 : List Value), b ≠ b2 ∧ S.blank b ∧ S.blank b2 ∧ y = ((some ⟨b, 0, none⟩, n + 1, c), [(b, vs), (b2, vs2)]) ∧ vs.length = (n + 1) * 7 ∧ vs[n * 7 + 4]? = some (.slice (some ⟨b2, 0, none⟩) 3 c2) ∧
  (∃ a0 a1 a2 : Int, vs2 = [.int .i64 a0, .int .i64 a1, .int .i64 a2])
theorem enc_one (x : Ex) : shE.enc x = [.int .i64 x.1, .int .i64 x.2.1, .int .i64 x.2.2.1, .string x.2.2.2.1.1, slV x.2.2.2.1.2, .int .i64 x.2.2.2.2.1, .int .i64 x.2.2.2.2.2] := rfl
theorem eventsO_spec (S : Store) (x : Hx) (l : List Rc.Ev) (ev : Rc.Ev) (hx : HIs S x (l ++ [ev])) (h3 : ev.as.length = 3) : SpecN Tryz.prog 18 S [vH x] (A := Ow) (fun y => .c (.v (slV y.1))) (fun y => y.2.map fun p => .ext (BoxAt p.1 p.2 none)) (fun _ y => EvO S l.length y) := by
  have h := specN_of_pure (fun y : Ow => y.2) (pure_to (out' := fun y : Ow => .c (.v (slV y.1))) (Post' := fun S' y => EvO S l.length y ∧ ∀ p ∈ y.2, (∀ v ∈ p.2, v.oneCell' = true) ∧ ∃ T rest, S'.o p.1 = some (.cells (p.2 ++ rest).toArray T (0, 0))) (eventsF_spec S x _ hx) ?_) ?_
  · intro w hw
    refine (h w hw).mono ?_
    rintro e w' ⟨v, x, S', ρ', h1, h2, h3, h4, h5, S1, h6, h7, h8⟩
    exact ⟨v, x, S', ρ', h1, h2, h3, h4, h5, h7.1⟩
  · intro S' q hS ⟨L, Se, g1, g2, g3, g4, g5, g6, g7, g8⟩
    obtain ⟨p, n, c⟩ := q
    have g2 : n = L.length := g2
    subst g2
    have hLl : L.length = l.length + 1 := by have := congrArg List.length g1; rwa [List.length_map, List.length_append] at this
    obtain ⟨z, hz⟩ : ∃ z, L[l.length]? = some z := ⟨_, List.getElem?_eq_getElem (by omega)⟩
    have hz2 : z.2 = ev := by
      have h1 : (L.map (·.2))[l.length]? = some z.2 := by rw [List.getElem?_map, hz]; rfl
      rw [g1] at h1
      simpa using h1.symm
    have hzA := g8 z (List.mem_of_getElem? hz)
    rw [hz2] at hzA
    rcases g3 with ⟨-, q, -⟩ | ⟨b, hb, hc⟩
    · omega
    have hb : p = some ⟨b, 0, none⟩ := hb
    subst hb
    obtain ⟨z1, z2⟩ := z
    obtain ⟨zk, zt, zn, ⟨znm, za, zl, zc⟩, ze, zv⟩ := z1
    have hzA : ArF S Se (za, zl, zc) ev.as := hzA
    have hzl : zl = 3 := by have := hzA.ns'.len; exact this.trans h3
    subst hzl
    rcases hzA.pf with ⟨-, q, -⟩ | ⟨b2, hb2, hc2⟩
    · omega
    have hb2 : za = some ⟨b2, 0, none⟩ := hb2
    subst hb2
    obtain ⟨a0, a1, a2, has⟩ : ∃ a0 a1 a2, ev.as = [a0, a1, a2] := by
      match ev.as, h3 with
      | [a0, a1, a2], _ => exact ⟨a0, a1, a2, rfl⟩
    obtain ⟨r1, hr1⟩ := g7 _ rfl
    obtain ⟨r2, hr2⟩ := hzA.wh _ rfl
    have hr2' := g5.2 _ _ hr2
    have hne : b ≠ b2 := fun q => by
      have k1 := (g6 _ rfl).2
      have k2 : Se.o b2 = _ := hr2
      rw [← q] at k2
      rw [show (⟨b, 0, none⟩ : Addr).block = b from rfl, k2] at k1
      cases k1
    have hsplit : L.map (·.1) = (L.take l.length).map (·.1) ++ [(zk, zt, zn, (znm, (some ⟨b2, 0, none⟩, 3, zc)), ze, zv)] := by
      have : L = L.take l.length ++ [((zk, zt, zn, (znm, (some ⟨b2, 0, none⟩, 3, zc)), ze, zv), z2)] := by
        conv => lhs; rw [← List.take_length (l := L), hLl, List.take_add_one, hz]
        rfl
      conv => lhs; rw [this, List.map_append]
      rfl
    refine ⟨((some ⟨b, 0, none⟩, L.length, c), [(b, (L.map (·.1)).flatMap shE.enc), (b2, ev.as.flatMap shI.enc)]), rfl, ⟨b, b2, c, zc, _, _, hne, Store.blank.le g4 (g6 _ rfl), hzA.fr _ rfl, by rw [hLl], ?_, ?_, a0, a1, a2, by rw [has]; rfl⟩, ?_⟩
    · have := flat_len shE (fun z : Ex × Rc.Ev => z.1) L
      rw [this, hLl]; rfl
    · have hl := flat_len shE (fun z : Ex × Rc.Ev => z.1) (L.take l.length)
      rw [List.length_take, Nat.min_eq_left (by omega)] at hl
      have hl : (((L.take l.length).map (·.1)).flatMap shE.enc).length = l.length * 7 := hl
      rw [hsplit, List.flatMap_append, List.getElem?_append_right (by omega), hl, Nat.add_sub_cancel_left]
      rfl
    · intro p hp
      simp only [List.mem_cons, List.not_mem_nil, or_false] at hp
      rcases hp with rfl | rfl
      · refine ⟨fun v hv => ?_, 47, r1, hr1⟩
        obtain ⟨y, -, hv⟩ := List.mem_flatMap.1 hv
        rw [enc_one] at hv
        simp only [List.mem_cons, List.not_mem_nil, or_false] at hv
        rcases hv with rfl | rfl | rfl | rfl | rfl | rfl | rfl <;> rfl
      · refine ⟨fun v hv => ?_, 2, r2, hr2'⟩
        obtain ⟨y, -, hv⟩ := List.mem_flatMap.1 hv
        simp only [Shape.enc, List.mem_singleton] at hv
        subst hv; rfl
  · rintro S' y hS ⟨⟨b, b2, c, c2, vs, vs2, hne, k1, k2, rfl, -⟩, hp⟩
    refine ⟨by simpa using hne, fun p hpm => ?_⟩
    refine ⟨?_, hp p hpm⟩
    simp only [List.mem_cons, List.not_mem_nil, or_false] at hpm
    rcases hpm with rfl | rfl
    · exact k1
    · exact k2
/-- Numbers that a call has made. -/
structure PnF (S S' : Store) (q : Hd) (xs : List Int) : Prop where
  len : q.2.1 = xs.length
  pf : PForm q.1 xs.length q.2.2
  fr : Fresh S q.1
  wh : Whole S' q.1 3 (xs.flatMap shI.enc)
theorem PnF.up {S S1 S2 : Store} (h : S1.le S2) {q xs} (x : PnF S S1 q xs) : PnF S S2 q xs := ⟨x.len, x.pf, x.fr, x.wh.le h⟩
theorem pendingF_spec (S : Store) (x : Hx) (l : List Rc.Ev) (hx : HIs S x l) : Pure Tryz.prog 14 S [vH x] (A := Hd) (fun q => .c (.v (slV q))) (fun S' q => PnF S S' q (pendI l)) := by
  have hl := hx.ls
  have hh := hx.hs
  have hq := li_len hl
  have hll := Rc.hist_len hh
  obtain ⟨⟨p, n, c⟩, ob, lb⟩ := x
  have hl : LIs S (p, n, c) l := hl
  have hq : n = l.length := hq
  subst hq
  refine pure_vc agrees Tryz.func14 rfl rfl (fun S S' q hle h => h.up hle) ?_
  refine ⟨[], [(4, shI, 3), (400001, shI, 0)], ?_⟩
  intro mb
  refine ⟨Nat × List Int × List (Int × Int) × Store, [5, 6] ++ List.range' 12 25, fun a => [(11, rI a.1)], fun a => [.box [.v (slV (p, l.length, c)), .v (.map ob), .v (.map lb)], .ext (MapN shI shI mb a.2.2.1), .row shI 3 a.2.1], fun a => a.2.2.2,
    fun a => a.1 ≤ l.length ∧ S.le a.2.2.2 ∧ Rc.PInv (l.take a.1) a.2.1 a.2.2.1, fun a => l.length - a.1, ?_⟩
  refine And.intro (Exists.intro (0, [], [], S) (And.intro (And.intro (And.intro ?_ rfl) (And.intro rfl (Store.le_refl _))) ⟨Nat.zero_le _, Store.le_refl _, Rc.pinv_nil⟩)) ?_
  · repeat' first | exact trivial | exact rfl | refine And.intro ?_ ?_
  rintro ⟨i, out, m, Sa⟩ ⟨hi, hSa, hP⟩
  have hi : i ≤ l.length := hi
  have hSa : S.le Sa := hSa
  have hP : Rc.PInv (l.take i) out m := hP
  have i0 : (0 : Int) ≤ ((i : Nat) : Int) := Int.natCast_nonneg _
  refine And.intro (fun h => ?_) (fun h => ?_)
  · have hil : i < l.length := by
      have : ((i : Nat) : Int) < ((l.length : Nat) : Int) := of_decide_eq_true h
      omega
    clear h
    obtain ⟨x, e, b, o, he, hx, hp, hrd⟩ := ev_at (hl.le hSa) hil
    have hv := hh i e he
    have htk : l.take (i + 1) = l.take i ++ [e] := by rw [List.take_add_one, he]; rfl
    have htl : (l.take i).length = i := by rw [List.length_take]; omega
    have wi : IntKind.i64.wrap (((i : Nat) : Int) + 1) = ((i + 1 : Nat) : Int) := wrap_i64 (by omega) (by omega)
    have hmu : l.length - (i + 1) < l.length - i := by omega
    have hpl : out.length + m.length ≤ 1000000 := by
      have h1 := hP.perm.length_eq
      have h2 := Rc.pend_len (l.take i)
      rw [List.length_append, List.length_map, List.length_map] at h1
      omega
    have hhl : Rc.Hist (l.take i) := hist_take hh i
    refine ⟨i0, by show ((i : Nat) : Int) < ((l.length : Nat) : Int); omega, b, o, hp, .inr ⟨x, okE [x] x (by simp), hrd, ?_⟩⟩
    obtain ⟨xk, xt, xn, xr⟩ := x
    by_cases h0 : e.k = 0
    · refine onE (beq_iff_eq.2 (hx.k.trans h0)) ?_
      refine ⟨1, shI, shI, m, xt, ((i : Nat) : Int), rfl, ⟨rfl, rfl⟩, rfl, rfl, trivial, ((i + 1 : Nat) : Int), wi, (i + 1, out, mset shI m xt ((i : Nat) : Int), Sa), ⟨⟨?_, rfl⟩, rfl, Store.le_refl _⟩, ⟨hil, hSa, ?_⟩, hmu⟩
      · repeat' first | exact trivial | exact rfl | refine And.intro ?_ ?_
      · have := Rc.pinv_call hP hv h0
        rw [htl, ← hx.t] at this
        rw [htk]; exact this
    refine offE (beq_eq_false_iff_ne.2 (fun q => h0 (hx.k.symm.trans q))) ?_
    by_cases h1 : e.k = 1
    · refine onE (beq_iff_eq.2 (hx.k.trans h1)) ?_
      refine ⟨1, shI, shI, m, xt, rfl, ⟨rfl, rfl⟩, rfl, ((i + 1 : Nat) : Int), wi, (i + 1, out, mdel shI m xt, Sa), ⟨⟨?_, rfl⟩, rfl, Store.le_refl _⟩, ⟨hil, hSa, ?_⟩, hmu⟩
      · repeat' first | exact trivial | exact rfl | refine And.intro ?_ ?_
      · have := Rc.pinv_answer hhl hP hv h1
        rw [← hx.t] at this
        rw [htk]; exact this
    refine offE (beq_eq_false_iff_ne.2 (fun q => h1 (hx.k.symm.trans q))) ?_
    by_cases h3 : e.k = 3
    · refine onE (beq_iff_eq.2 (hx.k.trans h3)) ?_
      refine ⟨⟨_, rfl, rfl, rfl⟩, .inl ⟨_, _, _, values_spec Sa mb, fun S2 bv hS2 hbv => ?_⟩⟩
      refine ⟨⟨_, rfl, rfl, rfl⟩, .inr (.inl ⟨[1, 2], _, _, _, _, rfl, appendSeq_spec S2 out mb bv m hbv hpl, fun S3 vs hS3 hvs => ?_⟩)⟩
      refine ⟨1, shI, shI, m, rfl, rfl, ((i + 1 : Nat) : Int), wi, (i + 1, out ++ vs, [], S3), ⟨⟨?_, rfl⟩, rfl, Store.le_refl _⟩, ⟨hil, Store.le_trans hSa (Store.le_trans hS2 hS3), ?_⟩, hmu⟩
      · repeat' first | exact trivial | exact rfl | refine And.intro ?_ ?_
      · rw [htk]; exact Rc.pinv_crash hP h3 hvs
    refine offE (beq_eq_false_iff_ne.2 (fun q => h3 (hx.k.symm.trans q))) ?_
    have h2 : e.k = 2 := by
      obtain ⟨-, hv⟩ := hv
      rcases hv with ⟨h4, -⟩ | ⟨h4, -⟩ | ⟨h4, -⟩ | h4
      · exact absurd h4 h0
      · exact absurd h4 h1
      · exact h4
      · exact absurd (by rw [h4]; rfl) h3
    refine ⟨((i + 1 : Nat) : Int), wi, (i + 1, out, m, Sa), ⟨⟨?_, rfl⟩, rfl, Store.le_refl _⟩, ⟨hil, hSa, ?_⟩, hmu⟩
    · repeat' first | exact trivial | exact rfl | refine And.intro ?_ ?_
    · rw [htk]; exact Rc.pinv_commit hP h2
  · have hil : i = l.length := by
      have : ¬ ((i : Nat) : Int) < ((l.length : Nat) : Int) := of_decide_eq_false h
      omega
    subst hil
    rw [List.take_length] at hP
    have hpl : out.length + m.length ≤ 1024 := by
      have h1 := hP.perm.length_eq
      have h2 := Rc.pend_len l
      rw [List.length_append, List.length_map, List.length_map] at h1
      omega
    refine ⟨⟨_, rfl, rfl, rfl⟩, .inl ⟨_, _, _, values_spec Sa mb, fun S2 bv hS2 hbv => ?_⟩⟩
    refine ⟨⟨_, rfl, rfl, rfl⟩, .inr (.inl ⟨[1, 2], _, _, _, _, rfl, appendSeq_spec S2 out mb bv m hbv (by omega), fun S3 vs hS3 hvs => ?_⟩)⟩
    have hvl := hvs.length_eq
    rw [List.length_map] at hvl
    have hres : sorted (out ++ vs) = pendI l := by
      have hp1 : (sorted (out ++ vs)).Perm (pendI l) := (List.mergeSort_perm _ _).trans ((hvs.append_left out).trans hP.perm)
      have hs1 : (sorted (out ++ vs)).Pairwise (· ≤ ·) := by
        have := List.pairwise_mergeSort (le := fun x y : Int => decide (x ≤ y)) (fun a b c h1 h2 => by simp at *; omega) (fun a b => by simp; omega) (out ++ vs)
        exact this.imp (fun h => by simpa using h)
      exact List.Perm.eq_of_pairwise (fun a b _ _ h1 h2 => Int.le_antisymm h1 h2) hs1 (Rc.pend_sorted l) hp1
    refine ⟨⟨_, rfl, rfl, rfl⟩, .inr (.inr (.inr (.inl ⟨[2], _, _, _, _, rfl, sort_spec S3 (out ++ vs) (by rw [List.length_append]; omega), fun S4 _ hS4 _ => ?_⟩)))⟩
    intro p5 c5 S5 hS5 hr5 hpf5
    refine ⟨rfl, (p5, (sorted (out ++ vs)).length, c5), rfl, ?_⟩
    rw [← hres]
    exact ⟨rfl, hpf5.1, hpf5.2.1.le (Store.le_trans hSa (Store.le_trans hS2 (Store.le_trans hS3 hS4))), hpf5.2.2⟩
def PnO (S : Store) (n : Nat) (y : Ow) : Prop := ∃ (b c : Nat) (vs : List Value), S.blank b ∧ y = ((some ⟨b, 0, none⟩, n, c), [(b, vs)]) ∧ vs.length = n
theorem pendingO_spec (S : Store) (x : Hx) (l : List Rc.Ev) (hx : HIs S x l) (hne : pendI l ≠ []) : SpecN Tryz.prog 14 S [vH x] (A := Ow) (fun y => .c (.v (slV y.1))) (fun y => y.2.map fun p => .ext (BoxAt p.1 p.2 none)) (fun _ y => PnO S (pendI l).length y) := by
  have h := specN_of_pure (fun y : Ow => y.2) (pure_to (out' := fun y : Ow => .c (.v (slV y.1))) (Post' := fun S' y => PnO S (pendI l).length y ∧ ∀ p ∈ y.2, (∀ v ∈ p.2, v.oneCell' = true) ∧ ∃ T rest, S'.o p.1 = some (.cells (p.2 ++ rest).toArray T (0, 0))) (pendingF_spec S x _ hx) ?_) ?_
  · intro w hw
    refine (h w hw).mono ?_
    rintro e w' ⟨v, x, S', ρ', h1, h2, h3, h4, h5, S1, h6, h7, h8⟩
    exact ⟨v, x, S', ρ', h1, h2, h3, h4, h5, h7.1⟩
  · intro S' q hS hq
    generalize pendI l = xs at *
    obtain ⟨p, n, c⟩ := q
    have hn : n = xs.length := hq.len
    subst hn
    rcases hq.pf with ⟨-, q, -⟩ | ⟨b, hb, hc⟩
    · exact absurd (List.eq_nil_of_length_eq_zero q) hne
    have hb : p = some ⟨b, 0, none⟩ := hb
    subst hb
    obtain ⟨r1, hr1⟩ := hq.wh _ rfl
    refine ⟨((some ⟨b, 0, none⟩, xs.length, c), [(b, xs.flatMap shI.enc)]), rfl, ⟨b, c, _, hq.fr _ rfl, rfl, ?_⟩, ?_⟩
    · have := flat_len shI (fun z : Int => z) xs
      rw [List.map_id'] at this
      rw [this]; exact Nat.mul_one _
    · intro p hp
      simp only [List.mem_singleton] at hp
      subst hp
      refine ⟨fun v hv => ?_, 3, r1, hr1⟩
      obtain ⟨y, -, hv⟩ := List.mem_flatMap.1 hv
      simp only [Shape.enc, List.mem_singleton] at hv
      subst hv; rfl
  · rintro S' y hS ⟨⟨b, c, vs, k1, rfl, -⟩, hp⟩
    refine ⟨by simp, fun p hpm => ⟨?_, hp p hpm⟩⟩
    simp only [List.mem_singleton] at hpm
    subst hpm; exact k1
theorem pend_last (l : List Rc.Ev) (e : Rc.Ev) (h : e.k = 0) : pendI (l ++ [e]) ≠ [] := fun q => by
  have : l.length ∈ Rc.refPend (l ++ [e]) := by
    unfold Rc.refPend
    rw [List.mem_filter]
    refine ⟨by simp, ?_⟩
    unfold Rc.pends
    rw [List.getElem?_append_right (Nat.le_refl _), Nat.sub_self]
    show (decide (e.k = 0) && Rc.scan e.t e.n ((l ++ [e]).drop (l.length + 1))) = true
    rw [decide_eq_true h, List.drop_eq_nil_of_le (by simp)]; rfl
  have h2 : Rc.refPend (l ++ [e]) = [] := List.map_eq_nil_iff.1 q
  rw [h2] at this
  cases this
theorem callF_spec (S0 S : Store) (h0 : S0.le S) (x : Hx) (l : List Rc.Ev) (hx0 : HIs S0 x l) (t n : Int) (ht : inI64 t) (hn : inI64 n) (nm : Rc.Bs) (hnm : nm.length ≤ 1000000000) (q : Hd) (ar : List Int) (hq : NsIs S q ar) (har : ar.length ≤ 1000000) :
    Pure Tryz.prog 19 S [vH x, .int .i64 t, .int .i64 n, vC (bs nm) q] (A := Hx × Int) rHE (fun S' x => HPost (Rc.callR l t n nm ar) (Store.mask S0 S S') x) := by
  refine pure_vc agrees Tryz.func19 rfl rfl (fun S1 S2 q hle h => h.le (mask_mono hle)) ?_
  have hx : HIs S x l := hx0.le h0
  have hxm : ∀ S', HIs (Store.mask S0 S S') x l := fun S' => hx0.le (le_mask h0)
  obtain ⟨om, ho1, ho2, ho3⟩ := hx.os
  obtain ⟨lm, hl1, hl2, hl3⟩ := hx.ts
  refine ⟨om, ho1, t, ((0 : Int), false), rfl, rfl, ⟨_, rfl, rfl, rfl⟩, .inl ⟨_, _, _, thread_spec S t, fun S1 _ hS1 _ => ?_⟩⟩
  have hx1 := hx.le hS1
  by_cases h1 : ¬ (1 ≤ t ∧ t ≤ 8)
  · refine onE (ntF (decide_eq_false h1)) ⟨rfl, (x, 3), rfl, ?_⟩
    unfold Rc.callR; rw [if_pos (by omega)]; exact ⟨hxm _, rfl⟩
  replace h1 := Decidable.not_not.1 h1
  refine offE (ntT (decide_eq_true h1)) ?_
  cases hm : Rc.openM l t with
  | some c =>
    refine onE (show (mget shI om t).isSome = true by rw [ho3 t, hm]; rfl) ⟨rfl, (x, 13), rfl, ?_⟩
    obtain ⟨i, -, hi, -⟩ := Rc.open_some hm
    unfold Rc.callR; rw [if_neg (by omega), if_pos (by omega)]; exact ⟨hxm _, rfl⟩
  | none =>
    refine offE (show (mget shI om t).isSome = false by rw [ho3 t, hm]; rfl) ⟨lm, hl1.le hS1, t, (0 : Int), rfl, rfl, ?_⟩
    have ho := Rc.open_none hm
    by_cases h2 : n ≤ Rc.lastR l t
    · refine onE (show decide (n ≤ (mget shI lm t).getD 0) = true by rw [hl3 t]; exact decide_eq_true h2) ⟨rfl, (x, 12), rfl, ?_⟩
      unfold Rc.callR; rw [if_neg (by omega), if_neg (by omega), if_pos h2]; exact ⟨hxm _, rfl⟩
    refine offE (show decide (n ≤ (mget shI lm t).getD 0) = false by rw [hl3 t]; exact decide_eq_false h2) ⟨⟨_, rfl, rfl, rfl⟩, .inl ⟨_, _, _, named_spec S1 nm hnm, fun S2 _ hS2 _ => ?_⟩⟩
    have hx2 := hx1.le hS2
    cases h3 : Sc.namedW nm with
    | false =>
      refine onT ⟨rfl, (x, 16), rfl, ?_⟩
      unfold Rc.callR; rw [if_neg (by omega), if_neg (by omega), if_neg h2, if_pos h3]; exact ⟨hxm _, rfl⟩
    | true =>
      have hql : q.2.1 = ar.length := hq.len
      refine onF ?_
      by_cases h4 : 4 < ar.length
      · refine onE (decide_eq_true (by show ((q.2.1 : Nat) : Int) > 4; omega)) ⟨rfl, (x, 15), rfl, ?_⟩
        unfold Rc.callR; rw [if_neg (by omega), if_neg (by omega), if_neg h2, if_neg (by rw [h3]; simp), if_pos h4]; exact ⟨hxm _, rfl⟩
      refine offE (decide_eq_false (by show ¬ ((q.2.1 : Nat) : Int) > 4; omega)) ⟨⟨_, rfl, rfl, rfl⟩, .inl ⟨_, _, _, full_spec S2 x l hx2, fun S3 _ hS3 _ => ?_⟩⟩
      have hx3 := hx2.le hS3
      have hS03 : S.le S3 := Store.le_trans hS1 (Store.le_trans hS2 hS3)
      by_cases h5 : 1024 ≤ l.length
      · refine onE (decide_eq_true h5) ⟨rfl, (x, 9), rfl, ?_⟩
        unfold Rc.callR; rw [if_neg (by omega), if_neg (by omega), if_neg h2, if_neg (by rw [h3]; simp), if_neg h4, if_pos h5]; exact ⟨hxm _, rfl⟩
      refine offE (decide_eq_false h5) ⟨⟨_, rfl, rfl, rfl⟩, .inl ⟨_, _, _, cloneF_spec S3 q ar (hq.le hS03) har, fun S4 q' hS4 hq' => ?_⟩⟩
      refine ⟨⟨_, rfl, rfl, rfl⟩, .inl fun bn S5 hS5 hbn bt S6 hS6 hbt => ?_⟩
      have hS06 : S.le S6 := Store.le_trans hS03 (Store.le_trans hS4 (Store.le_trans hS5 hS6))
      have hm06 := mask_le (S' := S6) h0 hS06
      have kn : S.blank bn := Store.blank.le (Store.le_trans hS03 hS4) (hbn.2 _ rfl)
      have kt : S.blank bt := Store.blank.le (Store.le_trans hS03 (Store.le_trans hS4 hS5)) (hbt.2 _ rfl)
      have hq6 : NsIs (Store.mask S0 S S6) q' ar := ⟨hq'.ns'.len, hq'.ns'.cap, row_mask (hq'.fr.le hS03) ((hq'.ns'.row.le hS5).le hS6), hq'.ns'.ins⟩
      have hadd := add_spec (Store.mask S0 S S6) x l (hxm S6) (0, t, n, (bs nm, q'), 0, 0) ⟨0, t, n, nm, ar, 0, 0⟩ ⟨rfl, rfl, rfl, rfl, hq6, rfl, rfl, hnm, har, ⟨in64_iff.2 ht, in64_iff.2 hn, fun a ha => in64_iff.2 (hq.ins a ha), rfl, rfl⟩⟩ _ (ch_call (rd_mask kn (Store.rd_le hS6 hbn.1)) (rd_mask kt hbt.1) l nm ar) ⟨by omega, .inl ⟨rfl, h1, hm, by show Rc.lastR l t < n; omega, h3, by show ar.length ≤ 4; omega, rfl, rfl⟩⟩
      refine ⟨_, _, _, pure_mask (fun S S' x h hx => hx.le h) hm06 hadd, fun S7 x' hS7 hx' => ⟨rfl, (x', 0), rfl, ?_⟩⟩
      unfold Rc.callR; rw [if_neg (by omega), if_neg (by omega), if_neg h2, if_neg (by rw [h3]; simp), if_neg h4, if_neg h5]
      exact ⟨hx'.le (mask_mask hS06 hS7), rfl⟩
end Go.Proofs.YtpeehenohdlfdaaGreatDoor
