/- law58: the reference's Right; the law Rights. -/
import Derived.Test.YtpfghndflegbaaaDoorFz
import Derived.Test.YtpfghndflegbaaaDoorFw
import Derived.Test.YtpfghndflegbaaaDoorFu
import Derived.Test.YtpfghndflegbaaaDoorFs
namespace Go.Proofs.YtpfghndflegbaaaDoor
open Go Go.Vc Go.Sort
set_option maxRecDepth 100000
set_option maxHeartbeats 16000000

theorem in_calls {l : List shE.T} {a : Int} : a ∈ callsR l ↔ ∃ j, idxC (csJ l) a = some j := by
  rw [callsR_cs]
  constructor
  · intro h
    obtain ⟨x, hx, hxa⟩ := List.mem_map.1 h
    cases hi : idxC (csJ l) a with
    | some j => exact ⟨j, rfl⟩
    | none =>
      unfold idxC at hi
      rw [List.findIdx?_eq_none_iff] at hi
      have := hi x hx
      exact absurd hxa (of_decide_eq_false this)
  · rintro ⟨j, hj⟩
    obtain ⟨x, hx, hxa⟩ := idxC_at hj
    exact List.mem_map.2 ⟨x, List.mem_of_getElem? hx, hxa⟩
/-- The reference's look at what stands before. -/
theorem may_right {cs : Cs} {o : List Nat} {pl : List Bool} (hag : Jd.Agree cs o pl) (hsub : ∀ p ∈ o, ∃ (k : Nat) (y : Jd.Cl Cd Ad), cs[k]? = some y ∧ y.place = p) {j : Nat} {x : Jd.Cl Cd Ad} (hx : cs[j]? = some x) :
    Jd.mayR o x = true ↔ ¬ (pl[j]? = some true ∨ (List.range cs.length).any (overs cs pl x) = true) := by
  obtain ⟨b, hb, hbo⟩ := Jd.pl_at hag hx
  unfold Jd.mayR
  rw [Bool.and_eq_true]
  constructor
  · rintro ⟨h1, h2⟩ h
    rcases h with h | h
    · rw [hb] at h
      have := hbo.1 (Option.some.inj h)
      simp at h1
      exact h1 this
    · rw [List.any_eq_true] at h
      obtain ⟨k, hk, hov⟩ := h
      unfold overs at hov
      cases hy : cs[k]? with
      | none => rw [hy] at hov; cases hov
      | some y =>
        obtain ⟨c, hc, hco⟩ := Jd.pl_at hag hy
        rw [hy, hc] at hov
        cases c with
        | false => cases hov
        | true =>
          have := List.all_eq_true.1 h2 y.place (hco.1 rfl)
          simp at this
          have hov := of_decide_eq_true hov
          omega
  · intro h
    rw [not_or] at h
    refine ⟨?_, ?_⟩
    · have : x.place ∉ o := fun q => h.1 (by rw [hb, hbo.2 q])
      simpa using this
    · rw [List.all_eq_true]
      intro p hp
      obtain ⟨k, y, hk, rfl⟩ := hsub p hp
      obtain ⟨c, hc, hco⟩ := Jd.pl_at hag hk
      have hct := hco.2 hp
      subst hct
      have : ¬ x.over < y.place := fun q => h.2 (List.any_eq_true.2 ⟨k, List.mem_range.2 (List.getElem?_eq_some_iff.1 hk).1, by unfold overs; rw [hk, hc]; exact decide_eq_true q⟩)
      simp
      omega
/-- A way to the end is a right order. -/
theorem run_right (D : Hd → List Int) {cs : Cs} (ha : Jd.Apart cs) {st : Int} {pl : List Bool} {is : List Nat} (hr : Jd.Run (stepE D) cs st pl is) : rightS D cs st pl (nums is) = true := by
  induction hr with
  | done hw => exact hw
  | @go st pl i x is hi hm hf _ ih =>
    have hidx : idxC cs ((x.place : Nat) : Int) = some i := by
      cases hj : idxC cs ((x.place : Nat) : Int) with
      | none =>
        unfold idxC at hj
        rw [List.findIdx?_eq_none_iff] at hj
        have := hj x (List.mem_of_getElem? hi)
        simp at this
      | some j =>
        obtain ⟨y, hy, hya⟩ := idxC_at hj
        have : y.place = x.place := by exact_mod_cast hya
        rw [ha j i y x hy hi this]
    show rightS D cs st pl (((x.place : Nat) : Int) :: nums is) = true
    rw [rights_some hidx hi, if_neg, ih]
    rintro (h | h | h)
    · rw [Jd.may_free hm] at h; cases h
    · rw [List.any_eq_true] at h
      obtain ⟨k, hk, hov⟩ := h
      have hp := Jd.may_free hm
      unfold Jd.mayS at hm
      rw [hi, hp] at hm
      have := List.all_eq_true.1 hm k hk
      unfold overs at hov
      cases hy : cs[k]? with
      | none => rw [hy] at hov; cases hov
      | some y =>
        cases hc : pl[k]? with
        | none => rw [hy, hc] at hov; cases hov
        | some c =>
          rw [hy, hc] at hov this
          cases c with
          | false => cases hov
          | true =>
            have hov := of_decide_eq_true hov
            simp at this
            rcases this with this | this
            · subst this; rw [hp] at hc; cases hc
            · omega
    · rw [hf] at h; cases h
theorem least_right {D : Hd → List Int} {l : List shE.T} {is : List Nat} (h : leastJ D l = some is) : rightS D (csJ l) 0 (List.replicate (csJ l).length false) (nums is) = true :=
  run_right D (Jd.cs_apart l.length (l.map evOf)) (Jd.find_run (stepE D) _ _ _ _ _ h)
theorem refRight_spec (S : Store) (D : Hd → List Int) (p : Hd) (l : List shE.T) (hL : Lx S D p l) (hfew : l.length ≤ 1000) (po : Hd) (ord : List Int) (hlo : ord.length = po.2.1) (hco : po.2.1 ≤ po.2.2) (hro : RowRd S po.1 shI ord) (hno : ord.length ≤ 1000000) :
    Pure Tryd.prog 22 S [slV po, slV p] rB (fun _ b => b = rightS D (csJ l) 0 (List.replicate (csJ l).length false) ord) := by
  have hll := hL.len
  obtain ⟨po, no, co⟩ := po
  simp only at hlo hro hco
  subst hlo
  refine pure_vc agrees Tryd.func22 rfl rfl (fun S S' q hle h => h) ?_
  refine ⟨⟨_, rfl, rfl, rfl⟩, .inl ⟨_, _, _, calls_spec S p l hL.len hL.row (by omega), fun S1 q hS1 hq => ?_⟩⟩
  obtain ⟨pc, nc, cc⟩ := q
  obtain ⟨hc1, hc2⟩ := hq
  have hc1 : nc = (callsR l).length := hc1
  subst hc1
  have hcr := callsR_len l
  have hL1 := hL.le hS1
  have hro1 := hro.le hS1
  refine ⟨[], [], Nat × Int × List Nat × List Bool, [8, 9, 10, 11] ++ List.range' 14 61, fun a => [(7, rI a.1), (6, rI a.2.1)], fun _ => [], fun _ => S1,
    fun a => a.1 ≤ ord.length ∧ inI64 a.2.1 ∧ nums a.2.2.1 = ord.take a.1 ∧ Jd.Agree (csJ l) a.2.2.1 a.2.2.2 ∧ (∀ p ∈ a.2.2.1, ∃ (k : Nat) (y : Jd.Cl Cd Ad), (csJ l)[k]? = some y ∧ y.place = p) ∧
      rightS D (csJ l) 0 (List.replicate (csJ l).length false) ord = rightS D (csJ l) a.2.1 a.2.2.2 (ord.drop a.1), fun a => ord.length - a.1, ?_⟩
  refine And.intro (Exists.intro (0, 0, [], List.replicate (csJ l).length false) (And.intro (And.intro (And.intro ?_ rfl) (And.intro rfl (Store.le_refl _))) ⟨Nat.zero_le _, inI_zero, rfl, ⟨List.length_replicate .., fun i x b hi hb => by
    rw [List.getElem?_replicate] at hb
    split at hb
    · obtain rfl := Option.some.inj hb; simp
    · cases hb⟩, fun p hp => (by cases hp), rfl⟩)) ?_
  · repeat' first | exact trivial | exact rfl | refine And.intro ?_ ?_
  rintro ⟨i, st, o, pl⟩ ⟨hi, hst, hnum, hag, hsub, hinv⟩
  have hi : i ≤ ord.length := hi
  have hst : inI64 st := hst
  have hnum : nums o = ord.take i := hnum
  have hag : Jd.Agree (csJ l) o pl := hag
  have hsub : ∀ p ∈ o, ∃ (k : Nat) (y : Jd.Cl Cd Ad), (csJ l)[k]? = some y ∧ y.place = p := hsub
  have hinv : rightS D (csJ l) 0 (List.replicate (csJ l).length false) ord = rightS D (csJ l) st pl (ord.drop i) := hinv
  have i0 : (0 : Int) ≤ ((i : Nat) : Int) := Int.natCast_nonneg _
  refine And.intro (fun h => ?_) (fun h => ?_)
  · have hil : i < ord.length := by
      have : ((i : Nat) : Int) < ((ord.length : Nat) : Int) := of_decide_eq_true h
      omega
    have ib : ((i : Nat) : Int) < ((ord.length : Nat) : Int) := by omega
    obtain ⟨a, ha⟩ : ∃ a, ord[i]? = some a := ⟨_, List.getElem?_eq_getElem hil⟩
    obtain ⟨b, o1, hp, hok, hrd⟩ := row_at hro1 ha
    have hdr : ord.drop i = a :: ord.drop (i + 1) := by
      rw [← List.getElem_cons_drop hil]
      congr 1
      rw [List.getElem?_eq_getElem hil] at ha
      exact Option.some.inj ha
    rw [hdr] at hinv
    refine ⟨or22_6, [], oF22_6, by kernel_rfl, i0, ib, b, o1, hp, a, hok, hrd, ⟨_, rfl, rfl, rfl⟩, .inl ⟨_, _, _, in_spec S1 (pc, (callsR l).length, cc) (callsR l) a rfl hc2 (by omega), fun S2 m hS2 hm => ?_⟩⟩
    have hm : m = decide (a ∈ callsR l) := hm
    cases hidx : idxC (csJ l) a with
    | none =>
      have : ¬ a ∈ callsR l := fun q => by
        obtain ⟨j, hj⟩ := in_calls.1 q
        rw [hidx] at hj; cases hj
      rw [decide_eq_false this] at hm
      subst hm
      refine onT (onT ⟨rfl, false, rfl, ?_⟩)
      rw [hinv, rights_none hidx]
    | some j =>
    rw [decide_eq_true (in_calls.2 ⟨j, hidx⟩)] at hm
    subst hm
    obtain ⟨x, hx, hxa⟩ := idxC_at hidx
    rw [rights_some hidx hx] at hinv
    subst hxa
    have hxm := List.mem_of_getElem? hx
    obtain ⟨-, ⟨e, he1, he2, he3, he4⟩, hea⟩ := cs_see hxm
    rw [Nat.sub_zero] at he1 he3
    have hpl := (List.getElem?_eq_some_iff.1 he1).1
    have hL2 := hL1.le hS2
    have hro2 := hro1.le hS2
    have hol : (nums o).length = i := by rw [hnum, List.length_take, Nat.min_eq_left hi]
    have hrt : RowRd S2 po shI (nums o) := by rw [hnum]; exact hro2.take i
    have hw := may_right hag hsub hx
    have w1 : IntKind.i64.wrap (((i : Nat) : Int) + 1) = ((i + 1 : Nat) : Int) := wrap_i64 (by omega) (by omega)
    have hmu : ord.length - (i + 1) < ord.length - i := by omega
    refine onF ⟨i0, by show i ≤ co; omega, i0, ib, b, o1, hp, ((x.place : Nat) : Int), hok, Store.rd_le hS2 hrd, ⟨_, rfl, rfl, rfl⟩, .inl ⟨_, _, _, refMay_spec S2 (po, i, co) (nums o) hol hrt (by omega) p l x.place e hL.len hL2.row (by omega) he1, fun S3 m hS3 hm => ?_⟩⟩
    have hm : m = mayE (nums o) x.place (endE e.2.1 (x.place + 1) (l.drop (x.place + 1))).1 := hm
    rw [he3] at hm
    rw [may_ref] at hm
    subst hm
    cases hmay : Jd.mayR o x with
    | false =>
      refine onT ⟨rfl, false, rfl, ?_⟩
      rw [hinv]
      have hh : pl[j]? = some true ∨ (List.range (csJ l).length).any (overs (csJ l) pl x) = true := by
        by_cases q : pl[j]? = some true ∨ (List.range (csJ l).length).any (overs (csJ l) pl x) = true
        · exact q
        · rw [hw.2 q] at hmay; cases hmay
      rw [if_pos (hh.elim .inl fun q => .inr (.inl q))]
    | true =>
    have hno2 := hw.1 hmay
    have hL3 := hL2.le hS3
    obtain ⟨be, oe, hpe, hoke, hrde⟩ := row_at hL3.row he1
    obtain ⟨hx1, hx2, hx3⟩ := hL3.args e (List.mem_of_getElem? he1)
    have hpx : (0 : Int) ≤ ((x.place : Nat) : Int) := Int.natCast_nonneg _
    refine onF ⟨i0, ib, b, o1, hp, ((x.place : Nat) : Int), hok, Store.rd_le hS3 (Store.rd_le hS2 hrd), hpx, by show ((x.place : Nat) : Int) < ((p.2.1 : Nat) : Int); omega, be, oe, hpe, e.2.2.2.1, ⟨trivial, trivial⟩, rd_part hrde 3 2, ⟨_, rfl, rfl, rfl⟩, .inl ⟨_, _, _, do_spec S3 st e.2.2.2.1.1 e.2.2.2.1.2 (D e.2.2.2.1.2) hx1 hx2, fun S4 _ hS4 _ => ?_⟩⟩
    have hL4 := hL3.le hS4
    have hrd4 := Store.rd_le hS4 (Store.rd_le hS3 (Store.rd_le hS2 hrd))
    refine ⟨i0, ib, b, o1, hp, ((x.place : Nat) : Int), hok, hrd4, ⟨_, rfl, rfl, rfl⟩, .inl ⟨_, _, _, end_spec S4 p l x.place e hL.len hL4.row (by omega) he1, fun S5 _ hS5 _ => ?_⟩⟩
    rw [he3]
    have hL5 := hL4.le hS5
    have hS15 : S1.le S5 := Store.le_trans hS2 (Store.le_trans hS3 (Store.le_trans hS4 hS5))
    have hstep : stepE D st x.call = doE st e.2.2.2.1.1 (D e.2.2.2.1.2) := by rw [← he2]; rfl
    have hfitx : ∀ y, x.ans = some y → Jd.fitS x (stepE D st x.call).2 = decide ((doE st e.2.2.2.1.1 (D e.2.2.2.1.2)).2 = y) := fun y hy => by unfold Jd.fitS; rw [hy, hstep]
    have h3 : x.ans = none ∨ (∃ y, x.ans = some y ∧ (doE st e.2.2.2.1.1 (D e.2.2.2.1.2)).2 = y) ∨ ∃ y, x.ans = some y ∧ (doE st e.2.2.2.1.1 (D e.2.2.2.1.2)).2 ≠ y := by
      cases x.ans with
      | none => exact .inl rfl
      | some y =>
        by_cases e : (doE st e.2.2.2.1.1 (D e.2.2.2.1.2)).2 = y
        · exact .inr (.inl ⟨y, rfl, e⟩)
        · exact .inr (.inr ⟨y, rfl, e⟩)
    refine ⟨or22_10, [], oF22_10, by kernel_rfl, ?_⟩
    rcases h3 with ha | ⟨y, ha, hy⟩ | ⟨y, ha, hy⟩
    case' inr.inr =>
      obtain ⟨-, ev, hev1, hev2⟩ := hea y ha
      rw [Nat.sub_zero] at hev1
      obtain ⟨bv, ov, hpv, hokv, hrdv⟩ := row_at hL5.row hev1
      have hvl := (List.getElem?_eq_some_iff.1 hev1).1
      refine onE (show x.ans.isSome = true by rw [ha]; rfl) ⟨Int.natCast_nonneg _, by show ((x.over : Nat) : Int) < ((p.2.1 : Nat) : Int); omega, bv, ov, hpv, ev.2.2.2.2, ⟨trivial, trivial⟩, rd_part hrdv 5 2, ?_⟩
      refine onE (by rw [neq_ad, hev2, decide_eq_false (fun q => hy q.symm)]; rfl) ⟨rfl, false, rfl, ?_⟩
      rw [hinv, if_pos (.inr (.inr (by rw [hfitx y ha]; exact decide_eq_false hy)))]
    case' inl =>
      have hft : Jd.fitS x (stepE D st x.call).2 = true := by unfold Jd.fitS; rw [ha]
      refine offE (show x.ans.isSome = false by rw [ha]; rfl) (onF ?_)
    case' inr.inl =>
      have hft : Jd.fitS x (stepE D st x.call).2 = true := by rw [hfitx y ha]; exact decide_eq_true hy
      obtain ⟨-, ev, hev1, hev2⟩ := hea y ha
      rw [Nat.sub_zero] at hev1
      obtain ⟨bv, ov, hpv, hokv, hrdv⟩ := row_at hL5.row hev1
      have hvl := (List.getElem?_eq_some_iff.1 hev1).1
      refine onE (show x.ans.isSome = true by rw [ha]; rfl) ⟨Int.natCast_nonneg _, by show ((x.over : Nat) : Int) < ((p.2.1 : Nat) : Int); omega, bv, ov, hpv, ev.2.2.2.2, ⟨trivial, trivial⟩, rd_part hrdv 5 2, ?_⟩
      refine offE (by rw [neq_ad, hev2, decide_eq_true hy.symm]; rfl) ?_
    all_goals
      rw [if_neg (by
        rintro (h | h | h)
        · exact hno2 (.inl h)
        · exact hno2 (.inr h)
        · rw [hft] at h; cases h), hstep] at hinv
      have hnum2 : nums (o ++ [x.place]) = ord.take (i + 1) := by rw [List.take_add_one, ‹ord[i]? = _›, ← hnum]; simp [nums]
      have hsub2 : ∀ p ∈ o ++ [x.place], ∃ (k : Nat) (y : Jd.Cl Cd Ad), (csJ l)[k]? = some y ∧ y.place = p := fun p hp => by
        rcases List.mem_append.1 hp with hp | hp
        · exact hsub p hp
        · exact ⟨j, x, hx, (List.mem_singleton.1 hp).symm⟩
      refine ⟨((i + 1 : Nat) : Int), w1, (i + 1, (doE st e.2.2.2.1.1 (D e.2.2.2.1.2)).1, o ++ [x.place], pl.set j true), ⟨⟨?_, rfl⟩, rfl, hS15⟩, ⟨hil, doE_in hst _ hx3, hnum2, Jd.agree_set (Jd.cs_apart l.length (l.map evOf)) hag hx, hsub2, hinv⟩, hmu⟩
      repeat' first | exact trivial | exact rfl | refine And.intro ?_ ?_
  · have hil : i = ord.length := by
      have : ¬ ((i : Nat) : Int) < ((ord.length : Nat) : Int) := of_decide_eq_false h
      omega
    subst hil
    rw [List.drop_length] at hinv
    rw [List.take_length] at hnum
    refine ⟨⟨_, rfl, rfl, rfl⟩, .inl ⟨_, _, _, refWhole_spec S1 (po, ord.length, co) ord rfl hro1 hno p l hL.len hL1.row (by omega), fun S2 m hS2 hm => ?_⟩⟩
    have hm : m = wholeE ord l := hm
    rw [← hnum, whole_ref, ← Jd.whole_eq hag] at hm
    exact ⟨rfl, m, rfl, by rw [hinv, hm]; rfl⟩
theorem forms_same2 (l : List shE.T) : formE l = formRE l := Jd.form_same _ _ _ Jd.same0
theorem law_rights (S : Store) (D : Hd → List Int) (p : Hd) (l : List shE.T) (hL0 : Lx S D p l) (po : Hd) (ord : List Int) (hco : po.2.1 ≤ po.2.2) (hlo : ord.length = po.2.1) (hro : RowRd S po.1 shI ord) : Pure Tryd.prog 8 S [slV p, slV po] rB (fun _ b => b = true) := by
  have hl := hL0.len
  have hcsl := csJ_len l
  refine pure_vc agrees Tryd.func8 rfl rfl (fun S S' q hle h => h) ?_
  refine ⟨⟨_, rfl, rfl, rfl⟩, .inl ⟨_, _, _, awake_spec S hL0.tab, fun S1 _ hS1 _ => ?_⟩⟩
  have hL := hL0.le hS1
  have hro1 := hro.le hS1
  refine onF ?_
  by_cases c1 : l.length ≤ 40
  rotate_left
  · exact onE (decide_eq_true (show ((p.2.1 : Nat) : Int) > 40 by omega)) (onT ⟨rfl, true, rfl, rfl⟩)
  refine offE (decide_eq_false (show ¬ ((p.2.1 : Nat) : Int) > 40 by omega)) ?_
  by_cases c2 : ord.length ≤ 40
  rotate_left
  · exact onE (decide_eq_true (show ((po.2.1 : Nat) : Int) > 40 by omega)) ⟨rfl, true, rfl, rfl⟩
  refine offE (decide_eq_false (show ¬ ((po.2.1 : Nat) : Int) > 40 by omega)) ⟨⟨_, rfl, rfl, rfl⟩, .inl ⟨_, _, _, formR_spec S1 p l hL.len hL.row (by omega), fun S2 e hS2 he => ?_⟩⟩
  have he : e = formRE l := he
  rw [← forms_same2] at he
  subst he
  have hL2 := hL.le hS2
  refine ⟨⟨_, rfl, rfl, rfl⟩, .inl ⟨_, _, _, right_spec S2 D p l hL2 (by omega) po ord hlo (hro1.le hS2) (by omega), fun S3 b hS3 hb => ?_⟩⟩
  have hb : b = (decide (formE l = 0) && rightS D (csJ l) 0 (List.replicate (csJ l).length false) ord) := hb
  subst hb
  have hL3 := hL2.le hS3
  have tail : ∀ S4, S3.le S4 → Lx S4 D p l := fun S4 h => hL3.le h
  by_cases hf : formE l = 0
  rotate_left
  · rw [decide_eq_false hf, Bool.false_and]
    refine offE (beq_eq_false_iff_ne.2 hf) (onF ⟨⟨_, rfl, rfl, rfl⟩, .inl ⟨_, _, _, check_spec S3 D p l hL3, fun S4 x hS4 hx => ?_⟩⟩)
    obtain ⟨⟨xq, xb⟩, xe⟩ := x
    obtain ⟨⟨hx1, hx2⟩, -⟩ := hx
    have hw : wrongJ l = formE l := by rw [wrongJ, if_pos hf]
    have hx1 : xe = wrongJ l := hx1
    rw [hw] at hx1
    subst hx1
    exact onE (bne_iff_ne.2 hf) (onT ⟨rfl, true, rfl, rfl⟩)
  rw [decide_eq_true hf, Bool.true_and]
  refine onE (beq_iff_eq.2 hf) ⟨⟨_, rfl, rfl, rfl⟩, .inl ⟨_, _, _, refRight_spec S3 D p l hL3 (by omega) po ord hlo hco ((hro1.le hS2).le hS3) (by omega), fun S4 m hS4 hm => ?_⟩⟩
  have hm : m = rightS D (csJ l) 0 (List.replicate (csJ l).length false) ord := hm
  subst hm
  have hL4 := hL3.le hS4
  refine offE (by cases rightS D (csJ l) 0 (List.replicate (csJ l).length false) ord <;> rfl) ⟨⟨_, rfl, rfl, rfl⟩, .inl ⟨_, _, _, check_spec S4 D p l hL4, fun S5 x hS5 hx => ?_⟩⟩
  obtain ⟨⟨xq, xb⟩, xe⟩ := x
  obtain ⟨⟨hx1, hx2⟩, -⟩ := hx
  have hx1 : xe = wrongJ l := hx1
  subst hx1
  have hL5 := hL4.le hS5
  by_cases hw : wrongJ l = 0
  rotate_left
  · exact onE (bne_iff_ne.2 hw) (onT ⟨rfl, true, rfl, rfl⟩)
  rw [if_pos hw] at hx2
  have hx2 : OPost (leastJ D l) l.length S5 (xq, xb) := hx2
  unfold OPost at hx2
  refine offE (bne_eq_false_iff_eq.2 hw) ?_
  cases ha : leastJ D l with
  | none =>
    rw [ha] at hx2
    obtain ⟨rfl, -⟩ := hx2
    exact onT ⟨rfl, true, rfl, rfl⟩
  | some is =>
    rw [ha] at hx2
    obtain ⟨rfl, hx4, hx5, hx6, hx7⟩ := hx2
    have hnl : (nums is).length = is.length := List.length_map ..
    refine onF ⟨⟨_, rfl, rfl, rfl⟩, .inl ⟨_, _, _, right_spec S5 D p l hL5 (by omega) xq (nums is) (hnl.trans hx4.symm) hx6 (by omega), fun S6 b hS6 hb => ?_⟩⟩
    have hb : b = (decide (formE l = 0) && rightS D (csJ l) 0 (List.replicate (csJ l).length false) (nums is)) := hb
    rw [decide_eq_true hf, least_right ha] at hb
    exact ⟨rfl, b, rfl, hb⟩
end Go.Proofs.YtpfghndflegbaaaDoor
