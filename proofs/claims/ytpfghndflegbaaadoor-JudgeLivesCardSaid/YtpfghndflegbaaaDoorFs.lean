/- law58: the reference's Form. -/
import Derived.Test.YtpfghndflegbaaaDoorFh
namespace Go.Proofs.YtpfghndflegbaaaDoor
open Go Go.Vc
set_option maxRecDepth 100000
set_option maxHeartbeats 16000000

@[reducible] def c9 (h : Int → C) : List C := [h 0, h 1, h 2, h 3, h 4, h 5, h 6, h 7, h 8]
@[reducible] def opC (g : Int → Jd.Tr) (t : Int) : C := .v (.int .i64 (g t).op)
@[reducible] def laC (g : Int → Jd.Tr) (t : Int) : C := .v (.int .i64 (g t).last)
@[reducible] def coC (g : Int → Jd.Tr) (t : Int) : C := .v (.bool (g t).com)
def formRE (l : List shE.T) : Int := Jd.formR Jd.tr0 (l.map evOf)
theorem formR_step {g : Int → Jd.Tr} {x : shE.T} {l : List shE.T} : Jd.formR g ((x :: l).map evOf) = if (Jd.evR g (evOf x)).1 ≠ 0 then (Jd.evR g (evOf x)).1 else Jd.formR (Jd.evR g (evOf x)).2 (l.map evOf) := rfl
theorem evR_at (f : Int → Jd.Tr) (kd th nu : Int) (c : Cd) (a : Ad) : Jd.evR f (evOf (kd, th, nu, c, a)) =
    if kd < 0 ∨ kd > 3 then (2, f) else if kd = 3 then (0, fun t => ⟨0, (f t).last, (f t).com⟩) else if th < 1 ∨ th > 8 then (3, f)
      else if decide (kd = 0) = decide ((f th).op ≠ 0) then (13, f) else if kd = 0 then if nu ≤ (f th).last then (12, f) else (0, Jd.upd f th ⟨nu, nu, false⟩)
      else if nu ≠ (f th).op then (14, f) else if kd = 1 then (0, Jd.upd f th ⟨0, (f th).last, (f th).com⟩) else if (f th).com = true then (11, f) else (0, Jd.upd f th ⟨(f th).op, (f th).last, true⟩) := rfl
theorem formR_spec (S : Store) (p : Hd) (l : List shE.T) (hl : l.length = p.2.1) (hr : RowRd S p.1 shE l) (hn : l.length ≤ 1000000) :
    Pure Tryd.prog 11 S [slV p] rI (fun _ n => n = formRE l) := by
  obtain ⟨p, n, c⟩ := p
  simp only at hl hr
  subst hl
  refine pure_vc agrees Tryd.func11 rfl rfl (fun S S' q hle h => h) ?_
  refine ⟨[], [], Nat × (Int → Jd.Tr), [7, 8] ++ List.range' 9 75, fun a => [(6, rI a.1)], fun a => [.box (c9 (opC a.2)), .box (c9 (laC a.2)), .box (c9 (coC a.2))], fun _ => S, fun a => a.1 ≤ l.length ∧ formRE l = Jd.formR a.2 ((l.drop a.1).map evOf), fun a => l.length - a.1, ?_⟩
  refine And.intro (Exists.intro (0, Jd.tr0) (And.intro (And.intro (And.intro ?_ rfl) (And.intro rfl (Store.le_refl _))) ⟨Nat.zero_le _, rfl⟩)) ?_
  · repeat' first | exact trivial | exact rfl | refine And.intro ?_ ?_
  rintro ⟨i, g⟩ ⟨hi, hf⟩
  have hi : i ≤ l.length := hi
  have hf : formRE l = Jd.formR g ((l.drop i).map evOf) := hf
  have i0 : (0 : Int) ≤ ((i : Nat) : Int) := Int.natCast_nonneg _
  refine And.intro (fun h => ?_) (fun h => ?_)
  · have hil : i < l.length := by
      have : ((i : Nat) : Int) < ((l.length : Nat) : Int) := of_decide_eq_true h
      omega
    obtain ⟨y, hy⟩ : ∃ y : Int × Int × Int × (ByteArray × Hd) × (Int × Int), l[i]? = some y := ⟨_, List.getElem?_eq_getElem hil⟩
    obtain ⟨b, o, hp, hok, hrd⟩ := row_at hr hy
    have hdr : l.drop i = y :: l.drop (i + 1) := by
      rw [← List.getElem_cons_drop hil]
      congr 1
      rw [List.getElem?_eq_getElem hil] at hy
      exact Option.some.inj hy
    rw [hdr, formR_step] at hf
    have hmu : l.length - (i + 1) < l.length - i := by omega
    have w1 : IntKind.i64.wrap (((i : Nat) : Int) + 1) = ((i + 1 : Nat) : Int) := wrap_i64 (by omega) (by omega)
    refine ⟨i0, by show ((i : Nat) : Int) < (l.length : Int); omega, b, o, hp, y, hok, hrd, ?_⟩
    clear hrd hok hdr hy
    have bad : ∀ {e : Int} {g' : Int → Jd.Tr}, Jd.evR g (evOf y) = (e, g') → e ≠ 0 → e = formRE l := fun {e g'} h he => by rw [h] at hf; rw [if_pos he] at hf; exact hf.symm
    have good : ∀ {g' : Int → Jd.Tr}, Jd.evR g (evOf y) = (0, g') → formRE l = Jd.formR g' ((l.drop (i + 1)).map evOf) := fun {g'} h => by rw [h] at hf; rw [if_neg (fun q => q rfl)] at hf; exact hf
    clear hf
    obtain ⟨kd, th, nu, ⟨nm, ah⟩, av, ae⟩ := y
    have hev := evR_at g kd th nu (nm, ah) (av, ae)
    have step : ∀ (g' : Int → Jd.Tr) (_ : Jd.evR g (evOf (kd, th, nu, (nm, ah), av, ae)) = (0, g')), (i + 1, g').1 ≤ l.length ∧ formRE l = Jd.formR (i + 1, g').2 ((l.drop (i + 1, g').1).map evOf) := fun g' h => ⟨hil, good h⟩
    by_cases c1 : kd < 0 ∨ kd > 3
    · rw [if_pos c1] at hev
      by_cases c0 : kd < 0
      · exact onE (decide_eq_true c0) (onT ⟨rfl, 2, rfl, bad hev (by decide)⟩)
      · exact offE (decide_eq_false c0) (onE (decide_eq_true (show kd > 3 by omega)) ⟨rfl, 2, rfl, bad hev (by decide)⟩)
    rw [if_neg c1] at hev
    refine offE (decide_eq_false (show ¬ kd < 0 by omega)) (offE (decide_eq_false (show ¬ kd > 3 by omega)) ?_)
    by_cases c2 : kd = 3
    · rw [if_pos c2] at hev
      refine onE (beq_iff_eq.2 c2) ⟨((i + 1 : Nat) : Int), w1, (i + 1, fun t => ⟨0, (g t).last, (g t).com⟩), ⟨⟨?_, rfl⟩, rfl, Store.le_refl _⟩, step _ hev, hmu⟩
      repeat' first | exact trivial | exact rfl | refine And.intro ?_ ?_
    rw [if_neg c2] at hev
    refine offE (beq_eq_false_iff_ne.2 c2) ?_
    by_cases c3 : th < 1 ∨ th > 8
    · rw [if_pos c3] at hev
      by_cases c0 : th < 1
      · exact onE (decide_eq_true c0) (onT ⟨rfl, 3, rfl, bad hev (by decide)⟩)
      · exact offE (decide_eq_false c0) (onE (decide_eq_true (show th > 8 by omega)) ⟨rfl, 3, rfl, bad hev (by decide)⟩)
    rw [if_neg c3] at hev
    refine offE (decide_eq_false (show ¬ th < 1 by omega)) (offE (decide_eq_false (show ¬ th > 8 by omega)) ?_)
    have hth : th = 1 ∨ th = 2 ∨ th = 3 ∨ th = 4 ∨ th = 5 ∨ th = 6 ∨ th = 7 ∨ th = 8 := by omega
    have e4 : ((kd == 0) == ((g th).op != 0)) = decide (decide (kd = 0) = decide ((g th).op ≠ 0)) := by
      have h1 : (kd == 0) = decide (kd = 0) := by by_cases q : kd = 0 <;> simp [q]
      have h2 : ((g th).op != 0) = decide ((g th).op ≠ 0) := by by_cases q : (g th).op = 0 <;> simp [q]
      rw [h1, h2]
      generalize decide (kd = 0) = a
      generalize decide ((g th).op ≠ 0) = b
      cases a <;> cases b <;> rfl
    have b0 : (0 : Int) ≤ th := by omega
    have b9 : th < 9 := by omega
    by_cases c4 : decide (kd = 0) = decide ((g th).op ≠ 0)
    · rw [if_pos c4] at hev
      rw [decide_eq_true c4] at e4
      have hb := bad hev (by decide)
      clear hev step bad good c4
      rcases hth with rfl | rfl | rfl | rfl | rfl | rfl | rfl | rfl <;> exact ⟨or11_14, [], oF11_14, by kernel_rfl, b0, b9, onE e4 ⟨rfl, 13, rfl, hb⟩⟩
    rw [if_neg c4] at hev
    rw [decide_eq_false c4] at e4
    by_cases c5 : kd = 0
    · rw [if_pos c5] at hev
      have e5 : (kd == 0) = true := beq_iff_eq.2 c5
      by_cases c6 : nu ≤ (g th).last
      · rw [if_pos c6] at hev
        have e6 := decide_eq_true c6
        have hb := bad hev (by decide)
        clear hev step bad good c4 c6
        rcases hth with rfl | rfl | rfl | rfl | rfl | rfl | rfl | rfl <;> exact ⟨or11_14, [], oF11_14, by kernel_rfl, b0, b9, offE e4 (onE e5 ⟨or11_17, [], oF11_17, by kernel_rfl, b0, b9, onE e6 ⟨rfl, 12, rfl, hb⟩⟩)⟩
      · rw [if_neg c6] at hev
        have e6 := decide_eq_false c6
        have hb := step _ hev
        clear hev step bad good c4 c6
        rcases hth with rfl | rfl | rfl | rfl | rfl | rfl | rfl | rfl
        all_goals
          refine ⟨or11_14, [], oF11_14, by kernel_rfl, b0, b9, offE e4 (onE e5 ⟨or11_17, [], oF11_17, by kernel_rfl, b0, b9, offE e6 ⟨or11_19, [0, 1, 2], oF11_19, by kernel_rfl, b0, b9, And.intro ?_ (And.intro ?_ trivial)⟩⟩)⟩
          all_goals
            refine ⟨b0, b9, b0, b9, ((i + 1 : Nat) : Int), w1, (i + 1, _), ⟨⟨?_, rfl⟩, ?_, Store.le_refl _⟩, hb, hmu⟩
            · repeat' first | exact trivial | exact rfl | refine And.intro ?_ ?_
            · rfl
    rw [if_neg c5] at hev
    have e5 : (kd == 0) = false := beq_eq_false_iff_ne.2 c5
    by_cases c6 : nu ≠ (g th).op
    · rw [if_pos c6] at hev
      have e6 : (nu != (g th).op) = true := bne_iff_ne.2 c6
      have hb := bad hev (by decide)
      clear hev step bad good c4 c6
      rcases hth with rfl | rfl | rfl | rfl | rfl | rfl | rfl | rfl <;> exact ⟨or11_14, [], oF11_14, by kernel_rfl, b0, b9, offE e4 (offE e5 ⟨or11_20, [], oF11_20, by kernel_rfl, b0, b9, onE e6 ⟨rfl, 14, rfl, hb⟩⟩)⟩
    rw [if_neg c6] at hev
    have e6 : (nu != (g th).op) = false := bne_eq_false_iff_eq.2 (Decidable.not_not.1 c6)
    by_cases c7 : kd = 1
    · rw [if_pos c7] at hev
      have e7 : (kd == 1) = true := beq_iff_eq.2 c7
      have hb := step _ hev
      clear hev step bad good c4 c6
      rcases hth with rfl | rfl | rfl | rfl | rfl | rfl | rfl | rfl
      all_goals
        refine ⟨or11_14, [], oF11_14, by kernel_rfl, b0, b9, offE e4 (offE e5 ⟨or11_20, [], oF11_20, by kernel_rfl, b0, b9, offE e6 (onE e7 ⟨b0, b9, ((i + 1 : Nat) : Int), w1, (i + 1, _), ⟨⟨?_, rfl⟩, ?_, Store.le_refl _⟩, hb, hmu⟩)⟩)⟩
        · repeat' first | exact trivial | exact rfl | refine And.intro ?_ ?_
        · rfl
    rw [if_neg c7] at hev
    have e7 : (kd == 1) = false := beq_eq_false_iff_ne.2 c7
    by_cases c8 : (g th).com = true
    · rw [if_pos c8] at hev
      have hb := bad hev (by decide)
      clear hev step bad good c4 c6
      rcases hth with rfl | rfl | rfl | rfl | rfl | rfl | rfl | rfl <;> exact ⟨or11_14, [], oF11_14, by kernel_rfl, b0, b9, offE e4 (offE e5 ⟨or11_20, [], oF11_20, by kernel_rfl, b0, b9, offE e6 (offE e7 ⟨b0, b9, onE c8 ⟨rfl, 11, rfl, hb⟩⟩)⟩)⟩
    rw [if_neg c8] at hev
    have e8 : (g th).com = false := by simpa using c8
    have hb := step _ hev
    clear hev step bad good c4 c6
    rcases hth with rfl | rfl | rfl | rfl | rfl | rfl | rfl | rfl
    all_goals
      refine ⟨or11_14, [], oF11_14, by kernel_rfl, b0, b9, offE e4 (offE e5 ⟨or11_20, [], oF11_20, by kernel_rfl, b0, b9, offE e6 (offE e7 ⟨b0, b9, offE e8 ⟨b0, b9, ((i + 1 : Nat) : Int), w1, (i + 1, _), ⟨⟨?_, rfl⟩, ?_, Store.le_refl _⟩, hb, hmu⟩⟩)⟩)⟩
      · repeat' first | exact trivial | exact rfl | refine And.intro ?_ ?_
      · rfl
  · have hil : i = l.length := by
      have : ¬ ((i : Nat) : Int) < ((l.length : Nat) : Int) := of_decide_eq_false h
      omega
    subst hil
    rw [List.drop_length] at hf
    exact ⟨rfl, 0, rfl, hf.symm⟩
end Go.Proofs.YtpfghndflegbaaaDoor
