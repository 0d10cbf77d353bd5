/- law02: the law Order says true. -/
import Derived.Test.YtjcbbmibcbiedaaFm
namespace Go.Proofs.Ytjcbbmibcbiedaa
open Go Go.Vc Go.Sort Go.RowKit Go.Maps
set_option maxRecDepth 100000

/-- What the calls make is the greatest number asked for, at each location. -/
theorem made_max (l : List (Int × Int)) (x : Int) : (∀ p ∈ l, p.1 = x → 0 ≤ x → x < 4096 → p.2 ≤ rAt (made l) x) ∧ (rAt (made l) x = 0 ∨ ∃ p ∈ l, p.1 = x ∧ 0 ≤ x ∧ x < 4096 ∧ p.2 = rAt (made l) x) := by
  have key : ∀ (l a : List (Int × Int)), SP a → (∀ p ∈ l, p.1 = x → 0 ≤ x → x < 4096 → p.2 ≤ rAt (rJoin a l) x) ∧ rAt a x ≤ rAt (rJoin a l) x ∧ (rAt (rJoin a l) x = rAt a x ∨ ∃ p ∈ l, p.1 = x ∧ 0 ≤ x ∧ x < 4096 ∧ p.2 = rAt (rJoin a l) x) := by
    intro l
    induction l with
    | nil => intro a _; exact ⟨by simp, Int.le_refl _, .inl rfl⟩
    | cons q l ih =>
      intro a ha
      obtain ⟨h1, h2, h3⟩ := ih (rWith a q.1 q.2) (rWith_sp ha _ _)
      rw [show rJoin a (q :: l) = rJoin (rWith a q.1 q.2) l from rfl]
      have h4 := rAt_with ha q.1 q.2 x
      refine ⟨fun p hp hpx hx0 hx1 => ?_, ?_, ?_⟩
      · rcases List.mem_cons.1 hp with rfl | hp
        · rw [h4] at h2
          by_cases hc : x = p.1 ∧ 0 ≤ p.1 ∧ p.1 < 4096 ∧ rAt a p.1 < p.2
          · rw [if_pos hc] at h2; exact h2
          · rw [if_neg hc] at h2
            have : ¬ rAt a p.1 < p.2 := fun h => hc ⟨hpx.symm, by omega, by omega, h⟩
            rw [hpx] at this
            omega
        · exact h1 p hp hpx hx0 hx1
      · have := with_ge ha q.1 q.2 x
        omega
      · rcases h3 with h3 | ⟨p, hp, h5⟩
        · rw [h3, h4]
          by_cases hc : x = q.1 ∧ 0 ≤ q.1 ∧ q.1 < 4096 ∧ rAt a q.1 < q.2
          · rw [if_pos hc]
            exact .inr ⟨q, by simp, hc.1.symm, by rw [hc.1]; exact hc.2.1, by rw [hc.1]; exact hc.2.2.1, rfl⟩
          · rw [if_neg hc]; exact .inl rfl
        · exact .inr ⟨p, by simp [hp], h5⟩
  obtain ⟨h1, -, h3⟩ := key l [] sp_nil
  exact ⟨h1, h3⟩

theorem made_set {l l' : List (Int × Int)} (h : ∀ p, p ∈ l ↔ p ∈ l') : made l = made l' := by
  refine sp_ext (made_sp l) (made_sp l') fun x => ?_
  obtain ⟨a1, a2⟩ := made_max l x
  obtain ⟨b1, b2⟩ := made_max l' x
  have a0 := rAt_nonneg (made_sp l) x
  have b0 := rAt_nonneg (made_sp l') x
  apply Int.le_antisymm
  · rcases a2 with a2 | ⟨p, hp, h1, h2, h3, h4⟩
    · omega
    · rw [← h4]; exact b1 p ((h p).1 hp) h1 h2 h3
  · rcases b2 with b2 | ⟨p, hp, h1, h2, h3, h4⟩
    · omega
    · rw [← h4]; exact a1 p ((h p).2 hp) h1 h2 h3

/-- The calls in another order. -/
def turned (a : List (Int × Int)) (t k : Nat) : List (Int × Int) := (List.range k).filterMap fun i => a[(i + t) % a.length]?
theorem turned_succ {a : List (Int × Int)} {t k : Nat} {x : Int × Int} (h : a[(k + t) % a.length]? = some x) : turned a t (k + 1) = turned a t k ++ [x] := by
  simp [turned, List.range_succ, List.filterMap_append, h]
theorem turned_length (a : List (Int × Int)) (t k : Nat) : (turned a t k).length ≤ k := by
  have := List.length_filterMap_le (fun i => a[(i + t) % a.length]?) (List.range k)
  simpa [turned] using this
theorem turned_mem {a : List (Int × Int)} {t : Nat} {p : Int × Int} : p ∈ turned a t a.length ↔ p ∈ a := by
  unfold turned
  rw [List.mem_filterMap]
  constructor
  · rintro ⟨i, _, h⟩; exact List.mem_of_getElem? h
  · intro h
    obtain ⟨j, hj⟩ := List.getElem?_of_mem h
    have hjl := (List.getElem?_eq_some_iff.1 hj).1
    refine ⟨(j + (a.length - t % a.length)) % a.length, by simp; exact Nat.mod_lt _ (by omega), ?_⟩
    have e : ((j + (a.length - t % a.length)) % a.length + t) % a.length = j := by
      rw [Nat.mod_add_mod]
      have h1 := Nat.mod_lt t (show 0 < a.length by omega)
      have h2 := Nat.mod_add_div t a.length
      rw [show j + (a.length - t % a.length) + t = j + a.length * (t / a.length + 1) by rw [Nat.mul_add, Nat.mul_one]; omega, Nat.add_mul_mod_self_left, Nat.mod_eq_of_lt hjl]
    rw [e]; exact hj

set_option maxHeartbeats 1000000 in
theorem law_order (S : Store) (p q : Hd) (a b : List (Int × Int)) (t : Int) (ht0 : 0 ≤ t) (ht1 : t ≤ 255) (hl : a.length = p.2.1) (hr : RowRd S p.1 shP a) (hm : b.length = q.2.1) (hr' : RowRd S q.1 shP b) :
    Pure Try.prog 7 S [slV p, slV q, .int .u8 t] rB (fun _ x => x = true) := by
  obtain ⟨p, pn, pc⟩ := p
  simp only at hl hr
  subst hl
  refine pure_vc agrees Try.func7 rfl rfl (fun S S' q hle h => h) ?_
  refine ⟨⟨_, rfl, rfl, rfl⟩, .inl ⟨_, _, _, great_spec S (p, a.length, pc), fun S1 g hS1 hg => ?_⟩⟩
  have hg : g = decide (((a.length : Nat) : Int) > 100) := hg
  refine And.intro (fun h0 => ?_) (fun h0 => ?_)
  · exact onT (onT ⟨⟨_, rfl, rfl, rfl⟩, .inl ⟨_, _, _, awake_spec S1, fun S1 x hS1 hx => ⟨rfl, x, rfl, hx⟩⟩⟩)
  rw [h0] at hg
  have hn : ¬ ((a.length : Nat) : Int) > 100 := of_decide_eq_false hg.symm
  refine ⟨⟨_, rfl, rfl, rfl⟩, .inl ⟨_, _, _, great_spec S1 q, fun S2 g hS2 hg2 => ?_⟩⟩
  have hg2 : g = decide (((q.2.1 : Nat) : Int) > 100) := hg2
  refine And.intro (fun h1 => ?_) (fun h1 => ?_)
  · exact onT ⟨⟨_, rfl, rfl, rfl⟩, .inl ⟨_, _, _, awake_spec S2, fun S1 x hS1 hx => ⟨rfl, x, rfl, hx⟩⟩⟩
  rw [h1] at hg2
  have hn2 : ¬ ((q.2.1 : Nat) : Int) > 100 := of_decide_eq_false hg2.symm
  refine And.intro (fun h3 => ?_) (fun h3 => ?_)
  · exact ⟨⟨_, rfl, rfl, rfl⟩, .inl ⟨_, _, _, awake_spec S2, fun S1 x hS1 hx => ⟨rfl, x, rfl, hx⟩⟩⟩
  have h3' : 0 < a.length := by
    have h4 : (((a.length : Nat) : Int) == 0) = false := h3
    rw [beq_eq_false_iff_ne] at h4
    omega
  have h12 := Store.le_trans hS1 hS2
  have hr2 := hr.le h12
  obtain ⟨tn, rfl⟩ : ∃ tn : Nat, t = (tn : Int) := ⟨t.toNat, by omega⟩
  refine ⟨[], [(7, shP, 37)], Nat, [8] ++ List.range' 30 90, fun i => [(29, rI i)], fun i => [.row shP 37 (turned a tn i)], fun _ => S2, fun i => i ≤ a.length, fun i => a.length - i, ?_⟩
  refine And.intro (Exists.intro 0 (And.intro (And.intro (And.intro ?_ rfl) (And.intro rfl (Store.le_refl _))) (Nat.zero_le _))) ?_
  · repeat' first | exact trivial | exact rfl | refine And.intro ?_ ?_
  intro i hi
  have htl := turned_length a tn i
  have i0 : (0 : Int) ≤ ((i : Nat) : Int) := Int.natCast_nonneg _
  refine And.intro (fun h => ?_) (fun h => ?_)
  · have hil : i < a.length := by
      have : ((i : Nat) : Int) < ((a.length : Nat) : Int) := of_decide_eq_true h
      omega
    have hkl : (i + tn) % a.length < a.length := Nat.mod_lt _ h3'
    obtain ⟨k, hk⟩ : ∃ k, (i + tn) % a.length = k := ⟨_, rfl⟩
    rw [hk] at hkl
    have hx : a[k]? = some a[k] := List.getElem?_eq_getElem hkl
    obtain ⟨x, hxx⟩ : ∃ x, a[k] = x := ⟨_, rfl⟩
    rw [hxx] at hx
    have hsucc := turned_succ (a := a) (t := tn) (k := i) (x := x) (by rw [hk]; exact hx)
    obtain ⟨b1, o, hp, hok, hrd⟩ := row_at hr2 hx
    have k0 : (0 : Int) ≤ ((k : Nat) : Int) := Int.natCast_nonneg _
    have k1 : ((k : Nat) : Int) < ((a.length : Nat) : Int) := by omega
    have hmod : Int.tmod ((i + tn : Nat) : Int) ((a.length : Nat) : Int) = ((k : Nat) : Int) := by
      rw [← hk]; exact (Int.ofNat_tmod _ _).symm
    refine ⟨((tn : Nat) : Int), wrap_i64 (by omega) (by omega), ((i + tn : Nat) : Int), by rw [show ((i : Nat) : Int) + ((tn : Nat) : Int) = ((i + tn : Nat) : Int) by omega]; exact wrap_i64 (by omega) (by omega), by show ((a.length : Nat) : Int) ≠ 0; omega, ((k : Nat) : Int), hmod, k0, k1, b1, o, hp, x, ⟨trivial, trivial⟩, hrd, [x], ⟨rfl, rfl⟩, fun _ _ => ⟨trivial, trivial⟩, by show ((turned a tn i).length + 1) * 16 ≤ 140737488355328; omega, ?_⟩
    refine ⟨((i + 1 : Nat) : Int), wrap_i64 (by omega) (by omega), i + 1, ⟨⟨?_, rfl⟩, ?_, Store.le_refl _⟩, hil, ?_⟩
    · repeat' first | exact trivial | exact rfl | refine And.intro ?_ ?_
    · simp only [hsucc]; rfl
    · show a.length - (i + 1) < a.length - i
      omega
  have hil : i = a.length := by
    have : ¬ ((i : Nat) : Int) < ((a.length : Nat) : Int) := of_decide_eq_false h
    omega
  subst hil
  have hx0 : a[0]? = some a[0] := List.getElem?_eq_getElem h3'
  have hxm : a[0] ∈ a := List.getElem_mem h3'
  obtain ⟨e, hee⟩ : ∃ e, a[0] = e := ⟨_, rfl⟩
  rw [hee] at hx0 hxm
  have hz : made (turned a tn a.length ++ [e]) = made a := made_set fun p => by
    rw [List.mem_append, turned_mem, List.mem_singleton]
    exact ⟨fun h => h.elim id (fun h => h ▸ hxm), .inl⟩
  refine ⟨⟨_, rfl, rfl, rfl⟩, .inl ⟨_, _, _, made_spec S2 (p, a.length, pc) a rfl hr2 (by omega), fun S3 z hS3 hz => ?_⟩⟩
  obtain ⟨x, m⟩ := z
  have hx : VIs S3 x (made a) := hz.1
  clear hz
  refine ⟨⟨_, rfl, rfl, rfl⟩, .inl ⟨_, _, _, made_spec S3 q b hm (hr'.le (Store.le_trans h12 hS3)) (by omega), fun S4 z hS4 hz => ?_⟩⟩
  obtain ⟨y, m2⟩ := z
  have hy : VIs S4 y (made b) := hz.1
  clear hz
  have hx := hx.le hS4
  have hr4 := (hr2.le hS3).le hS4
  obtain ⟨b1, o, hp, hok, hrd⟩ := row_at hr4 hx0
  refine ⟨by decide, (show (0 : Int) < ((a.length : Nat) : Int) by omega), b1, o, hp, e, ⟨trivial, trivial⟩, hrd, [e], ⟨rfl, rfl⟩, fun _ _ => ⟨trivial, trivial⟩, by show ((turned a tn a.length).length + 1) * 16 ≤ 140737488355328; omega, ?_⟩
  refine ⟨⟨_, rfl, rfl, rfl⟩, .inl fun p5 c5 S5 hS5 hr5 f5 => ⟨_, _, _, made_spec S5 (p5, _, c5) _ rfl hr5 (by rw [List.length_append, List.length_singleton]; omega), fun S6 z hS6 hz6 => ?_⟩⟩
  obtain ⟨w, m3⟩ := z
  have hw : VIs S6 w (made (turned a tn a.length ++ [e])) := hz6.1
  rw [hz] at hw
  clear hz6
  have hx := (hx.le hS5).le hS6
  have hy := (hy.le hS5).le hS6
  have hr6 := (hr4.le hS5).le hS6
  have sa := made_sp a
  have sb := made_sp b
  generalize made a = A at *
  generalize made b = B at *
  refine ⟨or7_12, [], oF7_12, by kernel_rfl, ?_⟩
  refine ⟨⟨_, rfl, rfl, rfl⟩, .inl ⟨_, _, _, same_spec S6 x w _ _ hx hw, fun S7 r hS7 hr7 => ?_⟩⟩
  have hr7 : r = true := by rw [show r = decide _ from hr7]; exact decide_eq_true rfl
  subst hr7
  have hx := hx.le hS7
  have hy := hy.le hS7
  refine onF ⟨⟨_, rfl, rfl, rfl⟩, .inl ⟨_, _, _, below_spec S7 x x _ _ hx hx, fun S8 r hS8 hr8 => ?_⟩⟩
  have hr8 : r = true := by rw [show r = rBelow _ _ from hr8]; exact (below_iff sa sa).2 fun _ => Int.le_refl _
  subst hr8
  have hx := hx.le hS8
  have hy := hy.le hS8
  refine onF ⟨⟨_, rfl, rfl, rfl⟩, .inl ⟨_, _, _, below_spec S8 x y _ _ hx hy, fun S9 r1 hS9 hr9 => ?_⟩⟩
  have hr9 : r1 = rBelow A B := hr9
  have hx := hx.le hS9
  have hy := hy.le hS9
  have h69 := Store.le_trans hS7 (Store.le_trans hS8 hS9)
  refine And.intro (fun e1 => ?_) (fun e1 => ?_)
  · refine ⟨⟨_, rfl, rfl, rfl⟩, .inl ⟨_, _, _, below_spec S9 y x _ _ hy hx, fun S10 r2 hS10 hr10 => ?_⟩⟩
    have hr10 : r2 = rBelow B A := hr10
    refine ⟨⟨_, rfl, rfl, rfl⟩, .inl ⟨_, _, _, same_spec S10 x y _ _ (hx.le hS10) (hy.le hS10), fun S11 r3 hS11 hr11 => ?_⟩⟩
    have hr11 : r3 = decide (A = B) := hr11
    have hrr : r2 = r3 := by rw [hr11, same_iff sa sb, ← hr9, ← hr10, e1]; rfl
    subst hrr
    have hx := (hx.le hS10).le hS11
    have hy := (hy.le hS10).le hS11
    have h6 := Store.le_trans h69 (Store.le_trans hS10 hS11)
    refine And.intro (fun h => absurd h (by simp)) (fun _ => ?_)
    obtain ⟨b2, o2, hp2, hok2, hrd2⟩ := row_at (hr6.le (show S6.le S11 from h6)) hx0
    have l0 : (0 : Int) < ((a.length : Nat) : Int) := by omega
    refine ⟨or7_14, [], oF7_14, by kernel_rfl, ?_⟩
    refine ⟨by decide, l0, b2, o2, hp2, e.1, trivial, rd_field hrd2 rfl, by decide, l0, b2, o2, hp2, e.1, trivial, rd_field hrd2 rfl, ?_⟩
    refine ⟨⟨_, rfl, rfl, rfl⟩, .inl ⟨_, _, _, same_spec S11 x y _ _ hx hy, fun T1 r4 hT1 h4 => ?_⟩⟩
    have h4 : r4 = (rBelow A B && rBelow B A) := by rw [show r4 = decide _ from h4, same_iff sa sb]
    have hx := hx.le hT1
    have hy := hy.le hT1
    refine ⟨⟨_, rfl, rfl, rfl⟩, .inl ⟨_, _, _, join_spec T1 x y _ _ hx hy, fun T2 j hT2 hj => ?_⟩⟩
    have hj : VIs T2 j (rJoin A B) := hj
    have hx := hx.le hT2
    have hy := hy.le hT2
    refine ⟨⟨_, rfl, rfl, rfl⟩, .inl ⟨_, _, _, at_spec T2 j _ e.1 hj, fun T3 v1 hT3 hv1 => ?_⟩⟩
    have hv1 : v1 = rAt (rJoin A B) e.1 := hv1
    have hx := hx.le hT3
    have hy := hy.le hT3
    refine ⟨⟨_, rfl, rfl, rfl⟩, .inl ⟨_, _, _, at_spec T3 y _ e.1 hy, fun T4 v2 hT4 hv2 => ?_⟩⟩
    have hv2 : v2 = rAt B e.1 := hv2
    have hx := hx.le hT4
    have hy := hy.le hT4
    have hne : v1 ≠ v2 → rBelow A B = false := fun h => by
      rw [Bool.eq_false_iff]
      intro hb
      have h5 := (below_iff sa sb).1 hb e.1
      rw [hv1, hv2, rAt_join sa sb] at h
      apply h
      unfold imax
      split <;> omega
    refine And.intro (fun e5 => ?_) (fun e5 => ?_)
    · refine ⟨⟨_, rfl, rfl, rfl⟩, .inl ⟨_, _, _, below_spec T4 x y _ _ hx hy, fun T5 r5 hT5 h5 => ?_⟩⟩
      have h5 : r5 = rBelow A B := h5
      refine And.intro (fun e6 => ?_) (fun e6 => ?_)
      · refine ⟨⟨_, rfl, rfl, rfl⟩, .inl ⟨_, _, _, below_spec T5 y x _ _ (hy.le hT5) (hx.le hT5), fun T6 r6 hT6 h6 => ?_⟩⟩
        have h6 : r6 = rBelow B A := h6
        refine onE (by rw [h4, ← h5, ← h6, e6]; exact beq_self_eq_true _) ⟨⟨_, rfl, rfl, rfl⟩, .inl ⟨_, _, _, awake_spec T6, fun S1 x hS1 hx => ⟨rfl, x, rfl, hx⟩⟩⟩
      · refine onE (by rw [h4, ← h5, e6]; rfl) ⟨⟨_, rfl, rfl, rfl⟩, .inl ⟨_, _, _, awake_spec T5, fun S1 x hS1 hx => ⟨rfl, x, rfl, hx⟩⟩⟩
    · have e5' : (v1 == v2) = false := e5
      rw [beq_eq_false_iff_ne] at e5'
      refine onF (onE (by rw [h4, hne e5']; rfl) ⟨⟨_, rfl, rfl, rfl⟩, .inl ⟨_, _, _, awake_spec T4, fun S1 x hS1 hx => ⟨rfl, x, rfl, hx⟩⟩⟩)
  · refine onF ?_
    obtain ⟨b2, o2, hp2, hok2, hrd2⟩ := row_at (hr6.le (show S6.le S9 from h69)) hx0
    have l0 : (0 : Int) < ((a.length : Nat) : Int) := by omega
    refine ⟨or7_14, [], oF7_14, by kernel_rfl, ?_⟩
    refine ⟨by decide, l0, b2, o2, hp2, e.1, trivial, rd_field hrd2 rfl, by decide, l0, b2, o2, hp2, e.1, trivial, rd_field hrd2 rfl, ?_⟩
    refine ⟨⟨_, rfl, rfl, rfl⟩, .inl ⟨_, _, _, same_spec S9 x y _ _ hx hy, fun T1 r4 hT1 h4 => ?_⟩⟩
    have h4 : r4 = (rBelow A B && rBelow B A) := by rw [show r4 = decide _ from h4, same_iff sa sb]
    have hx := hx.le hT1
    have hy := hy.le hT1
    refine ⟨⟨_, rfl, rfl, rfl⟩, .inl ⟨_, _, _, join_spec T1 x y _ _ hx hy, fun T2 j hT2 hj => ?_⟩⟩
    have hj : VIs T2 j (rJoin A B) := hj
    have hx := hx.le hT2
    have hy := hy.le hT2
    refine ⟨⟨_, rfl, rfl, rfl⟩, .inl ⟨_, _, _, at_spec T2 j _ e.1 hj, fun T3 v1 hT3 hv1 => ?_⟩⟩
    have hv1 : v1 = rAt (rJoin A B) e.1 := hv1
    have hx := hx.le hT3
    have hy := hy.le hT3
    refine ⟨⟨_, rfl, rfl, rfl⟩, .inl ⟨_, _, _, at_spec T3 y _ e.1 hy, fun T4 v2 hT4 hv2 => ?_⟩⟩
    have hv2 : v2 = rAt B e.1 := hv2
    have hx := hx.le hT4
    have hy := hy.le hT4
    have hne : v1 ≠ v2 → rBelow A B = false := fun h => by
      rw [Bool.eq_false_iff]
      intro hb
      have h5 := (below_iff sa sb).1 hb e.1
      rw [hv1, hv2, rAt_join sa sb] at h
      apply h
      unfold imax
      split <;> omega
    refine And.intro (fun e5 => ?_) (fun e5 => ?_)
    · refine ⟨⟨_, rfl, rfl, rfl⟩, .inl ⟨_, _, _, below_spec T4 x y _ _ hx hy, fun T5 r5 hT5 h5 => ?_⟩⟩
      have h5 : r5 = rBelow A B := h5
      refine And.intro (fun e6 => ?_) (fun e6 => ?_)
      · refine ⟨⟨_, rfl, rfl, rfl⟩, .inl ⟨_, _, _, below_spec T5 y x _ _ (hy.le hT5) (hx.le hT5), fun T6 r6 hT6 h6 => ?_⟩⟩
        have h6 : r6 = rBelow B A := h6
        refine onE (by rw [h4, ← h5, ← h6, e6]; exact beq_self_eq_true _) ⟨⟨_, rfl, rfl, rfl⟩, .inl ⟨_, _, _, awake_spec T6, fun S1 x hS1 hx => ⟨rfl, x, rfl, hx⟩⟩⟩
      · refine onE (by rw [h4, ← h5, e6]; rfl) ⟨⟨_, rfl, rfl, rfl⟩, .inl ⟨_, _, _, awake_spec T5, fun S1 x hS1 hx => ⟨rfl, x, rfl, hx⟩⟩⟩
    · have e5' : (v1 == v2) = false := e5
      rw [beq_eq_false_iff_ne] at e5'
      refine onF (onE (by rw [h4, hne e5']; rfl) ⟨⟨_, rfl, rfl, rfl⟩, .inl ⟨_, _, _, awake_spec T4, fun S1 x hS1 hx => ⟨rfl, x, rfl, hx⟩⟩⟩)
end Go.Proofs.Ytjcbbmibcbiedaa
