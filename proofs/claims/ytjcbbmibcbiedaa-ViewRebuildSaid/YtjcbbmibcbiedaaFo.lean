/- law02: the law Outside says true. -/
import Derived.Test.YtjcbbmibcbiedaaFn
namespace Go.Proofs.Ytjcbbmibcbiedaa
open Go Go.Vc Go.Sort Go.RowKit Go.Maps
set_option maxRecDepth 100000

theorem rJoin_nil {m : List (Int × Int)} (h : SP m) : rJoin [] m = m := sp_ext (rJoin_sp sp_nil m) h fun x => by
  rw [rAt_join sp_nil h]
  have := rAt_nonneg h x
  show imax 0 (rAt m x) = rAt m x
  unfold imax
  split <;> omega
theorem vis_nil (S : Store) : VIs S none [] := ⟨⟨[], rfl, .refl _⟩, sp_nil⟩

set_option maxHeartbeats 1000000 in
theorem law_outside (S : Store) (n far : Int) (p : Hd) (l : List (Int × Int)) (hl : l.length = p.2.1) (hr : RowRd S p.1 shP l) :
    Pure Try.prog 8 S [.int .i64 n, .int .i64 far, slV p] rB (fun _ x => x = true) := by
  refine pure_vc agrees Try.func8 rfl rfl (fun S S' q hle h => h) ?_
  refine ⟨⟨_, rfl, rfl, rfl⟩, .inl ⟨_, _, _, great_spec S p, fun S1 g hS1 hg => ?_⟩⟩
  refine And.intro (fun h0 => ?_) (fun h0 => ?_)
  · exact ⟨⟨_, rfl, rfl, rfl⟩, .inl ⟨_, _, _, awake_spec S1, fun S1 x hS1 hx => ⟨rfl, x, rfl, hx⟩⟩⟩
  have hg : g = decide (((p.2.1 : Nat) : Int) > 100) := hg
  rw [h0] at hg
  have hn : ¬ ((p.2.1 : Nat) : Int) > 100 := of_decide_eq_false hg.symm
  have hl1 : l.length ≤ 100 := by omega
  have hml := made_length l
  refine ⟨⟨_, rfl, rfl, rfl⟩, .inl ⟨_, _, _, made_spec S1 p l hl (hr.le hS1) (by omega), fun S2 z hS2 hz => ?_⟩⟩
  obtain ⟨v, m⟩ := z
  obtain ⟨hv, hml2, hmr⟩ : VIs S2 v (made l) ∧ m.2.1 = (made l).length ∧ RowRd S2 m.1 shP (made l) := hz
  have sa := made_sp l
  generalize made l = A at *
  refine ⟨[], [], Nat, [9, 10] ++ List.range' 24 100, fun i => [(23, rI i)], fun _ => [.box [.v (.map v)], .row shI 23 [-1, 4096, far]], fun _ => S2, fun i => i ≤ 3, fun i => 3 - i, ?_⟩
  refine And.intro (Exists.intro 0 (And.intro (And.intro (And.intro ?_ rfl) (And.intro rfl (Store.le_refl _))) (Nat.zero_le _))) ?_
  · repeat' first | exact trivial | exact rfl | refine And.intro ?_ ?_
  intro i hi
  have i0 : (0 : Int) ≤ ((i : Nat) : Int) := Int.natCast_nonneg _
  refine And.intro (fun h => ?_) (fun h => ?_)
  · have hil : i < 3 := by
      have : ((i : Nat) : Int) < 3 := of_decide_eq_true h
      omega
    have hwi : IntKind.i64.wrap (((i : Nat) : Int) + 1) = ((i + 1 : Nat) : Int) := wrap_i64 (by omega) (by omega)
    have hx : ([-1, 4096, far] : List Int)[i]? = some ([-1, 4096, far] : List Int)[i] := List.getElem?_eq_getElem hil
    obtain ⟨x, hxx⟩ : ∃ x, ([-1, 4096, far] : List Int)[i] = x := ⟨_, rfl⟩
    rw [hxx] at hx
    refine ⟨i0, (show ((i : Nat) : Int) < 3 by omega), x, hx, ?_⟩
    have hbad : ¬ (0 ≤ x ∧ x < 4096) → rAt A x = 0 ∧ rWith A x n = A := fun hc => by
      constructor
      · refine rAt_out fun hm => ?_
        obtain ⟨q, hq, rfl⟩ := List.mem_map.1 hm
        have := sa.2 q hq
        exact hc ⟨this.1, this.2.1⟩
      · rw [rWith, if_pos (by omega)]
    refine And.intro (fun h1 => ?_) (fun h1 => ?_)
    · have h1' : x ≥ 0 := of_decide_eq_true h1
      refine And.intro (fun h2 => ?_) (fun h2 => ?_)
      · refine ⟨((i + 1 : Nat) : Int), hwi, i + 1, ⟨⟨?_, rfl⟩, rfl, Store.le_refl _⟩, hil, ?_⟩
        · repeat' first | exact trivial | exact rfl | refine And.intro ?_ ?_
        · show 3 - (i + 1) < 3 - i
          omega
      · have h2' : ¬ x < 4096 := of_decide_eq_false h2
        obtain ⟨z1, z2⟩ := hbad (fun h => h2' h.2)
        refine ⟨⟨_, rfl, rfl, rfl⟩, .inl ⟨_, _, _, at_spec S2 v A x hv, fun T1 r hT1 hr1 => ?_⟩⟩
        have hr1 : r = 0 := by rw [show r = rAt A x from hr1, z1]
        subst hr1
        refine onF ⟨⟨_, rfl, rfl, rfl⟩, .inl ⟨_, _, _, with_spec T1 v A x n (hv.le hT1), fun T2 w hT2 hw => ?_⟩⟩
        have hw : VIs T2 w A := by rw [← z2]; exact hw
        refine ⟨⟨_, rfl, rfl, rfl⟩, .inl ⟨_, _, _, is_true T2 w A m hw (by omega) hml2.symm ((hmr.le hT1).le hT2), fun T3 r hT3 hr3 => ?_⟩⟩
        have hr3 : r = true := hr3
        subst hr3
        refine onF ?_
        refine ⟨((i + 1 : Nat) : Int), hwi, i + 1, ⟨⟨?_, rfl⟩, rfl, Store.le_trans hT1 (Store.le_trans hT2 hT3)⟩, hil, ?_⟩
        · repeat' first | exact trivial | exact rfl | refine And.intro ?_ ?_
        · show 3 - (i + 1) < 3 - i
          omega
    · have h1' : ¬ x ≥ 0 := of_decide_eq_false h1
      obtain ⟨z1, z2⟩ := hbad (fun h => h1' h.1)
      refine onF ?_
      refine ⟨⟨_, rfl, rfl, rfl⟩, .inl ⟨_, _, _, at_spec S2 v A x hv, fun T1 r hT1 hr1 => ?_⟩⟩
      have hr1 : r = 0 := by rw [show r = rAt A x from hr1, z1]
      subst hr1
      refine onF ⟨⟨_, rfl, rfl, rfl⟩, .inl ⟨_, _, _, with_spec T1 v A x n (hv.le hT1), fun T2 w hT2 hw => ?_⟩⟩
      have hw : VIs T2 w A := by rw [← z2]; exact hw
      refine ⟨⟨_, rfl, rfl, rfl⟩, .inl ⟨_, _, _, is_true T2 w A m hw (by omega) hml2.symm ((hmr.le hT1).le hT2), fun T3 r hT3 hr3 => ?_⟩⟩
      have hr3 : r = true := hr3
      subst hr3
      refine onF ?_
      refine ⟨((i + 1 : Nat) : Int), hwi, i + 1, ⟨⟨?_, rfl⟩, rfl, Store.le_trans hT1 (Store.le_trans hT2 hT3)⟩, hil, ?_⟩
      · repeat' first | exact trivial | exact rfl | refine And.intro ?_ ?_
      · show 3 - (i + 1) < 3 - i
        omega
  · refine ⟨or8_12, [], oF8_12, by kernel_rfl, ?_⟩
    refine ⟨⟨_, rfl, rfl, rfl⟩, .inl ⟨_, _, _, at_spec S2 none [] 0 (vis_nil S2), fun T1 r hT1 hr1 => ?_⟩⟩
    have hr1 : r = 0 := hr1
    subst hr1
    refine onE rfl ⟨⟨_, rfl, rfl, rfl⟩, .inl ⟨_, _, _, locs_spec T1 none [] (vis_nil T1) (by decide), fun T2 u hT2 hu => ?_⟩⟩
    obtain ⟨up, un, uc⟩ := u
    obtain ⟨hul, hur⟩ : un = 0 ∧ RowRd T2 up shI [] := hu
    subst hul
    refine onE rfl ⟨⟨_, rfl, rfl, rfl⟩, .inl ⟨_, _, _, below_spec T2 none v [] A (vis_nil T2) ((hv.le hT1).le hT2), fun T3 r hT3 hr3 => ?_⟩⟩
    have hr3 : r = true := hr3
    subst hr3
    have hv3 := ((hv.le hT1).le hT2).le hT3
    refine onE rfl ⟨⟨_, rfl, rfl, rfl⟩, .inl ⟨_, _, _, join_spec T3 none v [] A (vis_nil T3) hv3, fun T4 j hT4 hj => ?_⟩⟩
    have hj : VIs T4 j A := by rw [← rJoin_nil sa]; exact hj
    refine ⟨⟨_, rfl, rfl, rfl⟩, .inl ⟨_, _, _, same_spec T4 j v A A hj (hv3.le hT4), fun T5 r hT5 hr5 => ?_⟩⟩
    have hr5 : r = true := by rw [show r = decide _ from hr5]; exact decide_eq_true rfl
    subst hr5
    exact onE rfl ⟨⟨_, rfl, rfl, rfl⟩, .inl ⟨_, _, _, awake_spec T5, fun S1 x hS1 hx => ⟨rfl, x, rfl, hx⟩⟩⟩
end Go.Proofs.Ytjcbbmibcbiedaa
