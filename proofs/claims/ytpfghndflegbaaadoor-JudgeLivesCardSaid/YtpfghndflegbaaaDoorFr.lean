/- law58: the judge's wrong, Check and Blame. -/
import Derived.Test.YtpfghndflegbaaaDoorFq
namespace Go.Proofs.YtpfghndflegbaaaDoor
open Go Go.Vc Go.Sort
set_option maxRecDepth 100000
set_option maxHeartbeats 4000000

def wrongJ (l : List shE.T) : Int := if formE l ≠ 0 then formE l else if 8 < (callsJ l).length then 15 else 0
theorem wrong_spec (S : Store) (D : Hd → List Int) (p : Hd) (l : List shE.T) (hL : Lx S D p l) : Pure Tryd.prog 25 S [regV, slV p] rI (fun _ n => n = wrongJ l) := by
  have hfew := hL.few
  refine pure_vc agrees Tryd.func25 rfl rfl (fun S S' q hle h => h) ?_
  refine ⟨⟨_, rfl, rfl, rfl⟩, .inl ⟨_, _, _, form_spec S p l hL.len hL.row (by omega), fun S1 e hS1 he => ?_⟩⟩
  have he : e = formE l := he
  subst he
  by_cases hf : formE l = 0
  · refine offE (bne_eq_false_iff_eq.2 hf) ⟨⟨_, rfl, rfl, rfl⟩, .inl ⟨_, _, _, calls2_spec S1 p l hL.len (hL.row.le hS1) hfew hf, fun S2 q hS2 hq => ?_⟩⟩
    obtain ⟨q, n, c⟩ := q
    obtain ⟨hq1, hq2, hq3⟩ := hq
    have hq1 : n = (callsJ l).length := hq1
    subst hq1
    by_cases h8 : 8 < (callsJ l).length
    · refine onE (decide_eq_true (show (((callsJ l).length : Nat) : Int) > 8 by omega)) ⟨rfl, 15, rfl, ?_⟩
      show (15 : Int) = wrongJ l
      rw [wrongJ, if_neg (fun q => q hf), if_pos h8]
    · refine offE (decide_eq_false (show ¬ (((callsJ l).length : Nat) : Int) > 8 by omega)) (onF ⟨rfl, 0, rfl, ?_⟩)
      show (0 : Int) = wrongJ l
      rw [wrongJ, if_neg (fun q => q hf), if_neg h8]
  · refine onE (bne_iff_ne.2 hf) ⟨rfl, formE l, rfl, ?_⟩
    show formE l = wrongJ l
    rw [wrongJ, if_pos hf]
theorem wrong_zero {l : List shE.T} (h : wrongJ l = 0) : formE l = 0 ∧ (callsJ l).length ≤ 8 := by
  unfold wrongJ at h
  by_cases hf : formE l = 0
  · refine ⟨hf, ?_⟩
    rw [if_neg (fun q => q hf)] at h
    by_cases h8 : 8 < (callsJ l).length
    · rw [if_pos h8] at h; cases h
    · omega
  · rw [if_pos hf] at h; exact absurd h hf

/-- What Check hands back: an order, whether there is one, an error. -/
def CPost (D : Hd → List Int) (l : List shE.T) (S' : Store) (x : (Hd × Bool) × Int) : Prop := x.2 = wrongJ l ∧ if wrongJ l = 0 then OPost (leastJ D l) l.length S' x.1 else x.1 = ((none, 0, 0), false)
theorem check_spec (S : Store) (D : Hd → List Int) (p : Hd) (l : List shE.T) (hL : Lx S D p l) :
    Pure Tryd.prog 10 S [regV, slV p] (A := (Hd × Bool) × Int) (fun x => .tup [(false, [.v (slV x.1.1)]), (false, [.v (.bool x.1.2)]), (false, [.v (.int .i64 x.2)])]) (fun S' x => CPost D l S' x ∧ Fresh S x.1.1.1) := by
  refine pure_vc agrees Tryd.func10 rfl rfl (fun S S' q hle h => ⟨⟨h.1.1, ?_⟩, h.2⟩) ?_
  · have h2 := h.1.2
    by_cases hw : wrongJ l = 0
    · rw [if_pos hw] at h2 ⊢; exact h2.le hle
    · rw [if_neg hw] at h2 ⊢; exact h2
  refine ⟨⟨_, rfl, rfl, rfl⟩, .inl ⟨_, _, _, wrong_spec S D p l hL, fun S1 e hS1 he => ?_⟩⟩
  have he : e = wrongJ l := he
  subst he
  by_cases hw : wrongJ l = 0
  · obtain ⟨hf, h8⟩ := wrong_zero hw
    rw [callsJ_eq, List.length_map] at h8
    refine offE (bne_eq_false_iff_eq.2 hw) ⟨⟨_, rfl, rfl, rfl⟩, .inl ⟨_, _, _, least_spec S1 D p l (hL.le hS1) hf (by omega), fun S2 x hS2 hx => ?_⟩⟩
    refine ⟨rfl, (x, 0), rfl, ?_⟩
    refine ⟨?_, hx.2.le hS1⟩
    show CPost D l S2 (x, 0)
    exact ⟨hw.symm, by rw [if_pos hw]; exact hx.1⟩
  · refine onE (bne_iff_ne.2 hw) ⟨rfl, (((none, 0, 0), false), wrongJ l), rfl, ?_⟩
    refine ⟨?_, fun a e => by cases e⟩
    show CPost D l S1 (((none, 0, 0), false), wrongJ l)
    exact ⟨rfl, by rw [if_neg hw]⟩

theorem Lx.take {S : Store} {D p l} (h : Lx S D p l) {k : Nat} (hk : k ≤ l.length) : Lx S D (p.1, k, p.2.2) (l.take k) := by
  have hl := h.len
  have hc := h.cap
  have hf := h.few
  refine ⟨by rw [List.length_take, Nat.min_eq_left hk], by show k ≤ p.2.2; omega, h.row.take k, by rw [List.length_take, Nat.min_eq_left hk]; omega, fun e he => h.args e (List.mem_of_mem_take he), h.tab⟩
theorem formJ_take {γ α : Type} : ∀ (l : List (Jd.Ev γ α)) (f : Int → Jd.Th) (k : Nat), Jd.formJ f l = 0 → Jd.formJ f (l.take k) = 0
  | [], _, _, _ => by simp [Jd.formJ]
  | e :: l, f, 0, _ => rfl
  | e :: l, f, k + 1, h => by
    rw [Jd.formJ] at h
    rw [List.take_succ_cons, Jd.formJ]
    by_cases q : (Jd.evJ f e).1 = 0
    · rw [if_neg (fun z => z q)] at h ⊢
      exact formJ_take l _ k h
    · rw [if_pos q] at h; exact absurd h q
theorem form_take {l : List shE.T} (h : formE l = 0) (k : Nat) : formE (l.take k) = 0 := by
  unfold formE at h ⊢
  rw [List.map_take]
  exact formJ_take _ _ k h
theorem recs_count (N : Nat) : ∀ (l : List (Jd.Ev Cd Ad)) (i : Nat), (Jd.recs N i l).length = l.countP fun e => decide (e.kind = 0)
  | [], _ => rfl
  | e :: l, i => by
    rw [Jd.recs, List.countP_cons]
    have := recs_count N l (i + 1)
    by_cases h : e.kind = 0
    · rw [if_pos h, List.length_cons, this]; simp [h]
    · rw [if_neg h, this]; simp [h]
theorem csJ_take (l : List shE.T) (k : Nat) : (csJ (l.take k)).length ≤ (csJ l).length := by
  unfold csJ Jd.csOf
  rw [List.length_map, List.length_map, recs_count, recs_count, List.map_take]
  exact List.Sublist.countP_le (List.take_sublist _ _)
/-- The event that is blamed. -/
def blameJ (D : Hd → List Int) (l : List shE.T) : Int := match (List.range l.length).find? fun n => (leastJ D (l.take (n + 1))).isNone with
  | some n => (n : Int)
  | none => -1
theorem find_first {P : Nat → Bool} {n j : Nat} (hj : j < n) (hn : ∀ k < j, P k = false) (hp : P j = true) : (List.range n).find? P = some j := by
  rw [List.find?_range_eq_some]
  exact ⟨hp, List.mem_range.2 hj, fun k hk => by rw [hn k hk]; rfl⟩
theorem blame_spec (S : Store) (D : Hd → List Int) (p : Hd) (l : List shE.T) (hL : Lx S D p l) :
    Pure Tryd.prog 16 S [regV, slV p] (A := Int × Int) (fun x => .tup [(false, [.v (.int .i64 x.1)]), (false, [.v (.int .i64 x.2)])]) (fun _ x => x = if wrongJ l = 0 then (blameJ D l, 0) else (-1, wrongJ l)) := by
  have hfew := hL.few
  have hlen := hL.len
  have hcap := hL.cap
  refine pure_vc agrees Tryd.func16 rfl rfl (fun S S' q hle h => h) ?_
  refine ⟨⟨_, rfl, rfl, rfl⟩, .inl ⟨_, _, _, wrong_spec S D p l hL, fun S1 e hS1 he => ?_⟩⟩
  have he : e = wrongJ l := he
  subst he
  by_cases hw : wrongJ l = 0
  · obtain ⟨hf, h8⟩ := wrong_zero hw
    rw [callsJ_eq, List.length_map] at h8
    rw [if_pos hw]
    refine offE (bne_eq_false_iff_eq.2 hw) ?_
    refine ⟨[], [], Nat, [7, 8, 9] ++ List.range' 19 15, fun i => [(18, rI i)], fun _ => [], fun _ => S1, fun i => i ≤ l.length ∧ ∀ j < i, (leastJ D (l.take (j + 1))).isNone = false, fun i => l.length - i, ?_⟩
    refine And.intro (Exists.intro 0 (And.intro (And.intro (And.intro ?_ rfl) (And.intro rfl (Store.le_refl _))) ⟨Nat.zero_le _, fun j h => absurd h (Nat.not_lt_zero _)⟩)) ?_
    · repeat' first | exact trivial | exact rfl | refine And.intro ?_ ?_
    rintro i ⟨hi, hinv⟩
    have i0 : (0 : Int) ≤ ((i : Nat) : Int) := Int.natCast_nonneg _
    refine And.intro (fun h => ?_) (fun h => ?_)
    · have hil : i < l.length := by
        have : ((i : Nat) : Int) < ((p.2.1 : Nat) : Int) := of_decide_eq_true h
        omega
      refine ⟨((i + 1 : Nat) : Int), wrap_i64 (by omega) (by omega), Int.natCast_nonneg _, by show i + 1 ≤ p.2.2; omega, ⟨_, rfl, rfl, rfl⟩, .inl ⟨_, _, _, least_spec S1 D (p.1, i + 1, p.2.2) (l.take (i + 1)) ((hL.le hS1).take hil) (form_take hf _) (by have := csJ_take l (i + 1); omega), fun S2 x hS2 hx => ?_⟩⟩
      obtain ⟨xq, xb⟩ := x
      have hx : OPost (leastJ D (l.take (i + 1))) (l.take (i + 1)).length S2 (xq, xb) := hx.1
      unfold OPost at hx
      cases ha : leastJ D (l.take (i + 1)) with
      | none =>
        rw [ha] at hx
        obtain ⟨rfl, -⟩ := hx
        refine onT ⟨rfl, ((i : Int), 0), rfl, ?_⟩
        show ((i : Int), (0 : Int)) = (blameJ D l, 0)
        have : blameJ D l = (i : Int) := by
          unfold blameJ
          rw [find_first hil hinv (by rw [ha]; rfl)]
        rw [this]
      | some is =>
        rw [ha] at hx
        obtain ⟨rfl, -⟩ := hx
        refine onF ⟨((i + 1 : Nat) : Int), wrap_i64 (by omega) (by omega), i + 1, ⟨⟨?_, rfl⟩, rfl, hS2⟩, ⟨hil, fun j hj => ?_⟩, by show l.length - (i + 1) < l.length - i; omega⟩
        · repeat' first | exact trivial | exact rfl | refine And.intro ?_ ?_
        · by_cases e : j = i
          · rw [e, ha]; rfl
          · exact hinv j (by omega)
    · have hil : i = l.length := by
        have : ¬ ((i : Nat) : Int) < ((p.2.1 : Nat) : Int) := of_decide_eq_false h
        omega
      subst hil
      refine ⟨rfl, (-1, 0), rfl, ?_⟩
      show ((-1 : Int), (0 : Int)) = (blameJ D l, 0)
      have : blameJ D l = -1 := by
        unfold blameJ
        rw [List.find?_eq_none.2 fun j hj => by rw [hinv j (List.mem_range.1 hj)]; simp]
      rw [this]
  · rw [if_neg hw]
    exact onE (bne_iff_ne.2 hw) ⟨rfl, (-1, wrongJ l), rfl, rfl⟩
end Go.Proofs.YtpfghndflegbaaaDoor
