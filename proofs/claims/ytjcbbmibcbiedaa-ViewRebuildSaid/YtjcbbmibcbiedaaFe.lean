/- law02: the view: With. -/
import Derived.Test.YtjcbbmibcbiedaaFf
namespace Go.Proofs.Ytjcbbmibcbiedaa
open Go Go.Vc Go.Sort Go.RowKit Go.Maps
set_option maxRecDepth 100000

theorem clone_spec (S : Store) (b : Nat) (es : List (Int × Int)) (hm : MapRd S (some b) shI shI es) : SpecN Try.prog 24 S [.map (some b)] (A := Unit) (fun _ => .c (.ref 0)) (fun _ => [.map shI shI es]) (fun _ _ => True) :=
  specN_clone hm fun ents clock w hb => AnyW.maps_Clone Try.layClone b ents clock w hb
theorem clone_nil_spec (S : Store) : Pure Try.prog 24 S [.map none] (A := Unit) (fun _ => .c (.v (.map none))) (fun _ _ => True) :=
  pure_clone_nil fun w => AnyW.maps_Clone_nil Try.layClone w

set_option maxHeartbeats 1000000 in
theorem with_spec (S : Store) (b : Option Nat) (m : List (Int × Int)) (l n : Int) (hv : VIs S b m) :
    Pure Try.prog 16 S [vV b, .int .i64 l, .int .i64 n] (A := Option Nat) (fun b => .agg [.v (.map b)]) (fun S' b => VIs S' b (rWith m l n)) := by
  refine pure_vc agrees Try.func16 rfl rfl (fun S S' q hle h => h.le hle) ?_
  obtain ⟨es, h1, h2, h3, h4⟩ := vis_at hv
  have back : (l < 0 ∨ l ≥ 4096 ∨ n ≤ rAt m l) → VIs S b (rWith m l n) := fun h => by
    rw [rWith, if_pos h]; exact hv
  refine And.intro (fun h0 => ?_) (fun h0 => ?_)
  · exact onT (onT ⟨rfl, b, rfl, back (.inl (of_decide_eq_true h0))⟩)
  refine And.intro (fun h5 => ?_) (fun h5 => ?_)
  · exact onT ⟨rfl, b, rfl, back (.inr (.inl (of_decide_eq_true h5)))⟩
  refine ⟨es, h1, l, (0 : Int), rfl, rfl, ?_⟩
  refine And.intro (fun h6 => ?_) (fun h6 => ?_)
  · have h6' : n ≤ (mget shI es l).getD 0 := of_decide_eq_true h6
    rw [h4] at h6'
    exact ⟨rfl, b, rfl, back (.inr (.inr h6'))⟩
  have h6' : ¬ n ≤ (mget shI es l).getD 0 := of_decide_eq_false h6
  rw [h4] at h6'
  have e0 : rWith m l n = putW m l n := by
    rw [rWith, if_neg]
    rintro (h | h | h)
    · exact absurd h (of_decide_eq_false h0)
    · exact absurd h (of_decide_eq_false h5)
    · exact h6' h
  have hl0 : 0 ≤ l := by have : ¬ l < 0 := of_decide_eq_false h0; omega
  have hl1 : l < 4096 := by have : ¬ l ≥ 4096 := of_decide_eq_false h5; omega
  have hn0 : 0 < n := by
    have := rAt_nonneg hv.2 l
    omega
  have hsp := putW_sp hv.2 hl0 hl1 hn0
  have hperm : (mset shI es l n).Perm (putW m l n) := by
    refine perm_of_mget (once_mset rfl h2 l n) hsp.nodup fun x => ?_
    rw [mget_mset (k := shI) rfl, mget_perm h3 hv.2.nodup]
    have hx : (mget shI (putW m l n) x) = if x = l then some n else mget shI m x := by
      split
      · rename_i e
        exact (mget_some (k := shI) rfl hsp.nodup).2 (by rw [e]; exact putW_mem.2 (.inl rfl))
      · rename_i e
        cases hm : mget shI m x with
        | none =>
          refine (mget_none (k := shI) rfl).2 fun hc => ?_
          obtain ⟨p, hp, rfl⟩ := List.mem_map.1 hc
          rcases putW_mem.1 hp with rfl | ⟨hp, -⟩
          · exact e rfl
          · exact (mget_none (k := shI) rfl).1 hm (List.mem_map_of_mem hp)
        | some v =>
          rw [mget_some (k := shI) rfl hv.2.nodup] at hm
          exact (mget_some (k := shI) rfl hsp.nodup).2 (putW_mem.2 (.inr ⟨hm, e⟩))
    rw [hx]
    by_cases e : x = l
    · rw [if_pos e, if_pos ((key_eq (k := shI) rfl x l).2 e)]
    · rw [if_neg e, if_neg fun h => e ((key_eq (k := shI) rfl x l).1 h)]
  rw [e0]
  cases b with
  | none =>
    refine ⟨⟨_, rfl, rfl, rfl⟩, .inl ⟨_, _, _, clone_nil_spec S, fun S1 _ hS1 _ => ?_⟩⟩
    have he : es = [] := h1
    subst he
    refine onT ⟨l, n, rfl, rfl, trivial, fun b' S' hle hm => ?_⟩
    exact ⟨rfl, some b', rfl, ⟨_, hm, hperm⟩, hsp⟩
  | some b =>
    refine ⟨⟨_, rfl, rfl, rfl⟩, .inr (.inr (.inr (.inr ⟨_, _, _, _, clone_spec S b es h1, fun S1 _ hS1 _ => ?_⟩)))⟩
    refine onF ⟨l, n, rfl, rfl, trivial, fun b' S' hle hm => ?_⟩
    exact ⟨rfl, some b', rfl, ⟨_, hm, hperm⟩, hsp⟩
end Go.Proofs.Ytjcbbmibcbiedaa
