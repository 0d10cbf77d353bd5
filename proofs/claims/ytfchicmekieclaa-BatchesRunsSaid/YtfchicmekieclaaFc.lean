/- law54: maps. -/
import Derived.Test.YtfchicmekieclaaFb
namespace Go.Proofs.Ytfchicmekieclaa
open Go Go.Vc
set_option maxRecDepth 100000
@[reducible] def M := List (Int × Int)
@[reducible] def get (m : M) (k : Int) : Option Int := mget (.int .i64) m k
@[reducible] def put (m : M) (k v : Int) : M := mset (.int .i64) m k v
@[reducible] def once (m : M) : Prop := keysOnce (k := .int .i64) m

set_option maxHeartbeats 1000000 in
theorem copy_spec (S : Store) (b : Option Nat) (src : M) (hm : MapRd S b (.int .i64) (.int .i64) src) (hs : once src) (es0 : M) (h0 : once es0) :
    SpecR Try.prog 24 S [.map (.int .i64) (.int .i64) es0] [.c (.ref 0), .c (.v (.map b))] (A := M) (fun _ => .tup []) (fun es => [.map (.int .i64) (.int .i64) es])
      (fun _ es => once es ∧ ∀ k, get es k = (get src k).or (get es0 k)) := by
  refine specR_of_vc agrees Try.func24 rfl (fun _ _ _ _ h => h) ?_
  obtain ⟨ents, clock, hit, hio⟩ := iter_of hm
  refine ⟨ents, clock, src, hit, [], [], M × M × Option (Int × Int), [4, 5, 8, 9, 10, 11, 12, 13, 14, 15], fun _ => [], fun a => [.map (.int .i64) (.int .i64) a.1, .iter (.int .i64) (.int .i64) b ents clock a.2.1 a.2.2], fun _ => S,
    fun a => once a.1 ∧ once a.2.1 ∧ (∀ p ∈ a.2.1, p ∈ src) ∧ ∀ k, get a.1 k = if get a.2.1 k = none then (get src k).or (get es0 k) else get es0 k, fun a => a.2.1.length, ?_⟩
  refine And.intro (Exists.intro (es0, src, none) (And.intro (And.intro (And.intro ?_ rfl) (And.intro rfl (Store.le_refl _))) ⟨h0, hs, fun _ h => h, fun k => ?_⟩)) ?_
  · repeat' first | exact trivial | exact rfl | refine And.intro ?_ ?_
  · show get es0 k = _
    by_cases h : get src k = none
    · rw [if_pos h, h]; rfl
    · rw [if_neg h]
  rintro ⟨cur, left, ce⟩ ⟨h1, h2, h3, h4⟩
  refine And.intro hio (And.intro (fun hl => ?_) fun pre p post hl => ?_)
  · refine onF ⟨rfl, cur, rfl, rfl, rfl, h1, fun k => ?_⟩
    have hl' : left = [] := hl
    subst hl'
    exact h4 k
  · have hl' : left = pre ++ p :: post := hl
    subst hl'
    refine onT ⟨hio, p.1, p.2, rfl, rfl, trivial, (put cur p.1 p.2, pre ++ post, some p), ⟨⟨?_, rfl⟩, rfl, Store.le_refl _⟩, ⟨once_mset rfl h1 _ _, once_out h2, fun q hq => h3 q ?_, fun k => ?_⟩, ?_⟩
    · repeat' first | exact trivial | exact rfl | refine And.intro ?_ ?_
    · rcases List.mem_append.1 hq with hq | hq
      · exact List.mem_append_left _ hq
      · exact List.mem_append_right _ (List.mem_cons_of_mem _ hq)
    · show get (put cur p.1 p.2) k = _
      have e1 := mget_mset (k := .int .i64) rfl cur p.1 p.2 k
      have e2 := mget_out (k := .int .i64) rfl h2 k
      have e3 := h4 k
      have hsrc : get src p.1 = some p.2 := (mget_some (k := .int .i64) rfl hs).2 (h3 p (by simp))
      simp only [get, put] at *
      rw [e1]
      simp only [e2]
      by_cases hk : Shape.eq (.int .i64) k p.1 = true
      · have hk' := (key_eq (k := .int .i64) rfl k p.1).1 hk
        rw [if_pos hk, if_pos hk, if_pos rfl, hk', hsrc]
        rfl
      · rw [if_neg hk, if_neg hk, e3]
    · show (pre ++ post).length < (pre ++ p :: post).length
      simp
end Go.Proofs.Ytfchicmekieclaa
