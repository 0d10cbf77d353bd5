/- law54: Same, Merge. -/
import Derived.Test.YtfchicmekieclaaFd
namespace Go.Proofs.Ytfchicmekieclaa
open Go Go.Vc
set_option maxRecDepth 100000

/-- As many entries, all found again: the same answers. -/
theorem same_of_sub {m n : M} (hm : once m) (hl : m.length = n.length) (h : ∀ k v, get m k = some v → get n k = some v) (k : Int) : get m k = get n k := by
  cases hg : get m k with
  | some v => rw [h k v hg]
  | none =>
    symm
    refine Classical.byContradiction fun hne => ?_
    have hk : k ∈ n.map (·.1) := Classical.byContradiction fun e => hne ((mget_none (k := .int .i64) rfl).2 e)
    have hk' : k ∉ m.map (·.1) := (mget_none (k := .int .i64) rfl).1 hg
    have hsub : ∀ x ∈ k :: m.map (·.1), x ∈ n.map (·.1) := by
      intro x hx
      rcases List.mem_cons.1 hx with rfl | hx
      · exact hk
      · refine Classical.byContradiction fun e => ?_
        have h1 : get n x = none := (mget_none (k := .int .i64) rfl).2 e
        have h2 : get m x ≠ none := fun e => (mget_none (k := .int .i64) rfl).1 e hx
        cases h3 : get m x with
        | none => exact h2 h3
        | some v => rw [h x v h3] at h1; cases h1
    have := List.Nodup.length_le_of_subset (List.nodup_cons.2 ⟨hk', hm⟩) hsub
    simp at this
    omega

set_option maxHeartbeats 4000000 in
theorem same_spec (S : Store) (a b : Option Nat) (m n : M) (hm : MapRd S a (.int .i64) (.int .i64) m) (h1m : once m) (hn : MapRd S b (.int .i64) (.int .i64) n) (h1n : once n) :
    Pure Try.prog 12 S [.map a, .map b] rB (fun _ x => x = true ↔ ∀ k, get m k = get n k) := by
  refine pure_vc agrees Try.func12 rfl rfl (fun S S' q hle h => h) ?_
  refine ⟨m, hm, n, hn, fun h => ?_, fun h => ?_⟩
  · refine ⟨rfl, false, rfl, ?_⟩
    have h' : ((m.length : Int) != (n.length : Int)) = true := h
    show false = true ↔ _
    refine ⟨fun e => Bool.noConfusion e, fun e => ?_⟩
    have := same_length (k := .int .i64) rfl h1m h1n (fun y => by have := e y; simp only [get] at this; rw [this])
    simp [this] at h'
  have hlen : m.length = n.length := by
    have h' : ((m.length : Int) != (n.length : Int)) = false := h
    have : (m.length : Int) = n.length := by simpa using h'
    omega
  obtain ⟨ents, clock, hit, hio⟩ := iter_of hm
  refine ⟨ents, clock, m, hit, [], [], M × Option (Int × Int), [5, 6, 7, 8, 16, 17, 18, 19, 20, 21, 22, 23, 24, 25, 26, 27, 28, 29, 30, 31, 32, 33], fun _ => [], fun a' => [.iter (.int .i64) (.int .i64) a ents clock a'.1 a'.2], fun _ => S,
    fun a' => once a'.1 ∧ (∀ p ∈ a'.1, p ∈ m) ∧ ∀ k v, get m k = some v → get a'.1 k = none → get n k = some v, fun a' => a'.1.length, ?_⟩
  refine And.intro (Exists.intro (m, none) (And.intro (And.intro (And.intro ?_ rfl) (And.intro rfl (Store.le_refl _))) ⟨h1m, fun _ h => h, fun k v e1 e2 => by rw [e1] at e2; cases e2⟩)) ?_
  · repeat' first | exact trivial | exact rfl | refine And.intro ?_ ?_
  rintro ⟨left, ce⟩ ⟨h1, h2, h3⟩
  refine And.intro hio (And.intro (fun hl => ?_) fun pre p post hl => ?_)
  · have hl' : left = [] := hl
    subst hl'
    refine onF ⟨rfl, true, rfl, ?_⟩
    exact ⟨fun _ k => same_of_sub h1m hlen (fun k v e => h3 k v e rfl) k, fun _ => rfl⟩
  · have hl' : left = pre ++ p :: post := hl
    subst hl'
    have hp : get m p.1 = some p.2 := (mget_some (k := .int .i64) rfl h1m).2 (h2 p (by simp))
    refine onT ⟨hio, n, hn, p.1, (0 : Int), rfl, rfl, ?_⟩
    have hno : ∀ x : Bool, x = false → get n p.1 ≠ some p.2 → (x = true ↔ ∀ k, get m k = get n k) := by
      rintro x rfl hne
      exact ⟨fun e => Bool.noConfusion e, fun e => absurd ((e p.1).symm.trans hp) hne⟩
    refine And.intro (fun e => onT ⟨rfl, false, rfl, hno _ rfl ?_⟩) (fun e => ?_)
    · have e' : (!(get n p.1).isSome) = true := e
      intro e2
      rw [e2] at e'
      cases e'
    have e' : (!(get n p.1).isSome) = false := e
    refine And.intro (fun e2 => ⟨rfl, false, rfl, hno _ rfl ?_⟩) (fun e2 => ?_)
    · have e2' : ((get n p.1).getD 0 != p.2) = true := e2
      intro e3
      rw [e3] at e2'
      simp at e2'
    · have e2' : ((get n p.1).getD 0 != p.2) = false := e2
      have hp' : get n p.1 = some p.2 := by
        cases hq : get n p.1 with
        | none => rw [hq] at e'; cases e'
        | some v => rw [hq] at e2'; simp at e2'; rw [e2']
      refine ⟨(pre ++ post, some p), ⟨⟨?_, rfl⟩, rfl, Store.le_refl _⟩, ⟨once_out h1, fun q hq => h2 q ?_, fun k v k1 k2 => ?_⟩, ?_⟩
      · repeat' first | exact trivial | exact rfl | refine And.intro ?_ ?_
      · rcases List.mem_append.1 hq with hq | hq
        · exact List.mem_append_left _ hq
        · exact List.mem_append_right _ (List.mem_cons_of_mem _ hq)
      · have k3 := mget_out (k := .int .i64) rfl h1 k
        simp only [get] at k2
        rw [k3] at k2
        by_cases hk : Shape.eq (.int .i64) k p.1 = true
        · have hk' := (key_eq (k := .int .i64) rfl k p.1).1 hk
          subst hk'
          rw [hp] at k1
          rw [← k1]
          exact hp'
        · rw [if_neg hk] at k2
          exact h3 k v k1 k2
      · show (pre ++ post).length < (pre ++ p :: post).length
        simp
end Go.Proofs.Ytfchicmekieclaa
