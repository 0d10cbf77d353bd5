/- law02: the view: Below, Same. -/
import Derived.Test.YtjcbbmibcbiedaaFe
namespace Go.Proofs.Ytjcbbmibcbiedaa
open Go Go.Vc Go.Sort Go.RowKit Go.Maps
set_option maxRecDepth 100000

theorem rBelow_perm {es m k : List (Int × Int)} (h : es.Perm m) : rBelow es k = rBelow m k := by
  rw [Bool.eq_iff_iff, rBelow, rBelow, List.all_eq_true, List.all_eq_true]
  exact ⟨fun h1 p hp => h1 p (h.mem_iff.2 hp), fun h1 p hp => h1 p (h.mem_iff.1 hp)⟩

set_option maxHeartbeats 1000000 in
theorem below_spec (S : Store) (a b : Option Nat) (m k : List (Int × Int)) (hv : VIs S a m) (hw : VIs S b k) :
    Pure Try.prog 18 S [vV a, vV b] rB (fun _ x => x = rBelow m k) := by
  refine pure_vc agrees Try.func18 rfl rfl (fun S S' q hle h => h) ?_
  obtain ⟨es, h1, h2, h3, -⟩ := vis_at hv
  obtain ⟨fs, k1, k2, k3, k4⟩ := vis_at hw
  obtain ⟨ents, clock, hit, hio⟩ := iter_of h1
  refine ⟨ents, clock, es, hit, ?_⟩
  refine ⟨[], [], List (Int × Int) × Option (Int × Int), [5, 6] ++ List.range' 10 40, fun _ => [], fun z => [.box [.v (.map a)], .box [.v (.map b)], .iter shI shI a ents clock z.1 z.2], fun _ => S,
    fun z => (∀ p ∈ z.1, p ∈ es) ∧ ∀ p ∈ es, p ∉ z.1 → p.2 ≤ rAt k p.1, fun z => z.1.length, ?_⟩
  refine And.intro (Exists.intro (es, none) (And.intro (And.intro (And.intro ?_ rfl) (And.intro rfl (Store.le_refl _))) ⟨fun _ h => h, fun p h1 h2 => absurd h1 h2⟩)) ?_
  · repeat' first | exact trivial | exact rfl | refine And.intro ?_ ?_
  rintro ⟨left, ce⟩ ⟨hle, hdone⟩
  refine And.intro hio (And.intro (fun hl => ?_) fun (pre : List (Int × Int)) (p : Int × Int) (post : List (Int × Int)) hl => ?_)
  · have hl' : left = [] := hl
    subst hl'
    refine onF ⟨rfl, true, rfl, ?_⟩
    show true = rBelow m k
    rw [← rBelow_perm h3, rBelow]
    symm
    rw [List.all_eq_true]
    exact fun p hp => decide_eq_true (hdone p hp (by simp))
  · have hl' : left = pre ++ p :: post := hl
    subst hl'
    have hpm : p ∈ es := hle p (by simp)
    refine onT ⟨hio, fs, k1, p.1, (0 : Int), rfl, rfl, ?_⟩
    refine And.intro (fun h0 => ?_) (fun h0 => ?_)
    · have h0' : p.2 > (mget shI fs p.1).getD 0 := of_decide_eq_true h0
      rw [k4] at h0'
      refine ⟨rfl, false, rfl, ?_⟩
      show false = rBelow m k
      rw [← rBelow_perm h3, rBelow]
      symm
      rw [List.all_eq_false]
      exact ⟨p, hpm, by simp; omega⟩
    · have h0' : ¬ p.2 > (mget shI fs p.1).getD 0 := of_decide_eq_false h0
      rw [k4] at h0'
      refine ⟨(pre ++ post, some p), ⟨⟨?_, rfl⟩, rfl, Store.le_refl _⟩, ⟨fun q hq => hle q ?_, fun q hq hn => ?_⟩, ?_⟩
      · repeat' first | exact trivial | exact rfl | refine And.intro ?_ ?_
      · rcases List.mem_append.1 hq with hq | hq
        · exact List.mem_append_left _ hq
        · exact List.mem_append_right _ (List.mem_cons_of_mem _ hq)
      · by_cases e : q = p
        · rw [e]; omega
        · refine hdone q hq fun hc => hn ?_
          rcases List.mem_append.1 hc with hc | hc
          · exact List.mem_append_left _ hc
          · rcases List.mem_cons.1 hc with hc | hc
            · exact absurd hc e
            · exact List.mem_append_right _ hc
      · show (pre ++ post).length < (pre ++ p :: post).length
        simp

theorem perm_of_sub {α : Type} : ∀ {m k : List α}, m.Nodup → (∀ p ∈ m, p ∈ k) → k.length ≤ m.length → m.Perm k
  | [], k, _, _, hl => by
    have : k = [] := List.eq_nil_of_length_eq_zero (Nat.le_zero.1 hl)
    rw [this]
  | p :: m, k, hn, h, hl => by
    rw [List.nodup_cons] at hn
    obtain ⟨k1, k2, rfl⟩ := List.append_of_mem (h p (by simp))
    have ih := perm_of_sub (k := k1 ++ k2) hn.2 (fun q hq => by
      have := h q (by simp [hq])
      rcases List.mem_append.1 this with h1 | h1
      · exact List.mem_append_left _ h1
      · rcases List.mem_cons.1 h1 with h1 | h1
        · exact absurd (h1 ▸ hq) hn.1
        · exact List.mem_append_right _ h1) (by simp at hl ⊢; omega)
    exact (ih.cons p).trans List.perm_middle.symm

theorem sp_eq_of_sub {m k : List (Int × Int)} (hm : SP m) (hk : SP k) (hl : m.length = k.length) (h : ∀ p ∈ m, p ∈ k) : m = k := by
  have hnd : m.Nodup := hm.1.imp fun {a b} h e => by rw [e] at h; omega
  have hp : m.Perm k := perm_of_sub hnd h (by omega)
  exact hp.eq_of_pairwise (le := fun a b => a.1 < b.1) (fun a b _ _ h1 h2 => by omega) hm.1 hk.1

set_option maxHeartbeats 1000000 in
theorem equal_spec (S : Store) (a b : Option Nat) (m k : List (Int × Int)) (hv : VIs S a m) (hw : VIs S b k) :
    Pure Try.prog 25 S [.map a, .map b] rB (fun _ x => x = decide (m = k)) := by
  refine pure_vc agrees Try.func25 rfl rfl (fun S S' q hle h => h) ?_
  obtain ⟨es, h1, h2, h3, -⟩ := vis_at hv
  obtain ⟨fs, k1, k2, k3, k4⟩ := vis_at hw
  have e1 := h3.length_eq
  have e2 := k3.length_eq
  refine ⟨es, h1, fs, k1, ?_⟩
  refine And.intro (fun h0 => ?_) (fun h0 => ?_)
  · refine ⟨rfl, false, rfl, ?_⟩
    show false = decide (m = k)
    symm
    rw [decide_eq_false_iff_not]
    rintro rfl
    have h0' : (((List.length (α := Int × Int) es : Nat) : Int) != ((List.length (α := Int × Int) fs : Nat) : Int)) = true := h0
    rw [bne_iff_ne] at h0'
    omega
  have hlen : m.length = k.length := by
    have h0' : (((List.length (α := Int × Int) es : Nat) : Int) != ((List.length (α := Int × Int) fs : Nat) : Int)) = false := h0
    rw [bne_eq_false_iff_eq] at h0'
    omega
  obtain ⟨ents, clock, hit, hio⟩ := iter_of h1
  refine ⟨ents, clock, es, hit, ?_⟩
  refine ⟨[], [], List (Int × Int) × Option (Int × Int), List.range' 5 10 ++ List.range' 16 40, fun _ => [], fun z => [.iter shI shI a ents clock z.1 z.2], fun _ => S,
    fun z => (∀ p ∈ z.1, p ∈ es) ∧ ∀ p ∈ es, p ∉ z.1 → p ∈ k, fun z => z.1.length, ?_⟩
  refine And.intro (Exists.intro (es, none) (And.intro (And.intro (And.intro ?_ rfl) (And.intro rfl (Store.le_refl _))) ⟨fun _ h => h, fun p h1 h2 => absurd h1 h2⟩)) ?_
  · repeat' first | exact trivial | exact rfl | refine And.intro ?_ ?_
  rintro ⟨left, ce⟩ ⟨hle, hdone⟩
  refine And.intro hio (And.intro (fun hl => ?_) fun (pre : List (Int × Int)) (p : Int × Int) (post : List (Int × Int)) hl => ?_)
  · have hl' : left = [] := hl
    subst hl'
    refine onF ⟨rfl, true, rfl, ?_⟩
    show true = decide (m = k)
    symm
    exact decide_eq_true (sp_eq_of_sub hv.2 hw.2 hlen fun p hp => hdone p (h3.mem_iff.2 hp) (by simp))
  · have hl' : left = pre ++ p :: post := hl
    subst hl'
    have hpm : p ∈ es := hle p (by simp)
    refine onT ⟨hio, fs, k1, p.1, (0 : Int), rfl, rfl, ?_⟩
    have out : ((mget shI fs p.1).isSome = false ∨ p.2 ≠ (mget shI fs p.1).getD 0) → false = decide (m = k) := fun h => by
      symm
      rw [decide_eq_false_iff_not]
      rintro rfl
      have : mget shI fs p.1 = some p.2 := (mget_some (k := shI) rfl k2).2 (k3.mem_iff.2 (h3.mem_iff.1 hpm))
      rw [this] at h
      rcases h with h | h
      · cases h
      · exact h rfl
    refine And.intro (fun h0 => ?_) (fun h0 => ?_)
    · exact onT ⟨rfl, false, rfl, out (.inl (by
        have h0' : (!(mget shI fs p.1).isSome) = true := h0
        simpa using h0'))⟩
    have h0' : (!(mget shI fs p.1).isSome) = false := h0
    refine And.intro (fun h9 => ?_) (fun h9 => ?_)
    · have h9' : (p.2 != (mget shI fs p.1).getD 0) = true := h9
      exact ⟨rfl, false, rfl, out (.inr (bne_iff_ne.1 h9'))⟩
    have h9' : (p.2 != (mget shI fs p.1).getD 0) = false := h9
    have hpk : p ∈ k := by
      rw [bne_eq_false_iff_eq] at h9'
      cases hg : mget shI fs p.1 with
      | none => rw [hg] at h0'; cases h0'
      | some v =>
        rw [hg] at h9'
        have h10 := (mget_some (k := shI) rfl k2).1 hg
        have : p = (p.1, v) := by rw [show p = (p.1, p.2) from rfl, h9']; rfl
        rw [this]
        exact k3.mem_iff.1 h10
    refine ⟨(pre ++ post, some p), ⟨⟨?_, rfl⟩, rfl, Store.le_refl _⟩, ⟨fun q hq => hle q ?_, fun q hq hn => ?_⟩, ?_⟩
    · repeat' first | exact trivial | exact rfl | refine And.intro ?_ ?_
    · rcases List.mem_append.1 hq with hq | hq
      · exact List.mem_append_left _ hq
      · exact List.mem_append_right _ (List.mem_cons_of_mem _ hq)
    · by_cases e : q = p
      · rw [e]; exact hpk
      · refine hdone q hq fun hc => hn ?_
        rcases List.mem_append.1 hc with hc | hc
        · exact List.mem_append_left _ hc
        · rcases List.mem_cons.1 hc with hc | hc
          · exact absurd hc e
          · exact List.mem_append_right _ hc
    · show (pre ++ post).length < (pre ++ p :: post).length
      simp

theorem same_spec (S : Store) (a b : Option Nat) (m k : List (Int × Int)) (hv : VIs S a m) (hw : VIs S b k) :
    Pure Try.prog 22 S [vV a, vV b] rB (fun _ x => x = decide (m = k)) := by
  refine pure_vc agrees Try.func22 rfl rfl (fun S S' q hle h => h) ?_
  exact ⟨⟨_, rfl, rfl, rfl⟩, .inl ⟨_, _, _, equal_spec S a b m k hv hw, fun S1 x hS1 hx => ⟨rfl, x, rfl, hx⟩⟩⟩
end Go.Proofs.Ytjcbbmibcbiedaa
