/- The library's slices.Sort and slices.Compact at []int, as calls that are handed a row: out of the kit's contracts. -/
import Derived.Test.YtpeehenohdlfdaaGreatDoorVcN
import Derived.Sort.OwnSortedInts
import Derived.Lib.SlicesCompact

namespace Go.Vc
open Go Go.Sort
variable {P : Program} {w0 w w' : World} {B : Base} {ρ : List Value} {r : List Res} {S : Store}

theorem encs_int (xs : List Int) : (Shape.int .i64).encs xs = xs.map (Value.int .i64) := by
  induction xs with
  | nil => rfl
  | cons x xs ih => simp only [Shape.encs, List.flatMap_cons, List.map_cons] at ih ⊢; rw [ih]; rfl

/-- A row's content in the store, behind its freezing. -/
theorem row_with {sh : Shape} {e : TypeId} {xs : List sh.T} {h : Value} (hh : (Res.row sh e xs).holds ρ h w) : RowIs (S.with w ((Res.row sh e xs).foot h)) h sh xs := by
  obtain ⟨how, hok⟩ := hh
  rcases how.2 with ⟨hv, hn⟩ | ⟨g, cap, cur, hv, _, hg, hnc, hcm, hcs, htake⟩
  · exact ⟨none, 0, by rw [hn]; exact hv, .inl (List.eq_nil_of_length_eq_zero hn), hok⟩
  · refine ⟨some ⟨g, 0, none⟩, cap, hv, .inr ⟨g, 0, rfl, ?_⟩, hok⟩
    intro j u hu
    have := how.cells (g := g) (by rw [hv]; rfl) j u hu
    simp only [Store.with, if_pos (show (Res.row sh e xs).foot h g by rw [hv]; rfl), Store.of]
    rw [Addr.add_lit] at this
    exact this

def sorted (xs : List Int) : List Int := xs.mergeSort fun x y => decide (x ≤ y)
theorem sorted_length (xs : List Int) : (sorted xs).length = xs.length := by simp [sorted]

theorem specK_sort {f : FuncId} {e : TypeId} {xs : List Int} (hx : xs.length < 4611686018427387904)
    (h1 : ∀ (blk off cap : Nat) (zs : List Int) (w : World), Holds (Value.int .i64) w blk off zs.toArray → blk < w.heap.size → zs.length < 4611686018427387904 →
      Calls P f #[.slice (some ⟨blk, off, none⟩) zs.length cap] w fun e w' => e = .returned (.tuple #[]) ∧ ∃ n os, w' = grow (putRow (Value.int .i64) (Sort.ahead w n) blk off (zs.mergeSort fun x y => decide (x ≤ y)).toArray) os)
    (h0 : ∀ (p : Option Addr) (cap : Nat) (w : World), Calls P f #[.slice p 0 cap] w fun e w' => e = .returned (.tuple #[]) ∧ w' = w) :
    SpecK P f S [.row (.int .i64) e xs] [.c (.ref 0)] (A := Unit) (fun _ => .tup []) (fun _ => [.row (.int .i64) e (sorted xs)]) (fun _ _ => True) := by
  intro w ρ vs hst hvs
  obtain ⟨v, hv, rfl⟩ : ∃ v, ρ[0]? = some v ∧ vs = [v] := by
    match vs, hvs with
    | [v], ⟨h, _⟩ => exact ⟨v, h.1, rfl⟩
  have hres := hst.res 0 _ rfl
  obtain ⟨g0, hg0, how, hok⟩ := hres
  rw [hv] at hg0
  cases hg0
  rw [encs_int] at how
  rcases how.2 with ⟨rfl, hn⟩ | ⟨g, cap, cur, rfl, _, hg, hnc, hcm, hcs, htake⟩
  · have hx : xs = [] := List.eq_nil_of_length_eq_zero hn
    subst hx
    refine (h0 none 0 w).mono ?_
    rintro e' w' ⟨rfl, rfl⟩
    have hs0 : Stab w' ⟨Owned [.row (.int .i64) e []] ρ, S, ρ⟩ ρ [.row (.int .i64) e (sorted [])] S w' := by
      rw [show sorted [] = [] by simp [sorted]]; exact hst
    exact ⟨_, (), S, rfl, ⟨[], rfl, trivial⟩, rfl, hs0, Store.le_refl _, fun _ _ _ => ⟨fun _ => rfl, rfl⟩, trivial⟩
  · rw [show (Shape.int .i64).n = 1 from rfl, Nat.mul_one] at htake
    refine (h1 g 0 cap xs w (holds_of_blockI hg htake) (Array.getElem?_eq_some_iff.1 hg).1 hx).mono ?_
    rintro e' w' ⟨rfl, n, os, rfl⟩
    have hgb := grownBy_sortedI (w := w) (g := g) (n := n) (os := os) (sorted xs).toArray
    refine ⟨_, (), S, rfl, ⟨[], rfl, trivial⟩, rfl, ?_, Store.le_refl _, fun _ _ _ => ⟨fun _ => rfl, rfl⟩, trivial⟩
    refine hst.turnG (i := 0) (x := .row (.int .i64) e xs) rfl rfl hv ?_ hgb.size hgb.os hgb.tape hgb.output ?_ ?_
    · intro c hc hne
      exact hgb.block c hc fun e => hne (by simp only [Res.foot, blk]; exact e.symm ▸ rfl)
    · intro c hc
      refine ⟨?_, .inl hc⟩
      have : c = g := by simpa [Res.foot, blk] using hc.symm
      subst this
      have := (Array.getElem?_eq_some_iff.1 hg).1
      exact Nat.lt_of_lt_of_le this hgb.size
    · refine ⟨?_, fun _ _ => trivial⟩
      have := ownsRow_sortedI (n := n) (os := os) (sorted_length xs) (Nat.zero_le g) hg hnc hcm hcs
      rw [encs_int]
      rw [sorted_length]
      exact this

theorem compact_length (xs : List Int) : (Lib.compact xs).length ≤ xs.length := by
  unfold Lib.compact Lib.compactUpTo
  rw [List.length_map]
  have := List.length_filter_le (Lib.keeps xs.toArray) (List.range xs.length)
  simpa using this

theorem specR_compact {f : FuncId} {e : TypeId} {xs : List Int}
    (h1 : ∀ (blk off cap : Nat) (zs : List Int) (w : World), Holds (Value.int .i64) w blk off zs.toArray → zs.length ≤ 9223372036854775807 → zs.length ≤ cap →
      Calls P f #[.slice (some ⟨blk, off, none⟩) zs.length cap] w fun e w' => e = .returned (.slice (some ⟨blk, off, none⟩) (Lib.compact zs).length cap) ∧
        ∃ q, w' = putRow (Value.int .i64) (Sort.ahead w q) blk off (Lib.compact zs ++ List.replicate (zs.length - (Lib.compact zs).length) 0).toArray)
    (h0 : ∀ (p : Option Addr) (cap : Nat) (w : World), Calls P f #[.slice p 0 cap] w fun e w' => e = .returned (.slice p 0 cap) ∧ w' = w) :
    SpecR P f S [.row (.int .i64) e xs] [.c (.ref 0)] (A := Option Addr × Nat × Nat) (fun q => .c (.v (.slice q.1 q.2.1 q.2.2))) (fun _ => [.gone])
      (fun S' q => q.2.1 = (Lib.compact xs).length ∧ RowRd S' q.1 (.int .i64) (Lib.compact xs)) := by
  intro w ρ vs hst hvs
  obtain ⟨v, hv, rfl⟩ : ∃ v, ρ[0]? = some v ∧ vs = [v] := by
    match vs, hvs with
    | [v], ⟨h, _⟩ => exact ⟨v, h.1, rfl⟩
  have hres := hst.res 0 _ rfl
  obtain ⟨g0, hg0, how, hok⟩ := hres
  rw [hv] at hg0
  cases hg0
  rw [encs_int] at how
  rcases how.2 with ⟨rfl, hn⟩ | ⟨g, cap, cur, rfl, _, hg, hnc, hcm, hcs, htake⟩
  · have hx : xs = [] := List.eq_nil_of_length_eq_zero hn
    subst hx
    refine (h0 none 0 w).mono ?_
    rintro e' w' ⟨rfl, rfl⟩
    obtain ⟨hle, hst2⟩ := hst.thaw (i := 0) rfl rfl hv
    refine ⟨_, (none, 0, 0), _, ρ, rfl, ⟨rfl, rfl⟩, rfl, hst2, hle, fun b _ hb => ?_, ?_⟩
    · have hb' : ¬ (Res.row (.int .i64) e ([] : List Int)).foot (.slice none 0 0) b := fun h => hb ⟨0, _, _, rfl, rfl, hv, h⟩
      simp [Store.with, if_neg hb']
    · have e0 : Lib.compact ([] : List Int) = [] := List.eq_nil_of_length_eq_zero (Nat.le_zero.1 (compact_length []))
      rw [e0]
      exact ⟨rfl, .inl rfl, by simp⟩
  · rw [show (Shape.int .i64).n = 1 from rfl, Nat.mul_one] at htake
    refine (h1 g 0 cap xs w (holds_of_blockI hg htake) (by unfold maxLen at hcm; omega) hnc).mono ?_
    rintro e' w' ⟨rfl, n, hw'⟩
    have hcl := compact_length xs
    obtain ⟨zs, hzs⟩ : ∃ zs, zs = Lib.compact xs ++ List.replicate (xs.length - (Lib.compact xs).length) 0 := ⟨_, rfl⟩
    have hzl : zs.length = xs.length := by rw [hzs]; simp; omega
    have hzt : zs.take (Lib.compact xs).length = Lib.compact xs := by rw [hzs]; simp
    rw [← hzs, ← grow_empty (putRow _ _ _ _ _)] at hw'
    subst hw'
    have hgb := grownBy_sortedI (w := w) (g := g) (n := n) (os := #[]) zs.toArray
    have hrow := ownsRow_sortedI (n := n) (os := #[]) hzl (Nat.zero_le g) hg hnc hcm hcs
    have hst1 := hst.turnG (i := 0) (x := .row (.int .i64) e xs) (y := .row (.int .i64) e zs) (w' := grow (putRow (Value.int .i64) (Sort.ahead w n) g 0 zs.toArray) #[]) rfl rfl hv (fun c hc hne => hgb.block c hc fun e => hne (by simp only [Res.foot, blk]; exact e.symm ▸ rfl)) hgb.size hgb.os hgb.tape hgb.output
      (fun c hc => ⟨by
        have : c = g := by simpa [Res.foot, blk] using hc.symm
        subst this
        exact Nat.lt_of_lt_of_le (Array.getElem?_eq_some_iff.1 hg).1 hgb.size, .inl hc⟩)
      ⟨by rw [encs_int, hzl]; exact hrow, fun _ _ => trivial⟩
    obtain ⟨hle, hst2⟩ := hst1.thaw (i := 0) rfl rfl hv
    have hrd := (row_with (S := S) (ρ := ρ) (show (Res.row (.int .i64) e zs).holds ρ (.slice (some ⟨g, 0, none⟩) xs.length cap) (grow (putRow (Value.int .i64) (Sort.ahead w n) g 0 zs.toArray) #[]) from ⟨by rw [encs_int, hzl]; exact hrow, fun _ _ => trivial⟩))
    obtain ⟨q, d, hq, hrd⟩ := hrd
    simp only [Value.slice.injEq] at hq
    obtain ⟨rfl, -, rfl⟩ := hq
    refine ⟨_, (some ⟨g, 0, none⟩, (Lib.compact xs).length, cap), _, ρ, rfl, ⟨rfl, rfl⟩, rfl, hst2, hle, fun b _ hb => ?_, rfl, ?_⟩
    · have hb' : ¬ (Res.row (.int .i64) e zs).foot (.slice (some ⟨g, 0, none⟩) xs.length cap) b := fun h => hb ⟨0, _, _, rfl, rfl, hv, h⟩
      simp [Store.with, if_neg hb']
    · have := hrd.take (Lib.compact xs).length
      rw [hzt] at this
      exact this
end Go.Vc
