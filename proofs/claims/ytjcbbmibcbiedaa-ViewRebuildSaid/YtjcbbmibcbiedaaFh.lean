/- law02: the view: Join. -/
import Derived.Test.YtjcbbmibcbiedaaFg
namespace Go.Proofs.Ytjcbbmibcbiedaa
open Go Go.Vc Go.Sort Go.RowKit Go.Maps
set_option maxRecDepth 100000

@[reducible] def imax (a b : Int) : Int := if b > a then b else a

theorem rAt_join {a : List (Int × Int)} (ha : SP a) : ∀ {b : List (Int × Int)}, SP b → ∀ x, rAt (rJoin a b) x = imax (rAt a x) (rAt b x) := by
  have key : ∀ (b : List (Int × Int)) (a : List (Int × Int)), SP a → (b.map (·.1)).Nodup → (∀ p ∈ b, 0 ≤ p.1 ∧ p.1 < 4096 ∧ 0 < p.2) → ∀ x, rAt (rJoin a b) x = imax (rAt a x) (rAt b x) := by
    intro b
    induction b with
    | nil =>
      intro a ha _ _ x
      have := rAt_nonneg ha x
      show rAt a x = imax (rAt a x) 0
      unfold imax
      rw [if_neg (by omega)]
    | cons p b ih =>
      intro a ha hn hp x
      rw [List.map_cons, List.nodup_cons] at hn
      have h1 := hp p (by simp)
      show rAt (rJoin (rWith a p.1 p.2) b) x = _
      rw [ih (rWith a p.1 p.2) (rWith_sp ha _ _) hn.2 (fun q hq => hp q (by simp [hq])) x, rAt_with ha]
      have h2 := rAt_nonneg ha x
      show _ = imax (rAt a x) (if p.1 = x then p.2 else rAt b x)
      by_cases hx : x = p.1
      · rw [if_pos hx.symm]
        have h3 : rAt b x = 0 := rAt_out (hx ▸ hn.1)
        rw [h3, hx]
        have h2' := rAt_nonneg ha p.1
        unfold imax
        by_cases h4 : rAt a p.1 < p.2
        · have e1 : (if p.1 = p.1 ∧ 0 ≤ p.1 ∧ p.1 < 4096 ∧ rAt a p.1 < p.2 then p.2 else rAt a p.1) = p.2 := if_pos ⟨rfl, h1.1, h1.2.1, h4⟩
          rw [e1, if_neg (by omega), if_pos h4]
        · have e1 : (if p.1 = p.1 ∧ 0 ≤ p.1 ∧ p.1 < 4096 ∧ rAt a p.1 < p.2 then p.2 else rAt a p.1) = rAt a p.1 := if_neg (fun h => h4 h.2.2.2)
          rw [e1, if_neg (by omega), if_neg h4]
      · rw [if_neg (fun h => hx h.1), if_neg (fun h => hx h.symm)]
  intro b hb x
  exact key b a ha hb.nodup hb.2 x

theorem perm_of_rAt {es j : List (Int × Int)} (he : (es.map (·.1)).Nodup) (hp : ∀ p ∈ es, 0 < p.2) (hj : SP j) (h : ∀ x, rAt es x = rAt j x) : es.Perm j := by
  refine (List.perm_ext_iff_of_nodup ((List.pairwise_map.1 he).imp fun {a b} h e => h (by rw [e])) (hj.1.imp fun {a b} h e => by rw [e] at h; omega)).2 fun p => ⟨fun hm => ?_, fun hm => ?_⟩
  · have h1 := rAt_of_mem he hm
    rw [h] at h1
    have h2 := mem_of_rAt (m := j) (l := p.1) (by rw [h1]; have := hp p hm; omega)
    rw [h1] at h2
    exact h2
  · have h1 := rAt_of_mem hj.nodup hm
    rw [← h] at h1
    have h2 := mem_of_rAt (m := es) (l := p.1) (by rw [h1]; have := (hj.2 p hm).2.2; omega)
    rw [h1] at h2
    exact h2

theorem rAt_mset (es : List (Int × Int)) (l v x : Int) : rAt (mset shI es l v) x = if x = l then v else rAt es x := by
  rw [← mget_rAt, mget_mset (k := shI) rfl, ← mget_rAt]
  by_cases h : x = l
  · rw [if_pos h, if_pos ((key_eq (k := shI) rfl x l).2 h)]; rfl
  · rw [if_neg h, if_neg fun e => h ((key_eq (k := shI) rfl x l).1 e)]

theorem mem_mset {es : List (Int × Int)} (he : keysOnce (k := shI) es) {l v : Int} {p : Int × Int} (h : p ∈ mset shI es l v) : p = (l, v) ∨ p ∈ es := by
  have h1 := (mget_some (k := shI) rfl (once_mset rfl he l v)).2 (show (p.1, p.2) ∈ mset shI es l v from h)
  rw [mget_mset (k := shI) rfl] at h1
  split at h1
  · rename_i e
    have := (key_eq (k := shI) rfl p.1 l).1 e
    simp only [Option.some.injEq] at h1
    left
    rw [show p = (p.1, p.2) from rfl, this, h1]
  · right
    exact (mget_some (k := shI) rfl he).1 h1

set_option maxHeartbeats 1000000 in
theorem join_spec (S : Store) (a b : Option Nat) (m k : List (Int × Int)) (hv : VIs S a m) (hw : VIs S b k) :
    Pure Try.prog 20 S [vV a, vV b] (A := Option Nat) (fun b => .agg [.v (.map b)]) (fun S' b => VIs S' b (rJoin m k)) := by
  refine pure_vc agrees Try.func20 rfl rfl (fun S S' q hle h => h.le hle) ?_
  obtain ⟨es, h1, h2, h3, h4⟩ := vis_at hv
  obtain ⟨fs, k1, k2, k3, k4⟩ := vis_at hw
  refine ⟨fs, k1, ?_⟩
  refine And.intro (fun h0 => ?_) (fun h0 => ?_)
  · have h0' : ((List.length (α := Int × Int) fs : Nat) : Int) = 0 := by
      have : (((List.length (α := Int × Int) fs : Nat) : Int) == 0) = true := h0
      simpa using this
    have hf : fs = [] := List.eq_nil_of_length_eq_zero (by omega)
    subst hf
    have hk : k = [] := k3.nil_eq.symm
    subst hk
    exact ⟨rfl, a, rfl, hv⟩
  cases b with
  | none =>
    have hf : fs = [] := k1
    subst hf
    cases h0
  | some b =>
    refine ⟨⟨_, rfl, rfl, rfl⟩, .inr (.inr (.inr (.inr ⟨_, _, _, _, clone_spec S b fs k1, fun S1 _ hS1 _ => ?_⟩)))⟩
    obtain ⟨ents, clock, hit, hio⟩ := iter_of (h1.le hS1)
    refine ⟨ents, clock, es, hit, ?_⟩
    refine ⟨[], [], List (Int × Int) × List (Int × Int) × Option (Int × Int), [6, 7, 8] ++ List.range' 19 40, fun _ => [], fun z => [.box [.v (.map a)], .box [.v (.map (some b))], .box [.v (.map none)], .map shI shI z.1, .iter shI shI a ents clock z.2.1 z.2.2], fun _ => S1,
      fun z => keysOnce (k := shI) z.1 ∧ keysOnce (k := shI) z.2.1 ∧ (∀ p ∈ z.2.1, p ∈ es) ∧ (∀ p ∈ z.1, 0 < p.2) ∧ ∀ x, rAt z.1 x = if x ∈ z.2.1.map (·.1) then rAt k x else imax (rAt m x) (rAt k x), fun z => z.2.1.length, ?_⟩
    refine And.intro (Exists.intro (fs, es, none) (And.intro (And.intro (And.intro ?_ rfl) (And.intro rfl (Store.le_refl _))) ⟨k2, h2, fun _ h => h, fun p hp => (hw.2.2 p (k3.mem_iff.1 hp)).2.2, fun x => ?_⟩)) ?_
    · repeat' first | exact trivial | exact rfl | refine And.intro ?_ ?_
    · show rAt fs x = if x ∈ es.map (·.1) then rAt k x else imax (rAt m x) (rAt k x)
      have e1 : rAt fs x = rAt k x := by rw [← mget_rAt]; exact k4 x
      rw [e1]
      split
      · rfl
      · rename_i hx
        have e2 : rAt m x = 0 := by rw [← h4, mget_rAt]; exact rAt_out hx
        have := rAt_nonneg hw.2 x
        rw [e2]
        unfold imax
        split <;> omega
    rintro ⟨cur, left, ce⟩ ⟨i1, i2, i3, i4, i5⟩
    simp only at i1 i2 i3 i4 i5
    refine And.intro hio (And.intro (fun hl => ?_) fun (pre : List (Int × Int)) (p : Int × Int) (post : List (Int × Int)) hl => ?_)
    · have hl' : left = [] := hl
      subst hl'
      have hj := rJoin_sp hv.2 k
      refine onF fun b' S' hle hm => ⟨rfl, some b', rfl, ⟨cur, hm, perm_of_rAt i1 i4 hj fun x => ?_⟩, hj⟩
      rw [i5, if_neg (by simp), rAt_join hv.2 hw.2]
    · have hl' : left = pre ++ p :: post := hl
      subst hl'
      have hpm : p ∈ es := i3 p (by simp)
      have hpp := hv.2.2 p (h3.mem_iff.1 hpm)
      have hat : rAt m p.1 = p.2 := rAt_of_mem hv.2.nodup (h3.mem_iff.1 hpm)
      have hc : rAt cur p.1 = rAt k p.1 := by rw [i5, if_pos (by simp)]
      have hg : (mget shI cur p.1).getD (0 : Int) = rAt k p.1 := by rw [mget_rAt, hc]
      obtain ⟨v, hvv⟩ : ∃ v, v = imax ((mget shI cur p.1).getD (0 : Int)) p.2 := ⟨_, rfl⟩
      have hv2 : v = imax (rAt k p.1) p.2 := by rw [hvv, hg]
      refine onT ⟨hio, p.1, (0 : Int), rfl, rfl, p.1, imax ((mget shI cur p.1).getD (0 : Int)) p.2, rfl, rfl, trivial, ?_⟩
      refine ⟨(mset shI cur p.1 (imax ((mget shI cur p.1).getD (0 : Int)) p.2), pre ++ post, some p), ⟨⟨?_, rfl⟩, rfl, Store.le_refl _⟩, ⟨once_mset rfl i1 _ _, once_out i2, fun q hq => i3 q ?_, fun q hq => ?_, fun x => ?_⟩, ?_⟩
      · repeat' first | exact trivial | exact rfl | refine And.intro ?_ ?_
      · rcases List.mem_append.1 hq with hq | hq
        · exact List.mem_append_left _ hq
        · exact List.mem_append_right _ (List.mem_cons_of_mem _ hq)
      · have hq' : q ∈ mset shI cur p.1 (imax ((mget shI cur p.1).getD (0 : Int)) p.2) := hq
        rw [← hvv] at hq'
        rcases mem_mset i1 hq' with hq' | hq'
        · have := rAt_nonneg hw.2 p.1
          rw [hq']
          show 0 < v
          rw [hv2]
          unfold imax
          split <;> omega
        · exact i4 q hq'
      · show rAt (mset shI cur p.1 (imax ((mget shI cur p.1).getD (0 : Int)) p.2)) x = if x ∈ (pre ++ post).map (·.1) then rAt k x else imax (rAt m x) (rAt k x)
        rw [← hvv, rAt_mset]
        have hnot : p.1 ∉ (pre ++ post).map (·.1) := by
          have h := i2
          unfold keysOnce at h
          rw [List.map_append, List.map_cons] at h
          rw [List.map_append]
          exact (List.nodup_cons.1 (List.perm_middle.nodup_iff.1 h)).1
        by_cases hx : x = p.1
        · rw [if_pos hx, hx, if_neg hnot, hv2, hat]
          have := rAt_nonneg hw.2 p.1
          unfold imax
          split <;> split <;> omega
        · rw [if_neg hx, i5]
          have e1 : (x ∈ (pre ++ p :: post).map (·.1)) ↔ (x ∈ (pre ++ post).map (·.1)) := by
            rw [List.map_append, List.map_cons, List.map_append, List.mem_append, List.mem_append, List.mem_cons]
            constructor
            · rintro (h | h | h)
              · exact .inl h
              · exact absurd h hx
              · exact .inr h
            · rintro (h | h)
              · exact .inl h
              · exact .inr (.inr h)
          by_cases h9 : x ∈ (pre ++ post).map (·.1)
          · rw [if_pos (e1.2 h9), if_pos h9]
          · rw [if_neg (fun h => h9 (e1.1 h)), if_neg h9]
      · show (pre ++ post).length < (pre ++ p :: post).length
        simp
end Go.Proofs.Ytjcbbmibcbiedaa
