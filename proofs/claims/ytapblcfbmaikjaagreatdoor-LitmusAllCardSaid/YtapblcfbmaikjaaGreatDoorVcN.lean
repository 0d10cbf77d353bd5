/- Verification conditions: a map that comes in, read as data. -/
import Derived.Test.YtapblcfbmaikjaaGreatDoorVcM
import Derived.ChangeMaps
namespace Go.Vc
open Go Go.ChangeMaps Go.ChangeShapes Go.WideShapes Go.ChangeAt Go.RowKit
variable {H : Type} {enc : TypeId × Value → H} {P : Program} {W : World}

theorem key_int {k : TypeId} {ki : IntKind} (hk : P.underlying k = some (.int ki)) {v : Value} {q : Lit} (h : keyOf P k v = some q) : ∃ z : Int, v = .int ki z ∧ q = .int ki z ∧ ki.min ≤ z ∧ z ≤ ki.max := by
  unfold keyOf at h
  rw [hk] at h
  simp only [mapKey, hk] at h
  cases v <;> simp only [reduceCtorEq] at h
  rename_i q' n
  split at h
  · rename_i hc
    obtain ⟨rfl, hw⟩ := hc
    simp only [Lit.wf, Bool.and_eq_true, decide_eq_true_eq] at hw
    exact ⟨n, rfl, by simpa using h.symm, hw⟩
  · cases h

/-- The entries, one by one. -/
theorem ents_data {n : Nat} {k e : TypeId} {ki : IntKind} {ti : TI} {Q : ti.sh.T → Prop} (hk : P.underlying k = some (.int ki)) (hf : Fits P e ti) (hone : ti.sh.agg = false) (h : Reads enc P W e ti.sh Q) :
    ∀ (l : List MapEntry) (r : List ((Lit × DataW H) × List MemPlace)), l.mapM (fun x => (keyOf P k x.key).bind fun key =>
        if x.val.formed P e = true then (DataW.trod enc P W 0 (fun _ => true) true n e x.val.cells.toList).map fun y => ((key, y.1), y.2) else none) = some r →
      ∃ es : List (Int × ti.sh.T), l.map (fun x => (x.key, x.val)) = es.map (fun p => (Value.int ki p.1, ti.sh.val p.2)) ∧ r.map (·.1.1) = es.map (fun p => Lit.int ki p.1) ∧ ∀ p ∈ es, ki.min ≤ p.1 ∧ p.1 ≤ ki.max ∧ ti.sh.ok p.2 ∧ Q p.2
  | [], r, hr => by
    simp at hr
    subst hr
    exact ⟨[], rfl, rfl, by simp⟩
  | x :: l, r, hr => by
    simp only [List.mapM_cons, Option.bind_eq_bind, Option.pure_def] at hr
    obtain ⟨y, hy, hr⟩ := Option.bind_eq_some_iff.1 hr
    obtain ⟨ys, hys, hr⟩ := Option.bind_eq_some_iff.1 hr
    simp only [Option.some.injEq] at hr
    subst hr
    obtain ⟨es, h1, h2, h3⟩ := ents_data hk hf hone h l ys hys
    obtain ⟨q, hq, hy⟩ := Option.bind_eq_some_iff.1 hy
    obtain ⟨z, hz, rfl, hz1, hz2⟩ := key_int hk hq
    split at hy
    · rename_i hform
      obtain ⟨d, hd, rfl⟩ := Option.map_eq_some_iff.1 hy
      obtain ⟨v, hv, hok, hQ⟩ := h _ _ _ hd
      have hval : x.val = ti.sh.val v := by
        rw [enc_one hone] at hv
        obtain ⟨dd, hu, hagg⟩ := hf.agg
        rw [hone] at hagg
        generalize x.val = xv at hform hv
        cases xv <;> first
          | (simp [Value.cells] at hv; exact hv)
          | (exfalso; simp only [Value.formed, hu] at hform; cases dd <;> simp [isAggD] at hagg hform)
      exact ⟨(z, v) :: es, by simp [h1, hz, hval], by simp [h2], fun p hp => by
        rcases List.mem_cons.1 hp with rfl | hp
        · exact ⟨hz1, hz2, hok, hQ⟩
        · exact h3 p hp⟩
    · cases hy

theorem reads_map {t k e : TypeId} {ki : IntKind} {ti : TI} {Q : ti.sh.T → Prop} (ht : P.underlying t = some (.map k e)) (hk : P.underlying k = some (.int ki)) (hf : Fits P e ti) (hone : ti.sh.agg = false) (h : Reads enc P W e ti.sh Q) :
    Reads enc P W t .map (fun b => ∃ es : List (Int × ti.sh.T), MapRd (Store.of W) b (.int ki) ti.sh es ∧ keysOnce (k := .int ki) es ∧ (∀ p ∈ es, ki.min ≤ p.1 ∧ p.1 ≤ ki.max ∧ Q p.2)) := by
  intro fuel cs x hx
  cases fuel with
  | zero => simp [DataW.trod] at hx
  | succ n =>
    unfold DataW.trod at hx
    rw [ht] at hx
    split at hx
    all_goals first | (rename_i heq; cases heq; done) | skip
    all_goals rename_i heq
    all_goals first | (injection heq with heq; injection heq; done) | skip
    · exact ⟨none, rfl, trivial, [], rfl, once_nil, by simp⟩
    · rename_i b1 _
      simp only [Option.some.injEq, TypeDesc.map.injEq] at heq
      obtain ⟨rfl, rfl⟩ := heq
      split at hx
      · rename_i ents clock hb
        split at hx
        · rename_i hc
          obtain ⟨_, _, hborn, hdup⟩ := hc
          obtain ⟨entries, hent, hx⟩ := Option.bind_eq_some_iff.1 hx
          obtain ⟨es, h1, h2, h3⟩ := ents_data hk hf hone h _ _ hent
          simp only at hx
          split at hx
          · rename_i hris
            have hap := Go.WideShapes.apart_of_rising (H := H) _ hris
            refine ⟨some _, rfl, trivial, es, ⟨ents, clock, by simp only [Store.of, hb], h1, fun p hp => (h3 p hp).2.2.1, nodup_of_eraseDups _ (by rw [hdup]; simp), ?_⟩, ?_, fun p hp => ⟨(h3 p hp).1, (h3 p hp).2.1, (h3 p hp).2.2.2⟩⟩
            · intro y hy
              have := Array.all_eq_true_iff_forall_mem.1 hborn y (by simpa using hy)
              simpa using this
            · have h4 : ((entries.map (·.1)).map (·.1)).Pairwise (· ≠ ·) := List.pairwise_map.2 hap
              rw [List.map_map] at h4
              have h5 : (entries.map ((fun x : Lit × DataW H => x.1) ∘ fun x : (Lit × DataW H) × List MemPlace => x.1)) = es.map (fun p => Lit.int ki p.1) := h2
              rw [h5] at h4
              have h6 := List.pairwise_map.1 h4
              refine List.pairwise_map.2 (h6.imp fun hne e => hne ?_)
              rw [e]
          · cases hx
        · cases hx
      · cases hx
    · cases hx
end Go.Vc
