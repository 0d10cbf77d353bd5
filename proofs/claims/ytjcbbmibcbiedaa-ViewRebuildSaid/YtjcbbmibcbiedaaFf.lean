/- law02: sorted lists of pairs: plain laws. -/
import Derived.Test.YtjcbbmibcbiedaaFd
namespace Go.Proofs.Ytjcbbmibcbiedaa
open Go Go.Vc

theorem stW_mem (l n : Int) : ∀ (m : List (Int × Int)) (out : List (Int × Int)) (b : Bool) (p : Int × Int),
    p ∈ (m.foldl (stW l n) (out, b)).1 ↔ p ∈ out ∨ (p ∈ m ∧ p.1 ≠ l) ∨ (b = false ∧ (m.foldl (stW l n) (out, b)).2 = true ∧ p = (l, n))
  | [], out, b, p => by simp; intro h1 h2; rw [h1] at h2; cases h2
  | q :: m, out, b, p => by
    rw [List.foldl_cons]
    have key : ∀ (o : List (Int × Int)) (c : Bool), stW l n (out, b) q = (o, c) → (p ∈ o ↔ p ∈ out ∨ (p = q ∧ p.1 ≠ l) ∨ (b = false ∧ c = true ∧ p = (l, n))) ∧ (b = true → c = true) := by
      intro o c h
      unfold stW at h
      simp only at h
      split at h
      · rename_i hc
        obtain ⟨hc1, rfl⟩ := hc
        simp only [Prod.mk.injEq] at h
        obtain ⟨rfl, rfl⟩ := h
        refine ⟨?_, fun _ => rfl⟩
        split
        · rename_i hne
          simp only [List.mem_append, List.mem_singleton]
          constructor
          · rintro ((h | h) | h)
            · exact .inl h
            · exact .inr (.inr ⟨by simp, by simp, h⟩)
            · exact .inr (.inl ⟨h, by rw [h]; exact hne⟩)
          · rintro (h | ⟨h, -⟩ | ⟨-, -, h⟩)
            · exact .inl (.inl h)
            · exact .inr h
            · exact .inl (.inr h)
        · rename_i hne
          simp only [List.mem_append, List.mem_singleton]
          constructor
          · rintro (h | h)
            · exact .inl h
            · exact .inr (.inr ⟨by simp, by simp, h⟩)
          · rintro (h | ⟨h, h2⟩ | ⟨-, -, h⟩)
            · exact .inl h
            · exact absurd (by rw [h] at h2; exact h2) hne
            · exact .inr h
      · simp only [Prod.mk.injEq] at h
        obtain ⟨rfl, rfl⟩ := h
        refine ⟨?_, fun h => h⟩
        split
        · rename_i hne
          simp only [List.mem_append, List.mem_singleton]
          constructor
          · rintro (h | h)
            · exact .inl h
            · exact .inr (.inl ⟨h, by rw [h]; exact hne⟩)
          · rintro (h | ⟨h, -⟩ | ⟨h1, h2, -⟩)
            · exact .inl h
            · exact .inr h
            · rw [h1] at h2; cases h2
        · rename_i hne
          constructor
          · exact fun h => .inl h
          · rintro (h | ⟨h, h2⟩ | ⟨h1, h2, -⟩)
            · exact h
            · exact absurd (by rw [h] at h2; exact h2) hne
            · rw [h1] at h2; cases h2
    obtain ⟨⟨o, c⟩, hs⟩ : ∃ s, stW l n (out, b) q = s := ⟨_, rfl⟩
    rw [hs]
    obtain ⟨k1, k2⟩ := key o c hs
    have keep : ∀ (m : List (Int × Int)) (o : List (Int × Int)), (m.foldl (stW l n) (o, true)).2 = true := by
      intro m
      induction m with
      | nil => intro o; rfl
      | cons r m ih => intro o; rw [List.foldl_cons]; unfold stW; simp only [Bool.true_eq_false, and_false, if_false]; exact ih _
    rw [stW_mem l n m o c p, k1]
    simp only [List.mem_cons]
    constructor
    · rintro ((h | h | ⟨h1, h2, h3⟩) | h | ⟨h1, h2, h3⟩)
      · exact .inl h
      · exact .inr (.inl ⟨.inl h.1, h.2⟩)
      · subst h2; exact .inr (.inr ⟨h1, keep m o, h3⟩)
      · exact .inr (.inl ⟨.inr h.1, h.2⟩)
      · refine .inr (.inr ⟨?_, h2, h3⟩)
        cases b with
        | false => rfl
        | true => rw [k2 rfl] at h1; cases h1
    · rintro (h | ⟨h | h, h2⟩ | ⟨h1, h2, h3⟩)
      · exact .inl (.inl h)
      · exact .inl (.inr (.inl ⟨h, h2⟩))
      · exact .inr (.inl ⟨h, h2⟩)
      · cases c with
        | true => exact .inl (.inr (.inr ⟨h1, rfl, h3⟩))
        | false => exact .inr (.inr ⟨rfl, h2, h3⟩)

theorem putW_mem {m : List (Int × Int)} {l n : Int} {p : Int × Int} : p ∈ putW m l n ↔ p = (l, n) ∨ (p ∈ m ∧ p.1 ≠ l) := by
  have h := stW_mem l n m [] false p
  unfold putW
  split
  · rename_i out hs
    rw [hs] at h
    rw [h]
    simp
    constructor
    · rintro (h | h)
      · exact .inr h
      · exact .inl h
    · rintro (h | h)
      · exact .inr h
      · exact .inl h
  · rename_i out hs
    rw [hs] at h
    rw [List.mem_append, h]
    simp
    constructor
    · rintro (h | h)
      · exact .inr h
      · exact .inl h
    · rintro (h | h)
      · exact .inr h
      · exact .inl h

theorem stW_sorted (l n : Int) : ∀ (m : List (Int × Int)) (out : List (Int × Int)) (b : Bool), out.Pairwise (·.1 < ·.1) → m.Pairwise (·.1 < ·.1) → (∀ x ∈ out, ∀ y ∈ m, x.1 < y.1) → (b = false → ∀ x ∈ out, x.1 < l) → (b = true → ∀ y ∈ m, l < y.1) →
    (m.foldl (stW l n) (out, b)).1.Pairwise (·.1 < ·.1) ∧ ((m.foldl (stW l n) (out, b)).2 = false → ∀ x ∈ (m.foldl (stW l n) (out, b)).1, x.1 < l)
  | [], out, b, h1, _, _, h4, _ => ⟨h1, h4⟩
  | q :: m, out, b, h1, h2, h3, h4, h5 => by
    rw [List.foldl_cons]
    rw [List.pairwise_cons] at h2
    obtain ⟨⟨o, c⟩, hs⟩ : ∃ s, stW l n (out, b) q = s := ⟨_, rfl⟩
    rw [hs]
    unfold stW at hs
    simp only at hs
    split at hs
    · rename_i hc
      obtain ⟨hc1, rfl⟩ := hc
      have h4' := h4 rfl
      simp only [Prod.mk.injEq] at hs
      obtain ⟨rfl, rfl⟩ := hs
      refine stW_sorted l n m _ true ?_ h2.2 ?_ (fun h => by cases h) (fun _ y hy => by have := h2.1 y hy; omega)
      · split
        · rename_i hne
          refine List.pairwise_append.2 ⟨List.pairwise_append.2 ⟨h1, by simp, fun a ha b hb => ?_⟩, by simp, fun a ha b hb => ?_⟩
          · have : b = (l, n) := by simpa using hb
            subst this
            exact h4' a ha
          · have : b = q := by simpa using hb
            subst this
            rcases List.mem_append.1 ha with ha | ha
            · exact h3 a ha b (by simp)
            · have : a = (l, n) := by simpa using ha
              subst this
              show l < b.1
              omega
        · refine List.pairwise_append.2 ⟨h1, by simp, fun a ha b hb => ?_⟩
          have : b = (l, n) := by simpa using hb
          subst this
          exact h4' a ha
      · intro x hx y hy
        have hqy := h2.1 y hy
        split at hx
        · rcases List.mem_append.1 hx with hx | hx
          · rcases List.mem_append.1 hx with hx | hx
            · exact h3 x hx y (by simp [hy])
            · have : x = (l, n) := by simpa using hx
              subst this
              show l < y.1
              omega
          · have : x = q := by simpa using hx
            subst this
            exact hqy
        · rcases List.mem_append.1 hx with hx | hx
          · exact h3 x hx y (by simp [hy])
          · have : x = (l, n) := by simpa using hx
            subst this
            show l < y.1
            omega
    · rename_i hc
      simp only [Prod.mk.injEq] at hs
      obtain ⟨rfl, rfl⟩ := hs
      have hql : b = false → q.1 < l := fun hb => by
        have : ¬ q.1 ≥ l := fun h => hc ⟨h, hb⟩
        omega
      refine stW_sorted l n m _ b ?_ h2.2 ?_ ?_ (fun hb y hy => h5 hb y (by simp [hy]))
      · split
        · refine List.pairwise_append.2 ⟨h1, by simp, fun a ha b hb => ?_⟩
          have : b = q := by simpa using hb
          subst this
          exact h3 a ha b (by simp)
        · exact h1
      · intro x hx y hy
        split at hx
        · rcases List.mem_append.1 hx with hx | hx
          · exact h3 x hx y (by simp [hy])
          · have : x = q := by simpa using hx
            subst this
            exact h2.1 y hy
        · exact h3 x hx y (by simp [hy])
      · intro hb x hx
        split at hx
        · rcases List.mem_append.1 hx with hx | hx
          · exact h4 hb x hx
          · have : x = q := by simpa using hx
            subst this
            exact hql hb
        · exact h4 hb x hx

theorem putW_sp {m : List (Int × Int)} {l n : Int} (h : SP m) (h0 : 0 ≤ l) (h1 : l < 4096) (hn : 0 < n) : SP (putW m l n) := by
  refine ⟨?_, fun p hp => ?_⟩
  · obtain ⟨k1, k2⟩ := stW_sorted l n m [] false (by simp) h.1 (by simp) (by simp) (by simp)
    unfold putW
    split
    · rename_i out hs
      rw [hs] at k1; exact k1
    · rename_i out hs
      rw [hs] at k1 k2
      refine List.pairwise_append.2 ⟨k1, by simp, fun a ha b hb => ?_⟩
      have : b = (l, n) := by simpa using hb
      subst this
      exact k2 rfl a ha
  · rcases putW_mem.1 hp with rfl | ⟨hp, -⟩
    · exact ⟨h0, h1, hn⟩
    · exact h.2 p hp

theorem rAt_nonneg {m : List (Int × Int)} (h : SP m) (l : Int) : 0 ≤ rAt m l := by
  have key : ∀ m : List (Int × Int), (∀ p ∈ m, 0 < p.2) → 0 ≤ rAt m l := by
    intro m
    induction m with
    | nil => intro _; exact Int.le_refl _
    | cons p m ih =>
      intro h
      unfold rAt
      split
      · exact Int.le_of_lt (h p (by simp))
      · exact ih fun q hq => h q (by simp [hq])
  exact key m fun p hp => (h.2 p hp).2.2

theorem rWith_sp {m : List (Int × Int)} (h : SP m) (l n : Int) : SP (rWith m l n) := by
  unfold rWith
  split
  · exact h
  · rename_i hc
    have := rAt_nonneg h l
    exact putW_sp h (by omega) (by omega) (by omega)

theorem mem_of_rAt {m : List (Int × Int)} {l : Int} (h : rAt m l ≠ 0) : (l, rAt m l) ∈ m := by
  induction m with
  | nil => exact absurd rfl h
  | cons p m ih =>
    unfold rAt at h ⊢
    split
    · rename_i e; rw [← e]; exact List.mem_cons_self
    · rename_i e; rw [if_neg e] at h; exact List.mem_cons_of_mem _ (ih h)
theorem rAt_of_mem {m : List (Int × Int)} (hm : (m.map (·.1)).Nodup) {p : Int × Int} (h : p ∈ m) : rAt m p.1 = p.2 := by
  induction m with
  | nil => cases h
  | cons q m ih =>
    rw [List.map_cons, List.nodup_cons] at hm
    unfold rAt
    rcases List.mem_cons.1 h with rfl | h
    · rw [if_pos rfl]
    · rw [if_neg (fun e : q.1 = p.1 => hm.1 (by rw [e]; exact List.mem_map_of_mem h))]
      exact ih hm.2 h
theorem rAt_out {m : List (Int × Int)} {l : Int} (h : l ∉ m.map (·.1)) : rAt m l = 0 := by
  by_cases h0 : rAt m l = 0
  · exact h0
  · exact absurd (List.mem_map_of_mem (f := (·.1)) (mem_of_rAt h0)) h

/-- A sorted list is its numbers. -/
theorem sp_ext {m k : List (Int × Int)} (hm : SP m) (hk : SP k) (h : ∀ l, rAt m l = rAt k l) : m = k := by
  have mem : ∀ {m k : List (Int × Int)}, SP m → SP k → (∀ l, rAt m l = rAt k l) → ∀ p, p ∈ m → p ∈ k := by
    intro m k hm hk h p hp
    have h1 := rAt_of_mem hm.nodup hp
    rw [h] at h1
    have h2 := mem_of_rAt (m := k) (l := p.1) (by rw [h1]; have := (hm.2 p hp).2.2; omega)
    rw [h1] at h2
    exact h2
  have hp : m.Perm k := by
    refine (List.perm_ext_iff_of_nodup (hm.1.imp fun {a b} h e => by rw [e] at h; omega) (hk.1.imp fun {a b} h e => by rw [e] at h; omega)).2 fun p => ⟨mem hm hk h p, mem hk hm (fun l => (h l).symm) p⟩
  refine hp.eq_of_pairwise (le := fun a b => a.1 < b.1) (fun a b _ _ h1 h2 => by omega) hm.1 hk.1

theorem rAt_put {m : List (Int × Int)} (h : SP m) {l n : Int} (h0 : 0 ≤ l) (h1 : l < 4096) (hn : 0 < n) (x : Int) : rAt (putW m l n) x = if x = l then n else rAt m x := by
  have hs := putW_sp h h0 h1 hn
  split
  · rename_i e
    subst e
    exact rAt_of_mem hs.nodup (p := (x, n)) (putW_mem.2 (.inl rfl))
  · rename_i e
    by_cases hx : rAt m x = 0
    · rw [hx]
      refine rAt_out fun hc => ?_
      obtain ⟨p, hp, rfl⟩ := List.mem_map.1 hc
      rcases putW_mem.1 hp with rfl | ⟨hp, -⟩
      · exact e rfl
      · rw [rAt_of_mem h.nodup hp] at hx
        have := (h.2 p hp).2.2
        omega
    · exact rAt_of_mem hs.nodup (p := (x, rAt m x)) (putW_mem.2 (.inr ⟨mem_of_rAt hx, e⟩))

theorem rAt_with {m : List (Int × Int)} (h : SP m) (l n x : Int) : rAt (rWith m l n) x = if x = l ∧ 0 ≤ l ∧ l < 4096 ∧ rAt m l < n then n else rAt m x := by
  have := rAt_nonneg h l
  unfold rWith
  split
  · rename_i hc
    rw [if_neg (by omega)]
  · rename_i hc
    rw [rAt_put h (by omega) (by omega) (by omega)]
    by_cases hx : x = l
    · rw [if_pos hx, if_pos ⟨hx, by omega, by omega, by omega⟩]
    · rw [if_neg hx, if_neg (fun h => hx h.1)]

theorem sp_nil : SP [] := ⟨by simp, by simp⟩
theorem rJoin_sp {a : List (Int × Int)} (h : SP a) : ∀ b, SP (rJoin a b)
  | [] => h
  | p :: b => rJoin_sp (rWith_sp h p.1 p.2) b

theorem perm_of_mget {es m : List (Int × Int)} (he : keysOnce (k := shI) es) (hm : keysOnce (k := shI) m) (h : ∀ x, mget shI es x = mget shI m x) : es.Perm m := by
  refine (List.perm_ext_iff_of_nodup ?_ ?_).2 fun p => ?_
  · exact (List.pairwise_map.1 he).imp fun {a b} h e => h (by rw [e])
  · exact (List.pairwise_map.1 hm).imp fun {a b} h e => h (by rw [e])
  · rw [show p = (p.1, p.2) from rfl, ← mget_some (k := shI) rfl he, ← mget_some (k := shI) rfl hm, h]
end Go.Proofs.Ytjcbbmibcbiedaa
