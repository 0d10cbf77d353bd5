/- Verification conditions: plain laws of maps as lists of pairs, of integers that wrap. -/
import Derived.Test.YtapblcfbmaikjaaGreatDoorVcK
namespace Go.Vc
open Go

/-- Ways that are not there. -/
theorem ft {p : Prop} (h : false = true) : p := Bool.noConfusion h
theorem tf {p : Prop} (h : true = false) : p := Bool.noConfusion h

theorem onF {p q : Prop} (h : q) : (false = true → p) ∧ (false = false → q) := ⟨ft, fun _ => h⟩
theorem onT {p q : Prop} (h : p) : (true = true → p) ∧ (true = false → q) := ⟨fun _ => h, tf⟩
theorem onB {b : Bool} {p q : Prop} (h1 : b = true → p) (h2 : b = false → q) : (b = true → p) ∧ (b = false → q) := ⟨h1, h2⟩

/-- An element of a row that the store knows. -/
theorem row_at {S : Store} {p : Option Addr} {sh : Shape} {xs : List sh.T} {i : Nat} {x : sh.T} (h : RowRd S p sh xs) (hx : xs[i]? = some x) : ∃ b o, p = some ⟨b, o, none⟩ ∧ sh.ok x ∧ S.rd b (o + i * sh.n) (sh.enc x) := by
  obtain ⟨h1, h2⟩ := h
  rcases h1 with rfl | ⟨b, o, hp, hrd⟩
  · simp at hx
  · refine ⟨b, o, hp, h2 x (List.mem_of_getElem? hx), ?_⟩
    intro j u hu
    have key : ∀ (l : List sh.T) (i : Nat), l[i]? = some x → (l.flatMap sh.enc)[i * sh.n + j]? = some u := by
      intro l
      induction l with
      | nil => intro i h; simp at h
      | cons y l ih =>
        intro i h
        rw [List.flatMap_cons]
        cases i with
        | zero =>
          simp at h
          subst h
          have hj : j < (sh.enc y).length := (List.getElem?_eq_some_iff.1 hu).1
          rw [Nat.zero_mul, Nat.zero_add, List.getElem?_append_left hj]
          exact hu
        | succ i =>
          rw [List.getElem?_append_right (by rw [enc_n]; rw [Nat.add_mul]; omega), enc_n, show (i + 1) * sh.n + j - sh.n = i * sh.n + j by rw [Nat.add_mul]; omega]
          exact ih i (by simpa using h)
    have := hrd _ u (key xs i hx)
    rwa [← Nat.add_assoc] at this
theorem rd_field {S : Store} {b o f : Nat} {l : List Value} {v : Value} (h : S.rd b o l) (hx : l[f]? = some v) : S.rd b (o + f) [v] := by
  intro j x hj
  cases j with
  | zero => simp at hj; subst hj; exact h f v hx
  | succ j => simp at hj
theorem RowRd.le {S S' : Store} (h : S.le S') {p : Option Addr} {sh : Shape} {xs : List sh.T} (hr : RowRd S p sh xs) : RowRd S' p sh xs := by
  refine ⟨?_, hr.2⟩
  rcases hr.1 with h1 | ⟨b, o, hp, hrd⟩
  · exact .inl h1
  · exact .inr ⟨b, o, hp, fun j x hx => h.1 _ _ _ (hrd j x hx)⟩
theorem MapRd.le {S S' : Store} (h : S.le S') {b : Option Nat} {k e : Shape} {es : List (k.T × e.T)} (hr : MapRd S b k e es) : MapRd S' b k e es := by
  cases b with
  | none => exact hr
  | some b => obtain ⟨ents, clock, h1, h2⟩ := hr; exact ⟨ents, clock, h.2 _ _ h1, h2⟩

theorem wrap_i64_eq (x : Int) : IntKind.i64.wrap x = if x % 18446744073709551616 ≥ 9223372036854775808 then x % 18446744073709551616 - 18446744073709551616 else x % 18446744073709551616 := by
  simp [IntKind.wrap, IntKind.bits, IntKind.signed]
theorem wrap_i64 {x : Int} (h1 : -9223372036854775808 ≤ x) (h2 : x ≤ 9223372036854775807) : IntKind.i64.wrap x = x := by
  rw [wrap_i64_eq]; omega
theorem wrap_i64_in (x : Int) : -9223372036854775808 ≤ IntKind.i64.wrap x ∧ IntKind.i64.wrap x ≤ 9223372036854775807 := by
  rw [wrap_i64_eq]; omega
theorem wrap_i64_mod (x : Int) : (IntKind.i64.wrap x) % 18446744073709551616 = x % 18446744073709551616 := by
  rw [wrap_i64_eq]; omega

theorem bytes_beq (x y : ByteArray) : (x == y) = true ↔ x = y := by
  obtain ⟨a⟩ := x
  obtain ⟨b⟩ := y
  show (a == b) = true ↔ _
  rw [beq_iff_eq]
  exact ⟨fun h => by rw [h], fun h => by injection h⟩

/-- '==' on the keys is equality. -/
def Shape.keyed : Shape → Bool
  | .int _ | .bool | .str => true
  | .pair a b => a.keyed && b.keyed
  | .st a => a.keyed
  | _ => false
theorem key_eq : ∀ {k : Shape} (_ : k.keyed = true) (x y : k.T), k.eq x y = true ↔ x = y
  | .int _, _, x, y => beq_iff_eq (α := Int)
  | .bool, _, x, y => beq_iff_eq (α := Bool)
  | .str, _, x, y => bytes_beq x y
  | .pair a b, hk, x, y => by
    simp only [Shape.keyed, Bool.and_eq_true] at hk
    show (a.eq x.1 y.1 && b.eq x.2 y.2) = true ↔ x = y
    rw [Bool.and_eq_true, key_eq hk.1, key_eq hk.2]
    exact ⟨fun h => Prod.ext h.1 h.2, fun h => by rw [h]; exact ⟨rfl, rfl⟩⟩
  | .st a, hk, x, y => key_eq (k := a) hk x y

/-- No key twice. -/
def keysOnce {k : Shape} {V : Type} (es : List (k.T × V)) : Prop := (es.map (·.1)).Nodup

section maps
variable {k : Shape} {V : Type}

theorem mget_none (hk : k.keyed = true) : ∀ {es : List (k.T × V)} {y : k.T}, mget k es y = none ↔ y ∉ es.map (·.1)
  | [], _ => by simp [mget]
  | p :: es, y => by
    simp only [mget, List.map_cons, List.mem_cons]
    by_cases h : y = p.1
    · rw [if_pos ((key_eq hk y p.1).2 h)]
      simp [h]
    · have : ¬ k.eq y p.1 = true := fun e => h ((key_eq hk y p.1).1 e)
      rw [if_neg this, mget_none hk]
      simp only [h, false_or]

theorem mget_some (hk : k.keyed = true) : ∀ {es : List (k.T × V)} {y : k.T} {v : V}, keysOnce es → (mget k es y = some v ↔ (y, v) ∈ es)
  | [], _, _, _ => by simp [mget]
  | p :: es, y, v, h => by
    obtain ⟨h1, h2⟩ := List.nodup_cons.1 h
    simp only [mget, List.mem_cons]
    by_cases hy : y = p.1
    · rw [if_pos ((key_eq hk y p.1).2 hy)]
      constructor
      · intro e; left; rw [← Option.some.inj e, hy]
      · rintro (e | e)
        · rw [← e]
        · exact absurd (List.mem_map.2 ⟨(y, v), e, hy⟩) h1
    · have : ¬ k.eq y p.1 = true := fun e => hy ((key_eq hk y p.1).1 e)
      rw [if_neg this, mget_some hk h2]
      constructor
      · exact .inr
      · rintro (e | e)
        · exact absurd (by rw [← e]) hy
        · exact e

theorem mget_mset (hk : k.keyed = true) : ∀ (es : List (k.T × V)) (y : k.T) (v : V) (x : k.T), mget k (mset k es y v) x = if k.eq x y = true then some v else mget k es x
  | [], y, v, x => by simp [mset, mget]
  | p :: es, y, v, x => by
    simp only [mset]
    by_cases hy : k.eq y p.1 = true
    · rw [if_pos hy]
      simp only [mget]
      have e := (key_eq hk y p.1).1 hy
      by_cases hx : k.eq x y = true
      · rw [if_pos hx, if_pos hx]
      · rw [if_neg hx, if_neg hx, if_neg (by rw [← e]; exact hx)]
    · rw [if_neg hy]
      simp only [mget, mget_mset hk es]
      by_cases hx : k.eq x y = true
      · have e := (key_eq hk x y).1 hx
        rw [if_neg (by rw [e]; exact hy), if_pos hx, if_pos hx]
      · rw [if_neg hx, if_neg hx]

open Classical in
theorem keys_mset (hk : k.keyed = true) : ∀ (es : List (k.T × V)) (y : k.T) (v : V), (mset k es y v).map (·.1) = if y ∈ es.map (·.1) then es.map (·.1) else es.map (·.1) ++ [y]
  | [], y, v => by simp [mset]
  | p :: es, y, v => by
    simp only [mset]
    by_cases hy : k.eq y p.1 = true
    · have e := (key_eq hk y p.1).1 hy
      rw [if_pos hy, if_pos (by rw [List.map_cons, e]; exact List.mem_cons_self ..)]
      rw [List.map_cons, List.map_cons, e]
    · have hne : ¬ y = p.1 := fun e => hy ((key_eq hk y p.1).2 e)
      rw [if_neg hy, List.map_cons, keys_mset hk es]
      by_cases hm : y ∈ es.map (·.1)
      · rw [if_pos hm, if_pos (by simp [hm])]; rfl
      · rw [if_neg hm, if_neg (by simp only [List.map_cons, List.mem_cons, hne, hm, or_self, not_false_eq_true])]; rfl

theorem once_mset (hk : k.keyed = true) {es : List (k.T × V)} (h : keysOnce es) (y : k.T) (v : V) : keysOnce (mset k es y v) := by
  unfold keysOnce
  rw [keys_mset hk]
  split
  · exact h
  · rename_i hm
    rw [List.nodup_append]
    exact ⟨h, by simp, fun a ha b hb => by simp at hb; subst hb; exact fun e => hm (e ▸ ha)⟩

theorem once_nil : keysOnce ([] : List (k.T × V)) := List.nodup_nil

/-- Two lists that answer alike are as long. -/
theorem same_length (hk : k.keyed = true) {es fs : List (k.T × V)} (he : keysOnce es) (hf : keysOnce fs) (h : ∀ y, (mget k es y).isSome = (mget k fs y).isSome) : es.length = fs.length := by
  have key : ∀ {es fs : List (k.T × V)}, keysOnce es → (∀ y, (mget k es y).isSome = true → (mget k fs y).isSome = true) → es.length ≤ fs.length := by
    intro es fs he h
    have hsub : ∀ x ∈ es.map (·.1), x ∈ fs.map (·.1) := by
      intro x hx
      refine Classical.byContradiction fun hn => ?_
      have h1 := (mget_none hk (es := fs)).2 hn
      have h2 : mget k es x ≠ none := fun e => (mget_none hk).1 e hx
      have := h x (by cases hq : mget k es x <;> simp_all)
      rw [h1] at this
      cases this
    have := List.Nodup.length_le_of_subset he hsub
    simpa using this
  exact Nat.le_antisymm (key he fun y hy => by rw [← h y]; exact hy) (key hf fun y hy => by rw [h y]; exact hy)

/-- One entry taken out of the middle. -/
theorem mget_out (hk : k.keyed = true) {pre post : List (k.T × V)} {p : k.T × V} (h : keysOnce (pre ++ p :: post)) (y : k.T) : mget k (pre ++ post) y = if k.eq y p.1 = true then none else mget k (pre ++ p :: post) y := by
  induction pre with
  | nil =>
    simp only [List.nil_append, mget]
    by_cases hy : k.eq y p.1 = true
    · rw [if_pos hy]
      have := (key_eq hk y p.1).1 hy
      exact (mget_none hk).2 (this ▸ (List.nodup_cons.1 h).1)
    · rw [if_neg hy, if_neg hy]
  | cons q pre ih =>
    have h' := (List.nodup_cons.1 h)
    simp only [List.cons_append, mget]
    rw [ih h'.2]
    by_cases hq : k.eq y q.1 = true
    · rw [if_pos hq, if_pos hq]
      have e := (key_eq hk y q.1).1 hq
      rw [if_neg]
      intro e2
      have e3 := (key_eq hk y p.1).1 e2
      refine h'.1 (List.mem_map.2 ⟨p, ?_, ?_⟩)
      · exact List.mem_append_right _ (List.mem_cons_self ..)
      · rw [← e3, e]
    · rw [if_neg hq, if_neg hq]

theorem once_out {pre post : List (k.T × V)} {p : k.T × V} (h : keysOnce (pre ++ p :: post)) : keysOnce (pre ++ post) := by
  unfold keysOnce at *
  simp only [List.map_append, List.map_cons] at *
  exact h.sublist (List.Sublist.append_left (List.sublist_cons_self _ _) _)

theorem mget_mid (hk : k.keyed = true) {pre post : List (k.T × V)} {p : k.T × V} (h : keysOnce (pre ++ p :: post)) : mget k (pre ++ p :: post) p.1 = some p.2 :=
  (mget_some hk h).2 (by simp)
end maps

/-- A key's entry set anew, where it stands. -/
theorem mset_mid {k : Shape} {V : Type} (hk : k.keyed = true) {pre post : List (k.T × V)} {y : k.T} {u v : V} (h : keysOnce (pre ++ (y, u) :: post)) : mset k (pre ++ (y, u) :: post) y v = pre ++ (y, v) :: post := by
  induction pre with
  | nil => simp only [List.nil_append, mset]; rw [if_pos ((key_eq hk y y).2 rfl)]
  | cons p pre ih =>
    have hne : ¬ k.eq y p.1 = true := by
      rw [key_eq hk]
      intro e
      unfold keysOnce at h
      simp only [List.cons_append, List.map_cons, List.nodup_cons] at h
      exact h.1 (by rw [← e]; simp)
    simp only [List.cons_append, mset]
    rw [if_neg hne, ih (by unfold keysOnce at h ⊢; simp only [List.cons_append, List.map_cons, List.nodup_cons] at h; exact h.2)]
/-- A key that is not there yet. -/
theorem mset_new {k : Shape} {V : Type} (hk : k.keyed = true) {es : List (k.T × V)} {y : k.T} {v : V} (h : y ∉ es.map (·.1)) : mset k es y v = es ++ [(y, v)] := by
  induction es with
  | nil => rfl
  | cons p es ih =>
    simp only [List.map_cons, List.mem_cons, not_or] at h
    simp only [mset]
    rw [if_neg (fun e => h.1 ((key_eq hk _ _).1 e)), ih h.2]
    rfl

/-! ### Parts of a row -/
theorem rd_part {S : Store} {b o : Nat} {l : List Value} (h : S.rd b o l) (k n : Nat) : S.rd b (o + k) ((l.drop k).take n) := by
  intro j x hj
  rw [List.getElem?_take] at hj
  split at hj
  · rw [List.getElem?_drop] at hj
    have := h (k + j) x hj
    rw [Nat.add_assoc]
    exact this
  · cases hj
theorem flat_drop {sh : Shape} : ∀ (xs : List sh.T) (k : Nat), (xs.drop k).flatMap sh.enc = (xs.flatMap sh.enc).drop (k * sh.n)
  | _, 0 => by simp
  | [], k + 1 => by simp
  | x :: xs, k + 1 => by
    rw [List.drop_succ_cons, flat_drop xs k, List.flatMap_cons, Nat.succ_mul, Nat.add_comm, ← List.drop_drop]
    congr 1
    rw [List.drop_left' (enc_length sh x)]
theorem flat_take {sh : Shape} : ∀ (xs : List sh.T) (k : Nat), (xs.take k).flatMap sh.enc = (xs.flatMap sh.enc).take (k * sh.n)
  | _, 0 => by simp
  | [], k + 1 => by simp
  | x :: xs, k + 1 => by
    have h1 : (sh.enc x).length ≤ sh.n + k * sh.n := by rw [enc_length]; omega
    rw [List.take_succ_cons, List.flatMap_cons, List.flatMap_cons, flat_take xs k, Nat.succ_mul, Nat.add_comm, List.take_append, enc_length, Nat.add_sub_cancel_left, List.take_of_length_le h1]
theorem RowRd.take {S : Store} {p : Option Addr} {sh : Shape} {xs : List sh.T} (h : RowRd S p sh xs) (k : Nat) : RowRd S p sh (xs.take k) := by
  refine ⟨?_, fun x hx => h.2 x (List.mem_of_mem_take hx)⟩
  rcases h.1 with rfl | ⟨b, o, hp, hrd⟩
  · exact .inl (by simp)
  · refine .inr ⟨b, o, hp, ?_⟩
    rw [flat_take]
    have := rd_part hrd 0 (k * sh.n)
    simpa using this
theorem RowRd.drop {S : Store} {p : Option Addr} {sh : Shape} {xs : List sh.T} (h : RowRd S p sh xs) {c k sz : Nat} (hc : xs.length ≤ c) (hsz : sz = sh.n) : RowRd S (if c = k then p else p.map fun p => addrAdd p (k * sz)) sh (xs.drop k) := by
  subst hsz
  refine ⟨?_, fun x hx => h.2 x (List.mem_of_mem_drop hx)⟩
  by_cases hk : xs.length ≤ k
  · exact .inl (List.drop_eq_nil_of_le hk)
  · rcases h.1 with rfl | ⟨b, o, hp, hrd⟩
    · exact .inl (by simp)
    · refine .inr ⟨b, o + k * sh.n, ?_, ?_⟩
      · rw [if_neg (by omega), hp]; rfl
      · rw [flat_drop]
        have := rd_part hrd (k * sh.n) (xs.flatMap sh.enc).length
        rwa [List.take_of_length_le (by rw [List.length_drop]; omega)] at this
theorem src_of {S : Store} {p : Option Addr} {sh : Shape} {ys : List sh.T} {n : Nat} (hn : n = ys.length) (h : RowRd S p sh ys) : n = ys.length ∧ (n = 0 ∨ ∃ b o, p = some ⟨b, o, none⟩ ∧ S.rd b o (ys.flatMap sh.enc)) := by
  refine ⟨hn, ?_⟩
  rcases h.1 with rfl | h
  · exact .inl (by simpa using hn)
  · exact .inr h

/-! ### Rows of rows -/

/-- The store knows rows, named by their headers. -/
def RowsRd (S : Store) (sh : Shape) (hs : List (Option Addr × Nat × Nat)) (xss : List (List sh.T)) : Prop :=
  rels (fun h xs => h.2.1 = xs.length ∧ RowRd S h.1 sh xs) hs xss
theorem RowsRd.le {S S' : Store} (h : S.le S') {sh : Shape} {hs : List (Option Addr × Nat × Nat)} {xss : List (List sh.T)} (hr : RowsRd S sh hs xss) : RowsRd S' sh hs xss :=
  rels_mono (fun _ _ k => ⟨k.1, k.2.le h⟩) hr
theorem RowsRd.length {S : Store} {sh : Shape} {hs : List (Option Addr × Nat × Nat)} {xss : List (List sh.T)} (hr : RowsRd S sh hs xss) : hs.length = xss.length := rels_length hr
theorem RowsRd.at {S : Store} {sh : Shape} {hs : List (Option Addr × Nat × Nat)} {xss : List (List sh.T)} (hr : RowsRd S sh hs xss) {i : Nat} (hi : i < xss.length) :
    ∃ p c, hs[i]? = some (p, xss[i].length, c) ∧ RowRd S p sh xss[i] := by
  have hl := hr.length
  obtain ⟨y, hy, h1, h2⟩ := rels_get hr i _ (List.getElem?_eq_getElem (by omega : i < hs.length))
  rw [List.getElem?_eq_getElem hi] at hy
  simp only [Option.some.injEq] at hy
  subst hy
  refine ⟨hs[i].1, hs[i].2.2, ?_, h2⟩
  rw [← h1, List.getElem?_eq_getElem (by omega : i < hs.length)]
theorem Store.rd_le {S S' : Store} (h : S.le S') {b o : Nat} {l : List Value} (hr : S.rd b o l) : S'.rd b o l := fun j x hx => h.1 _ _ _ (hr j x hx)
theorem RowIs.slice {S : Store} {p : Option Addr} {n c : Nat} {sh : Shape} {xs : List sh.T} (h : RowIs S (.slice p n c) sh xs) : n = xs.length ∧ RowRd S p sh xs := by
  obtain ⟨q, d, h1, h2⟩ := h
  simp only [Value.slice.injEq] at h1
  obtain ⟨rfl, rfl, rfl⟩ := h1
  exact ⟨rfl, h2⟩
/-- The rows of a pool, frozen. -/
theorem rows_of_pool {S : Store} {sh : Shape} : ∀ {es : List ((Option Addr × Nat × Nat) × List sh.T)}, (∀ p ∈ es.map (fun e => (Value.slice e.1.1 e.1.2.1 e.1.2.2, e.2)), RowIs S p.1 sh p.2) → RowsRd S sh (es.map (·.1)) (es.map (·.2))
  | [], _ => trivial
  | e :: es, h => ⟨(h _ (List.mem_cons_self ..)).slice, rows_of_pool fun p hp => h p (by simp only [List.map_cons, List.mem_cons]; exact .inr hp)⟩
end Go.Vc
