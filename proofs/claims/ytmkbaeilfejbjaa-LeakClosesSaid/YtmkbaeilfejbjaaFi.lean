/- law16: the reference's Reach: plain facts. -/
import Derived.Test.YtmkbaeilfejbjaaFh
namespace Go.Proofs.Ytmkbaeilfejbjaa
open Go Go.Vc

/-- How many nodes are in a list. -/
def cnt (n : Nat) (got : List Int) : Nat := (List.range n).countP fun (k : Nat) => decide ((k : Int) ∈ got)
theorem cnt_le (n : Nat) (got : List Int) : cnt n got ≤ n := by
  have := List.countP_le_length (p := fun k : Nat => decide ((k : Int) ∈ got)) (l := List.range n)
  simpa [cnt] using this
theorem count_lt {p q : Nat → Bool} : ∀ {l : List Nat}, (∀ k ∈ l, p k = true → q k = true) → (∃ k ∈ l, q k = true ∧ p k = false) → l.countP p + 1 ≤ l.countP q
  | [], _, h => by obtain ⟨k, hk, _⟩ := h; cases hk
  | x :: l, h1, h2 => by
    have mono : l.countP p ≤ l.countP q := List.countP_mono_left fun k hk => h1 k (List.mem_cons_of_mem _ hk)
    rw [List.countP_cons, List.countP_cons]
    obtain ⟨k, hk, hq, hp⟩ := h2
    rcases List.mem_cons.1 hk with rfl | hk
    · rw [hq, hp]; simp; omega
    · have ih := count_lt (p := p) (q := q) (l := l) (fun k hk => h1 k (List.mem_cons_of_mem _ hk)) ⟨k, hk, hq, hp⟩
      have hx := h1 x (by simp)
      cases hpx : p x with
      | false => cases q x <;> simp <;> omega
      | true => rw [hx hpx]; simp; omega
theorem cnt_add {n : Nat} {got : List Int} {x : Int} (h0 : 0 ≤ x) (h1 : x < (n : Int)) (hx : x ∉ got) : cnt n got + 1 ≤ cnt n (got ++ [x]) := by
  refine count_lt (fun k _ h => ?_) ⟨x.toNat, by simp; omega, ?_, ?_⟩
  · simp only [decide_eq_true_eq] at h ⊢
    exact List.mem_append_left _ h
  · simp only [decide_eq_true_eq]
    rw [Int.toNat_of_nonneg h0]; simp
  · simp only [decide_eq_false_iff_not]
    rw [Int.toNat_of_nonneg h0]; exact hx

/-- What holds all the way. -/
structure Got (roots : List Int) (next : List (List Int)) (got : List Int) : Prop where
  sound : ∀ y ∈ got, Rch roots next y
  has : ∀ y ∈ roots, isNode next y → y ∈ got
  len : got.length ≤ roots.length + cnt next.length got
theorem Got.short {roots : List Int} {next : List (List Int)} {got : List Int} (h : Got roots next got) : got.length ≤ roots.length + next.length := by
  have := h.len
  have := cnt_le next.length got
  omega
theorem Got.add {roots : List Int} {next : List (List Int)} {got : List Int} (h : Got roots next got) {x y : Int} {l : List Int} (hx : x ∈ got) (hl : next[x.toNat]? = some l) (hy : y ∈ l) (hv : isNode next y) (hn : y ∉ got) : Got roots next (got ++ [y]) := by
  refine ⟨fun z hz => ?_, fun z hz hzv => List.mem_append_left _ (h.has z hz hzv), ?_⟩
  · rcases List.mem_append.1 hz with hz | hz
    · exact h.sound z hz
    · have : z = y := by simpa using hz
      subst this
      exact .step x z l (h.sound x hx) hl hy hv
  · have := h.len
    have := cnt_add (n := next.length) hv.1 hv.2 hn
    simp only [List.length_append, List.length_singleton]
    omega
def Closed (next : List (List Int)) (got : List Int) : Prop := ∀ y ∈ got, closedAt next got y

/-- Between the nodes of a round. -/
def MidI (next : List (List Int)) (n i : Nat) (got : List Int) : Prop := n + 1 ≤ cnt next.length got ∨ ((∀ j : Nat, j < i → (j : Int) ∈ got → closedAt next got j) ∧ (n ≤ cnt next.length got ∨ Closed next got))
/-- Between the successors of a node. -/
def MidK (next : List (List Int)) (n i : Nat) (l : List Int) (k : Nat) (got : List Int) : Prop := n + 1 ≤ cnt next.length got ∨ ((∀ j : Nat, j < i → (j : Int) ∈ got → closedAt next got j) ∧ (∀ y ∈ l.take k, isNode next y → y ∈ got) ∧ (n ≤ cnt next.length got ∨ Closed next got))

theorem midI_start {next : List (List Int)} {n : Nat} {got : List Int} (h : n ≤ cnt next.length got ∨ Closed next got) : MidI next n 0 got := .inr ⟨fun j hj => absurd hj (by omega), h⟩
theorem midI_skip {next : List (List Int)} {n i : Nat} {got : List Int} (h : MidI next n i got) (hi : (i : Int) ∉ got) : MidI next n (i + 1) got := by
  rcases h with h | ⟨h1, h2⟩
  · exact .inl h
  · refine .inr ⟨fun j hj hjg => ?_, h2⟩
    rcases Nat.lt_or_ge j i with h3 | h3
    · exact h1 j h3 hjg
    · have : j = i := by omega
      subst this
      exact absurd hjg hi
theorem midI_end {roots : List Int} {next : List (List Int)} {n : Nat} {got : List Int} (hg : Got roots next got) (h : MidI next n next.length got) : n + 1 ≤ cnt next.length got ∨ Closed next got := by
  rcases h with h | ⟨h1, _⟩
  · exact .inl h
  · refine .inr fun y hy => ?_
    obtain ⟨y0, y1⟩ := (hg.sound y hy).node
    have := h1 y.toNat (by omega)
    rw [Int.toNat_of_nonneg y0] at this
    exact this hy
theorem midK_start {next : List (List Int)} {n i : Nat} {l : List Int} {got : List Int} (h : MidI next n i got) : MidK next n i l 0 got := by
  rcases h with h | ⟨h1, h2⟩
  · exact .inl h
  · exact .inr ⟨h1, by simp, h2⟩
theorem midK_end {next : List (List Int)} {n i : Nat} {l : List Int} {got : List Int} (hl : next[i]? = some l) (h : MidK next n i l l.length got) : MidI next n (i + 1) got := by
  rcases h with h | ⟨h1, h2, h3⟩
  · exact .inl h
  · refine .inr ⟨fun j hj hjg => ?_, h3⟩
    rcases Nat.lt_or_ge j i with h4 | h4
    · exact h1 j h4 hjg
    · have : j = i := by omega
      subst this
      intro l' hl' y hy hv
      rw [Int.toNat_natCast, hl] at hl'
      cases hl'
      exact h2 y (by rwa [List.take_length]) hv
theorem midK_skip {next : List (List Int)} {n i : Nat} {l : List Int} {k : Nat} {got : List Int} {y : Int} (h : MidK next n i l k got) (hy : l[k]? = some y) (hs : isNode next y → y ∈ got) : MidK next n i l (k + 1) got := by
  rcases h with h | ⟨h1, h2, h3⟩
  · exact .inl h
  · refine .inr ⟨h1, fun z hz hv => ?_, h3⟩
    rw [List.take_add_one, hy] at hz
    rcases List.mem_append.1 hz with hz | hz
    · exact h2 z hz hv
    · have : z = y := by simpa using hz
      subst this
      exact hs hv
theorem midK_add {next : List (List Int)} {n i : Nat} {l : List Int} {k : Nat} {got : List Int} {y : Int} (h : MidK next n i l k got) (hi : (i : Int) ∈ got) (hl : next[i]? = some l) (hy : l[k]? = some y) (hv : isNode next y) (hn : y ∉ got) : MidK next n i l (k + 1) (got ++ [y]) := by
  have hc := cnt_add (n := next.length) hv.1 hv.2 hn
  left
  rcases h with h | ⟨-, -, h | h⟩
  · omega
  · omega
  · exact absurd (h i hi l (by rw [Int.toNat_natCast]; exact hl) y (List.mem_of_getElem? hy) hv) hn

theorem isReach_got {roots : List Int} {next : List (List Int)} {got : List Int} (hg : Got roots next got) (hc : next.length + 1 ≤ cnt next.length got ∨ Closed next got) : IsReach roots next (rising got) := by
  have hc' : Closed next got := by
    rcases hc with hc | hc
    · have := cnt_le next.length got
      omega
    · exact hc
  refine ⟨rising_strict got, fun x => ?_⟩
  rw [mem_rising]
  exact ⟨hg.sound x, fun h => rch_of_closed hg.has hc' h⟩
end Go.Proofs.Ytmkbaeilfejbjaa
