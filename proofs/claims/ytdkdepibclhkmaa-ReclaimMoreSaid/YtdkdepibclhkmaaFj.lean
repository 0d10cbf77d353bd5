/- law15: plain facts of bags. -/
import Derived.Test.YtdkdepibclhkmaaFi
namespace Go.Proofs.Ytdkdepibclhkmaa
open Go Go.Vc

/-- What a bag holds: valid blocks, each once. -/
def GoodBag (xs : List It) : Prop := (∀ x ∈ xs, 0 ≤ x.1 ∧ x.1 < 64) ∧ xs.Pairwise fun a b => a.1 ≠ b.1

theorem wrong_zero {xs : List It} {x : It} (h : wrong xs x = 0) : 0 ≤ x.1 ∧ x.1 < 64 ∧ ∀ y ∈ xs, y.1 ≠ x.1 := by
  unfold wrong at h
  split at h
  · exact absurd h (by decide)
  · rename_i h1
    split at h
    · exact absurd h (by decide)
    · split at h
      · exact absurd h (by decide)
      · rename_i h3
        refine ⟨by omega, by omega, fun y hy e => h3 ?_⟩
        exact List.any_eq_true.2 ⟨y, hy, by simpa using e⟩

theorem good_retired {xs : List It} (h : GoodBag xs) (x : It) : GoodBag (retired xs x) := by
  unfold retired
  split
  · rename_i hw
    obtain ⟨h0, h1, h2⟩ := wrong_zero hw
    refine ⟨fun y hy => ?_, List.pairwise_append.2 ⟨h.2, by simp, fun a ha b hb => ?_⟩⟩
    · rcases List.mem_append.1 hy with hy | hy
      · exact h.1 y hy
      · have : y = x := by simpa using hy
        rw [this]; exact ⟨h0, h1⟩
    · have : b = x := by simpa using hb
      rw [this]; exact h2 a ha
  · exact h
theorem good_fold : ∀ (xs l : List It), GoodBag l → GoodBag (xs.foldl retired l)
  | [], _, h => h
  | x :: xs, l, h => good_fold xs (retired l x) (good_retired h x)
theorem good_bag (xs : List It) : GoodBag (bagOf xs) := good_fold xs [] ⟨by simp, .nil⟩

theorem GoodBag.nodup {xs : List It} (h : GoodBag xs) : (xs.map (·.1)).Nodup := List.pairwise_map.2 h.2
theorem GoodBag.filter {xs : List It} (h : GoodBag xs) (p : It → Bool) : GoodBag (xs.filter p) :=
  ⟨fun x hx => h.1 x (List.mem_filter.1 hx).1, h.2.filter p⟩
theorem GoodBag.eq_of {xs : List It} (h : GoodBag xs) {x y : It} (hx : x ∈ xs) (hy : y ∈ xs) (e : x.1 = y.1) : x = y := by
  obtain ⟨-, h⟩ := h
  induction xs with
  | nil => cases hx
  | cons z xs ih =>
    obtain ⟨h1, h2⟩ := List.pairwise_cons.1 h
    rcases List.mem_cons.1 hx with hx | hx
    · rcases List.mem_cons.1 hy with hy | hy
      · rw [hx, hy]
      · exact absurd (hx ▸ e) (h1 y hy)
    · rcases List.mem_cons.1 hy with hy | hy
      · exact absurd (hy ▸ e.symm) (h1 x hx)
      · exact ih hx hy h2

theorem countP_or_le {α : Type} (p q : α → Bool) : ∀ xs : List α, xs.countP (fun x => p x || q x) ≤ xs.countP p + xs.countP q
  | [] => by simp
  | x :: xs => by
    have := countP_or_le p q xs
    simp only [List.countP_cons]
    cases p x <;> cases q x <;> simp <;> omega

theorem count_lives (xs : List It) : ∀ L : List Int, xs.countP (fun x => L.any (lives x)) ≤ total (fun e => xs.countP fun x => lives x e) L
  | [] => by simp [total]
  | e :: L => by
    have h1 := count_lives xs L
    have h2 := countP_or_le (fun x => lives x e) (fun x => L.any (lives x)) xs
    simp only [List.any_cons, total, List.map_cons, List.sum_cons] at h1 h2 ⊢
    omega

theorem named_wrap {x : It} (h : 0 ≤ x.1 ∧ x.1 < 64) (v : Int) : named x v = (v == x.1 + 1) := by
  unfold named
  rw [wrap_i64 (x := x.1 + 1) (by omega) (by omega)]

theorem count_name {xs : List It} (h : GoodBag xs) (v : Int) : xs.countP (fun x => named x v) ≤ (xs.any fun x => named x v).toNat := by
  obtain ⟨h1, h2⟩ := h
  induction xs with
  | nil => simp
  | cons x xs ih =>
    have ih := ih (fun y hy => h1 y (by simp [hy])) (List.pairwise_cons.1 h2).2
    have h3 := (List.pairwise_cons.1 h2).1
    rw [List.countP_cons, List.any_cons]
    cases hx : named x v with
    | false => simpa using ih
    | true =>
      have hz : xs.countP (fun x => named x v) = 0 := by
        rw [List.countP_eq_zero]
        intro y hy
        rw [named_wrap (h1 x (by simp))] at hx
        rw [named_wrap (h1 y (by simp [hy]))]
        have := h3 y hy
        simp only [beq_iff_eq] at hx ⊢
        omega
      rw [hz]
      simp
theorem count_named {xs : List It} (h : GoodBag xs) : ∀ L : List Int, xs.countP (fun x => L.any (named x)) ≤ total (fun v => (xs.any fun x => named x v).toNat) L
  | [] => by simp [total]
  | v :: L => by
    have h1 := count_named h L
    have h2 := countP_or_le (fun x => named x v) (fun x => L.any (named x)) xs
    have h3 := count_name h v
    simp only [List.any_cons, total, List.map_cons, List.sum_cons] at h1 h2 ⊢
    omega

theorem any_uu (l : List Int) (p : Int → Bool) : l.any p = (uu l).any p := by
  rw [Bool.eq_iff_iff, List.any_eq_true, List.any_eq_true]
  constructor
  · rintro ⟨x, h1, h2⟩
    exact ⟨x, (uu_mem l x).2 h1, h2⟩
  · rintro ⟨x, h1, h2⟩
    exact ⟨x, (uu_mem l x).1 h1, h2⟩

theorem kept_le {xs : List It} (h : GoodBag xs) (ann held : List Int) : (keptOf xs ann held).length ≤ boundOf xs ann held := by
  have h1 := countP_or_le (fun x => ann.any (lives x)) (fun x => held.any (named x)) xs
  have h2 := count_lives xs (uu ann)
  have h3 := count_named h (uu held)
  have e1 : (fun x => ann.any (lives x)) = fun x => (uu ann).any (lives x) := funext fun x => any_uu ann (lives x)
  have e2 : (fun x => held.any (named x)) = fun x => (uu held).any (named x) := funext fun x => any_uu held (named x)
  have e3 : (keptOf xs ann held).length = xs.countP (fun x => ann.any (lives x) || held.any (named x)) := by
    rw [keptOf, ← List.countP_eq_length_filter]
    rfl
  rw [e3, boundOf]
  rw [e1, e2] at h1
  exact Nat.le_trans h1 (Nat.add_le_add h2 h3)

theorem way_none (x : It) : way x [0, 0] [] = false := by simp [way, lives]
theorem kept_none (xs : List It) : keptOf xs [0, 0] [] = [] := by
  rw [keptOf, List.filter_eq_nil_iff]
  intro x _
  rw [way_none]
  simp
theorem gone_none (xs : List It) : (goneOf xs [0, 0] []).length = xs.length := by
  rw [goneOf, List.length_map]
  congr 1
  rw [List.filter_eq_self]
  intro x _
  rw [way_none]
  rfl

theorem sorted_perm (xs : List Int) : (sorted xs).Perm xs := List.mergeSort_perm _ _
theorem sorted_mem (xs : List Int) (x : Int) : x ∈ sorted xs ↔ x ∈ xs := (sorted_perm xs).mem_iff
theorem sorted_strict {xs : List Int} (h : xs.Nodup) : (sorted xs).Pairwise (· < ·) := by
  have h1 := List.pairwise_mergeSort (le := fun x y : Int => decide (x ≤ y)) (fun a b c h1 h2 => by simp at h1 h2 ⊢; omega) (fun a b => by simp; omega) xs
  have h2 : (sorted xs).Nodup := (sorted_perm xs).nodup_iff.2 h
  have h3 : (sorted xs).Pairwise fun x y => decide (x ≤ y) = true ∧ x ≠ y := h1.and h2
  exact h3.imp fun {a b} hab => by
    have := of_decide_eq_true hab.1
    have := hab.2
    omega
theorem gone_nodup {xs : List It} (h : GoodBag xs) (ann held : List Int) : (goneOf xs ann held).Nodup := (h.filter _).nodup
theorem gone_mem {xs : List It} {ann held : List Int} {b : Int} : b ∈ goneOf xs ann held ↔ ∃ x ∈ xs, way x ann held = false ∧ x.1 = b := by
  rw [goneOf, List.mem_map]
  constructor
  · rintro ⟨x, h1, h2⟩
    obtain ⟨h3, h4⟩ := List.mem_filter.1 h1
    exact ⟨x, h3, by simpa using h4, h2⟩
  · rintro ⟨x, h1, h2, h3⟩
    exact ⟨x, List.mem_filter.2 ⟨h1, by simp [h2]⟩, h3⟩
theorem kept_step {xs : List It} {i : Nat} {x : It} (h : xs[i]? = some x) (ann held : List Int) : keptOf (xs.take (i + 1)) ann held = keptOf (xs.take i) ann held ++ (if way x ann held = true then [x] else []) := by
  unfold keptOf
  rw [List.take_add_one, h, List.filter_append]
  cases hw : way x ann held <;> simp [hw]
theorem gone_step {xs : List It} {i : Nat} {x : It} (h : xs[i]? = some x) (ann held : List Int) : goneOf (xs.take (i + 1)) ann held = goneOf (xs.take i) ann held ++ (if way x ann held = true then [] else [x.1]) := by
  unfold goneOf
  rw [List.take_add_one, h, List.filter_append]
  cases hw : way x ann held <;> simp [hw]
theorem GoodBag.take {xs : List It} (h : GoodBag xs) (i : Nat) : GoodBag (xs.take i) :=
  ⟨fun x hx => h.1 x (List.mem_of_mem_take hx), h.2.sublist (List.take_sublist _ _)⟩
theorem gone_new {xs : List It} (h : GoodBag xs) {i : Nat} {x : It} (hx : xs[i]? = some x) (ann held : List Int) : x.1 ∉ goneOf (xs.take i) ann held := by
  intro hm
  obtain ⟨y, h1, -, h3⟩ := gone_mem.1 hm
  have h4 := h.take (i + 1)
  have h5 : (xs.take i ++ [x]).Pairwise fun a b => a.1 ≠ b.1 := by
    have := h4.2
    rwa [List.take_add_one, hx] at this
  exact (List.pairwise_append.1 h5).2.2 y h1 x (by simp) h3
theorem kept_length (xs : List It) (ann held : List Int) : (keptOf xs ann held).length ≤ xs.length := List.length_filter_le _ _
theorem gone_length (xs : List It) (ann held : List Int) : (goneOf xs ann held).length ≤ xs.length := by
  rw [goneOf, List.length_map]; exact List.length_filter_le _ _
end Go.Proofs.Ytdkdepibclhkmaa
