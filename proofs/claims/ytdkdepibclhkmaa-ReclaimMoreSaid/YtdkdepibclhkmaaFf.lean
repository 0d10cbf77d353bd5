/- law15: Bound. -/
import Derived.Test.YtdkdepibclhkmaaFe
namespace Go.Proofs.Ytdkdepibclhkmaa
open Go Go.Vc
set_option maxRecDepth 100000

/-- The distinct ones, in the order in which they come first. -/
def uAdd (l : List Int) (x : Int) : List Int := if x ∈ l then l else l ++ [x]
def uu (xs : List Int) : List Int := xs.foldl uAdd []
@[reducible] def uM (l : List Int) : List (Int × Bool) := l.map fun x => (x, true)

theorem uM_keys (l : List Int) : (uM l).map (·.1) = l := by
  induction l with
  | nil => rfl
  | cons x l ih => simp only [uM, List.map_cons] at ih ⊢; rw [ih]

theorem mset_same : ∀ {l : List Int} {x : Int}, x ∈ l → mset shI (uM l) x true = uM l
  | y :: l, x, h => by
    show (if shI.eq x y = true then (x, true) :: uM l else (y, true) :: mset shI (uM l) x true) = (y, true) :: uM l
    by_cases e : x = y
    · subst e
      rw [if_pos ((key_eq (k := shI) rfl x x).2 rfl)]
    · rw [if_neg (fun h => e ((key_eq (k := shI) rfl x y).1 h)), mset_same (by simpa [e] using h)]

theorem mset_uAdd (l : List Int) (x : Int) : mset shI (uM l) x true = uM (uAdd l x) := by
  unfold uAdd
  split
  · rename_i h; exact mset_same h
  · rename_i h
    rw [mset_new (k := shI) rfl (by rw [uM_keys]; exact h)]
    simp [uM]

theorem uAdd_nodup {l : List Int} (h : l.Nodup) (x : Int) : (uAdd l x).Nodup := by
  unfold uAdd
  split
  · exact h
  · rename_i hx
    refine List.nodup_append.2 ⟨h, by simp, fun a ha b hb e => hx ?_⟩
    have : b = x := by simpa using hb
    rw [← this, ← e]; exact ha
theorem uAdd_mem (l : List Int) (x y : Int) : y ∈ uAdd l x ↔ y ∈ l ∨ y = x := by
  unfold uAdd
  split
  · rename_i h
    constructor
    · exact .inl
    · rintro (h1 | rfl)
      · exact h1
      · exact h
  · simp
theorem foldl_uAdd : ∀ (xs l : List Int), l.Nodup → (xs.foldl uAdd l).Nodup ∧ ∀ y, y ∈ xs.foldl uAdd l ↔ y ∈ l ∨ y ∈ xs
  | [], l, h => ⟨h, by simp⟩
  | x :: xs, l, h => by
    obtain ⟨h1, h2⟩ := foldl_uAdd xs (uAdd l x) (uAdd_nodup h x)
    refine ⟨h1, fun y => ?_⟩
    show y ∈ xs.foldl uAdd (uAdd l x) ↔ _
    rw [h2, uAdd_mem]
    simp only [List.mem_cons, or_assoc]
theorem uu_nodup (xs : List Int) : (uu xs).Nodup := (foldl_uAdd xs [] (by simp)).1
theorem uu_mem (xs : List Int) (y : Int) : y ∈ uu xs ↔ y ∈ xs := by
  have := (foldl_uAdd xs [] (by simp)).2 y
  rw [uu, this]; simp
theorem uu_step {xs : List Int} {i : Nat} {x : Int} (h : xs[i]? = some x) : uu (xs.take (i + 1)) = uAdd (uu (xs.take i)) x := by
  unfold uu
  rw [List.take_add_one, h, List.foldl_append]
  rfl
theorem uu_length (xs : List Int) : (uu xs).length ≤ xs.length := by
  have key : ∀ (xs l : List Int), (xs.foldl uAdd l).length ≤ l.length + xs.length := by
    intro xs
    induction xs with
    | nil => intro l; simp
    | cons x xs ih =>
      intro l
      have h1 := ih (uAdd l x)
      have h2 : (uAdd l x).length ≤ l.length + 1 := by unfold uAdd; split <;> simp
      simp only [List.foldl_cons, List.length_cons]
      omega
  simpa [uu] using key xs []

set_option maxHeartbeats 1000000 in
theorem unlike_spec (S : Store) (p : Hd) (xs : List Int) (hl : xs.length = p.2.1) (hr : RowRd S p.1 shI xs) (hn : xs.length ≤ 1000) :
    Pure Try.prog 25 S [slV p] (A := Option Nat) (fun b => .c (.v (.map b))) (fun S' b => MapRd S' b shI .bool (uM (uu xs))) := by
  obtain ⟨p, k, c⟩ := p
  simp only at hl hr
  subst hl
  refine pure_vc agrees Try.func25 rfl rfl (fun S S' q hle h => h.le hle) ?_
  refine ⟨[], [], Nat, [5] ++ List.range' 10 60, fun i => [(9, rI i)], fun i => [.map shI .bool (uM (uu (xs.take i)))], fun _ => S, fun i => i ≤ xs.length, fun i => xs.length - i, ?_⟩
  refine And.intro (Exists.intro 0 (And.intro (And.intro (And.intro ?_ rfl) (And.intro rfl (Store.le_refl _))) (Nat.zero_le _))) ?_
  · repeat' first | exact trivial | exact rfl | refine And.intro ?_ ?_
  rintro i hi
  have i0 : (0 : Int) ≤ ((i : Nat) : Int) := Int.natCast_nonneg _
  refine And.intro (fun h => ?_) (fun h => ?_)
  · have hil : i < xs.length := by
      have : ((i : Nat) : Int) < ((xs.length : Nat) : Int) := of_decide_eq_true h
      omega
    have i1 : ((i : Nat) : Int) < ((xs.length : Nat) : Int) := by omega
    have hwi : IntKind.i64.wrap (((i : Nat) : Int) + 1) = ((i + 1 : Nat) : Int) := wrap_i64 (by omega) (by omega)
    have hx : xs[i]? = some xs[i] := List.getElem?_eq_getElem hil
    obtain ⟨x, hxx⟩ : ∃ x, xs[i] = x := ⟨_, rfl⟩
    rw [hxx] at hx
    obtain ⟨b1, o, hp, hok, hrd⟩ := row_at hr hx
    refine ⟨i0, i1, b1, o, hp, x, trivial, hrd, x, true, rfl, rfl, trivial, ((i + 1 : Nat) : Int), hwi, i + 1, ⟨⟨?_, rfl⟩, ?_, Store.le_refl _⟩, hil, ?_⟩
    · repeat' first | exact trivial | exact rfl | refine And.intro ?_ ?_
    · show [_] = [_]
      rw [uu_step hx, ← mset_uAdd]
    · show xs.length - (i + 1) < xs.length - i
      omega
  · have hil : i = xs.length := by
      have : ¬ ((i : Nat) : Int) < ((xs.length : Nat) : Int) := of_decide_eq_false h
      omega
    have ht : xs.take i = xs := by rw [hil, List.take_length]
    exact fun b S' hle hm => ⟨rfl, some b, rfl, by rw [← ht]; exact hm⟩

/-- A sum over a list. -/
def total {α : Type} (f : α → Nat) (l : List α) : Nat := (l.map f).sum
theorem total_mid {α : Type} (f : α → Nat) (pre post : List α) (p : α) : total f (pre ++ p :: post) = total f (pre ++ post) + f p := by
  simp only [total, List.map_append, List.map_cons, List.sum_append, List.sum_cons]
  omega
theorem total_perm {α : Type} (f : α → Nat) {l k : List α} (h : l.Perm k) : total f l = total f k := (h.map f).sum_nat

theorem total_uM (f : Int → Nat) (l : List Int) : total (fun p : Int × Bool => f p.1) (uM l) = total f l := by
  simp [total, uM, Function.comp_def]
theorem total_le {α : Type} {f : α → Nat} {c : Nat} (h : ∀ x, f x ≤ c) : ∀ l : List α, total f l ≤ l.length * c
  | [] => by simp [total]
  | x :: l => by
    have h1 := total_le h l
    have h2 := h x
    simp only [total, List.map_cons, List.sum_cons, List.length_cons, Nat.succ_mul] at h1 ⊢
    omega

def boundOf (xs : List It) (ann held : List Int) : Nat := total (fun e => xs.countP fun x => lives x e) (uu ann) + total (fun v => (xs.any fun x => named x v).toNat) (uu held)

theorem named_ref_spec (S : Store) (x : It) (v : Int) (b : Nat) (h : S.rd b 0 [.int .i64 v]) : Pure Try.prog 27 S [vT x, .pointer (some ⟨b, 0, none⟩)] rB (fun _ r => r = named x v) := by
  refine pure_vc agrees Try.func27 rfl rfl (fun S S' q hle h => h) ?_
  refine ⟨v, trivial, h, ⟨_, rfl, rfl, rfl⟩, .inl ⟨_, _, _, named_spec S x v, fun S1 r hS1 hr => ⟨rfl, _, rfl, hr⟩⟩⟩

set_option maxHeartbeats 1000000 in
theorem bound_spec (S : Store) (p q o : Hd) (ann held : List Int) (xs : List It) (hl : ann.length = p.2.1) (hr : RowRd S p.1 shI ann) (hm : held.length = q.2.1) (hr' : RowRd S q.1 shI held) (ho : xs.length = o.2.1) (hr2 : RowRd S o.1 shT xs)
    (hn : xs.length ≤ 1000) (hn' : ann.length ≤ 1000) (hn2 : held.length ≤ 1000) :
    Pure Try.prog 18 S [slV p, slV q, slV o] rI (fun _ z => z = ((boundOf xs ann held : Nat) : Int)) := by
  refine pure_vc agrees Try.func18 rfl rfl (fun S S' q hle h => h) ?_
  refine ⟨⟨_, rfl, rfl, rfl⟩, .inl ⟨_, _, _, unlike_spec S p ann hl hr hn', fun S1 u hS1 hu => ?_⟩⟩
  have hu : MapRd S1 u shI .bool (uM (uu ann)) := hu
  obtain ⟨ents, clock, hit, hio⟩ := iter_of hu
  refine ⟨ents, clock, _, hit, ?_⟩
  refine ⟨[], [], Nat × List (Int × Bool) × Option (Int × Bool), [8, 10] ++ List.range' 15 60, fun z => [(7, rI z.1)], fun z => [.iter shI .bool u ents clock z.2.1 z.2.2], fun _ => S1,
    fun z => z.2.1.length ≤ (uu ann).length ∧ z.1 + total (fun p => xs.countP fun x => lives x p.1) z.2.1 = total (fun p => xs.countP fun x => lives x p.1) (uM (uu ann)), fun z => z.2.1.length, ?_⟩
  refine And.intro (Exists.intro (0, uM (uu ann), none) (And.intro (And.intro (And.intro ?_ rfl) (And.intro rfl (Store.le_refl _))) ⟨by simp [uM], by simp⟩)) ?_
  · repeat' first | exact trivial | exact rfl | refine And.intro ?_ ?_
  have hbig : total (fun p : Int × Bool => xs.countP fun x => lives x p.1) (uM (uu ann)) ≤ 1000000 := by
    have h1 := total_le (f := fun p : Int × Bool => xs.countP fun x => lives x p.1) (c := 1000) (fun p => Nat.le_trans List.countP_le_length hn) (uM (uu ann))
    have h2 : (uM (uu ann)).length = (uu ann).length := by simp [uM]
    have h3 := uu_length ann
    rw [h2] at h1
    have h4 : (uu ann).length * 1000 ≤ 1000 * 1000 := Nat.mul_le_mul_right _ (by omega)
    omega
  rintro ⟨n, left, ce⟩ ⟨i1, i2⟩
  simp only at i1 i2
  refine And.intro hio (And.intro (fun hl => ?_) fun (pre : List (Int × Bool)) (p : Int × Bool) (post : List (Int × Bool)) hl => ?_)
  · have hl' : left = [] := hl
    subst hl'
    have hn1 : n = total (fun p : Int × Bool => xs.countP fun x => lives x p.1) (uM (uu ann)) := by simpa [total] using i2
    clear i2 i1
    refine onF ⟨⟨_, rfl, rfl, rfl⟩, .inl ⟨_, _, _, unlike_spec S1 q held hm (hr'.le hS1) hn2, fun S2 v hS2 hv => ?_⟩⟩
    have hv : MapRd S2 v shI .bool (uM (uu held)) := hv
    obtain ⟨ents2, clock2, hit2, hio2⟩ := iter_of hv
    refine ⟨ents2, clock2, _, hit2, ?_⟩
    refine ⟨[], [], Nat × List (Int × Bool) × Option (Int × Bool), [9, 11] ++ List.range' 34 40, fun z => [(7, rI (n + z.1 : Nat))], fun z => [.iter shI .bool u ents clock [] ce, .iter shI .bool v ents2 clock2 z.2.1 z.2.2], fun _ => S2,
      fun z => z.1 + z.2.1.length ≤ 1000 ∧ z.1 + total (fun p => (xs.any fun x => named x p.1).toNat) z.2.1 = total (fun p => (xs.any fun x => named x p.1).toNat) (uM (uu held)), fun z => z.2.1.length, ?_⟩
    have hul := uu_length held
    refine And.intro (Exists.intro (0, uM (uu held), none) (And.intro (And.intro (And.intro ?_ rfl) (And.intro rfl (Store.le_refl _))) ⟨by simp [uM]; omega, by simp⟩)) ?_
    · repeat' first | exact trivial | exact rfl | refine And.intro ?_ ?_
    rintro ⟨k, left, ce2⟩ ⟨j1, j2⟩
    simp only at j1 j2
    refine And.intro hio2 (And.intro (fun hl => ?_) fun (pre : List (Int × Bool)) (p : Int × Bool) (post : List (Int × Bool)) hl => ?_)
    · have hl' : left = [] := hl
      subst hl'
      refine onF ?_
      have hk : k = total (fun p : Int × Bool => (xs.any fun x => named x p.1).toNat) (uM (uu held)) := by simpa [total] using j2
      refine ⟨rfl, _, rfl, ?_⟩
      show ((n + k : Nat) : Int) = ((boundOf xs ann held : Nat) : Int)
      rw [boundOf, hn1, hk, total_uM (fun e => xs.countP fun x => lives x e), total_uM (fun v => (xs.any fun x => named x v).toNat)]
    · have hl' : left = pre ++ p :: post := hl
      subst hl'
      refine onT ⟨hio2, ⟨_, rfl, rfl, rfl⟩, .inl fun b S' hS' hrd => ?_⟩
      refine ⟨_, _, _, has_spec S' o xs 27 #[] #[.pointer (some ⟨b, 0, none⟩)] (fun x => named x p.1) ho (hr2.le (Store.le_trans hS1 (Store.le_trans hS2 hS'))) (by omega) ⟨⟨_, rfl, rfl, rfl⟩, rfl, by simp [Value.oneCell'], fun x _ => named_ref_spec S' x p.1 b hrd⟩, fun S3 r hS3 hr3 => ?_⟩
      have hr3 : r = xs.any fun x => named x p.1 := hr3
      have hle : (pre ++ post).length + 1 = (pre ++ p :: post).length := by simp; omega
      rw [total_mid, ← hr3] at j2
      refine And.intro (fun h5 => ?_) (fun h5 => ?_)
      · have h5 : r = true := h5
        rw [h5] at j2
        refine ⟨((n + (k + 1) : Nat) : Int), wrap_i64 (by omega) (by omega), (k + 1, pre ++ post, some p), ⟨⟨?_, rfl⟩, rfl, Store.le_trans hS' hS3⟩, ⟨?_, ?_⟩, ?_⟩
        · repeat' first | exact trivial | exact rfl | refine And.intro ?_ ?_
        · show k + 1 + (pre ++ post).length ≤ 1000
          omega
        · show k + 1 + total _ (pre ++ post) = _
          rw [← j2]
          show _ = k + (_ + 1)
          omega
        · show (pre ++ post).length < (pre ++ p :: post).length
          omega
      · have h5 : r = false := h5
        rw [h5] at j2
        refine ⟨(k, pre ++ post, some p), ⟨⟨?_, rfl⟩, rfl, Store.le_trans hS' hS3⟩, ⟨?_, ?_⟩, ?_⟩
        · repeat' first | exact trivial | exact rfl | refine And.intro ?_ ?_
        · show k + (pre ++ post).length ≤ 1000
          omega
        · show k + total _ (pre ++ post) = _
          rw [← j2]
          rfl
        · show (pre ++ post).length < (pre ++ p :: post).length
          omega
  · have hl' : left = pre ++ p :: post := hl
    subst hl'
    have hle : (pre ++ post).length + 1 = (pre ++ p :: post).length := by simp; omega
    have hnb : n ≤ 1000000 := by omega
    refine onT ⟨hio, ?_⟩
    refine ⟨[], [], Nat, [10] ++ List.range' 22 50, fun i => [(7, rI (n + (xs.take i).countP fun x => lives x p.1 : Nat)), (21, rI i)], fun _ => [.iter shI .bool u ents clock (pre ++ post) (some p)], fun _ => S1, fun i => i ≤ xs.length, fun i => xs.length - i, ?_⟩
    refine And.intro (Exists.intro 0 (And.intro (And.intro (And.intro ?_ rfl) (And.intro rfl (Store.le_refl _))) (Nat.zero_le _))) ?_
    · repeat' first | exact trivial | exact rfl | refine And.intro ?_ ?_
    rintro i hi
    have i0 : (0 : Int) ≤ ((i : Nat) : Int) := Int.natCast_nonneg _
    refine And.intro (fun h => ?_) (fun h => ?_)
    · have hil : i < xs.length := by
        have : ((i : Nat) : Int) < ((o.2.1 : Nat) : Int) := of_decide_eq_true h
        omega
      have i1 : ((i : Nat) : Int) < ((o.2.1 : Nat) : Int) := by omega
      have hwi : IntKind.i64.wrap (((i : Nat) : Int) + 1) = ((i + 1 : Nat) : Int) := wrap_i64 (by omega) (by omega)
      have hx : xs[i]? = some xs[i] := List.getElem?_eq_getElem hil
      obtain ⟨x, hxx⟩ : ∃ x, xs[i] = x := ⟨_, rfl⟩
      rw [hxx] at hx
      obtain ⟨b1, o1, hp, hok, hrd⟩ := row_at (hr2.le hS1) hx
      refine ⟨i0, i1, b1, o1, hp, x, ⟨trivial, trivial, trivial⟩, hrd, ⟨_, rfl, rfl, rfl⟩, .inl ⟨_, _, _, lives_spec S1 x p.1, fun S3 r hS3 hr3 => ?_⟩⟩
      have hr3 : r = lives x p.1 := hr3
      have hc : (xs.take (i + 1)).countP (fun x => lives x p.1) = (xs.take i).countP (fun x => lives x p.1) + r.toNat := by
        rw [List.take_add_one, hx, List.countP_append, hr3]
        cases h : lives x p.1 <;> simp [h]
      have hcl : (xs.take i).countP (fun x => lives x p.1) ≤ xs.length := Nat.le_trans List.countP_le_length (by simp; omega)
      refine And.intro (fun h5 => ?_) (fun h5 => ?_)
      · have h5 : r = true := h5
        rw [h5] at hc
        refine ⟨((n + (xs.take (i + 1)).countP (fun x => lives x p.1) : Nat) : Int), ?_, ((i + 1 : Nat) : Int), hwi, i + 1, ⟨⟨?_, rfl⟩, rfl, hS3⟩, hil, ?_⟩
        · rw [hc]
          exact wrap_i64 (by show _ ≤ _; omega) (by omega)
        · repeat' first | exact trivial | exact rfl | refine And.intro ?_ ?_
        · show xs.length - (i + 1) < xs.length - i
          omega
      · have h5 : r = false := h5
        rw [h5] at hc
        refine ⟨((i + 1 : Nat) : Int), hwi, i + 1, ⟨⟨?_, rfl⟩, rfl, hS3⟩, hil, ?_⟩
        · rw [hc]
          repeat' first | exact trivial | exact rfl | refine And.intro ?_ ?_
        · show xs.length - (i + 1) < xs.length - i
          omega
    · have hil : i = xs.length := by
        have : ¬ ((i : Nat) : Int) < ((o.2.1 : Nat) : Int) := of_decide_eq_false h
        omega
      have ht : xs.take i = xs := by rw [hil, List.take_length]
      refine ⟨(n + xs.countP (fun x => lives x p.1), pre ++ post, some p), ⟨⟨?_, rfl⟩, rfl, Store.le_refl _⟩, ⟨?_, ?_⟩, ?_⟩
      · rw [ht]
        repeat' first | exact trivial | exact rfl | refine And.intro ?_ ?_
      · show (pre ++ post).length ≤ _
        omega
      · show n + _ + total _ (pre ++ post) = _
        rw [← i2, total_mid]
        omega
      · show (pre ++ post).length < (pre ++ p :: post).length
        omega
end Go.Proofs.Ytdkdepibclhkmaa
