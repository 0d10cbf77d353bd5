/- law15: the reference: Bound. -/
import Derived.Test.YtdkdepibclhkmaaFf
namespace Go.Proofs.Ytdkdepibclhkmaa
open Go Go.Vc
set_option maxRecDepth 100000

set_option maxHeartbeats 1000000 in
theorem ref_unlike_spec (S : Store) (p : Hd) (xs : List Int) (hl : xs.length = p.2.1) (hr : RowRd S p.1 shI xs) (hn : xs.length ≤ 1000) :
    Pure Try.prog 29 S [slV p] (A := Hd) (fun q => .c (.v (slV q))) (fun S' q => q.2.1 = (uu xs).length ∧ RowRd S' q.1 shI (uu xs)) := by
  obtain ⟨p, k, c⟩ := p
  simp only at hl hr
  subst hl
  refine pure_vc agrees Try.func29 rfl rfl (fun S S' q hle h => ⟨h.1, h.2.le hle⟩) ?_
  refine ⟨[], [(3, shI, 2)], Nat, [5, 6] ++ List.range' 7 60, fun i => [(4, rI i)], fun i => [.row shI 2 (uu (xs.take i))], fun _ => S, fun i => i ≤ xs.length, fun i => xs.length - i, ?_⟩
  refine And.intro (Exists.intro 0 (And.intro (And.intro (And.intro ?_ rfl) (And.intro rfl (Store.le_refl _))) (Nat.zero_le _))) ?_
  · repeat' first | exact trivial | exact rfl | refine And.intro ?_ ?_
  rintro i hi
  have i0 : (0 : Int) ≤ ((i : Nat) : Int) := Int.natCast_nonneg _
  refine And.intro (fun h => ?_) (fun h => ?_)
  · have hil : i < xs.length := by
      have : ((i : Nat) : Int) < ((xs.length : Nat) : Int) := of_decide_eq_true h
      omega
    have i1 : ((i : Nat) : Int) < ((xs.length : Nat) : Int) := by omega
    have hwi : IntKind.i64.wrap (((i : Nat) : Int) + 1) = ((i + 1 : Nat) : Int) := wrap_i64 (by omega) (by omega)
    have hx : xs[i]? = some xs[i] := List.getElem?_eq_getElem hil
    obtain ⟨x, hxx⟩ : ∃ x, xs[i] = x := ⟨_, rfl⟩
    rw [hxx] at hx
    obtain ⟨b1, o, hp, hok, hrd⟩ := row_at hr hx
    obtain ⟨L, hL⟩ : ∃ L, uu (xs.take i) = L := ⟨_, rfl⟩
    have hLl : L.length ≤ 1000 := by
      have := uu_length (xs.take i)
      rw [hL, List.length_take] at this
      omega
    refine ⟨[], [], Nat, List.range' 13 60, fun k => [(5, rB (decide (x ∈ L.take k))), (6, rI k)], fun _ => [.row shI 2 (uu (xs.take i))], fun _ => S, fun k => k ≤ L.length, fun k => L.length - k, ?_⟩
    refine And.intro (Exists.intro 0 (And.intro (And.intro (And.intro ?_ rfl) (And.intro rfl (Store.le_refl _))) (Nat.zero_le _))) ?_
    · repeat' first | exact trivial | exact rfl | refine And.intro ?_ ?_
    rintro k hk
    have k0 : (0 : Int) ≤ ((k : Nat) : Int) := Int.natCast_nonneg _
    refine And.intro (fun h => ?_) (fun h => ?_)
    · have hkl : k < L.length := by
        have : ((k : Nat) : Int) < (((uu (xs.take i)).length : Nat) : Int) := of_decide_eq_true h
        rw [hL] at this
        omega
      have hwk : IntKind.i64.wrap (((k : Nat) : Int) + 1) = ((k + 1 : Nat) : Int) := wrap_i64 (by omega) (by omega)
      have hy : L[k]? = some L[k] := List.getElem?_eq_getElem hkl
      obtain ⟨y, hyy⟩ : ∃ y, L[k] = y := ⟨_, rfl⟩
      rw [hyy] at hy
      refine ⟨or29_9, [], oF29_9, by kernel_rfl, ?_⟩
      refine And.intro (fun h5 => ?_) (fun h5 => ?_)
      · have h5 : decide (x ∈ L.take k) = true := h5
        have e5 : decide (x ∈ L.take (k + 1)) = true := decide_eq_true (by rw [List.take_add_one]; exact List.mem_append_left _ (of_decide_eq_true h5))
        refine ⟨((k + 1 : Nat) : Int), hwk, k + 1, ⟨⟨?_, rfl⟩, rfl, Store.le_refl _⟩, hkl, ?_⟩
        · rw [e5]
          repeat' first | exact trivial | exact rfl | refine And.intro ?_ ?_
        · show L.length - (k + 1) < L.length - k
          omega
      · have h5 : decide (x ∈ L.take k) = false := h5
        have e5 : decide (x ∈ L.take (k + 1)) = (y == x) := by
          rw [List.take_add_one, hy]
          have := of_decide_eq_false h5
          rw [Bool.eq_iff_iff]
          simp only [decide_eq_true_eq, List.mem_append, Option.toList_some, List.mem_singleton, beq_iff_eq]
          exact ⟨fun h => h.elim (fun h => absurd h this) (fun h => h.symm), fun h => .inr h.symm⟩
        refine ⟨k0, ?_, y, by rw [hL]; exact hy, i0, i1, b1, o, hp, x, trivial, hrd, ((k + 1 : Nat) : Int), hwk, k + 1, ⟨⟨?_, rfl⟩, rfl, Store.le_refl _⟩, hkl, ?_⟩
        · rw [hL]
          omega
        · rw [e5]
          repeat' first | exact trivial | exact rfl | refine And.intro ?_ ?_
        · show L.length - (k + 1) < L.length - k
          omega
    · have hkl : k = L.length := by
        have : ¬ ((k : Nat) : Int) < (((uu (xs.take i)).length : Nat) : Int) := of_decide_eq_false h
        rw [hL] at this
        omega
      have ht : L.take k = L := by rw [hkl, List.take_length]
      rw [ht]
      refine And.intro (fun h5 => ?_) (fun h5 => ?_)
      · have h5 : x ∉ L := of_decide_eq_false (by simpa using h5)
        have e1 : uu (xs.take (i + 1)) = uu (xs.take i) ++ [x] := by rw [uu_step hx, hL, uAdd, if_neg h5]
        refine ⟨i0, i1, b1, o, hp, x, trivial, hrd, [x], ⟨rfl, rfl⟩, fun _ _ => trivial, by rw [hL]; show (L.length + 1) * 8 ≤ 140737488355328; omega, ((i + 1 : Nat) : Int), hwi, i + 1, ⟨⟨?_, rfl⟩, ?_, Store.le_refl _⟩, hil, ?_⟩
        · repeat' first | exact trivial | exact rfl | refine And.intro ?_ ?_
        · show [_] = [_]
          rw [e1]
        · show xs.length - (i + 1) < xs.length - i
          omega
      · have h5 : x ∈ L := of_decide_eq_true (by simpa using h5)
        have e1 : uu (xs.take (i + 1)) = uu (xs.take i) := by rw [uu_step hx, hL, uAdd, if_pos h5]
        refine ⟨((i + 1 : Nat) : Int), hwi, i + 1, ⟨⟨?_, rfl⟩, ?_, Store.le_refl _⟩, hil, ?_⟩
        · repeat' first | exact trivial | exact rfl | refine And.intro ?_ ?_
        · show [_] = [_]
          rw [e1]
        · show xs.length - (i + 1) < xs.length - i
          omega
  · have hil : i = xs.length := by
      have : ¬ ((i : Nat) : Int) < ((xs.length : Nat) : Int) := of_decide_eq_false h
      omega
    have ht : xs.take i = xs := by rw [hil, List.take_length]
    exact fun p c S' hle hr _ => ⟨rfl, (p, _, c), rfl, by rw [ht], ht ▸ hr⟩

set_option maxHeartbeats 1000000 in
theorem ref_bound_spec (S : Store) (p q o : Hd) (ann held : List Int) (xs : List It) (hl : ann.length = p.2.1) (hr : RowRd S p.1 shI ann) (hm : held.length = q.2.1) (hr' : RowRd S q.1 shI held) (ho : xs.length = o.2.1) (hr2 : RowRd S o.1 shT xs)
    (hn : xs.length ≤ 1000) (hn' : ann.length ≤ 1000) (hn2 : held.length ≤ 1000) :
    Pure Try.prog 19 S [slV p, slV q, slV o] rI (fun _ z => z = ((boundOf xs ann held : Nat) : Int)) := by
  refine pure_vc agrees Try.func19 rfl rfl (fun S S' q hle h => h) ?_
  refine ⟨⟨_, rfl, rfl, rfl⟩, .inl ⟨_, _, _, ref_unlike_spec S p ann hl hr hn', fun S1 u hS1 hu => ?_⟩⟩
  have hu : u.2.1 = (uu ann).length ∧ RowRd S1 u.1 shI (uu ann) := hu
  refine ⟨⟨_, rfl, rfl, rfl⟩, .inl ⟨_, _, _, ref_unlike_spec S1 q held hm (hr'.le hS1) hn2, fun S2 v hS2 hv => ?_⟩⟩
  have hv : v.2.1 = (uu held).length ∧ RowRd S2 v.1 shI (uu held) := hv
  have hul := uu_length ann
  have huh := uu_length held
  have hbig : ∀ i, total (fun e => xs.countP fun x => lives x e) ((uu ann).take i) ≤ 1000000 := fun i => by
    have h1 := total_le (f := fun e => xs.countP fun x => lives x e) (c := 1000) (fun p => Nat.le_trans List.countP_le_length hn) ((uu ann).take i)
    have h3 := uu_length ann
    rw [List.length_take] at h1
    have h4 : min i (uu ann).length * 1000 ≤ 1000 * 1000 := Nat.mul_le_mul_right _ (by omega)
    omega
  refine ⟨[], [], Nat, [11] ++ List.range' 19 90, fun i => [(7, rI (total (fun e => xs.countP fun x => lives x e) ((uu ann).take i) : Nat)), (10, rI i)], fun i => [], fun _ => S2, fun i => i ≤ (uu ann).length, fun i => (uu ann).length - i, ?_⟩
  refine And.intro (Exists.intro 0 (And.intro (And.intro (And.intro ?_ rfl) (And.intro rfl (Store.le_refl _))) (Nat.zero_le _))) ?_
  · repeat' first | exact trivial | exact rfl | refine And.intro ?_ ?_
  rintro i hi
  have i0 : (0 : Int) ≤ ((i : Nat) : Int) := Int.natCast_nonneg _
  refine And.intro (fun h => ?_) (fun h => ?_)
  · have hil : i < (uu ann).length := by
      have : ((i : Nat) : Int) < ((u.2.1 : Nat) : Int) := of_decide_eq_true h
      rw [hu.1] at this
      omega
    have i1 : ((i : Nat) : Int) < ((u.2.1 : Nat) : Int) := by rw [hu.1]; omega
    have hwi : IntKind.i64.wrap (((i : Nat) : Int) + 1) = ((i + 1 : Nat) : Int) := wrap_i64 (by omega) (by omega)
    have hx : (uu ann)[i]? = some (uu ann)[i] := List.getElem?_eq_getElem hil
    obtain ⟨e, hee⟩ : ∃ e, (uu ann)[i] = e := ⟨_, rfl⟩
    rw [hee] at hx
    obtain ⟨b1, o1, hp, hok, hrd⟩ := row_at (hu.2.le hS2) hx
    have hst : total (fun e => xs.countP fun x => lives x e) ((uu ann).take (i + 1)) = total (fun e => xs.countP fun x => lives x e) ((uu ann).take i) + xs.countP fun x => lives x e := by
      rw [List.take_add_one, hx]
      simp [total]
    obtain ⟨n, hn0⟩ : ∃ n, total (fun e => xs.countP fun x => lives x e) ((uu ann).take i) = n := ⟨_, rfl⟩
    have hnb : n ≤ 1000000 := by rw [← hn0]; exact hbig i
    rw [hn0] at hst
    refine ⟨[], [], Nat, List.range' 19 90, fun k => [(7, rI (n + (xs.take k).countP fun x => lives x e : Nat)), (11, rI k)], fun i => [], fun _ => S2, fun k => k ≤ xs.length, fun k => xs.length - k, ?_⟩
    refine And.intro (Exists.intro 0 (And.intro (And.intro (And.intro ?_ rfl) (And.intro rfl (Store.le_refl _))) (Nat.zero_le _))) ?_
    · rw [hn0]
      repeat' first | exact trivial | exact rfl | refine And.intro ?_ ?_
    rintro k hk
    have k0 : (0 : Int) ≤ ((k : Nat) : Int) := Int.natCast_nonneg _
    refine And.intro (fun h => ?_) (fun h => ?_)
    · have hkl : k < xs.length := by
        have : ((k : Nat) : Int) < ((o.2.1 : Nat) : Int) := of_decide_eq_true h
        omega
      have k1 : ((k : Nat) : Int) < ((o.2.1 : Nat) : Int) := by omega
      have hwk : IntKind.i64.wrap (((k : Nat) : Int) + 1) = ((k + 1 : Nat) : Int) := wrap_i64 (by omega) (by omega)
      have hy : xs[k]? = some xs[k] := List.getElem?_eq_getElem hkl
      obtain ⟨x, hxx⟩ : ∃ x, xs[k] = x := ⟨_, rfl⟩
      rw [hxx] at hy
      obtain ⟨b2, o2, hp2, hok2, hrd2⟩ := row_at (hr2.le (Store.le_trans hS1 hS2)) hy
      have hc : (xs.take (k + 1)).countP (fun x => lives x e) = (xs.take k).countP (fun x => lives x e) + (lives x e).toNat := by
        rw [List.take_add_one, hy, List.countP_append]
        cases h : lives x e <;> simp [h]
      have hcl : (xs.take k).countP (fun x => lives x e) ≤ xs.length := Nat.le_trans List.countP_le_length (by simp; omega)
      refine ⟨or19_9, [], oF19_9, by kernel_rfl, ?_⟩
      refine ⟨i0, i1, b1, o1, hp, e, trivial, hrd, ?_⟩
      refine And.intro (fun h5 => ?_) (fun h5 => ?_)
      · have h5 : (e != 0) = true := h5
        refine ⟨i0, i1, b1, o1, hp, e, trivial, hrd, k0, k1, b2, o2, hp2, x.2.1, trivial, rd_field hrd2 rfl, ?_⟩
        refine And.intro (fun h6 => ?_) (fun h6 => ?_)
        · have h6 : decide (e ≥ x.2.1) = true := h6
          refine ⟨i0, i1, b1, o1, hp, e, trivial, hrd, k0, k1, b2, o2, hp2, x.2.2, trivial, rd_field hrd2 rfl, ?_⟩
          refine And.intro (fun h7 => ?_) (fun h7 => ?_)
          · have h7 : decide (e ≤ x.2.2) = true := h7
            have hlv : lives x e = true := by rw [lives, h5, h6, h7]; rfl
            refine ⟨((n + (xs.take (k + 1)).countP (fun x => lives x e) : Nat) : Int), ?_, ((k + 1 : Nat) : Int), hwk, k + 1, ⟨⟨?_, rfl⟩, rfl, Store.le_refl _⟩, hkl, ?_⟩
            · rw [hc, hlv]
              exact wrap_i64 (by show _ ≤ _; omega) (by omega)
            · repeat' first | exact trivial | exact rfl | refine And.intro ?_ ?_
            · show xs.length - (k + 1) < xs.length - k
              omega
          have h7 : decide (e ≤ x.2.2) = false := h7
          have hlv : lives x e = false := by rw [lives, h5, h6, h7]; rfl
          have hc' : (xs.take (k + 1)).countP (fun x => lives x e) = (xs.take k).countP (fun x => lives x e) := by rw [hc, hlv]; rfl
          refine ⟨((k + 1 : Nat) : Int), hwk, k + 1, ⟨⟨?_, rfl⟩, rfl, Store.le_refl _⟩, hkl, ?_⟩
          · rw [hc']
            repeat' first | exact trivial | exact rfl | refine And.intro ?_ ?_
          · show xs.length - (k + 1) < xs.length - k
            omega
        have h6 : decide (e ≥ x.2.1) = false := h6
        have hlv : lives x e = false := by rw [lives, h5, h6]; rfl
        have hc' : (xs.take (k + 1)).countP (fun x => lives x e) = (xs.take k).countP (fun x => lives x e) := by rw [hc, hlv]; rfl
        refine onF ⟨((k + 1 : Nat) : Int), hwk, k + 1, ⟨⟨?_, rfl⟩, rfl, Store.le_refl _⟩, hkl, ?_⟩
        · rw [hc']
          repeat' first | exact trivial | exact rfl | refine And.intro ?_ ?_
        · show xs.length - (k + 1) < xs.length - k
          omega
      · have h5 : (e != 0) = false := h5
        have hlv : lives x e = false := by rw [lives, h5]; rfl
        have hc' : (xs.take (k + 1)).countP (fun x => lives x e) = (xs.take k).countP (fun x => lives x e) := by rw [hc, hlv]; rfl
        refine onF (onF ⟨((k + 1 : Nat) : Int), hwk, k + 1, ⟨⟨?_, rfl⟩, rfl, Store.le_refl _⟩, hkl, ?_⟩)
        · rw [hc']
          repeat' first | exact trivial | exact rfl | refine And.intro ?_ ?_
        · show xs.length - (k + 1) < xs.length - k
          omega
    · have hkl : k = xs.length := by
        have : ¬ ((k : Nat) : Int) < ((o.2.1 : Nat) : Int) := of_decide_eq_false h
        omega
      have ht : xs.take k = xs := by rw [hkl, List.take_length]
      refine ⟨((i + 1 : Nat) : Int), hwi, i + 1, ⟨⟨?_, rfl⟩, rfl, Store.le_refl _⟩, hil, ?_⟩
      · rw [hst, ht]
        repeat' first | exact trivial | exact rfl | refine And.intro ?_ ?_
      · show (uu ann).length - (i + 1) < (uu ann).length - i
        omega
  · have hil : i = (uu ann).length := by
      have : ¬ ((i : Nat) : Int) < ((u.2.1 : Nat) : Int) := of_decide_eq_false h
      rw [hu.1] at this
      omega
    obtain ⟨n, hn0⟩ : ∃ n, total (fun e => xs.countP fun x => lives x e) (uu ann) = n := ⟨_, rfl⟩
    have hnb : n ≤ 1000000 := by have := hbig i; rwa [hil, List.take_length, hn0] at this
    have ht : (uu ann).take i = uu ann := by rw [hil, List.take_length]
    refine ⟨[], [], Nat, [13, 14] ++ List.range' 19 90, fun k => [(7, rI (n + total (fun v => (xs.any fun x => named x v).toNat) ((uu held).take k) : Nat)), (12, rI k)], fun i => [], fun _ => S2, fun k => k ≤ (uu held).length, fun k => (uu held).length - k, ?_⟩
    refine And.intro (Exists.intro 0 (And.intro (And.intro (And.intro ?_ rfl) (And.intro rfl (Store.le_refl _))) (Nat.zero_le _))) ?_
    · rw [ht, hn0]
      repeat' first | exact trivial | exact rfl | refine And.intro ?_ ?_
    clear hil ht hi i0 h
    rintro j hj
    have j0 : (0 : Int) ≤ ((j : Nat) : Int) := Int.natCast_nonneg _
    refine And.intro (fun h => ?_) (fun h => ?_)
    · have hjl : j < (uu held).length := by
        have : ((j : Nat) : Int) < ((v.2.1 : Nat) : Int) := of_decide_eq_true h
        rw [hv.1] at this
        omega
      have j1 : ((j : Nat) : Int) < ((v.2.1 : Nat) : Int) := by rw [hv.1]; omega
      have hwj : IntKind.i64.wrap (((j : Nat) : Int) + 1) = ((j + 1 : Nat) : Int) := wrap_i64 (by omega) (by omega)
      have hx : (uu held)[j]? = some (uu held)[j] := List.getElem?_eq_getElem hjl
      obtain ⟨e, hee⟩ : ∃ e, (uu held)[j] = e := ⟨_, rfl⟩
      rw [hee] at hx
      obtain ⟨b1, o1, hp, hok, hrd⟩ := row_at hv.2 hx
      have hst : total (fun v => (xs.any fun x => named x v).toNat) ((uu held).take (j + 1)) = total (fun v => (xs.any fun x => named x v).toNat) ((uu held).take j) + (xs.any fun x => named x e).toNat := by
        rw [List.take_add_one, hx]
        simp [total]
      have hmb : total (fun v => (xs.any fun x => named x v).toNat) ((uu held).take j) ≤ 1000 := by
        have h1 := total_le (f := fun v => (xs.any fun x => named x v).toNat) (c := 1) (fun v => by cases (xs.any fun x => named x v) <;> decide) ((uu held).take j)
        have h2 := uu_length held
        rw [List.length_take] at h1
        omega
      refine ⟨[], [], Nat, List.range' 19 90, fun k => [(13, rB ((xs.take k).any fun x => named x e)), (14, rI k)], fun i => [], fun _ => S2, fun k => k ≤ xs.length, fun k => xs.length - k, ?_⟩
      refine And.intro (Exists.intro 0 (And.intro (And.intro (And.intro ?_ rfl) (And.intro rfl (Store.le_refl _))) (Nat.zero_le _))) ?_
      · repeat' first | exact trivial | exact rfl | refine And.intro ?_ ?_
      rintro k hk
      have k0 : (0 : Int) ≤ ((k : Nat) : Int) := Int.natCast_nonneg _
      refine And.intro (fun h => ?_) (fun h => ?_)
      · have hkl : k < xs.length := by
          have : ((k : Nat) : Int) < ((o.2.1 : Nat) : Int) := of_decide_eq_true h
          omega
        have k1 : ((k : Nat) : Int) < ((o.2.1 : Nat) : Int) := by omega
        have hwk : IntKind.i64.wrap (((k : Nat) : Int) + 1) = ((k + 1 : Nat) : Int) := wrap_i64 (by omega) (by omega)
        have hy : xs[k]? = some xs[k] := List.getElem?_eq_getElem hkl
        obtain ⟨x, hxx⟩ : ∃ x, xs[k] = x := ⟨_, rfl⟩
        rw [hxx] at hy
        obtain ⟨b2, o2, hp2, hok2, hrd2⟩ := row_at (hr2.le (Store.le_trans hS1 hS2)) hy
        have hc : (xs.take (k + 1)).any (fun x => named x e) = ((xs.take k).any (fun x => named x e) || named x e) := by
          rw [List.take_add_one, hy]
          simp
        refine ⟨or19_18, [], oF19_18, by kernel_rfl, ?_⟩
        refine And.intro (fun h5 => ?_) (fun h5 => ?_)
        · have h5 : (xs.take k).any (fun x => named x e) = true := h5
          have hc' : (xs.take (k + 1)).any (fun x => named x e) = true := by rw [hc, h5]; rfl
          refine ⟨((k + 1 : Nat) : Int), hwk, k + 1, ⟨⟨?_, rfl⟩, rfl, Store.le_refl _⟩, hkl, ?_⟩
          · rw [hc']
            repeat' first | exact trivial | exact rfl | refine And.intro ?_ ?_
          · show xs.length - (k + 1) < xs.length - k
            omega
        · have h5 : (xs.take k).any (fun x => named x e) = false := h5
          have hc' : (xs.take (k + 1)).any (fun x => named x e) = named x e := by rw [hc, h5]; rfl
          refine ⟨j0, j1, b1, o1, hp, e, trivial, hrd, k0, k1, b2, o2, hp2, x.1, trivial, rd_field hrd2 rfl, _, rfl, ((k + 1 : Nat) : Int), hwk, k + 1, ⟨⟨?_, rfl⟩, rfl, Store.le_refl _⟩, hkl, ?_⟩
          · rw [hc']
            repeat' first | exact trivial | exact rfl | refine And.intro ?_ ?_
          · show xs.length - (k + 1) < xs.length - k
            omega
      · have hkl : k = xs.length := by
          have : ¬ ((k : Nat) : Int) < ((o.2.1 : Nat) : Int) := of_decide_eq_false h
          omega
        have ht : xs.take k = xs := by rw [hkl, List.take_length]
        rw [ht]
        refine And.intro (fun h5 => ?_) (fun h5 => ?_)
        · have h5 : xs.any (fun x => named x e) = true := h5
          rw [h5] at hst
          refine ⟨((n + total (fun v => (xs.any fun x => named x v).toNat) ((uu held).take (j + 1)) : Nat) : Int), ?_, ((j + 1 : Nat) : Int), hwj, j + 1, ⟨⟨?_, rfl⟩, rfl, Store.le_refl _⟩, hjl, ?_⟩
          · rw [hst]
            exact wrap_i64 (by show _ ≤ _; omega) (by omega)
          · repeat' first | exact trivial | exact rfl | refine And.intro ?_ ?_
          · show (uu held).length - (j + 1) < (uu held).length - j
            omega
        · have h5 : xs.any (fun x => named x e) = false := h5
          rw [h5] at hst
          have hst : total (fun v => (xs.any fun x => named x v).toNat) ((uu held).take (j + 1)) = total (fun v => (xs.any fun x => named x v).toNat) ((uu held).take j) := hst
          refine ⟨((j + 1 : Nat) : Int), hwj, j + 1, ⟨⟨?_, rfl⟩, rfl, Store.le_refl _⟩, hjl, ?_⟩
          · rw [hst]
            repeat' first | exact trivial | exact rfl | refine And.intro ?_ ?_
          · show (uu held).length - (j + 1) < (uu held).length - j
            omega
    · have hjl : j = (uu held).length := by
        have : ¬ ((j : Nat) : Int) < ((v.2.1 : Nat) : Int) := of_decide_eq_false h
        rw [hv.1] at this
        omega
      have ht : (uu held).take j = uu held := by rw [hjl, List.take_length]
      refine ⟨rfl, _, rfl, ?_⟩
      show ((n + total (fun v => (xs.any fun x => named x v).toNat) ((uu held).take j) : Nat) : Int) = _
      rw [ht, boundOf, hn0]
end Go.Proofs.Ytdkdepibclhkmaa
