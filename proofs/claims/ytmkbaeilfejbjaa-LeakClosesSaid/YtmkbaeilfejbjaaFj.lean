/- law16: the reference's Reach. -/
import Derived.Test.YtmkbaeilfejbjaaFi
import Derived.Test.YtmkbaeilfejbjaaFe
namespace Go.Proofs.Ytmkbaeilfejbjaa
open Go Go.Vc
set_option maxRecDepth 100000

set_option maxHeartbeats 4000000 in
theorem ref_reach_spec (S : Store) (p q : Hd) (roots : List Int) (hs : List Hd) (next : List (List Int)) (hl : roots.length = p.2.1) (hr : RowRd S p.1 shI roots) (hm : hs.length = q.2.1) (hr' : RowRd S q.1 .slice hs) (hrs : RowsRd S shI hs next)
    (hn : roots.length ≤ 1000) (hn' : next.length ≤ 1000) (hn2 : ∀ l ∈ next, l.length ≤ 1000000) :
    Pure Try.prog 11 S [slV p, slV q] (A := Hd × List Int) (fun q => .c (.v (slV q.1))) (fun S' q => q.1.2.1 = q.2.length ∧ RowRd S' q.1.1 shI q.2 ∧ IsReach roots next q.2) := by
  obtain ⟨p, n, c⟩ := p
  obtain ⟨q, n', c'⟩ := q
  simp only at hl hr hm hr'
  subst hl hm
  have hsn := hrs.length
  refine pure_vc agrees Try.func11 rfl rfl (fun S S' q hle h => ⟨h.1, h.2.1.le hle, h.2.2⟩) ?_
  refine ⟨[], [(5, shI, 3)], Nat × (List Int), List.range' 11 100, fun x => [(6, rI x.1)], fun x => [.row shI 3 x.2], fun x => S,
    fun x => x.1 ≤ roots.length ∧ x.2.length ≤ x.1 ∧ (∀ y ∈ x.2, Rch roots next y) ∧ ∀ y ∈ roots.take x.1, isNode next y → y ∈ x.2, fun x => roots.length - x.1, ?_⟩
  refine And.intro (Exists.intro (0, []) (And.intro (And.intro (And.intro ?_ rfl) (And.intro rfl (Store.le_refl _))) ⟨Nat.zero_le _, Nat.le_refl _, by simp, by simp⟩)) ?_
  · repeat' first | exact trivial | exact rfl | refine And.intro ?_ ?_
  rintro ⟨i, s⟩ ⟨hi, hg, hso, hro⟩
  simp only at hi hg hso hro
  refine And.intro (fun h => ?_) (fun h => ?_)
  · have hil : i < roots.length := by
      have : ((i : Nat) : Int) < ((roots.length : Nat) : Int) := of_decide_eq_true h
      omega
    have hx : roots[i]? = some roots[i] := List.getElem?_eq_getElem hil
    have htk : roots.take (i + 1) = roots.take i ++ [roots[i]] := by rw [List.take_add_one, hx]; rfl
    have hxm : roots[i] ∈ roots := List.getElem_mem hil
    obtain ⟨x, hxx⟩ : ∃ x, roots[i] = x := ⟨_, rfl⟩
    rw [hxx] at hx htk hxm
    obtain ⟨b1, o1, hp1, hk1, hd1⟩ := row_at hr hx
    have i0 : (0 : Int) ≤ ((i : Nat) : Int) := Int.natCast_nonneg _
    have i1 : ((i : Nat) : Int) < ((roots.length : Nat) : Int) := by omega
    have hw : IntKind.i64.wrap (((i : Nat) : Int) + 1) = ((i + 1 : Nat) : Int) := wrap_i64 (by omega) (by omega)
    have out : ¬ isNode next x → i + 1 ≤ roots.length ∧ s.length ≤ i + 1 ∧ (∀ y ∈ s, Rch roots next y) ∧ ∀ y ∈ roots.take (i + 1), isNode next y → y ∈ s := fun hnx => by
      refine ⟨hil, by omega, hso, fun y hy hv => ?_⟩
      rw [htk] at hy
      rcases List.mem_append.1 hy with hy | hy
      · exact hro y hy hv
      · have : y = x := by simpa using hy
        subst this
        exact absurd hv hnx
    refine ⟨i0, i1, b1, o1, hp1, x, hk1, hd1, ?_⟩
    refine And.intro (fun h0 => ?_) (fun h0 => ?_)
    · have h0' : 0 ≤ x := of_decide_eq_true h0
      refine ⟨i0, i1, b1, o1, hp1, x, hk1, hd1, ?_⟩
      refine And.intro (fun h1 => ?_) (fun h1 => ?_)
      · have h1' : x < ((hs.length : Nat) : Int) := of_decide_eq_true h1
        refine ⟨i0, i1, b1, o1, hp1, x, hk1, hd1, [x], ⟨rfl, rfl⟩, fun _ _ => trivial, by show (s.length + 1) * 8 ≤ 140737488355328; omega, ?_⟩
        refine ⟨((i + 1 : Nat) : Int), hw, (i + 1, s ++ [x]), ⟨⟨?_, rfl⟩, rfl, Store.le_refl _⟩, ⟨hil, ?_, ?_, ?_⟩, ?_⟩
        · repeat' first | exact trivial | exact rfl | refine And.intro ?_ ?_
        · show (s ++ [x]).length ≤ i + 1
          rw [List.length_append, List.length_singleton]; omega
        · intro y hy
          rcases List.mem_append.1 hy with hy | hy
          · exact hso y hy
          · have : y = x := by simpa using hy
            subst this
            exact .root y hxm ⟨h0', by omega⟩
        · intro y hy hv
          show y ∈ s ++ [x]
          rw [htk] at hy
          rcases List.mem_append.1 hy with hy | hy
          · exact List.mem_append_left _ (hro y hy hv)
          · exact List.mem_append_right _ hy
        · show roots.length - (i + 1) < roots.length - i
          omega
      · have h1' : ¬ x < ((hs.length : Nat) : Int) := of_decide_eq_false h1
        refine ⟨((i + 1 : Nat) : Int), hw, (i + 1, s), ⟨⟨?_, rfl⟩, rfl, Store.le_refl _⟩, out (fun hv => h1' (by have := hv.2; omega)), ?_⟩
        · repeat' first | exact trivial | exact rfl | refine And.intro ?_ ?_
        · show roots.length - (i + 1) < roots.length - i
          omega
    · have h0' : ¬ 0 ≤ x := of_decide_eq_false h0
      refine onF ⟨((i + 1 : Nat) : Int), hw, (i + 1, s), ⟨⟨?_, rfl⟩, rfl, Store.le_refl _⟩, out (fun hv => h0' hv.1), ?_⟩
      · repeat' first | exact trivial | exact rfl | refine And.intro ?_ ?_
      · show roots.length - (i + 1) < roots.length - i
        omega
  have hil : i = roots.length := by
    have : ¬ ((i : Nat) : Int) < ((roots.length : Nat) : Int) := of_decide_eq_false h
    omega
  rw [hil, List.take_length] at hro
  have hgot : Got roots next s := ⟨hso, hro, by omega⟩
  clear h hil
  refine ⟨[], [], Nat × (List Int), [6, 8, 9, 10] ++ List.range' 11 100, fun x => [(7, rI x.1)], fun x => [.row shI 3 x.2], fun x => S,
    fun x => x.1 ≤ next.length + 1 ∧ Got roots next x.2 ∧ (x.1 ≤ cnt next.length x.2 ∨ Closed next x.2), fun x => next.length + 1 - x.1, ?_⟩
  refine And.intro (Exists.intro (0, s) (And.intro (And.intro (And.intro ?_ rfl) (And.intro rfl (Store.le_refl _))) ⟨Nat.zero_le _, hgot, .inl (Nat.zero_le _)⟩)) ?_
  · repeat' first | exact trivial | exact rfl | refine And.intro ?_ ?_
  clear hgot hro hso hg hi
  rintro ⟨m, got⟩ ⟨hm, hg, hmid⟩
  simp only at hm hg hmid
  refine And.intro (fun h => ?_) (fun h => ?_)
  · have hml : m ≤ next.length := by
      have : ((m : Nat) : Int) ≤ ((hs.length : Nat) : Int) := of_decide_eq_true h
      omega
    have hwm : IntKind.i64.wrap (((m : Nat) : Int) + 1) = ((m + 1 : Nat) : Int) := wrap_i64 (by omega) (by omega)
    refine ⟨[], [], Nat × (List Int), [9, 10] ++ List.range' 11 100, fun x => [(8, rI x.1)], fun x => [.row shI 3 x.2], fun x => S,
      fun x => x.1 ≤ next.length ∧ Got roots next x.2 ∧ MidI next m x.1 x.2, fun x => next.length - x.1, ?_⟩
    refine And.intro (Exists.intro (0, got) (And.intro (And.intro (And.intro ?_ rfl) (And.intro rfl (Store.le_refl _))) ⟨Nat.zero_le _, hg, midI_start hmid⟩)) ?_
    · repeat' first | exact trivial | exact rfl | refine And.intro ?_ ?_
    clear h hg hmid
    rintro ⟨i, got⟩ ⟨hi, hg, hmid⟩
    simp only at hi hg hmid
    have hgs := hg.short
    refine And.intro (fun h => ?_) (fun h => ?_)
    · have hil : i < next.length := by
        have : ((i : Nat) : Int) < ((hs.length : Nat) : Int) := of_decide_eq_true h
        omega
      have i0 : (0 : Int) ≤ ((i : Nat) : Int) := Int.natCast_nonneg _
      have i1 : ((i : Nat) : Int) < ((hs.length : Nat) : Int) := by omega
      have hwi : IntKind.i64.wrap (((i : Nat) : Int) + 1) = ((i + 1 : Nat) : Int) := wrap_i64 (by omega) (by omega)
      refine ⟨⟨_, rfl, rfl, rfl⟩, .inr (.inr (.inl fun p1 c1 S1 hS1 hr1 _ => ⟨_, _, _, in_spec S1 (p1, got.length, c1) got i rfl hr1 (by omega), fun S2 y hS2 hy => ?_⟩))⟩
      refine And.intro (fun e => ?_) (fun e => ?_)
      · have hin : ((i : Nat) : Int) ∉ got := by
          have : y = false := by simpa using e
          rw [this] at hy; simpa using hy.symm
        refine ⟨((i + 1 : Nat) : Int), hwi, (i + 1, got), ⟨⟨?_, rfl⟩, rfl, Store.le_refl _⟩, ⟨hil, hg, midI_skip hmid hin⟩, ?_⟩
        · repeat' first | exact trivial | exact rfl | refine And.intro ?_ ?_
        · show next.length - (i + 1) < next.length - i
          omega
      have hin : ((i : Nat) : Int) ∈ got := by
        have : y = true := by simpa using e
        rw [this] at hy; simpa using hy.symm
      clear e hy
      have hlx : next[i]? = some next[i] := List.getElem?_eq_getElem hil
      have hlm : next[i] ∈ next := List.getElem_mem hil
      obtain ⟨d1, d3, hhd, hdr⟩ := hrs.at hil
      obtain ⟨b1, o1, hp1, hk1, hd1⟩ := row_at hr' hhd
      obtain ⟨l, hll⟩ : ∃ l, next[i] = l := ⟨_, rfl⟩
      rw [hll] at hhd hdr hlm hlx hd1 hk1
      have hl2 := hn2 l hlm
      refine ⟨[], [], Nat × (List Int), [10] ++ List.range' 11 100, fun x => [(9, rI x.1)], fun x => [.row shI 3 x.2], fun x => S,
        fun x => x.1 ≤ l.length ∧ ((i : Nat) : Int) ∈ x.2 ∧ Got roots next x.2 ∧ MidK next m i l x.1 x.2, fun x => l.length - x.1, ?_⟩
      refine And.intro (Exists.intro (0, got) (And.intro (And.intro (And.intro ?_ rfl) (And.intro rfl (Store.le_refl _))) ⟨Nat.zero_le _, hin, hg, midK_start hmid⟩)) ?_
      · repeat' first | exact trivial | exact rfl | refine And.intro ?_ ?_
      clear hin hg hmid hgs
      rintro ⟨k, got⟩ ⟨hk, hin, hg, hmid⟩
      simp only at hk hin hg hmid
      have hgs := hg.short
      have k0 : (0 : Int) ≤ ((k : Nat) : Int) := Int.natCast_nonneg _
      refine ⟨i0, i1, b1, o1, hp1, (d1, l.length, d3), hk1, hd1, ?_⟩
      refine And.intro (fun h => ?_) (fun h => ?_)
      · have hkl : k < l.length := by
          have : ((k : Nat) : Int) < ((l.length : Nat) : Int) := of_decide_eq_true h
          omega
        have hx : l[k]? = some l[k] := List.getElem?_eq_getElem hkl
        have hxm : l[k] ∈ l := List.getElem_mem hkl
        obtain ⟨x, hxx⟩ : ∃ x, l[k] = x := ⟨_, rfl⟩
        rw [hxx] at hx hxm
        obtain ⟨b2, o2, hp2, hk2, hd2⟩ := row_at hdr hx
        have k1 : ((k : Nat) : Int) < ((l.length : Nat) : Int) := by omega
        have hwk : IntKind.i64.wrap (((k : Nat) : Int) + 1) = ((k + 1 : Nat) : Int) := wrap_i64 (by omega) (by omega)
        refine ⟨i0, i1, b1, o1, hp1, (d1, l.length, d3), hk1, hd1, k0, k1, b2, o2, hp2, x, hk2, hd2, ?_⟩
        refine And.intro (fun h0 => ?_) (fun h0 => ?_)
        · have h0' : 0 ≤ x := of_decide_eq_true h0
          refine And.intro (fun h1 => ?_) (fun h1 => ?_)
          · have h1' : x < ((hs.length : Nat) : Int) := of_decide_eq_true h1
            refine ⟨⟨_, rfl, rfl, rfl⟩, .inr (.inr (.inl fun p2 c2 S2 hS2 hr2 _ => ⟨_, _, _, in_spec S2 (p2, got.length, c2) got x rfl hr2 (by omega), fun S3 y hS3 hy => ?_⟩))⟩
            refine And.intro (fun e => ?_) (fun e => ?_)
            · have hnin : x ∉ got := by
                have : y = false := by simpa using e
                rw [this] at hy; simpa using hy.symm
              refine ⟨[x], ⟨rfl, rfl⟩, fun _ _ => trivial, by show (got.length + 1) * 8 ≤ 140737488355328; omega, ?_⟩
              have hv : isNode next x := ⟨h0', by omega⟩
              refine ⟨((k + 1 : Nat) : Int), hwk, (k + 1, got ++ [x]), ⟨⟨?_, rfl⟩, rfl, Store.le_refl _⟩, ⟨hkl, List.mem_append_left _ hin, ?_, midK_add hmid hin hlx hx hv hnin⟩, ?_⟩
              · repeat' first | exact trivial | exact rfl | refine And.intro ?_ ?_
              · exact hg.add hin (by rw [Int.toNat_natCast]; exact hlx) hxm hv hnin
              · show l.length - (k + 1) < l.length - k
                omega
            · have hnin : x ∈ got := by
                have : y = true := by simpa using e
                rw [this] at hy; simpa using hy.symm
              refine ⟨((k + 1 : Nat) : Int), hwk, (k + 1, got), ⟨⟨?_, rfl⟩, rfl, Store.le_refl _⟩, ⟨hkl, hin, hg, midK_skip hmid hx fun _ => hnin⟩, ?_⟩
              · repeat' first | exact trivial | exact rfl | refine And.intro ?_ ?_
              · show l.length - (k + 1) < l.length - k
                omega
          · have h1' : ¬ x < ((hs.length : Nat) : Int) := of_decide_eq_false h1
            refine onF ⟨((k + 1 : Nat) : Int), hwk, (k + 1, got), ⟨⟨?_, rfl⟩, rfl, Store.le_refl _⟩, ⟨hkl, hin, hg, midK_skip hmid hx fun hv => absurd (by have := hv.2; omega) h1'⟩, ?_⟩
            · repeat' first | exact trivial | exact rfl | refine And.intro ?_ ?_
            · show l.length - (k + 1) < l.length - k
              omega
        · have h0' : ¬ x ≥ 0 := of_decide_eq_false h0
          refine onF (onF ⟨((k + 1 : Nat) : Int), hwk, (k + 1, got), ⟨⟨?_, rfl⟩, rfl, Store.le_refl _⟩, ⟨hkl, hin, hg, midK_skip hmid hx fun hv => absurd hv.1 h0'⟩, ?_⟩)
          · repeat' first | exact trivial | exact rfl | refine And.intro ?_ ?_
          · show l.length - (k + 1) < l.length - k
            omega
      have hkl : k = l.length := by
        have : ¬ ((k : Nat) : Int) < ((l.length : Nat) : Int) := of_decide_eq_false h
        omega
      subst hkl
      refine ⟨((i + 1 : Nat) : Int), hwi, (i + 1, got), ⟨⟨?_, rfl⟩, rfl, Store.le_refl _⟩, ⟨hil, hg, midK_end hlx hmid⟩, ?_⟩
      · repeat' first | exact trivial | exact rfl | refine And.intro ?_ ?_
      · show next.length - (i + 1) < next.length - i
        omega
    have hil : i = next.length := by
      have : ¬ ((i : Nat) : Int) < ((hs.length : Nat) : Int) := of_decide_eq_false h
      omega
    subst hil
    refine ⟨((m + 1 : Nat) : Int), hwm, (m + 1, got), ⟨⟨?_, rfl⟩, rfl, Store.le_refl _⟩, ⟨by show m + 1 ≤ next.length + 1; omega, hg, midI_end hg hmid⟩, ?_⟩
    · repeat' first | exact trivial | exact rfl | refine And.intro ?_ ?_
    · show next.length + 1 - (m + 1) < next.length + 1 - m
      omega
  have hml : m = next.length + 1 := by
    have : ¬ ((m : Nat) : Int) ≤ ((hs.length : Nat) : Int) := of_decide_eq_false h
    omega
  subst hml
  have hgs := hg.short
  refine ⟨⟨_, rfl, rfl, rfl⟩, .inl fun p1 c1 S1 hS1 hr1 _ => ⟨_, _, _, rising_spec S1 (p1, got.length, c1) got rfl hr1 (by omega), fun S2 y hS2 hy => ?_⟩⟩
  exact ⟨rfl, (y, rising got), rfl, hy.1, hy.2, isReach_got hg hmid⟩
end Go.Proofs.Ytmkbaeilfejbjaa
