/- law16: Rising. -/
import Derived.Test.YtmkbaeilfejbjaaDoorFb
namespace Go.Proofs.YtmkbaeilfejbjaaDoor
open Go Go.Vc
set_option maxRecDepth 100000

/-- A number more in a rising list. -/
def ins (out : List Int) (x : Int) : List Int := if x ∈ out then out else out.takeWhile (fun y => decide (y < x)) ++ (x :: out.dropWhile fun y => decide (y < x))
def rising (l : List Int) : List Int := l.foldl ins []
theorem rising_snoc (l : List Int) (x : Int) : rising (l ++ [x]) = ins (rising l) x := by simp [rising]
theorem ins_length (out : List Int) (x : Int) : (ins out x).length ≤ out.length + 1 := by
  unfold ins
  split
  · omega
  · have := congrArg List.length (List.takeWhile_append_dropWhile (p := fun y => decide (y < x)) (l := out))
    simp only [List.length_append, List.length_cons] at this ⊢
    omega
theorem rising_length (l : List Int) : (rising l).length ≤ l.length := by
  have key : ∀ (l out : List Int), (l.foldl ins out).length ≤ out.length + l.length := by
    intro l
    induction l with
    | nil => intro out; simp
    | cons x l ih =>
      intro out
      have h1 := ih (ins out x)
      have h2 := ins_length out x
      simp only [List.foldl_cons, List.length_cons]
      omega
  have := key l []
  simpa [rising] using this

theorem cut_at : ∀ {out : List Int} {x : Int} {k : Nat}, (∀ y ∈ out.take k, y < x) → (k = out.length ∨ ∃ y, out[k]? = some y ∧ ¬ y < x) → out.takeWhile (fun y => decide (y < x)) = out.take k ∧ out.dropWhile (fun y => decide (y < x)) = out.drop k
  | [], x, k, _, _ => by simp
  | y :: out, x, 0, _, h => by
    rcases h with h | ⟨z, hz, hn⟩
    · simp at h
    · simp at hz; subst hz; simp [hn]
  | y :: out, x, k + 1, h1, h2 => by
    have hy : y < x := h1 y (by simp)
    obtain ⟨e1, e2⟩ := cut_at (out := out) (x := x) (k := k) (fun z hz => h1 z (by simp [hz])) (by rcases h2 with h2 | h2; exact .inl (by simpa using h2); exact .inr (by simpa using h2))
    simp [hy, e1, e2]

theorem pform_le {p : Option Addr} {n c : Nat} (h : PForm p n c) : n ≤ c := by
  rcases h with ⟨-, rfl, rfl⟩ | ⟨_, -, h⟩
  · exact Nat.le_refl _
  · exact h

set_option maxHeartbeats 4000000 in
theorem rising_spec (S : Store) (p : Hd) (l : List Int) (hl : l.length = p.2.1) (hr : RowRd S p.1 shI l) (hn : l.length ≤ 1000000) :
    Pure Tryd.prog 10 S [slV p] (A := Hd) (fun q => .c (.v (slV q))) (fun S' q => q.2.1 = (rising l).length ∧ RowRd S' q.1 shI (rising l)) := by
  obtain ⟨p, n, c⟩ := p
  simp only at hl hr
  subst hl
  refine pure_vc agrees Tryd.func10 rfl rfl (fun S S' q hle h => ⟨h.1, h.2.le hle⟩) ?_
  refine ⟨[], [(200003, shI, 3)], Nat × Hd × Store, List.range' 5 60, fun x => [(3, .c (.v (slV x.2.1))), (4, .c (.v (.int .i64 x.1)))], fun x => [], fun x => x.2.2,
    fun x => x.1 ≤ l.length ∧ S.le x.2.2 ∧ x.2.1.2.1 = (rising (l.take x.1)).length ∧ x.2.1.2.1 ≤ x.2.1.2.2 ∧ RowRd x.2.2 x.2.1.1 shI (rising (l.take x.1)), fun x => l.length - x.1, ?_⟩
  refine And.intro (Exists.intro (0, (none, 0, 0), S) (And.intro (And.intro (And.intro ?_ rfl) (And.intro rfl (Store.le_refl _))) ⟨Nat.zero_le _, Store.le_refl _, rfl, Nat.le_refl _, .inl rfl, by simp [rising]⟩)) ?_
  · repeat' first | exact trivial | exact rfl | refine And.intro ?_ ?_
  rintro ⟨i, ⟨op, on, oc⟩, T⟩ ⟨hi, hT, hon, hoc, hor⟩
  simp only at hi hT hon hoc hor
  subst hon
  have hol : (rising (l.take i)).length ≤ 1000000 := by
    have h1 := rising_length (l.take i)
    rw [List.length_take] at h1
    omega
  refine And.intro (fun h => ?_) (fun h => ?_)
  · have hil : i < l.length := by
      have : ((i : Nat) : Int) < ((l.length : Nat) : Int) := of_decide_eq_true h
      omega
    have hx : l[i]? = some l[i] := List.getElem?_eq_getElem hil
    have htk : l.take (i + 1) = l.take i ++ [l[i]] := by rw [List.take_add_one, hx]; rfl
    obtain ⟨x, hxx⟩ : ∃ x, l[i] = x := ⟨_, rfl⟩
    rw [hxx] at hx htk
    obtain ⟨b1, o1, hp1, hk1, hd1⟩ := row_at (hr.le hT) hx
    have i0 : (0 : Int) ≤ ((i : Nat) : Int) := Int.natCast_nonneg _
    have i1 : ((i : Nat) : Int) < ((l.length : Nat) : Int) := by omega
    have hwi : IntKind.i64.wrap (((i : Nat) : Int) + 1) = ((i + 1 : Nat) : Int) := wrap_i64 (by omega) (by omega)
    refine ⟨i0, i1, b1, o1, hp1, x, hk1, hd1, ⟨_, rfl, rfl, rfl⟩, .inl ⟨_, _, _, in_spec T (op, (rising (l.take i)).length, oc) (rising (l.take i)) x rfl hor hol, fun T1 y hT1 hy => ?_⟩⟩
    have hy' : y = decide (x ∈ rising (l.take i)) := hy
    clear hy
    have hor1 := hor.le hT1
    have hd1' := Store.rd_le hT1 hd1
    refine And.intro (fun e => ?_) (fun e => ?_)
    · have hxm : x ∈ rising (l.take i) := by rw [e] at hy'; simpa using hy'.symm
      have hrn : rising (l.take (i + 1)) = rising (l.take i) := by rw [htk, rising_snoc, ins, if_pos hxm]
      refine ⟨((i + 1 : Nat) : Int), hwi, (i + 1, (op, (rising (l.take i)).length, oc), T1), ⟨⟨?_, rfl⟩, rfl, Store.le_refl _⟩, ⟨hil, Store.le_trans hT hT1, ?_, hoc, ?_⟩, ?_⟩
      · repeat' first | exact trivial | exact rfl | refine And.intro ?_ ?_
      · show (rising (l.take i)).length = (rising (l.take (i + 1))).length
        rw [hrn]
      · show RowRd T1 op shI (rising (l.take (i + 1)))
        rw [hrn]; exact hor1
      · show l.length - (i + 1) < l.length - i
        omega
    · have hxm : x ∉ rising (l.take i) := by rw [e] at hy'; simpa using hy'.symm
      have hrn : rising (l.take (i + 1)) = (rising (l.take i)).takeWhile (fun y => decide (y < x)) ++ (x :: (rising (l.take i)).dropWhile fun y => decide (y < x)) := by rw [htk, rising_snoc, ins, if_neg hxm]
      generalize rising (l.take i) = out at *
      refine ⟨[], [], Nat, List.range' 6 60, fun k => [(5, .c (.v (.int .i64 k)))], fun _ => [], fun _ => T1, fun k => k ≤ out.length ∧ ∀ y ∈ out.take k, y < x, fun k => out.length - k, ?_⟩
      refine And.intro (Exists.intro 0 (And.intro (And.intro (And.intro ?_ rfl) (And.intro rfl (Store.le_refl _))) ⟨Nat.zero_le _, by simp⟩)) ?_
      · repeat' first | exact trivial | exact rfl | refine And.intro ?_ ?_
      rintro k ⟨hk, hkx⟩
      have k0 : (0 : Int) ≤ ((k : Nat) : Int) := Int.natCast_nonneg _
      refine ⟨or10_7, [], oF10_7, by kernel_rfl, ?_⟩
      refine And.intro (fun hv => ?_) (fun hv => ?_)
      · have hkl : k < out.length := by
          have : ((k : Nat) : Int) < ((out.length : Nat) : Int) := of_decide_eq_true hv
          omega
        have hyy : out[k]? = some out[k] := List.getElem?_eq_getElem hkl
        obtain ⟨y2, hy2⟩ : ∃ y, out[k] = y := ⟨_, rfl⟩
        rw [hy2] at hyy
        obtain ⟨b2, o2, hp2, hk2, hd2⟩ := row_at hor1 hyy
        have k1 : ((k : Nat) : Int) < ((out.length : Nat) : Int) := by omega
        refine ⟨k0, k1, b2, o2, hp2, y2, hk2, hd2, i0, i1, b1, o1, hp1, x, hk1, hd1', ?_⟩
        refine And.intro (fun hy3 => ?_) (fun hy3 => ?_)
        · refine ⟨((k + 1 : Nat) : Int), wrap_i64 (by omega) (by omega), k + 1, ⟨⟨?_, rfl⟩, rfl, Store.le_refl _⟩, ⟨hkl, ?_⟩, ?_⟩
          · repeat' first | exact trivial | exact rfl | refine And.intro ?_ ?_
          · intro z hz
            rw [List.take_add_one, hyy] at hz
            rcases List.mem_append.1 hz with hz | hz
            · exact hkx z hz
            · have : z = y2 := by simpa using hz
              rw [this]
              exact of_decide_eq_true hy3
          · show out.length - (k + 1) < out.length - k
            omega
        · obtain ⟨e1, e2⟩ := cut_at hkx (.inr ⟨y2, hyy, of_decide_eq_false hy3⟩)
          refine ⟨k0, ?_, out.take k, src_of ?_ (hor1.take k), fun _ _ => trivial, ?_, ?_⟩
          · show ((k : Nat) : Int).toNat ≤ oc
            rw [Int.toNat_natCast]; omega
          · show ((k : Nat) : Int).toNat = (out.take k).length
            rw [Int.toNat_natCast, List.length_take]; omega
          · show (0 + (out.take k).length) * 8 ≤ 140737488355328
            rw [List.length_take]; omega
          refine ⟨i0, i1, b1, o1, hp1, x, hk1, hd1', [x], ⟨rfl, rfl⟩, fun _ _ => trivial, ?_, ?_⟩
          · show (([] ++ out.take k).length + 1) * 8 ≤ 140737488355328
            rw [List.nil_append, List.length_take]; omega
          have hdk : (out.drop k).length = out.length - k := by rw [List.length_drop]
          have hnew : (([] ++ out.take k ++ [x]) ++ out.drop k) = rising (l.take (i + 1)) := by
            rw [hrn, e1, e2]; simp
          refine ⟨k0, ?_, hoc, out.drop k, src_of ?_ (hor1.drop hoc rfl), fun _ _ => trivial, ?_, ((i + 1 : Nat) : Int), hwi, fun p' c' T2 hT2 hr2 hpf => ?_⟩
          · show ((k : Nat) : Int).toNat ≤ out.length
            rw [Int.toNat_natCast]; omega
          · show out.length - ((k : Nat) : Int).toNat = (out.drop k).length
            rw [Int.toNat_natCast, hdk]
          · show (([] ++ out.take k ++ [x]).length + (out.drop k).length) * 8 ≤ 140737488355328
            rw [List.nil_append, List.length_append, List.length_take, hdk, List.length_singleton]; omega
          refine ⟨(i + 1, (p', (([] ++ out.take k ++ [x]) ++ out.drop k).length, c'), T2), ⟨⟨?_, rfl⟩, rfl, Store.le_refl _⟩, ⟨hil, Store.le_trans hT (Store.le_trans hT1 hT2), ?_, pform_le hpf, ?_⟩, ?_⟩
          · repeat' first | exact trivial | exact rfl | refine And.intro ?_ ?_
          · show (([] ++ out.take k ++ [x]) ++ out.drop k).length = (rising (l.take (i + 1))).length
            rw [hnew]
          · show RowRd T2 p' shI (rising (l.take (i + 1)))
            rw [← hnew]; exact hr2
          · show l.length - (i + 1) < l.length - i
            omega
      · obtain ⟨e1, e2⟩ := cut_at hkx (.inl (by
          have : ¬ ((k : Nat) : Int) < ((out.length : Nat) : Int) := of_decide_eq_false hv
          omega))
        refine onF ?_
        refine ⟨k0, ?_, out.take k, src_of ?_ (hor1.take k), fun _ _ => trivial, ?_, ?_⟩
        · show ((k : Nat) : Int).toNat ≤ oc
          rw [Int.toNat_natCast]; omega
        · show ((k : Nat) : Int).toNat = (out.take k).length
          rw [Int.toNat_natCast, List.length_take]; omega
        · show (0 + (out.take k).length) * 8 ≤ 140737488355328
          rw [List.length_take]; omega
        refine ⟨i0, i1, b1, o1, hp1, x, hk1, hd1', [x], ⟨rfl, rfl⟩, fun _ _ => trivial, ?_, ?_⟩
        · show (([] ++ out.take k).length + 1) * 8 ≤ 140737488355328
          rw [List.nil_append, List.length_take]; omega
        have hdk : (out.drop k).length = out.length - k := by rw [List.length_drop]
        have hnew : (([] ++ out.take k ++ [x]) ++ out.drop k) = rising (l.take (i + 1)) := by
          rw [hrn, e1, e2]; simp
        refine ⟨k0, ?_, hoc, out.drop k, src_of ?_ (hor1.drop hoc rfl), fun _ _ => trivial, ?_, ((i + 1 : Nat) : Int), hwi, fun p' c' T2 hT2 hr2 hpf => ?_⟩
        · show ((k : Nat) : Int).toNat ≤ out.length
          rw [Int.toNat_natCast]; omega
        · show out.length - ((k : Nat) : Int).toNat = (out.drop k).length
          rw [Int.toNat_natCast, hdk]
        · show (([] ++ out.take k ++ [x]).length + (out.drop k).length) * 8 ≤ 140737488355328
          rw [List.nil_append, List.length_append, List.length_take, hdk, List.length_singleton]; omega
        refine ⟨(i + 1, (p', (([] ++ out.take k ++ [x]) ++ out.drop k).length, c'), T2), ⟨⟨?_, rfl⟩, rfl, Store.le_refl _⟩, ⟨hil, Store.le_trans hT (Store.le_trans hT1 hT2), ?_, pform_le hpf, ?_⟩, ?_⟩
        · repeat' first | exact trivial | exact rfl | refine And.intro ?_ ?_
        · show (([] ++ out.take k ++ [x]) ++ out.drop k).length = (rising (l.take (i + 1))).length
          rw [hnew]
        · show RowRd T2 p' shI (rising (l.take (i + 1)))
          rw [← hnew]; exact hr2
        · show l.length - (i + 1) < l.length - i
          omega
  · have hil : i = l.length := by
      have : ¬ ((i : Nat) : Int) < ((l.length : Nat) : Int) := of_decide_eq_false h
      omega
    rw [hil, List.take_length] at hor
    refine ⟨rfl, (op, (rising (l.take i)).length, oc), rfl, ?_, hor⟩
    show (rising (l.take i)).length = (rising l).length
    rw [hil, List.take_length]
end Go.Proofs.YtmkbaeilfejbjaaDoor
