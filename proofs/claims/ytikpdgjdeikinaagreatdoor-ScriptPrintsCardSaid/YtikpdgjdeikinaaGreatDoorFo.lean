/- law63: the example of the chapter; the law Parses. -/
import Derived.Test.YtikpdgjdeikinaaGreatDoorFn
namespace Go.Proofs.YtikpdgjdeikinaaGreatDoor
open Go Go.Vc Go.Sort
set_option maxRecDepth 100000
set_option maxHeartbeats 8000000

theorem same_refl (lines : Bool) (a : List Sc.Cmd) : sameP lines a a := ⟨rfl, fun i c d hc hd => by rw [hc] at hd; obtain rfl := Option.some.inj hd; exact ⟨fun _ => rfl, rfl⟩⟩
theorem same_lines {a b : List Sc.Cmd} (h : sameP true a b) : a = b := by
  refine List.ext_getElem? fun i => ?_
  cases ha : a[i]? with
  | none =>
    symm
    rw [List.getElem?_eq_none_iff] at ha ⊢
    have := h.1; omega
  | some c =>
    have hi := (List.getElem?_eq_some_iff.1 ha).1
    obtain ⟨d, hd⟩ : ∃ d, b[i]? = some d := ⟨_, List.getElem?_eq_getElem (by have := h.1; omega)⟩
    have := h.2 i c d ha hd
    rw [hd, Prod.ext (this.1 rfl) this.2]
/-- The commands of the example. -/
def exS : Sc.Bs := [111, 112, 101, 110, 32, 50, 32, 49, 54, 32, 49, 32, 49, 10, 108, 105, 110, 101, 32, 115, 116, 111, 114, 101, 32, 115, 32, 115, 116, 97, 99, 107, 59, 10, 99, 97, 108, 108, 32, 49, 32, 112, 117, 115, 104, 32, 53, 10, 115, 116, 101, 112, 32, 49, 32, 48, 32, 57]
def exW : Sc.Bs := [115, 116, 111, 114, 101, 32, 115, 32, 115, 116, 97, 99, 107, 59]
def exP : Sc.Bs := [112, 117, 115, 104]
def exL : List Sc.Cmd := [(1, 0, [2, 16, 1, 1], []), (2, 1, [], [exW]), (3, 2, [1, 5], [exP]), (4, 3, [1, 0, 9], [])]
theorem ex_parse : Sc.parseR exS = (exL, 0, 0) := by kernel_rfl
theorem len_ok {a : List Sc.Cmd} (ha : a.length ≤ 1000) (h : ∀ c ∈ a, Sc.checkR c = 0) : ∀ c ∈ a, c.2.2.1.length ≤ 1000000 ∧ c.2.2.2.length ≤ 1000000 := fun c hc => by
  obtain ⟨-, -, h1, h2, h3, -⟩ := Sc.check_ok (h c hc)
  have := Sc.least_le c.2.1
  have := more_le c.2.1
  refine ⟨by omega, ?_⟩
  unfold Sc.fitsW at h3
  split at h3 <;> first | (rename_i q; rw [q]; simp) | cases h3
theorem ns_of {S : Store} {p : Option Addr} {c : Nat} {ns : List Int} {n : Nat} (hn : n = ns.length) (hc : n ≤ c) (hr : RowRd S p shI ns) (hi : ∀ n ∈ ns, inI64 n) : NsIs S (p, n, c) ns := ⟨hn, hc, hr, hi⟩
theorem small_in {ns : List Int} (h : ns.all (fun n => decide (0 ≤ n) && decide (n ≤ 1000)) = true) : ∀ n ∈ ns, inI64 n := fun n hn => by
  have := List.all_eq_true.1 h n hn
  simp at this
  unfold inI64; omega
theorem awake_spec (S : Store) (hL : Lw S) : Pure Tryz.prog 5 S [] (A := Unit) (fun _ => rB true) (fun _ _ => True) := by
  refine pure_vc agrees Tryz.func5 rfl rfl (fun S S' q hle h => h) ?_
  refine ⟨⟨_, rfl, rfl, rfl⟩, .inl ⟨_, _, _, parse_spec' S hL exS (by decide), fun S1 x hS1 hx => ?_⟩⟩
  obtain ⟨q, n, e⟩ := x
  rw [ex_parse] at hx
  obtain ⟨hx1, hx2⟩ := hx
  obtain ⟨rfl, rfl⟩ : n = 0 ∧ e = 0 := ⟨congrArg Prod.fst hx1, congrArg Prod.snd hx1⟩
  have hx2 : LIs S1 q exL := hx2
  intro p1 c1 T1 hT1 hr1 hpf1 p2 c2 T2 hT2 hr2 hpf2 p3 c3 T3 hT3 hr3 hpf3 p4 c4 T4 hT4 hr4 hpf4 p5 c5 T5 hT5 hr5 hpf5
  have hLw := ((((hL.le hS1).le hT1).le hT2).le hT3).le hT4 |>.le hT5
  have hq : LIs T5 q exL := ((((hx2.le hT1).le hT2).le hT3).le hT4).le hT5
  refine onE rfl (onE rfl ⟨⟨_, rfl, rfl, rfl⟩, .inl ⟨_, _, _, of_spec T5 q exL hq (by decide), fun S6 q6 hS6 hq6 => ?_⟩⟩)
  refine ⟨⟨_, rfl, rfl, rfl⟩, .inl fun p7 c7 S7 hS7 hr7 hpf7 => ⟨_, _, _, same_spec S7 q6 (p7, 4, c7) exL exL (hq6.le hS7) ?_ (by decide) ?_ true, fun S8 r hS8 hr8 => ?_⟩⟩
  · have le5 := Store.le_trans hS6 hS7
    have le4 := Store.le_trans hT5 le5
    have le3 := Store.le_trans hT4 le4
    have le2 := Store.le_trans hT3 le3
    have le1 := Store.le_trans hT2 le2
    refine ⟨[((1, 0, (p1, 4, c1), (none, 0, 0)), (1, 0, [2, 16, 1, 1], [])), ((2, 1, (none, 0, 0), (p2, 1, c2)), (2, 1, [], [exW])), ((3, 2, (p3, 2, c3), (p4, 1, c4)), (3, 2, [1, 5], [exP])), ((4, 3, (p5, 3, c5), (none, 0, 0)), (4, 3, [1, 0, 9], []))], rfl, rfl, pform_le hpf7.1, hr7, fun z hz => ?_⟩
    simp only [List.mem_cons, List.not_mem_nil, or_false] at hz
    rcases hz with rfl | rfl | rfl | rfl
    · exact ⟨rfl, rfl, ns_of rfl (pform_le hpf1.1) (hr1.le le1) (small_in rfl), ws_nil _⟩
    · exact ⟨rfl, rfl, ns_nil _, ws_one (pform_le hpf2.1) (hr2.le le2) (by decide)⟩
    · exact ⟨rfl, rfl, ns_of rfl (pform_le hpf3.1) (hr3.le le3) (small_in rfl), ws_one (pform_le hpf4.1) (hr4.le le4) (by decide)⟩
    · exact ⟨rfl, rfl, ns_of rfl (pform_le hpf5.1) (hr5.le le5) (small_in rfl), ws_nil _⟩
  · intro c hc
    have : c.2.2.1.length ≤ 4 ∧ c.2.2.2.length ≤ 1 := by
      simp only [exL, List.mem_cons, List.not_mem_nil, or_false] at hc
      rcases hc with rfl | rfl | rfl | rfl <;> exact ⟨by decide, by decide⟩
    omega
  · have hr8 : (r = true ↔ sameP true exL exL) := hr8
    have hr9 : r = true := hr8.2 (same_refl _ _)
    subst hr9
    exact ⟨rfl, (), rfl, trivial⟩
end Go.Proofs.YtikpdgjdeikinaaGreatDoor
