/- law58: the judge's least, wrong. -/
import Derived.Test.YtpfghndflegbaaaDoorFp
namespace Go.Proofs.YtpfghndflegbaaaDoor
open Go Go.Vc Go.Sort
set_option maxRecDepth 100000
set_option maxHeartbeats 4000000

/-- The calls of a history. -/
def csJ (l : List shE.T) : Cs := Jd.csOf l.length (l.map evOf)
theorem callsJ_eq (l : List shE.T) : callsJ l = (csJ l).map clC := by
  unfold callsJ outOf csJ Jd.csOf recsAt
  rw [List.map_map]; rfl
theorem csJ_len (l : List shE.T) : (csJ l).length ≤ l.length := by
  have := calls_len l
  rw [callsJ_eq, List.length_map] at this
  exact this
/-- What the store knows of a history. -/
structure Lx (S : Store) (D : Hd → List Int) (p : Hd) (l : List shE.T) : Prop where
  len : l.length = p.2.1
  cap : p.2.1 ≤ p.2.2
  row : RowRd S p.1 shE l
  few : l.length * 80 ≤ 140737488355328
  args : ∀ e ∈ l, (D e.2.2.2.1.2).length = e.2.2.2.1.2.2.1 ∧ RowRd S e.2.2.2.1.2.1 shI (D e.2.2.2.1.2) ∧ ∀ a ∈ D e.2.2.2.1.2, inI64 a
  tab : Lw S
theorem Lx.le {S S' : Store} (h : S.le S') {D p l} (hs : Lx S D p l) : Lx S' D p l := ⟨hs.len, hs.cap, hs.row.le h, hs.few, fun x hx => ⟨(hs.args x hx).1, (hs.args x hx).2.1.le h, (hs.args x hx).2.2⟩, hs.tab.le h⟩
theorem recs_call {N : Nat} : ∀ {l : List (Jd.Ev Cd Ad)} {i : Nat} {r : Jd.Rc Cd Ad}, r ∈ Jd.recs N i l → ∃ e ∈ l, r.cl.call = e.call
  | [], _, _, h => by cases h
  | e :: l, i, r, h => by
    rw [Jd.recs] at h
    split at h
    · rcases List.mem_cons.1 h with rfl | h
      · refine ⟨e, List.mem_cons_self, ?_⟩
        cases Jd.endFrom e.thread (i + 1) l <;> rfl
      · obtain ⟨e', he', h'⟩ := recs_call h
        exact ⟨e', List.mem_cons_of_mem _ he', h'⟩
    · obtain ⟨e', he', h'⟩ := recs_call h
      exact ⟨e', List.mem_cons_of_mem _ he', h'⟩
theorem csJ_call {l : List shE.T} {x : Jd.Cl Cd Ad} (h : x ∈ csJ l) : ∃ e ∈ l, x.call = e.2.2.2.1 := by
  unfold csJ Jd.csOf at h
  obtain ⟨r, hr, rfl⟩ := List.mem_map.1 h
  obtain ⟨e, he, h'⟩ := recs_call hr
  obtain ⟨y, hy, rfl⟩ := List.mem_map.1 he
  exact ⟨y, hy, h'⟩
theorem Lx.cx {S : Store} {D p l} (h : Lx S D p l) {q : Hd} (hk : (csJ l).length ≤ 1000000) (hq : q.2.1 = (callsJ l).length) (hr : RowRd S q.1 shC (callsJ l)) : Cx S D q (csJ l) := by
  rw [callsJ_eq] at hq hr
  refine ⟨hq.symm, hr, hk, fun x hx => ?_, h.tab⟩
  obtain ⟨e, he, hxe⟩ := csJ_call hx
  rw [hxe]
  exact h.args e he

/-- The judge's order. -/
def leastJ (D : Hd → List Int) (l : List shE.T) : Option (List Nat) := Jd.ansS (stepE D) (csJ l) 0 (List.replicate (csJ l).length false)
/-- An order, or none. -/
def OPost (r : Option (List Nat)) (n : Nat) (S' : Store) (x : Hd × Bool) : Prop := match r with
  | some is => x.2 = true ∧ x.1.2.1 = is.length ∧ x.1.2.1 ≤ x.1.2.2 ∧ RowRd S' x.1.1 shI (is.map fun (n : Nat) => (n : Int)) ∧ is.length ≤ n
  | none => x.2 = false ∧ x.1 = (none, 0, 0)
theorem OPost.le {r n} {S S' : Store} (h : S.le S') {x} (hx : OPost r n S x) : OPost r n S' x := by
  unfold OPost at hx ⊢
  cases r with
  | none => exact hx
  | some is => exact ⟨hx.1, hx.2.1, hx.2.2.1, hx.2.2.2.1.le h, hx.2.2.2.2⟩
theorem inI_zero : inI64 0 := ⟨by decide, by decide⟩
theorem least_spec (S : Store) (D : Hd → List Int) (p : Hd) (l : List shE.T) (hL : Lx S D p l) (hf : formE l = 0) (hk : (csJ l).length ≤ 1000000) :
    Pure Tryd.prog 26 S [regV, slV p] (A := Hd × Bool) (fun x => .tup [(false, [.v (slV x.1)]), (false, [.v (.bool x.2)])]) (fun S' x => OPost (leastJ D l) l.length S' x ∧ Fresh S x.1.1) := by
  refine pure_vc agrees Tryd.func26 rfl rfl (fun S S' q hle h => ⟨h.1.le hle, h.2⟩) ?_
  refine ⟨⟨_, rfl, rfl, rfl⟩, .inl ⟨_, _, _, calls2_spec S p l hL.len hL.row hL.few hf, fun S1 q hS1 hq => ?_⟩⟩
  obtain ⟨q, n, c⟩ := q
  obtain ⟨hq1, hq2, hq3⟩ := hq
  have hq1 : n = (callsJ l).length := hq1
  subst hq1
  have hcx := (hL.le hS1).cx (q := (q, (callsJ l).length, c)) hk rfl hq3
  have hcl : (callsJ l).length = (csJ l).length := by rw [callsJ_eq, List.length_map]
  have hfew := hcx.few
  have hrep : (List.replicate (callsJ l).length false).length = (csJ l).length := by rw [List.length_replicate, hcl]
  have hrl : (callsJ l).length ≤ 1000000 := by omega
  have hMnil : ∀ u, Jd.Memo (stepE D) (csJ l) (Tried (csJ l).length []) u := fun u z hz => absurd hz (tried_nil _ z)
  have hfirst := first_spec S1
  have fin : ∀ (S2 S6 S7 : Store) (f : Fd), S.le S6 → FPost D (csJ l) 0 (List.replicate (callsJ l).length false) [] S6 S7 f → OPost (leastJ D l) l.length S7 (f.q, f.ok) ∧ Fresh S f.q.1 := by
    intro S2 S6 S7 f hS06 hf
    have hll := csJ_len l
    unfold FPost at hf
    unfold OPost leastJ
    rw [hcl] at hf
    cases ha : Jd.ansS (stepE D) (csJ l) 0 (List.replicate (csJ l).length false) with
    | none => rw [ha] at hf; exact ⟨⟨hf.1, hf.2.1⟩, by rw [hf.2.1]; exact fun a e => by cases e⟩
    | some is =>
      rw [ha] at hf
      have hul : Jd.unpl (List.replicate (csJ l).length false) ≤ (List.replicate (csJ l).length false).length := List.count_le_length
      rw [List.length_replicate] at hul
      exact ⟨⟨hf.1, hf.2.1, hf.2.2.1, hf.2.2.2.1, Nat.le_trans hf.2.2.2.2.1 (Nat.le_trans hul hll)⟩, hf.2.2.2.2.2.le hS06⟩
  have hz : ((csJ l).length : Nat) ≤ 1000000 := hfew
  have b1 : (0 : Int) ≤ (((callsJ l).length : Nat) : Int) := Int.natCast_nonneg _
  have b2 : ((1 : Nat) : Int) * (((callsJ l).length : Nat) : Int) ≤ 140737488355328 := by omega
  have b3 : (((callsJ l).length : Nat) : Int) ≤ 140737488355328 := by omega
  refine ⟨or26_3, [0, 1, 2], [4], by kernel_rfl, ?_⟩
  refine And.intro ?_ (And.intro (And.intro ?_ (And.intro ?_ trivial)) trivial)
  · refine .inl ⟨19, .agg #[], meth_first, rfl, ⟨_, rfl, rfl, rfl⟩, .inl ⟨_, _, _, hfirst, fun S2 _ hS2 _ => ?_⟩⟩
    refine ⟨b1, Int.le_refl _, b2, b3, ?_⟩
    refine ⟨⟨_, rfl, rfl, rfl⟩, .inr (.inr (.inr (.inr (.inr (.inl ⟨[2], fun p6 c6 S6 hS6 hr6 hpf6 => ⟨[1, 0], _, _, _, _, rfl, find_spec D (q, (callsJ l).length, c) (csJ l) _ S6 ((hcx.le hS2).le hS6) 0 inI_zero (p6, (List.replicate (callsJ l).length false).length, c6) (List.replicate (callsJ l).length false) rfl hr6 hrep rfl [] (hMnil _), fun S7 f hS7 hf => ?_⟩⟩)))))⟩
    exact ⟨rfl, (f.q, f.ok), rfl, fin S2 S6 S7 f (Store.le_trans hS1 (Store.le_trans hS2 hS6)) hf⟩
  · refine .inl ⟨19, .agg #[], meth_first, rfl, ⟨_, rfl, rfl, rfl⟩, .inl ⟨_, _, _, hfirst, fun S2 _ hS2 _ => ?_⟩⟩
    refine ⟨b1, Int.le_refl _, b2, b3, ?_⟩
    refine ⟨⟨_, rfl, rfl, rfl⟩, .inr (.inr (.inr (.inr (.inr (.inl ⟨[2], fun p6 c6 S6 hS6 hr6 hpf6 => ⟨[1, 0], _, _, _, _, rfl, find_spec D (q, (callsJ l).length, c) (csJ l) _ S6 ((hcx.le hS2).le hS6) 0 inI_zero (p6, (List.replicate (callsJ l).length false).length, c6) (List.replicate (callsJ l).length false) rfl hr6 hrep rfl [] (hMnil _), fun S7 f hS7 hf => ?_⟩⟩)))))⟩
    exact ⟨rfl, (f.q, f.ok), rfl, fin S2 S6 S7 f (Store.le_trans hS1 (Store.le_trans hS2 hS6)) hf⟩
  · refine ⟨b1, Int.le_refl _, b2, b3, ?_⟩
    refine .inl ⟨19, .agg #[], meth_first, rfl, ⟨_, rfl, rfl, rfl⟩, .inl ⟨_, _, _, hfirst, fun S2 _ hS2 _ => ?_⟩⟩
    refine ⟨⟨_, rfl, rfl, rfl⟩, .inr (.inr (.inr (.inr (.inr (.inl ⟨[2], fun p6 c6 S6 hS6 hr6 hpf6 => ⟨[1, 0], _, _, _, _, rfl, find_spec D (q, (callsJ l).length, c) (csJ l) _ S6 ((hcx.le hS2).le hS6) 0 inI_zero (p6, (List.replicate (callsJ l).length false).length, c6) (List.replicate (callsJ l).length false) rfl hr6 hrep rfl [] (hMnil _), fun S7 f hS7 hf => ?_⟩⟩)))))⟩
    exact ⟨rfl, (f.q, f.ok), rfl, fin S2 S6 S7 f (Store.le_trans hS1 (Store.le_trans hS2 hS6)) hf⟩
end Go.Proofs.YtpfghndflegbaaaDoor
