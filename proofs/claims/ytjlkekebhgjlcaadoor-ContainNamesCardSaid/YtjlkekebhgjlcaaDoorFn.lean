/- law29, Nests: the deferred closure: one number more in the order. -/
import Derived.Test.YtjlkekebhgjlcaaDoorVcQ
import Derived.Test.YtjlkekebhgjlcaaDoorFm
import Derived.Test.YtjlkekebhgjlcaaDoorFl
namespace Go.Proofs.YtjlkekebhgjlcaaDoor
open Go Go.Vc
set_option maxRecDepth 100000

theorem append_spec (L : List Int) (i : Int) (hL : L.length ≤ 1000) :
    SpecRD Tryd.prog 13 ⟨fun _ _ => none, fun _ => none⟩ [.box [.ref 1], .row shI 3 L, .box [.v (.int .i64 i)]] [.c (.ptr 0 0), .c (.ptr 2 0)] (A := Unit) (fun _ => .tup []) (fun _ => [.box [.ref 1], .row shI 3 (L ++ [i]), .box [.v (.int .i64 i)]]) (fun _ _ => True) := by
  refine specRD_of_vc agrees Tryd.func13 rfl (fun S S' q hle h => h) ?_
  refine ⟨[i], ⟨rfl, rfl⟩, fun _ _ => trivial, ?_, rfl, (), rfl, rfl, rfl, trivial⟩
  · show (L.length + 1) * 8 ≤ _
    omega

/-- The box 'bo' holds the list L; its row, if there is one, lies at 'lo' or behind it. -/
def OrdAt (w : World) (lo bo : Nat) (L : List Int) : Prop :=
  ∃ h T, w.heap[bo]? = some (.cells #[h] T (0, 0)) ∧ h.oneCell' = true ∧ w.ownsRow 0 3 1 h L.length (shI.encs L) ∧ (∀ x ∈ L, shI.ok x) ∧ ∀ b, blk h = some b → lo ≤ b ∧ b ≠ bo

theorem append_walk (u : FrameMode) (w : World) (bo bi : Nat) (L : List Int) (i : Int) (hL : L.length ≤ 1000) (hb : bo < bi) (ho : OrdAt w (bi + 1) bo L) (hc : ∃ T, w.heap[bi]? = some (.cells #[.int .i64 i] T (0, 0))) :
    CallsD Tryd.prog 13 #[.pointer (some ⟨bo, 0, none⟩), .pointer (some ⟨bi, 0, none⟩)] u w fun e u' w' => u' = u ∧ e = .returned (.tuple #[]) ∧ OrdAt w' (bi + 1) bo (L ++ [i]) ∧ OldX (fun b => b = bo ∨ bi ≤ b) w w' := by
  obtain ⟨h, T, k0, h1, hr, hok, hlo⟩ := ho
  obtain ⟨T2, k2⟩ := hc
  have bl : ∀ {b : Nat} {o : Obj}, w.heap[b]? = some o → b < w.heap.size := fun h => (Array.getElem?_eq_some_iff.1 h).1
  have hrow : ∀ b, blk h = some b → b < w.heap.size := by
    intro b hb
    rcases hr.2 with ⟨rfl, -⟩ | ⟨g, cap, cur, rfl, -, hg, -⟩
    · cases hb
    · cases hb; exact bl hg
  have hst : Stab w ⟨Owned [.box [.ref 1], .row shI 3 L, .box [.v (.int .i64 i)]] [.pointer (some ⟨bo, 0, none⟩), h, .pointer (some ⟨bi, 0, none⟩)], ⟨fun _ _ => none, fun _ => none⟩, [.pointer (some ⟨bo, 0, none⟩), h, .pointer (some ⟨bi, 0, none⟩)]⟩ [.pointer (some ⟨bo, 0, none⟩), h, .pointer (some ⟨bi, 0, none⟩)] [.box [.ref 1], .row shI 3 L, .box [.v (.int .i64 i)]] ⟨fun _ _ => none, fun _ => none⟩ w := by
    refine ⟨rfl, ?_, ?_, ?_, ⟨fun _ _ _ h => (by cases h), fun _ _ h => (by cases h)⟩, rfl, rfl, rfl, Nat.le_refl _, fun _ _ _ => rfl, fun b _ _ => ⟨fun _ _ h => (by cases h), fun _ h => (by cases h)⟩, fun i h hi _ => hi⟩
    · intro j x hx
      match j, hx with
      | 0, hx => cases hx; exact ⟨_, rfl, bo, T, _, rfl, k0, ⟨⟨rfl, h1⟩, trivial⟩⟩
      | 1, hx => cases hx; exact ⟨_, rfl, hr, hok⟩
      | 2, hx => cases hx; exact ⟨_, rfl, bi, T2, _, rfl, k2, ⟨⟨rfl, rfl⟩, trivial⟩⟩
    · intro j k x y g g' b hx hy _ _ hg hg' f1 f2
      match j, k, hx, hy, hg, hg' with
      | 0, 0, _, _, _, _ => rfl
      | 1, 1, _, _, _, _ => rfl
      | 2, 2, _, _, _, _ => rfl
      | 0, 1, hx, hy, hg, hg' => cases hx; cases hy; cases hg; cases hg'; cases f1; exact absurd rfl (hlo _ f2).2
      | 1, 0, hx, hy, hg, hg' => cases hx; cases hy; cases hg; cases hg'; cases f2; exact absurd rfl (hlo _ f1).2
      | 0, 2, hx, hy, hg, hg' => cases hx; cases hy; cases hg; cases hg'; cases f1; cases f2; exact absurd hb (Nat.lt_irrefl _)
      | 2, 0, hx, hy, hg, hg' => cases hx; cases hy; cases hg; cases hg'; cases f1; cases f2; exact absurd hb (Nat.lt_irrefl _)
      | 1, 2, hx, hy, hg, hg' => cases hx; cases hy; cases hg; cases hg'; cases f2; have := (hlo _ f1).1; simp only at this; omega
      | 2, 1, hx, hy, hg, hg' => cases hx; cases hy; cases hg; cases hg'; cases f1; have := (hlo _ f2).1; simp only at this; omega
    · intro j x g b hx ha hg f
      refine ⟨?_, .inr ⟨j, x, g, hx, ha, hg, f⟩, fun _ => rfl, rfl⟩
      match j, hx, hg with
      | 0, hx, hg => cases hx; cases hg; cases f; exact bl k0
      | 1, hx, hg => cases hx; cases hg; exact hrow _ f
      | 2, hx, hg => cases hx; cases hg; cases f; exact bl k2
  refine (append_spec L i hL u w _ [_, _] hst ⟨⟨bo, rfl, rfl⟩, ⟨bi, rfl, rfl⟩, trivial⟩).mono ?_
  rintro e u' w' ⟨hu, v, x, S', ρ', rfl, hv, -, hst', -, -, -⟩
  obtain ⟨ys, rfl, hys⟩ := hv
  match ys, hys with
  | [], _ =>
  have hown : ∀ b, Owned [.box [.ref 1], .row shI 3 L, .box [.v (.int .i64 i)]] [.pointer (some ⟨bo, 0, none⟩), h, .pointer (some ⟨bi, 0, none⟩)] b → b = bo ∨ bi ≤ b := by
    rintro b ⟨j, x, g, hx, -, hg, f⟩
    match j, hx, hg with
    | 0, hx, hg => cases hx; cases hg; cases f; exact .inl rfl
    | 1, hx, hg => cases hx; cases hg; have := (hlo _ f).1; exact .inr (by omega)
    | 2, hx, hg => cases hx; cases hg; cases f; exact .inr (Nat.le_refl _)
  have p0 : ρ'[0]? = some (.pointer (some ⟨bo, 0, none⟩)) := hst'.pre 0 _ rfl rfl
  have p2 : ρ'[2]? = some (.pointer (some ⟨bi, 0, none⟩)) := hst'.pre 2 _ rfl rfl
  obtain ⟨g0, r0, b0, T0, xs0, e0, m0, q0⟩ := hst'.res 0 _ rfl
  rw [p0] at r0
  cases r0
  cases e0
  obtain ⟨g1, r1, o1, ok1⟩ := hst'.res 1 _ rfl
  match xs0, m0, q0 with
  | ⟨[y]⟩, m0, ⟨⟨q1, q2⟩, _⟩ =>
  rw [r1] at q1
  cases q1
  refine ⟨hu, rfl, ⟨g1, T0, m0, q2, o1, ok1, fun b hb' => ?_⟩, hst'.os, hst'.tape, hst'.output, hst'.size, fun b hbs hp => hst'.block b hbs fun ho => hp (hown b ho)⟩
  have ne0 : b ≠ bo := fun e => by
    have := hst'.disj 1 0 _ _ _ _ b rfl rfl rfl rfl r1 p0 hb' (by rw [e]; rfl)
    cases this
  have ne2 : b ≠ bi := fun e => by
    have := hst'.disj 1 2 _ _ _ _ b rfl rfl rfl rfl r1 p2 hb' (by rw [e]; rfl)
    cases this
  obtain ⟨_, o2, _⟩ := hst'.own 1 _ _ b rfl rfl r1 hb'
  refine ⟨?_, ne0⟩
  rcases o2 with o2 | o2
  · have := bl k2; omega
  · rcases hown b o2 with e | e
    · exact absurd e ne0
    · omega
end Go.Proofs.YtjlkekebhgjlcaaDoor
