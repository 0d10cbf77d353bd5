/- Verification conditions: what a call leaves apart: stores that forget, masks, what a call has made becomes the caller's own. Generic over the program; conditions: none. -/
import Derived.Test.YtapblcfbmaikjaaGreatDoorVcN
namespace Go.Vc
open Go
variable {P : Program} {f : FuncId} {args : List Value} {A : Type} {out : A → SV} {Post : Store → A → Prop}

/-- The store knows nothing of this block. -/
def Store.blank (S : Store) (b : Nat) : Prop := (∀ i, S.c b i = none) ∧ S.o b = none
theorem Store.blank.le {S S' : Store} (h : S.le S') {b : Nat} (hb : S'.blank b) : S.blank b := by
  refine ⟨fun i => ?_, ?_⟩
  · cases hc : S.c b i with
    | none => rfl
    | some x => have := h.1 _ _ _ hc; rw [hb.1 i] at this; cases this
  · cases hc : S.o b with
    | none => rfl
    | some x => have := h.2 _ _ hc; rw [hb.2] at this; cases this
theorem Fresh.le {S S' : Store} (h : S.le S') {p : Option Addr} (hp : Fresh S' p) : Fresh S p := fun a e => Store.blank.le h (hp a e)
theorem Fresh.blank {S : Store} {b o : Nat} (h : Fresh S (some ⟨b, o, none⟩)) : S.blank b := h _ rfl
theorem Whole.le {S S' : Store} (h : S.le S') {p : Option Addr} {e : TypeId} {vs : List Value} (hw : Whole S p e vs) : Whole S' p e vs := fun a ha => by
  obtain ⟨rest, hr⟩ := hw a ha
  exact ⟨rest, h.2 _ _ hr⟩
theorem of_lt {w : World} {b : Nat} (h : ¬ (Store.of w).blank b) : b < w.heap.size := by
  refine Decidable.byContradiction fun hb => h ?_
  have hn : w.heap[b]? = none := Array.getElem?_eq_none (by omega)
  refine ⟨fun i => ?_, hn⟩
  show w.cell? ⟨b, i, none⟩ = none
  simp [World.cell?, hn]
theorem not_blank {S : Store} {b i : Nat} {x : Value} (h : S.c b i = some x) : ¬ S.blank b := fun q => by rw [q.1 i] at h; cases h
theorem not_blank_o {S : Store} {b : Nat} {x : Obj} (h : S.o b = some x) : ¬ S.blank b := fun q => by rw [q.2] at h; cases h
theorem blank_up {S S' : Store} (h : S.le S') {b : Nat} (hb : ¬ S.blank b) : ¬ S'.blank b := fun q => hb (Store.blank.le h q)

open Classical in
/-- Of the blocks that S knows, what S0 knows of them; of the others what S' knows. -/
noncomputable def Store.mask (S0 S S' : Store) : Store := ⟨fun b i => if S.blank b then S'.c b i else S0.c b i, fun b => if S.blank b then S'.o b else S0.o b⟩
theorem mask_new {S0 S S' : Store} {b : Nat} (h : S.blank b) : (∀ i, (Store.mask S0 S S').c b i = S'.c b i) ∧ (Store.mask S0 S S').o b = S'.o b := ⟨fun _ => if_pos h, if_pos h⟩
theorem mask_old {S0 S S' : Store} {b : Nat} (h : ¬ S.blank b) : (∀ i, (Store.mask S0 S S').c b i = S0.c b i) ∧ (Store.mask S0 S S').o b = S0.o b := ⟨fun _ => if_neg h, if_neg h⟩
theorem mask_le {S0 S S' : Store} (h0 : S0.le S) (h : S.le S') : (Store.mask S0 S S').le S' := by
  constructor
  · intro b i x hx
    by_cases hb : S.blank b
    · rwa [(mask_new hb).1] at hx
    · rw [(mask_old hb).1] at hx; exact h.1 _ _ _ (h0.1 _ _ _ hx)
  · intro b x hx
    by_cases hb : S.blank b
    · rwa [(mask_new hb).2] at hx
    · rw [(mask_old hb).2] at hx; exact h.2 _ _ (h0.2 _ _ hx)
theorem le_mask {S0 S S' : Store} (h0 : S0.le S) : S0.le (Store.mask S0 S S') := by
  constructor
  · intro b i x hx
    rw [(mask_old (not_blank (h0.1 _ _ _ hx))).1]; exact hx
  · intro b x hx
    rw [(mask_old (not_blank_o (h0.2 _ _ hx))).2]; exact hx
theorem mask_mono {S0 S S1 S2 : Store} (h : S1.le S2) : (Store.mask S0 S S1).le (Store.mask S0 S S2) := by
  constructor
  · intro b i x hx
    by_cases hb : S.blank b
    · rw [(mask_new hb).1] at hx ⊢; exact h.1 _ _ _ hx
    · rw [(mask_old hb).1] at hx ⊢; exact hx
  · intro b x hx
    by_cases hb : S.blank b
    · rw [(mask_new hb).2] at hx ⊢; exact h.2 _ _ hx
    · rw [(mask_old hb).2] at hx ⊢; exact hx
/-- A mask over a mask. -/
theorem mask_mask {S0 S S1 S2 : Store} (h1 : S.le S1) (h2 : S1.le S2) : (Store.mask (Store.mask S0 S S1) S1 S2).le (Store.mask S0 S S2) := by
  constructor
  · intro b i x hx
    by_cases hb1 : S1.blank b
    · rw [(mask_new hb1).1] at hx
      rw [(mask_new (Store.blank.le h1 hb1)).1]; exact hx
    · rw [(mask_old hb1).1] at hx
      by_cases hb : S.blank b
      · rw [(mask_new hb).1] at hx ⊢; exact h2.1 _ _ _ hx
      · rw [(mask_old hb).1] at hx ⊢; exact hx
  · intro b x hx
    by_cases hb1 : S1.blank b
    · rw [(mask_new hb1).2] at hx
      rw [(mask_new (Store.blank.le h1 hb1)).2]; exact hx
    · rw [(mask_old hb1).2] at hx
      by_cases hb : S.blank b
      · rw [(mask_new hb).2] at hx ⊢; exact h2.2 _ _ hx
      · rw [(mask_old hb).2] at hx ⊢; exact hx
theorem rd_mask {S0 S S' : Store} {b o : Nat} {l : List Value} (h : S.blank b) (hr : S'.rd b o l) : (Store.mask S0 S S').rd b o l := fun j x hx => by
  rw [(mask_new h).1]; exact hr j x hx
theorem row_mask {S0 S S' : Store} {p : Option Addr} {sh : Shape} {xs : List sh.T} (h : Fresh S p) (hr : RowRd S' p sh xs) : RowRd (Store.mask S0 S S') p sh xs := by
  refine ⟨?_, hr.2⟩
  rcases hr.1 with e | ⟨b, o, rfl, hrd⟩
  · exact .inl e
  · exact .inr ⟨b, o, rfl, rd_mask (h _ rfl) hrd⟩

/-- A call that needs no more than S0 leaves what else S knows alone. -/
theorem pure_mask {S0 S : Store} (hm : ∀ S S' x, S.le S' → Post S x → Post S' x) (h0 : S0.le S) (h : Pure P f S0 args out Post) : Pure P f S args out (fun S' x => Post (Store.mask S0 S S') x) := by
  intro w hw
  refine (h w (Store.le_trans h0 hw)).mono ?_
  rintro e w' ⟨v, x, S1, h1, h2, h3, h4, h5, h6, h7⟩
  have hlt : ∀ b, ¬ S.blank b → b < w.heap.size := fun b hb => of_lt (blank_up hw hb)
  have hS : S.le ⟨fun b i => if b < w.heap.size then S.c b i else S1.c b i, fun b => if b < w.heap.size then S.o b else S1.o b⟩ := by
    constructor
    · intro b i x hx
      show (if b < w.heap.size then S.c b i else S1.c b i) = some x
      rw [if_pos (hlt b (not_blank hx))]; exact hx
    · intro b x hx
      show (if b < w.heap.size then S.o b else S1.o b) = some x
      rw [if_pos (hlt b (not_blank_o hx))]; exact hx
  refine ⟨v, x, ⟨fun b i => if b < w.heap.size then S.c b i else S1.c b i, fun b => if b < w.heap.size then S.o b else S1.o b⟩, h1, h2, hS, ?_, h5, ?_, hm S1 _ x ?_ h7⟩
  · constructor
    · intro b i y hy
      have hy : (if b < w.heap.size then S.c b i else S1.c b i) = some y := hy
      by_cases hb : b < w.heap.size
      · rw [if_pos hb] at hy
        have := hw.1 _ _ _ hy
        show w'.cell? ⟨b, i, none⟩ = some y
        have this : w.cell? ⟨b, i, none⟩ = some y := this
        rw [← this]
        simp only [World.cell?, h5.block b hb]
      · rw [if_neg hb] at hy; exact h4.1 _ _ _ hy
    · intro b y hy
      have hy : (if b < w.heap.size then S.o b else S1.o b) = some y := hy
      by_cases hb : b < w.heap.size
      · rw [if_pos hb] at hy
        have := hw.2 _ _ hy
        show w'.heap[b]? = some y
        rw [h5.block b hb]; exact this
      · rw [if_neg hb] at hy; exact h4.2 _ _ hy
  · intro b hb
    exact ⟨fun i => if_pos hb, if_pos hb⟩
  · constructor
    · intro b i y hy
      by_cases hb : b < w.heap.size
      · rw [(h6 b hb).1] at hy
        rw [(mask_old (not_blank (h0.1 _ _ _ hy))).1]; exact hy
      · rw [(mask_new (Classical.byContradiction fun q => hb (hlt b q))).1]
        show (if b < w.heap.size then S.c b i else S1.c b i) = some y
        rw [if_neg hb]; exact hy
    · intro b y hy
      by_cases hb : b < w.heap.size
      · rw [(h6 b hb).2] at hy
        rw [(mask_old (not_blank_o (h0.2 _ _ hy))).2]; exact hy
      · rw [(mask_new (Classical.byContradiction fun q => hb (hlt b q))).2]
        show (if b < w.heap.size then S.o b else S1.o b) = some y
        rw [if_neg hb]; exact hy

/-- The store without some blocks. -/
def Store.drop (S : Store) (l : List Nat) : Store := ⟨fun b i => if b ∈ l then none else S.c b i, fun b => if b ∈ l then none else S.o b⟩
theorem drop_le (S : Store) (l : List Nat) : (S.drop l).le S := by
  constructor
  · intro b i x hx
    have hx : (if b ∈ l then none else S.c b i) = some x := hx
    split at hx
    · cases hx
    · exact hx
  · intro b x hx
    have hx : (if b ∈ l then none else S.o b) = some x := hx
    split at hx
    · cases hx
    · exact hx
theorem le_drop {S S' : Store} {l : List Nat} (h : S.le S') (hl : ∀ b ∈ l, S.blank b) : S.le (S'.drop l) := by
  constructor
  · intro b i x hx
    show (if b ∈ l then none else S'.c b i) = some x
    rw [if_neg (fun q => not_blank hx (hl b q))]; exact h.1 _ _ _ hx
  · intro b x hx
    show (if b ∈ l then none else S'.o b) = some x
    rw [if_neg (fun q => not_blank_o hx (hl b q))]; exact h.2 _ _ hx
theorem drop_rd {S : Store} {l : List Nat} {b o : Nat} {vs : List Value} (h : S.rd b o vs) (hb : b ∉ l) : (S.drop l).rd b o vs := fun j x hx => by
  show (if b ∈ l then none else S.c b (o + j)) = some x
  rw [if_neg hb]; exact h j x hx

/-- Blocks that a call has made become the caller's own, by name. -/
theorem specN_of_pure {S : Store} (l : A → List (Nat × List Value)) (h : Pure P f S args out Post)
    (hl : ∀ S' x, S.le S' → Post S' x → ((l x).map (·.1)).Nodup ∧ ∀ p ∈ l x, S.blank p.1 ∧ (∀ v ∈ p.2, v.oneCell' = true) ∧ ∃ T rest, S'.o p.1 = some (.cells (p.2 ++ rest).toArray T (0, 0))) :
    SpecN P f S args out (fun x => (l x).map fun p => .ext (BoxAt p.1 p.2 none)) (fun S'' x => ∃ S', S.le S' ∧ Post S' x ∧ S'' = S'.drop ((l x).map (·.1))) := by
  intro w hw
  refine (h w hw).mono ?_
  rintro e w' ⟨v, x, S', h1, h2, h3, h4, h5, h6, h7⟩
  obtain ⟨hnd, hp⟩ := hl S' x h3 h7
  have hbl : ∀ b ∈ (l x).map (·.1), S.blank b := fun b hb => by
    obtain ⟨p, hpm, rfl⟩ := List.mem_map.1 hb
    exact (hp p hpm).1
  have hnew : ∀ b ∈ (l x).map (·.1), w.heap.size ≤ b := fun b hb => by
    obtain ⟨p, hpm, rfl⟩ := List.mem_map.1 hb
    obtain ⟨k1, -, T, rest, k2⟩ := hp p hpm
    refine Nat.le_of_not_lt fun hlt => ?_
    rw [(h6 p.1 hlt).2, k1.2] at k2
    cases k2
  have get : ∀ (i : Nat) y, ((l x).map fun p : Nat × List Value => Res.ext (BoxAt p.1 p.2 none))[i]? = some y → ∃ p, (l x)[i]? = some p ∧ y = Res.ext (BoxAt p.1 p.2 none) := fun i y hy => by
    rw [List.getElem?_map] at hy
    obtain ⟨p, q1, q2⟩ := Option.map_eq_some_iff.1 hy
    exact ⟨p, q1, q2.symm⟩
  have hdl : S.le (S'.drop ((l x).map (·.1))) := le_drop h3 hbl
  refine ⟨v, x, S'.drop ((l x).map (·.1)), (l x).map fun p => .pointer (some ⟨p.1, 0, none⟩), h1, ?_, ⟨?_, ?_, ?_, ?_, Store.le_trans (drop_le _ _) h4, h5.os, h5.tape, h5.output, h5.size, fun b hb _ => h5.block b hb, ?_, fun i g hg => by cases hg⟩, hdl, ?_, S', h3, h7, rfl⟩
  · have := SV.rel_app (l := (l x).map fun p => Value.pointer (some ⟨p.1, 0, none⟩)) _ _ h2
    rwa [List.nil_append] at this
  · rw [List.length_map, List.length_map]
  · intro i y hy
    obtain ⟨p, q1, rfl⟩ := get i y hy
    refine ⟨.pointer (some ⟨p.1, 0, none⟩), by rw [List.getElem?_map, q1]; rfl, rfl, rfl, (hp p (List.mem_of_getElem? q1)).2.1, ?_⟩
    obtain ⟨T, rest, q2⟩ := (hp p (List.mem_of_getElem? q1)).2.2
    exact ⟨T, rest, fun t (e : none = some t) => (by cases e), h4.2 _ _ q2⟩
  · intro i j y z g hh b hy hz _ _ hg hhh fy fz
    obtain ⟨p, q1, rfl⟩ := get i y hy
    obtain ⟨q, r1, rfl⟩ := get j z hz
    rw [List.getElem?_map, q1] at hg
    rw [List.getElem?_map, r1] at hhh
    simp only [Option.map_some, Option.some.injEq] at hg hhh
    subst hg hhh
    have e1 : p.1 = b := Option.some.inj fy
    have e2 : q.1 = b := Option.some.inj fz
    have g1 : ((l x).map (·.1))[i]? = some b := by rw [List.getElem?_map, q1, ← e1]; rfl
    have g2 : ((l x).map (·.1))[j]? = some b := by rw [List.getElem?_map, r1, ← e2]; rfl
    exact (List.getElem?_inj (List.getElem?_eq_some_iff.1 g1).1 hnd).1 (g1.trans g2.symm)
  · intro i y g b hy _ hg fy
    obtain ⟨p, q1, rfl⟩ := get i y hy
    rw [List.getElem?_map, q1] at hg
    simp only [Option.map_some, Option.some.injEq] at hg
    subst hg
    have e1 : p.1 = b := Option.some.inj fy
    subst e1
    have hmem : p.1 ∈ (l x).map (·.1) := List.mem_map.2 ⟨p, List.mem_of_getElem? q1, rfl⟩
    obtain ⟨T, rest, q2⟩ := (hp p (List.mem_of_getElem? q1)).2.2
    refine ⟨(Array.getElem?_eq_some_iff.1 (h4.2 _ _ q2)).1, .inl (hnew _ hmem), fun o => ?_, ?_⟩
    · show (if p.1 ∈ (l x).map (·.1) then none else S'.c p.1 o) = none
      rw [if_pos hmem]
    · show (if p.1 ∈ (l x).map (·.1) then none else S'.o p.1) = none
      rw [if_pos hmem]
  · intro b hb _
    have h6' := h6 b hb
    refine ⟨fun o y hy => ?_, fun y hy => ?_⟩
    · have := (drop_le _ _).1 _ _ _ hy
      rwa [h6'.1] at this
    · have := (drop_le _ _).2 _ _ hy
      rwa [h6'.2] at this
  · intro b hb
    have hb' : b ∉ (l x).map (·.1) := fun q => by have := hnew b q; omega
    refine ⟨fun i => ?_, ?_⟩
    · show (if b ∈ (l x).map (·.1) then none else S'.c b i) = _
      rw [if_neg hb']; exact (h6 b hb).1 i
    · show (if b ∈ (l x).map (·.1) then none else S'.o b) = _
      rw [if_neg hb']; exact (h6 b hb).2
end Go.Vc
