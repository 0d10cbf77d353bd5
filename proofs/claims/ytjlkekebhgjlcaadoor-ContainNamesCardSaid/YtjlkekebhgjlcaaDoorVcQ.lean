/- Verification conditions: a deferred call that is handed own parts. -/
import Derived.Test.YtjlkekebhgjlcaaDoorVcN
import Derived.Defers
namespace Go.Vc
open Go

/-- A deferred call that is handed resources which it may turn. -/
def SpecRD (P : Program) (f : FuncId) (S : Store) (ins : List Res) (args : List SV) {A : Type} (out : A → SV) (outs : A → List Res) (Post : Store → A → Prop) : Prop :=
  ∀ (u : FrameMode) (w : World) (ρ vs : List Value), Stab w ⟨Owned ins ρ, S, ρ⟩ ρ ins S w → rels (SV.rel ρ) args vs → CallsD P f vs.toArray u w fun e u' w' => u' = u ∧
    ∃ (v : Value) (x : A) (S' : Store) (ρ' : List Value), e = .returned v ∧ (out x).rel [] v ∧ (outs x).length = ins.length ∧ Stab w ⟨Owned ins ρ, S, ρ⟩ ρ' (outs x) S' w' ∧ S.le S' ∧
      (∀ b, b < w.heap.size → ¬ Owned ins ρ b → (∀ i, S'.c b i = S.c b i) ∧ S'.o b = S.o b) ∧ Post S' x

variable {P : Program} {tt : Nat → Option TI} {w0 w w' : World} {B : Base} {ρ : List Value} {r : List Res} {S S' : Store} {t : List SV} {a : Act}
/-- A DEFERRED FUNCTION, by its condition. -/
theorem specRD_of_vc (hA : Agrees P tt) {f : FuncId} {fn : Func} {c : Code} (hf : P.funcs[f]? = some fn) (hb : fn.body = some c) {ins : List Res} {args : List SV} {A : Type} {out : A → SV} {outs : A → List Res} {Post : Store → A → Prop}
    (hm : ∀ S S' x, S.le S' → Post S x → Post S' x) (h : vcFnR P tt fn c ins args S out outs Post) : SpecRD P f S ins args out outs Post := by
  intro u w ρ0 vs hst hargs
  refine callsD_of_wp hf hb ?_
  unfold vcFnR at h
  rw [padK_eq] at h
  have hlen := rels_length hargs
  have hpad : ∀ n, rels (SV.rel ρ0) (List.replicate n (SV.tup [])) (List.replicate n undef) := by
    intro n
    induction n with
    | zero => trivial
    | succ n ih => exact ⟨undef_rel, ih⟩
  have hg : Gam w ⟨Owned ins ρ0, S, ρ0⟩ ρ0 (args ++ List.replicate (fn.ntmps - args.length) (.tup [])) ins S { tmps := vs.toArray ++ Array.replicate (fn.ntmps - vs.toArray.size) undef, defers := [] } w := by
    refine ⟨?_, rfl, hst⟩
    simp only [Array.toList_append, Array.toList_replicate, List.size_toArray]
    rw [← hlen]
    exact rels_append hargs (hpad _)
  refine wp_mono (vcCode_sound hA (Nat.le_of_eq hst.len) c _ ρ0 _ ins S _ w hg h) ?_
  rintro e a w' ⟨ρ, t, r, S', hg', hq⟩
  have fin : frzPools ins.length (fun r S' => resK tt t r S' (fun l => frzCells (fun l r S => closedT l = true ∧ ∃ x, out x = oneOrTup l ∧ r.take ins.length = outs x ∧ (decide ((outs x).length = ins.length) && (outs x).all (resOk ins.length)) = true ∧ Post S x) 16 l r S') fn.results.toList) r 0 r S' → a.defers = [] ∧ ∃ v, (results fn a.tmps).run P w' = .ok v w' ∧
      ∃ (v' : Value) (x : A) (S' : Store) (ρ' : List Value), Ending.returned v = .returned v' ∧ (out x).rel [] v' ∧ (outs x).length = ins.length ∧ Stab w ⟨Owned ins ρ0, S, ρ0⟩ ρ' (outs x) S' w' ∧ S.le S' ∧
        (∀ b, b < w.heap.size → ¬ Owned ins ρ0 b → (∀ i, S'.c b i = S.c b i) ∧ S'.o b = S.o b) ∧ Post S' x := by
    intro hq
    obtain ⟨r, S', hst', hq⟩ := frzPools_sound r 0 r S' (fun k x hx => by simpa using hx) hg'.st hq
    have hg' := Gam.mk hg'.tmps hg'.defers hst'
    obtain ⟨cs, us, h1, h2, h3⟩ := resK_sound hA hg' _ _ hq
    obtain ⟨l', r', S'', h4, h5, h6, x, h7, h8, h9, h10⟩ := frzCells_sound 16 cs r S' hg'.st h1 h2
    have hres := run_results h3
    have hrel := oneOrTup_rel (closedT_rel h6 h5)
    simp only [Bool.and_eq_true, decide_eq_true_eq] at h9
    obtain ⟨holen, h9⟩ := h9
    have hlow0 : ∀ b, w.heap.size ≤ b → (∀ o, S.c b o = none) ∧ S.o b = none := fun b hb => Store.lt_of hst.sub hb
    have hown0 : ∀ b, Owned ins ρ0 b → (∀ o, S.c b o = none) ∧ S.o b = none := by
      rintro b ⟨i, y, g, hi, hya, hgi, hb⟩
      exact (hst.own i y g b hi hya hgi hb).2.2
    have houts : ∀ (i : Nat) y, (outs x)[i]? = some y → i < ins.length ∧ r'[i]? = some y ∧ resOk ins.length y = true := by
      intro i y hy
      have hok := List.all_eq_true.1 h9 y (List.mem_of_getElem? hy)
      rw [← h8, List.getElem?_take] at hy
      split at hy
      · rename_i hi; exact ⟨hi, hy, hok⟩
      · cases hy
    have hrl : ins.length ≤ ρ.length := by
      rw [h4.len, ← holen, ← h8, List.length_take]
      exact Nat.min_le_right _ _
    have htake : ∀ i, i < ins.length → (ρ.take ins.length)[i]? = ρ[i]? := fun i hi => by rw [List.getElem?_take, if_pos hi]
    have hle : S''.le (S.past w (Owned ins ρ0) S'') := by
      constructor
      · intro b o y hy
        simp only [Store.past]
        split
        · rename_i hlt; exact (h4.low b hlt.1 hlt.2).1 o y hy
        · exact hy
      · intro b y hy
        simp only [Store.past]
        split
        · rename_i hlt; exact (h4.low b hlt.1 hlt.2).2 y hy
        · exact hy
    have hleS : S.le (S.past w (Owned ins ρ0) S'') := by
      constructor
      · intro b o y hy
        simp only [Store.past]
        split
        · exact hy
        · rename_i hn
          exfalso
          rcases Nat.lt_or_ge b w.heap.size with hlt | hge
          · by_cases ho : Owned ins ρ0 b
            · rw [(hown0 b ho).1 o] at hy; cases hy
            · exact hn ⟨hlt, ho⟩
          · rw [(hlow0 b hge).1 o] at hy; cases hy
      · intro b y hy
        simp only [Store.past]
        split
        · exact hy
        · rename_i hn
          exfalso
          rcases Nat.lt_or_ge b w.heap.size with hlt | hge
          · by_cases ho : Owned ins ρ0 b
            · rw [(hown0 b ho).2] at hy; cases hy
            · exact hn ⟨hlt, ho⟩
          · rw [(hlow0 b hge).2] at hy; cases hy
    have hsub : (S.past w (Owned ins ρ0) S'').le (Store.of w') := by
      constructor
      · intro b o y hy
        simp only [Store.past] at hy
        split at hy
        · rename_i hlt; rw [(Store.of_same (h4.block b hlt.1 hlt.2)).1 o]; exact hst.sub.1 b o y hy
        · exact h4.sub.1 b o y hy
      · intro b y hy
        simp only [Store.past] at hy
        split at hy
        · rename_i hlt; rw [(Store.of_same (h4.block b hlt.1 hlt.2)).2]; exact hst.sub.2 b y hy
        · exact h4.sub.2 b y hy
    refine ⟨hg'.defers, _, hres, _, x, S.past w (Owned ins ρ0) S'', ρ.take ins.length, rfl, by rw [h7]; exact hrel, holen, ⟨by simp; omega, ?_, ?_, ?_, hsub, h4.os, h4.tape, h4.output, h4.size, h4.block, fun b hb hnb => ?_, fun i h hi hf => ?_⟩, hleS, fun b hb hnb => ?_, hm _ _ x hle h10⟩
    · intro i y hy
      obtain ⟨hi, hr, hok⟩ := houts i y hy
      obtain ⟨g, hgg, hgh⟩ := h4.res i y hr
      refine ⟨g, by rw [htake i hi]; exact hgg, ?_⟩
      cases y <;> simp only [resOk] at hok <;> try cases hok
      · obtain ⟨b, T, xs, k1, k2, k3⟩ := hgh
        exact ⟨b, T, xs, k1, k2, rels_low (fun i hi h hh => by rw [htake i hi]; exact hh) hok k3⟩
      all_goals exact hgh
    · intro i j y z g k b hy hz hya hza hgi hkj hb1 hb2
      obtain ⟨hi, hr1, _⟩ := houts i y hy
      obtain ⟨hj, hr2, _⟩ := houts j z hz
      exact h4.disj i j y z g k b hr1 hr2 hya hza (by rw [← htake i hi]; exact hgi) (by rw [← htake j hj]; exact hkj) hb1 hb2
    · intro i y g b hy hya hgi hb
      obtain ⟨hi, hr, _⟩ := houts i y hy
      obtain ⟨k1, k2, k3, k4⟩ := h4.own i y g b hr hya (by rw [← htake i hi]; exact hgi) hb
      have hn : ¬ (b < w.heap.size ∧ ¬ Owned ins ρ0 b) := by
        rintro ⟨e1, e2⟩
        rcases k2 with k2 | k2
        · omega
        · exact e2 k2
      exact ⟨k1, k2, fun o => by simp only [Store.past, if_neg hn]; exact k3 o, by simp only [Store.past, if_neg hn]; exact k4⟩
    · constructor
      · intro o y hy; simpa only [Store.past, if_pos (show b < w.heap.size ∧ ¬ Owned ins ρ0 b from ⟨hb, hnb⟩)] using hy
      · intro y hy; simpa only [Store.past, if_pos (show b < w.heap.size ∧ ¬ Owned ins ρ0 b from ⟨hb, hnb⟩)] using hy
    · have hi' : i < ρ0.length := (List.getElem?_eq_some_iff.1 hi).1
      have e1 := hst.len
      rw [htake i (by omega)]
      exact h4.pre i h hi hf
    · simp only [Store.past, if_pos (show b < w.heap.size ∧ ¬ Owned ins ρ0 b from ⟨hb, hnb⟩)]
      exact ⟨fun _ => trivial, trivial⟩
  cases e <;> simp only [endKR] at hq
  case normal => exact fin hq
  case ret => exact fin hq
end Go.Vc
