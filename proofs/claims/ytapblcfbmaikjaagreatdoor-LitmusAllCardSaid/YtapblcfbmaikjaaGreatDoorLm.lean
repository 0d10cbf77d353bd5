/- The library's maps.Clone, maps.Keys, slices.Sorted(maps.Keys(m)) at int keys, as calls that hand back something new: out of the kit's contracts. -/
import Derived.Test.YtapblcfbmaikjaaGreatDoorVcN
import Derived.Shelf.SlIterI.Nil
import Derived.Shelf.SortM.Plain
import Derived.Shelf.SortM.SortNone

namespace Go.Vc
open Go Go.Sort Go.RowKit Go.Maps Go.Proofs Go.WideElems
variable {P : Program} {w0 w w' : World} {B : Base} {ρ : List Value} {r : List Res} {S : Store}

theorem Stab.none (hS : S.le (Store.of w)) : Stab w ⟨fun _ => False, S, []⟩ [] [] S w :=
  ⟨rfl, fun _ _ h => by simp at h, fun _ _ _ _ _ _ _ h => by simp at h, fun _ _ _ _ h => by simp at h, hS, rfl, rfl, rfl, Nat.le_refl _, fun _ _ _ => rfl, fun _ _ _ => ⟨fun _ _ h => h, fun _ h => h⟩, fun _ _ h => by simp at h⟩

/-- maps.Keys hands back an iterator that captures a new variable, which holds the map. -/
theorem specN_keys {f g T : Nat} {mb : Option Nat} (h : ∀ w, Calls P f #[.map mb] w fun e w' => e = .returned (.func (.func g) #[] #[.pointer (some ⟨w.heap.size, 0, none⟩)]) ∧ w' = w.alloc (.cells #[.map mb] T)) :
    SpecN P f S [.map mb] (A := Unit) (fun _ => .c (.clo g [Sum.inl 0])) (fun _ => [.box [.v (.map mb)]]) (fun _ _ => True) := by
  intro w hS
  refine (h w).mono ?_
  rintro e w' ⟨rfl, rfl⟩
  have hst := (Stab.none hS).add (.cells #[.map mb] T) (.box [.v (.map mb)]) (.pointer (some ⟨w.heap.size, 0, none⟩)) (.inl rfl) ⟨w.heap.size, T, #[.map mb], rfl, heap_alloc_new w _, ⟨⟨rfl, rfl⟩, trivial⟩⟩
  refine ⟨_, (), S, [.pointer (some ⟨w.heap.size, 0, none⟩)], rfl, ⟨[.pointer (some ⟨w.heap.size, 0, none⟩)], rfl, rfl, ?_⟩, hst, Store.le_refl _, fun _ _ => ⟨fun _ => rfl, rfl⟩, trivial⟩
  intro j c z hc hz
  cases j with
  | zero =>
    simp at hc hz
    subst hc; subst hz
    exact ⟨w.heap.size, rfl, rfl⟩
  | succ j => simp at hc

/-- maps.Clone of a map that is not nil: a new map with the old entries. -/
theorem specN_clone {f b : Nat} {k e : Shape} {es : List (k.T × e.T)} (hm : MapRd S (some b) k e es)
    (h : ∀ (es : Array MapEntry) (clock : Nat) (w : World), w.heap[b]? = some (.map es clock) → Calls P f #[.map (some b)] w fun e w' => e = .returned (.map (some w.heap.size)) ∧ w' = w.alloc (.map es clock)) :
    SpecN P f S [.map (some b)] (A := Unit) (fun _ => .c (.ref 0)) (fun _ => [.map k e es]) (fun _ _ => True) := by
  intro w hS
  obtain ⟨ents, clock, h1, h2⟩ := hm
  have hb : w.heap[b]? = some (.map ents clock) := by
    have := hS.2 _ _ h1
    exact this
  refine (h ents clock w hb).mono ?_
  rintro e' w' ⟨rfl, rfl⟩
  have hst := (Stab.none hS).add (.map ents clock) (.map k e es) (.map (some w.heap.size)) (.inl rfl) ⟨w.heap.size, ents, clock, rfl, heap_alloc_new w _, h2⟩
  exact ⟨_, (), S, [.map (some w.heap.size)], rfl, ⟨rfl, rfl⟩, hst, Store.le_refl _, fun _ _ => ⟨fun _ => rfl, rfl⟩, trivial⟩

theorem pure_clone_nil {f : Nat} (h : ∀ w, Calls P f #[.map Option.none] w fun e w' => e = .returned (.map Option.none) ∧ w' = w) :
    Pure P f S [.map Option.none] (A := Unit) (fun _ => .c (.v (.map Option.none))) (fun _ _ => True) := by
  intro w hS
  refine (h w).mono ?_
  rintro e' w' ⟨rfl, rfl⟩
  exact ⟨_, (), S, rfl, ⟨rfl, rfl⟩, Store.le_refl _, hS, ⟨rfl, rfl, rfl, Nat.le_refl _, fun _ _ => rfl⟩, fun _ _ => ⟨fun _ => rfl, rfl⟩, trivial⟩

theorem encs_ints (xs : List Int) : (Shape.int .i64).encs xs = xs.map encZ := by
  induction xs with
  | nil => rfl
  | cons x xs ih => simp only [Shape.encs, List.flatMap_cons, List.map_cons] at ih ⊢; rw [ih]; rfl

/-- A new row, out of the kit's word for it. -/
theorem new_row {e : Nat} {v : Value} {n : Nat} {xs : List Int} (hS : S.le (Store.of w)) (hn : n = xs.length) (h : w'.ownsRow w.heap.size e 1 v n (xs.map encZ)) (hb : Below w.heap.size w w') :
    Stab w ⟨fun _ => False, S, []⟩ [v] [.row (.int .i64) e xs] S w' := by
  subst hn
  have hst := (Stab.none hS).addG (w' := w') hb.block hb.size hb.os hb.tape hb.output (.row (.int .i64) e xs) v (fun b hbb => by
    rcases h.2 with ⟨rfl, -⟩ | ⟨g, cap, cur, rfl, hg, hc, -⟩
    · cases hbb
    · simp only [Res.foot, blk, Option.some.injEq] at hbb
      subst hbb
      exact ⟨hg, (Array.getElem?_eq_some_iff.1 hc).1⟩) ⟨?_, fun _ _ => trivial⟩
  · exact hst
  · rw [encs_ints]
    refine ⟨h.1, ?_⟩
    rcases h.2 with h2 | ⟨g, cap, cur, h3, hg, h4⟩
    · exact .inl h2
    · exact .inr ⟨g, cap, cur, h3, Nat.zero_le _, h4⟩

/-- The sorted keys. -/
def keysOf {e : Shape} (es : List (Int × e.T)) : List Int := (es.map (·.1)).mergeSort leI

theorem insert_perm {H : Type} (x : Lit × DataW H) : ∀ l, (DataW.insert x l).Perm (x :: l)
  | [] => .refl _
  | y :: l => by
    unfold DataW.insert
    split
    · exact .refl _
    · exact (List.Perm.cons y (insert_perm x l)).trans (.swap x y l)
theorem foldr_insert_perm {H : Type} : ∀ l : List (Lit × DataW H), (l.foldr DataW.insert []).Perm l
  | [] => .refl _
  | x :: l => (insert_perm x _).trans (.cons x (foldr_insert_perm l))

/-- A map of the store, in the kit's words. -/
theorem owns_of {b k : Nat} {e : Shape} {es : List (Int × e.T)} (hk : P.underlying k = some (.int .i64)) (hm : MapRd S (some b) (.int .i64) e es) (hS : S.le (Store.of w)) (hr : ∀ p ∈ es, IntKind.i64.min ≤ p.1 ∧ p.1 ≤ IntKind.i64.max) (hl : es.length ≤ maxLen) (hnd : (es.map (·.1)).Nodup) :
    ∃ D : DataW Unit, w.ownsMap P k (fun _ => some (.nil, [])) b es.length D ∧ (intKeys D).Perm (es.map (·.1)) ∧ Maps.size D = es.length := by
  obtain ⟨ents, clock, h1, h2, h3, h4, h5⟩ := hm
  have hb : w.heap[b]? = some (.map ents clock) := by
    have := hS.2 _ _ h1
    exact this
  have hlen : ents.size = es.length := by
    have := congrArg List.length h2
    simpa using this
  have hkey : ∀ x ∈ ents.toList, ∃ p ∈ es, x.key = .int .i64 p.1 := by
    intro x hx
    have hmem : (x.key, x.val) ∈ es.map (fun p => ((Shape.int .i64).val p.1, e.val p.2)) := by
      rw [← h2]; exact List.mem_map.2 ⟨x, hx, rfl⟩
    obtain ⟨p, hp, he⟩ := List.mem_map.1 hmem
    exact ⟨p, hp, (Prod.mk.inj he).1.symm⟩
  have hrd : ∀ x ∈ ents.toList, WideElems.rd P k (fun _ => some ((.nil : DataW Unit), [])) x = some ((match x.key with | .int _ a => Lit.int .i64 a | _ => Lit.bool false), (.nil : DataW Unit)) := by
    intro x hx
    obtain ⟨p, hp, he⟩ := hkey x hx
    have hw := hr p hp
    have hwf : (Lit.int .i64 p.1).wf = true := by simp only [Lit.wf, hw, decide_true, Bool.and_self]
    have hko : keyOf P k (.int .i64 p.1) = some (.int .i64 p.1) := by simp only [keyOf, hk, mapKey, hwf, and_self, if_true]
    simp only [WideElems.rd, he, hko, Option.bind_some, Option.map_some]
  refine ⟨.map ((ents.toList.map (WideElems.rg P k fun _ => some (.nil, []))).foldr DataW.insert []), ⟨ents, clock, hb, ⟨by omega, ?_, fun x hx => ⟨_, hrd x hx⟩⟩, by omega, rfl⟩, ?_, ?_⟩
  · refine ⟨fun x hx => h5 x hx, h4, ?_⟩
    have h6 := congrArg (List.map (·.1)) h2
    rw [List.map_map, List.map_map] at h6
    have e1 : ents.toList.map (fun x => x.key) = (es.map (·.1)).map (Value.int .i64) := by
      rw [List.map_map]; exact h6
    rw [e1]
    exact List.pairwise_map.2 (hnd.imp fun {a b} hab h => hab (by simpa using h))
  · show (((ents.toList.map (WideElems.rg P k fun _ => some (.nil, []))).foldr DataW.insert []).map fun p => intOf p.1).Perm _
    refine ((foldr_insert_perm _).map _).trans ?_
    rw [List.map_map]
    have : ents.toList.map ((fun p : Lit × DataW Unit => intOf p.1) ∘ WideElems.rg P k fun _ => some (.nil, [])) = es.map (·.1) := by
      have h6 := congrArg (List.map fun p : Value × Value => match p.1 with | .int _ a => a | _ => 0) h2
      rw [List.map_map, List.map_map] at h6
      have e1 : es.map ((fun p : Value × Value => match p.1 with | .int _ a => a | _ => 0) ∘ fun p => ((Shape.int .i64).val p.1, e.val p.2)) = es.map (·.1) := List.map_congr_left fun p _ => rfl
      rw [e1] at h6
      rw [← h6]
      refine List.map_congr_left fun x hx => ?_
      obtain ⟨p, hp, he⟩ := hkey x hx
      simp only [Function.comp, WideElems.rg, hrd x hx, Option.getD_some, he, intOf]
    rw [this]
  · show ((ents.toList.map (WideElems.rg P k fun _ => some (.nil, []))).foldr DataW.insert []).length = es.length
    rw [(foldr_insert_perm _).length_eq]
    simp [hlen]

/-- slices.Sorted over such an iterator: a new row of the sorted keys. -/
theorem specN_sorted {f g Bm e : Nat} {v : Shape} {mb : Option Nat} {es : List (Int × v.T)}
    (hsome : ∀ b, mb = some b → ∀ w, S.le (Store.of w) → Calls P f #[.func (.func g) #[] #[.pointer (some ⟨Bm, 0, Option.none⟩)]] w fun e' w' => ∃ (u : Value) (ss : List Int), e' = .returned u ∧ ss.Perm (es.map (·.1)) ∧
      w'.ownsRow w.heap.size e 1 u ss.length ((ss.mergeSort (fun x y => decide (x ≤ y))).map encZ) ∧ (u = .slice Option.none 0 0 ↔ ss = []) ∧ Below w.heap.size w w')
    (hnone : mb = Option.none → ∀ w, S.le (Store.of w) → Calls P f #[.func (.func g) #[] #[.pointer (some ⟨Bm, 0, Option.none⟩)]] w fun e' w' => e' = .returned (.slice Option.none 0 0) ∧ Below w.heap.size w w')
    (hm : MapRd S mb (.int .i64) v es) :
    SpecN P f S [.func (.func g) #[] #[.pointer (some ⟨Bm, 0, Option.none⟩)]] (A := Unit) (fun _ => .c (.ref 0)) (fun _ => [.row (.int .i64) e (keysOf es)]) (fun _ _ => True) := by
  intro w hS
  cases mb with
  | none =>
    refine (hnone rfl w hS).mono ?_
    rintro e' w' ⟨rfl, hb⟩
    have he : es = [] := hm
    subst he
    have hk : keysOf (e := v) [] = [] := by simp [keysOf]
    rw [hk]
    exact ⟨_, (), S, [.slice Option.none 0 0], rfl, ⟨rfl, rfl⟩, new_row hS rfl ⟨rfl, .inl ⟨rfl, rfl⟩⟩ hb, Store.le_refl _, fun _ _ => ⟨fun _ => rfl, rfl⟩, trivial⟩
  | some b =>
    refine (hsome b rfl w hS).mono ?_
    rintro e' w' ⟨u, ss, rfl, hp, hrow, hnil, hb⟩
    have hk : ss.mergeSort (fun x y => decide (x ≤ y)) = keysOf es := mergeSort_of_perm_i hp
    rw [hk] at hrow
    have hlen : ss.length = (keysOf es).length := by rw [← hk]; simp
    have hone : u.oneCell' = true := by
      rcases hrow.2 with ⟨rfl, -⟩ | ⟨_, _, _, rfl, -⟩ <;> rfl
    exact ⟨_, (), S, [u], rfl, ⟨rfl, hone⟩, new_row hS hlen hrow hb, Store.le_refl _, fun _ _ => ⟨fun _ => rfl, rfl⟩, trivial⟩
end Go.Vc
