/- law29, Names: the functions' names in order. -/
import Derived.Test.YtjlkekebhgjlcaaDoorFq
import Derived.Test.YtjlkekebhgjlcaaDoorSi
namespace Go.Proofs.YtjlkekebhgjlcaaDoor
open Go Go.Vc Go.Sort Go.RowKit Go.Maps Go.WideElems
set_option maxRecDepth 100000

theorem stab_none {S : Store} {w : World} (hS : S.le (Store.of w)) : Stab w ⟨fun _ => False, S, []⟩ [] [] S w :=
  ⟨rfl, fun _ _ h => by simp at h, fun _ _ _ _ _ _ _ h => by simp at h, fun _ _ _ _ h => by simp at h, hS, rfl, rfl, rfl, Nat.le_refl _, fun _ _ _ => rfl, fun _ _ _ => ⟨fun _ _ h => h, fun _ h => h⟩, fun _ _ h => by simp at h⟩

/-- maps.Keys hands back an iterator that captures a new variable, which holds the map. -/
theorem keys_spec (S : Store) (mb : Option Nat) : SpecN Tryd.prog 29 S [.map mb] (A := Unit) (fun _ => .c (.clo 42 [Sum.inl 0])) (fun _ => [.box [.v (.map mb)]]) (fun _ _ => True) := by
  intro w hS
  refine (callsIn_wide.1 (AnyZ.keys_in Tryd.layKeys Fence.wide 5 trivial rfl mb w)).mono ?_
  rintro e w' ⟨rfl, rfl⟩
  have hst := (stab_none hS).add (.cells #[.map mb] 52) (.box [.v (.map mb)]) (.pointer (some ⟨w.heap.size, 0, none⟩)) (.inl rfl) ⟨w.heap.size, 52, #[.map mb], rfl, heap_alloc_new w _, ⟨⟨rfl, rfl⟩, trivial⟩⟩
  refine ⟨_, (), S, [.pointer (some ⟨w.heap.size, 0, none⟩)], rfl, ⟨[.pointer (some ⟨w.heap.size, 0, none⟩)], rfl, rfl, ?_⟩, hst, Store.le_refl _, fun _ _ => ⟨fun _ => rfl, rfl⟩, trivial⟩
  intro j c z hc hz
  cases j with
  | zero =>
    simp at hc hz
    subst hc; subst hz
    exact ⟨w.heap.size, rfl, rfl⟩
  | succ j => simp at hc

theorem insert_perm {H : Type} (x : Lit × DataW H) : ∀ l, (DataW.insert x l).Perm (x :: l)
  | [] => .refl _
  | y :: l => by
    unfold DataW.insert
    split
    · exact .refl _
    · exact (List.Perm.cons y (insert_perm x l)).trans (.swap x y l)
theorem foldr_insert_perm {H : Type} : ∀ l : List (Lit × DataW H), (l.foldr DataW.insert []).Perm l
  | [] => .refl _
  | x :: l => (insert_perm x _).trans (.cons x (foldr_insert_perm l))

/-- A map of the store with strings as keys, in the kit's words. -/
theorem owns_str {S : Store} {w : World} {b : Nat} {e : Shape} {es : List (ByteArray × e.T)} (hm : MapRd S (some b) .str e es) (hS : S.le (Store.of w)) (hr : ∀ p ∈ es, p.1.size ≤ maxLen) (hl : es.length ≤ maxLen) (hnd : (es.map (·.1)).Nodup) :
    ∃ D : DataW Unit, w.ownsMap Tryd.prog 9 (fun _ => some (.nil, [])) b es.length D ∧ (strKeys D).Perm (es.map (·.1.data.toList)) ∧ Maps.size D = es.length := by
  obtain ⟨ents, clock, h1, h2, h3, h4, h5⟩ := hm
  have hk : Tryd.prog.underlying 9 = some .string := Tryd.underlying9
  have hb : w.heap[b]? = some (.map ents clock) := by
    exact hS.2 _ _ h1
  have hlen : ents.size = es.length := by
    have := congrArg List.length h2
    simpa using this
  have hkey : ∀ x ∈ ents.toList, ∃ p ∈ es, x.key = .string p.1 := by
    intro x hx
    have hmem : (x.key, x.val) ∈ es.map (fun p => (Shape.str.val p.1, e.val p.2)) := by
      rw [← h2]; exact List.mem_map.2 ⟨x, hx, rfl⟩
    obtain ⟨p, hp, he⟩ := List.mem_map.1 hmem
    exact ⟨p, hp, (Prod.mk.inj he).1.symm⟩
  have hrd : ∀ x ∈ ents.toList, WideElems.rd Tryd.prog 9 (fun _ => some ((.nil : DataW Unit), [])) x = some ((match x.key with | .string s => Lit.string s.data.toList | _ => Lit.bool false), (.nil : DataW Unit)) := by
    intro x hx
    obtain ⟨p, hp, he⟩ := hkey x hx
    have hw := hr p hp
    have hko : keyOf Tryd.prog 9 (.string p.1) = some (.string p.1.data.toList) := by simp only [keyOf, hk, mapKey, if_pos hw]
    simp only [WideElems.rd, he, hko, Option.bind_some, Option.map_some]
  refine ⟨.map ((ents.toList.map (WideElems.rg Tryd.prog 9 fun _ => some (.nil, []))).foldr DataW.insert []), ⟨ents, clock, hb, ⟨by omega, ?_, fun x hx => ⟨_, hrd x hx⟩⟩, by omega, rfl⟩, ?_, ?_⟩
  · refine ⟨fun x hx => h5 x hx, h4, ?_⟩
    have h6 := congrArg (List.map (·.1)) h2
    rw [List.map_map, List.map_map] at h6
    have e1 : ents.toList.map (fun x => x.key) = (es.map (·.1)).map Value.string := by
      rw [List.map_map]; exact h6
    rw [e1]
    exact List.pairwise_map.2 (hnd.imp fun {a b} hab h => hab (by simpa using h))
  · show (((ents.toList.map (WideElems.rg Tryd.prog 9 fun _ => some (.nil, []))).foldr DataW.insert []).map fun p => strOf p.1).Perm _
    refine ((foldr_insert_perm _).map _).trans ?_
    rw [List.map_map]
    have : ents.toList.map ((fun p : Lit × DataW Unit => strOf p.1) ∘ WideElems.rg Tryd.prog 9 fun _ => some (.nil, [])) = es.map (·.1.data.toList) := by
      have h6 := congrArg (List.map fun p : Value × Value => match p.1 with | .string s => s.data.toList | _ => []) h2
      rw [List.map_map, List.map_map] at h6
      have e1 : es.map ((fun p : Value × Value => match p.1 with | .string s => s.data.toList | _ => []) ∘ fun p => (Shape.str.val p.1, e.val p.2)) = es.map (·.1.data.toList) := List.map_congr_left fun p _ => rfl
      rw [e1] at h6
      rw [← h6]
      refine List.map_congr_left fun x hx => ?_
      obtain ⟨p, hp, he⟩ := hkey x hx
      simp only [Function.comp, WideElems.rg, hrd x hx, Option.getD_some, he, strOf]
    rw [this]
  · show ((ents.toList.map (WideElems.rg Tryd.prog 9 fun _ => some (.nil, []))).foldr DataW.insert []).length = es.length
    rw [(foldr_insert_perm _).length_eq]
    simp [hlen]

theorem sortsS (m : Nat) : AnyZ.SortsIn Tryd.prog Tryd.laySorted_ren Fence.wide m :=
  ⟨fun blk off cap ss W hH hblk hsz => callsIn_wide.2 (AnyM.slices_Sort_string Tryd.laySort blk off cap ss W hH hblk hsz),
   fun p cap W => callsIn_wide.2 (AnyM.slices_Sort_string_none Tryd.laySort p cap W)⟩

def names : List ByteArray := host.map (·.1)
theorem names_sorted : (host.map (·.1.data.toList)).mergeSort leB = host.map (·.1.data.toList) :=
  List.mergeSort_of_pairwise (by decide)
theorem names_encs (ss : List (List UInt8)) (h : ss.mergeSort leB = host.map (·.1.data.toList)) : (ss.mergeSort leB).map encStr = Shape.str.encs names := by
  rw [h]; rfl

theorem plus_facts {S : Store} {w w' : World} (hS : S.le (Store.of w)) (hold : Old w w') : S.le (S.plus w w') ∧ (S.plus w w').le (Store.of w') ∧ ∀ b, b < w.heap.size → (∀ i, (S.plus w w').c b i = S.c b i) ∧ (S.plus w w').o b = S.o b := by
  have hlt : ∀ b, w.heap.size ≤ b → (∀ o, S.c b o = none) ∧ S.o b = none := fun b hb => Store.lt_of hS hb
  have hle := old_le hS hold
  refine ⟨⟨?_, ?_⟩, ⟨?_, ?_⟩, ?_⟩
  · intro b o y hy
    simp only [Store.plus]
    split
    · exact hy
    · rename_i hn; rw [(hlt b (by omega)).1 o] at hy; cases hy
  · intro b y hy
    simp only [Store.plus]
    split
    · exact hy
    · rename_i hn; rw [(hlt b (by omega)).2] at hy; cases hy
  · intro b o y hy
    simp only [Store.plus] at hy
    split at hy
    · exact hle.1 b o y hy
    · exact hy
  · intro b y hy
    simp only [Store.plus] at hy
    split at hy
    · exact hle.2 b y hy
    · exact hy
  · intro b hb
    simp only [Store.plus, if_pos hb]; exact ⟨fun _ => trivial, trivial⟩

theorem sorted_spec (S : Store) (b Bm : Nat) (hB : S.rd Bm 0 [.map (some b)]) (hm : MapRd S (some b) .str shF host) :
    Pure Tryd.prog 28 S [.func (.func 42) #[] #[.pointer (some ⟨Bm, 0, none⟩)]] (A := Hd) (fun q => .c (.v (slV q))) (fun S' q => q.2.1 = 8 ∧ RowRd S' q.1 .str names) := by
  intro w hS
  have hc := cell_of hB hS
  have hlt : Bm < w.heap.size := World.block_lt_of_cell? w ⟨Bm, 0, none⟩ hc
  obtain ⟨D, hown, hperm, hsize⟩ := owns_str hm hS (by decide) (by decide) (by decide)
  have hs8 : Maps.size D = 8 := hsize
  have hseq : SeqGives Fence.wide 2 Tryd.prog 42 #[.pointer (some ⟨Bm, 0, none⟩)] encStr (fun ss => ss.Perm (strKeys D)) (Maps.size D) w :=
    AnyZ.keys_gives (ρ := Tryd.layKeys_ren) { Tryd.layKeys with } Fence.wide _ trivial rfl (by omega) Bm b host.length D w hlt hc hown
  have cS := AnyZ.sorted_in Tryd.laySorted Fence.wide 5 trivial trivial trivial trivial rfl (by omega) (sortsS _) (enters_of Tryd.func41 (by kernel_rfl) rfl) 42 #[.pointer (some ⟨Bm, 0, none⟩)] trivial (enters_of Tryd.func42 (by kernel_rfl) rfl) _ _ (by rw [hs8]; decide) (by rw [hs8]; decide) w hseq
  change CallsIn _ _ Tryd.prog 28 _ _ _ at cS
  refine (callsIn_wide.1 cS).mono ?_
  rintro e w' ⟨v, ss, rfl, hp, hrow, -, hb⟩
  have hk : ss.mergeSort (fun x y => decide (x ≤ y)) = host.map (·.1.data.toList) := (mergeSort_of_perm (hp.trans hperm)).trans names_sorted
  have hlen : ss.length = 8 := (hp.trans hperm).length_eq
  rw [names_encs ss hk, hlen] at hrow
  have hold : Old w w' := ⟨hb.os, hb.tape, hb.output, hb.size, fun k hk => hb.block k hk⟩
  obtain ⟨g1, g2, g3⟩ := plus_facts hS hold
  obtain ⟨p, c, rfl, hr1, hr2⟩ := rd_row (sh := .str) (xs := names) (v := v) (w := w') (e := 9) (by
    refine ⟨rfl, ?_⟩
    rcases hrow.2 with h | ⟨g, cap, cur, h1, -, h2⟩
    · exact .inl h
    · exact .inr ⟨g, cap, cur, h1, Nat.zero_le _, h2⟩) (fun _ _ => trivial)
  refine ⟨_, (p, 8, c), S.plus w w', rfl, ⟨rfl, rfl⟩, g1, g2, hold, g3, rfl, ?_, hr2⟩
  rcases hr1 with e | ⟨b', o, rfl, hrd⟩
  · exact .inl e
  · refine .inr ⟨b', o, rfl, fun j x hj => ?_⟩
    have hge : w.heap.size ≤ b' := by
      rcases hrow.2 with ⟨h, -⟩ | ⟨g, cap, cur, h1, h2, -⟩
      · cases h
      · cases h1; exact h2
    have : ¬ b' < w.heap.size := by omega
    simp only [Store.plus, if_neg this]
    exact hrd j x hj

theorem names_spec (S : Store) : Pure Tryd.prog 22 S [] (A := Hd) (fun q => .c (.v (slV q))) (fun S' q => q.2.1 = 8 ∧ RowRd S' q.1 .str names) := by
  refine pure_vc agrees Tryd.func22 rfl rfl (fun S S' q hle h => ⟨h.1, h.2.le hle⟩) ?_
  refine ⟨⟨_, rfl, rfl, rfl⟩, .inl ⟨_, _, _, functions_spec S, fun S1 b hS1 hb => ?_⟩⟩
  refine ⟨⟨_, rfl, rfl, rfl⟩, .inr (.inr (.inr (.inr ⟨_, _, _, _, keys_spec S1 (some b), fun S2 _ hS2 _ => ?_⟩)))⟩
  refine ⟨⟨_, rfl, rfl, rfl⟩, .inl fun Bm S3 hS3 hrd => ⟨_, _, _, sorted_spec S3 b Bm hrd (hb.le (Store.le_trans hS2 hS3)), fun S4 q hS4 hq => ?_⟩⟩
  exact ⟨rfl, q, rfl, hq⟩

/-- Guard of a nil function. -/
theorem guard_nil (S : Store) : Pure Tryd.prog 8 S [.nilFunc] (A := Unit) (fun _ => gOut (0, ByteArray.empty, false)) (fun _ _ => True) := by
  refine pure_vc agrees Tryd.func8 rfl rfl (fun S S' q hle h => h) ?_
  exact ⟨.inl rfl, onT ⟨rfl, (), rfl, trivial⟩⟩
end Go.Proofs.YtjlkekebhgjlcaaDoor
