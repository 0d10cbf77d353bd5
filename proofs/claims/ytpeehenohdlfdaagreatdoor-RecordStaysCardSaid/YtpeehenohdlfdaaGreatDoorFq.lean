/- law63: strings.Builder. -/
import Derived.Test.YtpeehenohdlfdaaGreatDoorFc
import Derived.Tactics
import Derived.Tactics2
import Derived.Laws.Pointers
import Derived.ProofKit
import Derived.Lib.Builder
import Derived.Lib.UnsafeStr
import Derived.RegionDies
namespace Go.Proofs.YtpeehenohdlfdaaGreatDoor
open Go Go.Vc
set_option maxRecDepth 100000

theorem info76 : ∃ j, Tryz.prog.info? 76 = some j ∧ j.size ≠ 0 := by
  obtain ⟨i, hi, hz, -⟩ := (agrees 76 ti76 (by rfl)).info
  exact ⟨i, hi, by rw [hz]; decide⟩
theorem copy_used (b : Nat) (w : World) (h0 : w.cell? ⟨b, 0, none⟩ = some (.pointer (some ⟨b, 0, none⟩))) :
    Calls Tryz.prog 56 #[.pointer (some ⟨b, 0, none⟩)] w fun e w' => e = .returned (.tuple #[]) ∧ w' = w := by
  obtain ⟨j, hj, _⟩ := info76
  go_enter Tryz.func56, Tryz.ntmps56
  go_wp2
  rw [Lib.run_neq_ptr_same w _ Tryz.underlying73 hj]
  go_wp2
  go_end0
  exact ⟨rfl, rfl⟩
theorem lies76 : liesAt Tryz.prog Tryz.prog.depth 76 (2 / Tryz.prog.cellsOf 76) 0 76 1 = true := by kernel_rfl
theorem copy_fresh (b : Nat) (w : World) (h0 : w.cell? ⟨b, 0, none⟩ = some (.pointer none)) (hsh : w.shape? b = some (76, 2)) (hfz : w.frozen? ⟨b, 0, none⟩ = false) :
    Calls Tryz.prog 56 #[.pointer (some ⟨b, 0, none⟩)] w fun e w' => e = .returned (.tuple #[]) ∧ w' = w.setCell ⟨b, 0, none⟩ (.pointer (some ⟨b, 0, none⟩)) := by
  obtain ⟨j, hj, hjs⟩ := info76
  go_enter Tryz.func56, Tryz.ntmps56
  go_wp2
  rw [Lib.run_to_unsafe w ⟨b, 0, none⟩ Tryz.underlying73 Tryz.underlying133 hj hjs hsh (Nat.zero_lt_succ 1)]
  simp only [Result.andThen]
  rw [Oper.upon_value]
  go_wp2
  rw [run_callFunc_extern Tryz.func87 (by kernel_rfl) (by kernel_rfl) (by kernel_rfl) (e := Extern.AbiNoEscape.same) (by kernel_rfl)]
  rw [Lib.run_noEscape]
  simp only [Result.andThen]
  rw [Oper.upon_value]
  go_wp2
  rw [Lib.run_from_unsafe w ⟨b, 0, none⟩ Tryz.underlying133 Tryz.underlying73 hj hsh lies76]
  simp only [Result.andThen]
  rw [Oper.upon_value]
  go_wp2
  go_end0
  exact ⟨rfl, rfl⟩

/-- The builder's box, and what the pool of byte rows holds of it. -/
@[reducible] def bBox (b : Nat) (q : Option Addr) (v : Hd) : Res := .ext (BoxAt b [.pointer q, slV v] (some 76))
def bPool (v : Hd) (xs : List Int) : List (Value × List Int) := if v.1.isNone = true then [] else [(slV v, xs)]
def okB (v : Hd) (xs : List Int) : Prop := v.2.1 = xs.length ∧ (v.1 = none → v = (none, 0, 0) ∧ xs = []) ∧ (v.1 ≠ none → xs ≠ [])
theorem bPool_some {v : Hd} {xs : List Int} (h : v.1.isNone = false) : bPool v xs = [(slV v, xs)] := by rw [bPool, if_neg (by rw [h]; simp)]
theorem bPool_nil (xs : List Int) : bPool (none, 0, 0) xs = [] := rfl
def selfQ (b : Nat) (q : Option Addr) : Prop := q = none ∨ q = some ⟨b, 0, none⟩
theorem copy_spec (S : Store) (b : Nat) (q : Option Addr) (v : Hd) (hq : selfQ b q) : SpecR Tryz.prog 56 S [bBox b q v] [.c (.v (.pointer (some ⟨b, 0, none⟩)))] (A := Unit) (fun _ => .tup []) (fun _ => [bBox b (some ⟨b, 0, none⟩) v]) (fun _ _ => True) := by
  intro w ρ vs hst hargs
  obtain ⟨h, hρ, hfix, rfl, hone, T, rest, hT, hb⟩ := hst.res 0 _ rfl
  obtain ⟨rfl, rfl⟩ := hT 76 rfl
  have hb : w.heap[b]? = some (.cells #[.pointer q, slV v] 76 (0, 0)) := hb
  obtain ⟨u, rfl⟩ : ∃ u, vs = [u] := by
    match vs, hargs with
    | [u], _ => exact ⟨u, rfl⟩
    | [], h => exact h.elim
    | _ :: _ :: _, h => exact h.2.elim
  obtain rfl : u = .pointer (some ⟨b, 0, none⟩) := hargs.1.1
  have c0 : w.cell? ⟨b, 0, none⟩ = some (.pointer q) := by rw [Lib.cell_of_heap hb]; rfl
  rcases hq with rfl | rfl
  · have hsh : w.shape? b = some (76, 2) := by simp [World.shape?, hb]
    refine (copy_fresh b w c0 hsh (Lib.frozen_of_heap hb 0)).mono ?_
    rintro e w' ⟨rfl, rfl⟩
    have hbl := (Array.getElem?_eq_some_iff.1 hb).1
    have hb' : (w.setCell ⟨b, 0, none⟩ (.pointer (some ⟨b, 0, none⟩))).heap[b]? = some (.cells #[.pointer (some ⟨b, 0, none⟩), slV v] 76 (0, 0)) := by
      simp [World.setCell, Array.getElem?_modify, hb]
    have hoth : ∀ k, k ≠ b → (w.setCell ⟨b, 0, none⟩ (.pointer (some ⟨b, 0, none⟩))).heap[k]? = w.heap[k]? := by
      intro k hk
      simp [World.setCell, Array.getElem?_modify, Ne.symm hk]
    have hnew : Stab w ⟨Owned [bBox b none v] ρ, S, ρ⟩ ρ [bBox b (some ⟨b, 0, none⟩) v] S (w.setCell ⟨b, 0, none⟩ (.pointer (some ⟨b, 0, none⟩))) := by
      have := hst.turnG (i := 0) (x := bBox b none v) (y := bBox b (some ⟨b, 0, none⟩) v) (w' := w.setCell ⟨b, 0, none⟩ (.pointer (some ⟨b, 0, none⟩))) rfl rfl hρ
        (fun c hc hne => hoth c (fun e => hne (by rw [e]; rfl))) (by simp [World.setCell]) rfl rfl rfl (fun c hc => ?_) ?_
      · exact this
      · have hc : some b = some c := hc
        obtain rfl := Option.some.inj hc
        exact ⟨by simpa [World.setCell] using hbl, .inl rfl⟩
      · refine ⟨rfl, rfl, ?_, 76, [], fun t e => ⟨Option.some.inj e, rfl⟩, hb'⟩
        intro v' hv'
        simp only [List.mem_cons, List.not_mem_nil, or_false] at hv'
        rcases hv' with rfl | rfl <;> rfl
    exact ⟨_, (), S, ρ, rfl, ⟨[], rfl, trivial⟩, rfl, hnew, Store.le_refl _, fun _ _ _ => ⟨fun _ => rfl, rfl⟩, trivial⟩
  · refine (copy_used b w c0).mono ?_
    rintro e w' ⟨rfl, rfl⟩
    exact ⟨_, (), S, ρ, rfl, ⟨[], rfl, trivial⟩, rfl, hst, Store.le_refl _, fun _ _ _ => ⟨fun _ => rfl, rfl⟩, trivial⟩
theorem strInts_len (s : List UInt8) : (strInts (bs s)).length = s.length := by simp [strInts, bs]
theorem write_spec (S : Store) (b : Nat) (q : Option Addr) (v : Hd) (xs : List Int) (hq : selfQ b q) (hok : okB v xs) (s : List UInt8) (hs0 : s ≠ []) (hs : xs.length + s.length ≤ 140737488355328) :
    SpecR Tryz.prog 31 S [bBox b q v, .pool (.int .u8) 5 (bPool v xs)] [.c (.v (.pointer (some ⟨b, 0, none⟩))), .c (.v (.string (bs s)))] (A := Hd) (fun _ => .tup [(false, [.v (.int .i64 (bs s).size)]), (false, [.v .nilIface])])
      (fun v' => [bBox b (some ⟨b, 0, none⟩) v', .pool (.int .u8) 5 (bPool v' (xs ++ strInts (bs s)))]) (fun _ v' => okB v' (xs ++ strInts (bs s))) := by
  refine specR_of_vc agrees Tryz.func31 rfl (fun S S' q hle h => h) ?_
  obtain ⟨p, n, c⟩ := v
  obtain ⟨h1, h2, h3⟩ := hok
  simp only at h1 h2 h3
  subst h1
  have hsz : (bs s).size = s.length := bs_size s
  have hpos : 0 < s.length := List.length_pos_iff.2 hs0
  refine ⟨⟨_, rfl, rfl, rfl⟩, .inr (.inl ⟨[0], _, _, _, _, rfl, copy_spec S b q (p, xs.length, c) hq, fun S1 _ hS1 _ => ?_⟩)⟩
  refine .inl ⟨0, _, _, rfl, ?_⟩
  have fin : ∀ (p' : Option Addr) (c' : Nat), PForm p' (xs.length + (bs s).size) c' → ∃ g, p' = some g := by
    intro p' c' hf
    rcases hf with ⟨_, h, _⟩ | ⟨g, rfl, _⟩
    · omega
    · exact ⟨_, rfl⟩
  cases hp : p.isNone with
  | true =>
    obtain ⟨e1, rfl⟩ := h2 (by simpa using hp)
    obtain ⟨rfl, rfl⟩ : p = none ∧ c = 0 := by simpa using e1
    refine ⟨1, ⟨rfl, rfl⟩, [], [], none, 0, [], rfl, .inr ⟨⟨rfl, rfl, rfl⟩, rfl⟩, by rw [hsz]; exact hs, fun p' c' hf => ?_⟩
    obtain ⟨g, rfl⟩ := fin p' c' hf
    refine ⟨0, _, _, rfl, rfl, Nat.le_refl 2, ?_⟩
    refine ⟨rfl, (some g, ([] : List Int).length + (bs s).size, c'), rfl, rfl, rfl, ?_⟩
    refine ⟨?_, (fun h => by cases h), fun _ h => ?_⟩
    rotate_left
    · have := congrArg List.length h
      rw [List.length_append, strInts_len, List.length_nil] at this
      omega
    show ([] : List Int).length + (bs s).size = _
    rw [List.nil_append, strInts_len, hsz, List.length_nil, Nat.zero_add]
  | false =>
    refine ⟨1, ⟨rfl, rfl⟩, [], [], p, c, xs, rfl, .inl (bPool_some (v := (p, xs.length, c)) hp), by rw [hsz]; exact hs, fun p' c' hf => ?_⟩
    obtain ⟨g, rfl⟩ := fin p' c' hf
    refine ⟨0, _, _, rfl, rfl, Nat.le_refl 2, ?_⟩
    refine ⟨rfl, (some g, xs.length + (bs s).size, c'), rfl, rfl, rfl, ?_⟩
    refine ⟨?_, (fun h => by cases h), fun _ h => ?_⟩
    rotate_left
    · have := congrArg List.length h
      rw [List.length_append, strInts_len, List.length_nil] at this
      omega
    show xs.length + (bs s).size = _
    rw [List.length_append, strInts_len, hsz]
/-- What a call leaves but for one block. -/
structure But (g : Nat) (w w' : World) : Prop where
  os : w'.os = w.os
  tape : w'.tape = w.tape
  output : w'.output = w.output
  size : w.heap.size ≤ w'.heap.size
  block : ∀ k, k < w.heap.size → k ≠ g → w'.heap[k]? = w.heap[k]?
theorem but_freeze (w : World) (g n : Nat) : But g w (w.drew.freeze ⟨g, 0, none⟩ n) := by
  unfold World.freeze
  split
  · exact ⟨rfl, rfl, rfl, Nat.le_refl _, fun _ _ _ => rfl⟩
  · refine ⟨rfl, rfl, rfl, by show w.heap.size ≤ (w.heap.modify g _).size; rw [Array.size_modify]; exact Nat.le_refl _, fun k _ hk => ?_⟩
    show (w.heap.modify g _)[k]? = w.heap[k]?
    simp [Array.getElem?_modify, Ne.symm hk]
theorem str_some (b g cap : Nat) (p : Value) (cur : Array Value) (l : List UInt8) (h0 : l ≠ []) (w : World) (hb : w.heap[b]? = some (.cells #[p, .slice (some ⟨g, 0, none⟩) l.length cap] 76 (0, 0)))
    (hg : w.heap[g]? = some (.cells cur 5 (0, 0))) (hnc : l.length ≤ cap) (hcm : cap ≤ maxLen) (hcs : cur.size = cap) (hcell : ∀ (j : Nat) (x : UInt8), l[j]? = some x → w.cell? ((⟨g, 0, none⟩ : Addr).add j) = some (.int .u8 x.toNat)) :
    Calls Tryz.prog 33 #[.pointer (some ⟨b, 0, none⟩)] w fun e w' => e = .returned (.string (bs l)) ∧ But g w w' := by
  have hl0 : l.length ≠ 0 := by simpa using h0
  have c1 : w.drew.cell? ⟨b, 1, none⟩ = some (.slice (some ⟨g, 0, none⟩) l.length cap) := by
    have : w.drew.heap[b]? = some (.cells #[p, .slice (some ⟨g, 0, none⟩) l.length cap] 76 (0, 0)) := hb
    rw [Lib.cell_of_heap this]; rfl
  have hSD : (Builtin.unsafeSliceData_ #[74] 107 #[.slice (some ⟨g, 0, none⟩) l.length cap]).run Tryz.prog w.drew = .ok (.pointer (some ⟨g, 0, none⟩)) w.drew :=
    Lib.run_unsafeSliceData_row _ _ _ _ _ _ (by omega)
  have hUS : (Builtin.unsafeString_ #[107, 3] 9 #[.pointer (some ⟨g, 0, none⟩), .int .i64 l.length]).run Tryz.prog w.drew = .ok (.string ⟨l.toArray⟩) (w.drew.freeze ⟨g, 0, none⟩ l.length) :=
    Lib.run_unsafeString_row w.drew 107 3 9 5 Tryz.underlying107 (by kernel_rfl) g cur.size (by have hg' : w.drew.heap[g]? = some (.cells cur 5 (0, 0)) := hg; simp [World.shape?, hg']) l h0 (by omega) (by unfold maxLen at hcm; omega) hcell
  have c0 : w.cell? ⟨b, 1, none⟩ = some (.slice (some ⟨g, 0, none⟩) l.length cap) := c1
  have mixed : Tryz.prog.follows .mixedOrders = true := by kernel_rfl
  go_enter Tryz.func33, Tryz.ntmps33
  go_wp2
  go_region_o
  all_goals (go_wp2; go_ret; exact ⟨rfl, but_freeze w g _⟩)
theorem str_nil (b : Nat) (p : Value) (w : World) (hb : w.heap[b]? = some (.cells #[p, .slice none 0 0] 76 (0, 0))) :
    Calls Tryz.prog 33 #[.pointer (some ⟨b, 0, none⟩)] w fun e w' => e = .returned (.string (bs [])) ∧ But b w w' := by
  have hUS : ∀ (W : World) (q : Option Addr), (Builtin.unsafeString_ #[107, 3] 9 #[.pointer q, .int .i64 0]).run Tryz.prog W = .ok (.string .empty) W := fun W q => Lib.run_unsafeString_none W _ _ _ q
  have c1 : w.drew.cell? ⟨b, 1, none⟩ = some (.slice none 0 0) := by
    have : w.drew.heap[b]? = some (.cells #[p, .slice none 0 0] 76 (0, 0)) := hb
    rw [Lib.cell_of_heap this]; rfl
  have hSD : (Builtin.unsafeSliceData_ #[74] 107 #[.slice none 0 0]).run Tryz.prog w.drew = .ok (.pointer none) w.drew := rfl
  have c0 : w.cell? ⟨b, 1, none⟩ = some (.slice none 0 0) := c1
  have hbut : But b w w.drew := ⟨rfl, rfl, rfl, Nat.le_refl _, fun _ _ _ => rfl⟩
  have mixed : Tryz.prog.follows .mixedOrders = true := by kernel_rfl
  go_enter Tryz.func33, Tryz.ntmps33
  go_wp2
  go_region_o
  all_goals (go_wp2; go_ret; exact ⟨rfl, hbut⟩)
/-- A call behind which its resources are let go. -/
theorem stab_gone {w w' : World} {S : Store} {ins : List Res} {ρ : List Value} {g : Nat} (hst : Stab w ⟨Owned ins ρ, S, ρ⟩ ρ ins S w) (hb : But g w w') (hg : Owned ins ρ g) {outs : List Res} (hl : outs.length = ins.length) (ho : ∀ x ∈ outs, x = .gone) :
    Stab w ⟨Owned ins ρ, S, ρ⟩ ρ outs S w' := by
  have hS : (∀ o, S.c g o = none) ∧ S.o g = none := by
    obtain ⟨i, y, h, hi, hya, hgi, hf⟩ := hg
    exact (hst.own i y h g hi hya hgi hf).2.2
  have gone : ∀ (i : Nat) y, outs[i]? = some y → y = .gone := fun i y hy => ho y (List.mem_of_getElem? hy)
  have hle : S.le (Store.of w') := Store.le_of hst.sub fun k hk => by
    have hkg : k ≠ g := by
      rintro rfl
      rcases hk with ⟨o, x, hx⟩ | ⟨x, hx⟩
      · rw [hS.1 o] at hx; cases hx
      · rw [hS.2] at hx; cases hx
    have hkl : k < w.heap.size := by
      rcases Nat.lt_or_ge k w.heap.size with h | h
      · exact h
      · have := Store.lt_of hst.sub h
        rcases hk with ⟨o, x, hx⟩ | ⟨x, hx⟩
        · rw [this.1 o] at hx; cases hx
        · rw [this.2] at hx; cases hx
    exact hb.block k hkl hkg
  refine ⟨by rw [hst.len, hl], fun i x hx => ?_, fun i j x y g h c hx _ hxa => ?_, fun i x h c hx hxa => ?_, hle, hb.os, hb.tape, hb.output, hb.size, fun c hc hn => hb.block c hc (fun e => hn (e ▸ hg)), hst.low, hst.pre⟩
  · have hlt : i < ρ.length := by rw [hst.len, ← hl]; exact (List.getElem?_eq_some_iff.1 hx).1
    exact ⟨ρ[i], List.getElem?_eq_getElem hlt, by rw [gone i x hx]; trivial⟩
  · rw [gone i x hx] at hxa; cases hxa
  · rw [gone i x hx] at hxa; cases hxa
theorem flat_u8 : ∀ l : List UInt8, List.flatMap (Shape.int IntKind.u8).enc (l.map fun b => (b.toNat : Int)) = l.map fun b => Value.int .u8 b.toNat
  | [] => rfl
  | _ :: l => congrArg (List.cons _) (flat_u8 l)
theorem strInts_get {l : List UInt8} {j : Nat} {x : UInt8} (h : l[j]? = some x) : (Shape.encs (.int .u8) (strInts (bs l)))[j]? = some (.int .u8 x.toNat) := by
  have e : Shape.encs (.int .u8) (strInts (bs l)) = l.map fun b => Value.int .u8 b.toNat := by
    show List.flatMap (Shape.int IntKind.u8).enc ((bs l).data.toList.map fun b => (b.toNat : Int)) = _
    exact flat_u8 l
  rw [e, List.getElem?_map, h]; rfl
theorem str_spec (S : Store) (b : Nat) (q : Option Addr) (v : Hd) (l : List UInt8) (hok : okB v (strInts (bs l))) :
    SpecR Tryz.prog 33 S [bBox b q v, .pool (.int .u8) 5 (bPool v (strInts (bs l)))] [.c (.v (.pointer (some ⟨b, 0, none⟩)))] (A := Unit) (fun _ => rS (bs l)) (fun _ => [.gone, .gone]) (fun _ _ => True) := by
  intro w ρ vs hst hargs
  obtain ⟨h, hρ, hfix, rfl, hone, T, rest, hT, hb⟩ := hst.res 0 _ rfl
  obtain ⟨rfl, rfl⟩ := hT 76 rfl
  have hb : w.heap[b]? = some (.cells #[.pointer q, slV v] 76 (0, 0)) := hb
  obtain ⟨u, rfl⟩ : ∃ u, vs = [u] := by
    match vs, hargs with
    | [u], _ => exact ⟨u, rfl⟩
    | [], h => exact h.elim
    | _ :: _ :: _, h => exact h.2.elim
  obtain rfl : u = .pointer (some ⟨b, 0, none⟩) := hargs.1.1
  obtain ⟨p, n, c⟩ := v
  obtain ⟨h1, h2, h3⟩ := hok
  simp only at h1 h2 h3
  rw [strInts_len] at h1
  subst h1
  have hgone : ∀ x ∈ [Res.gone, Res.gone], x = .gone := by intro x hx; simp at hx; exact hx
  cases hp : p.isNone with
  | true =>
    obtain ⟨e1, e2⟩ := h2 (by simpa using hp)
    have hl : l = [] := by
      have := congrArg List.length e2
      rw [strInts_len] at this
      exact List.length_eq_zero_iff.1 this
    subst hl
    rw [show ((p, ([] : List UInt8).length, c) : Hd) = (none, 0, 0) from e1] at hb
    refine (str_nil b _ w hb).mono ?_
    rintro e w' ⟨rfl, hbut⟩
    exact ⟨_, (), S, ρ, rfl, ⟨rfl, rfl⟩, rfl, stab_gone hst hbut ⟨0, _, _, rfl, rfl, hρ, rfl⟩ rfl hgone, Store.le_refl _, fun _ _ _ => ⟨fun _ => rfl, rfl⟩, trivial⟩
  | false =>
    obtain ⟨h', hρ', rfl, hall, -⟩ := hst.res 1 _ rfl
    have hm : (slV (p, l.length, c), strInts (bs l)) ∈ bPool (p, l.length, c) (strInts (bs l)) := by rw [bPool_some hp]; simp
    obtain ⟨how, -⟩ := hall _ hm
    have how' := how
    rw [strInts_len] at how
    rcases how.2 with ⟨hv, _⟩ | ⟨g, cap, cur, hv, -, hg, hnc, hcm, hcs, -⟩
    · simp only [slV, Value.slice.injEq] at hv
      rw [hv.1] at hp; cases hp
    · simp only [slV, Value.slice.injEq] at hv
      obtain ⟨rfl, -, rfl⟩ := hv
      have h0 : l ≠ [] ∨ l = [] := by by_cases h : l = [] <;> simp [h]
      rcases h0 with h0 | h0
      · refine (str_some b g c _ cur l h0 w hb hg hnc hcm (hcs.trans (Nat.mul_one c)) (fun j x hx => ?_)).mono ?_
        · exact how'.cells (g := g) rfl j _ (strInts_get hx)
        · rintro e w' ⟨rfl, hbut⟩
          exact ⟨_, (), S, ρ, rfl, ⟨rfl, rfl⟩, rfl, stab_gone hst hbut ⟨1, _, _, rfl, rfl, hρ', _, hm, rfl⟩ rfl hgone, Store.le_refl _, fun _ _ _ => ⟨fun _ => rfl, rfl⟩, trivial⟩
      · exact absurd (by rw [h0]; rfl) (h3 (by simp))
end Go.Proofs.YtpeehenohdlfdaaGreatDoor
