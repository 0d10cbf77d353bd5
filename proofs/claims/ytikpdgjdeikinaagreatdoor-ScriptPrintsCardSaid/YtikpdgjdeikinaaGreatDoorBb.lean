/- law63: commands that come in. -/
import Derived.Test.YtikpdgjdeikinaaGreatDoorBa
import Derived.Test.YtikpdgjdeikinaaGreatDoorFt
namespace Go.Proofs.YtikpdgjdeikinaaGreatDoor
open Go Go.Vc Go.ChangeShapes Go.WideShapes Go.ChangeAt Go.RowKit
set_option maxRecDepth 100000
theorem Tryz.b28 : Tryz.prog.bytesOf 28 = 64 := by kernel_rfl
/-- How long an argument that is a slice is. -/
theorem slice_bytes {H : Type} {enc : TypeId × Value → H} {W : World} {t e : TypeId} {a : Option Addr} {n c : Nat} {d : DataW H} {ps : List MemPlace} (ht : Tryz.prog.underlying t = some (.slice e)) (h : DataW.Trod enc Tryz.prog W 0 (fun _ => true) true t (.slice a n c) d ps)
    {ts : List TypeId} {ds : List (DataW H)} (hs : (DataW.weightsEach Tryz.prog ts ds).all (· ≤ reachBytes) = true) {j : Nat} (hj : ts[j]? = some t) (hd : ds[j]? = some d) : n * Tryz.prog.bytesOf e ≤ reachBytes := by
  obtain ⟨fuel, h⟩ := h
  rcases DataW.trod_slice ht h with ⟨hc, hx⟩ | ⟨a', len, cap, elems, rest, m, -, hc, hx, -, -, -, hlen, -⟩
  · have : n = 0 := by
      simp only [Value.cells, List.cons.injEq, Value.slice.injEq, and_true] at hc
      exact hc.2.1
    rw [this]; omega
  · have hdd : d = .slice (elems.map (·.1)) (rest.map (·.1)) := congrArg Prod.fst hx
    have hn : n = len := by
      simp only [Value.cells, List.cons.injEq, Value.slice.injEq, and_true] at hc
      exact hc.2.1
    have := sized_slice hs (j := j) (t := t) (e := e) (elems := elems.map (·.1)) (spare := rest.map (·.1)) hj (by rw [hd, hdd]) ht
    rw [List.length_map, List.length_map, hlen, ← hn] at this
    exact Nat.le_trans (Nat.mul_le_mul_right _ (Nat.le_add_right _ _)) this
noncomputable def intsOf (W : World) (h : Hd) : List Int := open Classical in if hx : okInts W h then hx.2.2.choose else []
noncomputable def strsOf (W : World) (h : Hd) : List ByteArray := open Classical in if hx : okStrs W h then hx.2.2.choose else []
theorem ints_ok {W : World} {h : Hd} (hx : okInts W h) : NsIs (Store.of W) h (intsOf W h) := by
  unfold intsOf
  rw [dif_pos hx]
  obtain ⟨h1, h2, h3⟩ := hx.2.2.choose_spec
  exact ⟨h1.symm, hx.1, h2, h3⟩
theorem strs_ok {W : World} {h : Hd} (hx : okStrs W h) : WsRaw (Store.of W) h ((strsOf W h).map (·.data.toList)) := by
  unfold strsOf
  rw [dif_pos hx]
  obtain ⟨h1, h2, h3⟩ := hx.2.2.choose_spec
  refine ⟨by rw [List.length_map, h1], hx.1, ?_⟩
  rw [List.map_map]
  have : (bs ∘ fun x : ByteArray => x.data.toList) = id := funext fun x => data_bs x
  rw [this, List.map_id]
  exact h2
noncomputable def cmdOf (W : World) (x : Cx) : Sc.Cmd := (x.1, x.2.1, intsOf W x.2.2.1, (strsOf W x.2.2.2).map (·.data.toList))
theorem lraw_of {W : World} {p : Hd} {xs : List Cx} (hc : p.2.1 ≤ p.2.2) (hl : xs.length = p.2.1) (hr : RowRd (Store.of W) p.1 shC xs) (hy : ∀ y ∈ xs, okCmd W y) (hf : p.2.1 * 64 ≤ reachBytes) : LRaw (Store.of W) p (xs.map (cmdOf W)) := by
  have hrb := reachBytes_lt
  refine ⟨by rw [List.length_map, hl]; omega, xs.map (fun x => (x, cmdOf W x)), by rw [List.map_map]; rfl, by rw [List.length_map, hl], hc, ?_, fun z hz => ?_⟩
  · rw [List.map_map]
    have : ((fun z : Cx × Sc.Cmd => z.1) ∘ fun x => (x, cmdOf W x)) = id := rfl
    rw [this, List.map_id]; exact hr
  · obtain ⟨x, hx, rfl⟩ := List.mem_map.1 hz
    obtain ⟨-, -, h3, h4⟩ := hy x hx
    exact ⟨rfl, rfl, ints_ok h3, strs_ok h4⟩
end Go.Proofs.YtikpdgjdeikinaaGreatDoor
