/- law57: acts that come in. -/
import Derived.Test.YtpeehenohdlfdaaGreatDoorBa
import Derived.Test.YtpeehenohdlfdaaGreatDoorFy
namespace Go.Proofs.YtpeehenohdlfdaaGreatDoor
open Go Go.Vc Go.ChangeShapes Go.WideShapes Go.ChangeAt Go.RowKit
set_option maxRecDepth 100000
theorem reads_array {H : Type} {enc : TypeId × Value → H} {P : Program} {W : World} {t e : TypeId} {ti : TI} {n : Nat} {fs : List (Nat × Nat)} {sh : Shape} {Q : sh.T → Prop} (hf : Fits P t ti) (hk : ti.kind = .array n e) (hn : sh.n = ti.sz) (hfs : fs = (List.range n).map fun i => (i * P.cellsOf e, e)) (h : ReadsF enc P W fs 0 sh Q) : Reads enc P W t (.st sh) Q := by
  intro fuel cs x hx
  have hkind := hf.kind
  rw [hk] at hkind
  obtain ⟨xs, m, rfl, -, hl, hxs, hall⟩ := DataW.trod_array hkind hx
  obtain ⟨y, hy, ho, hq⟩ := h m cs (by rw [hl, cellsOf_fits hf, hn]; omega) (by
    intro p hp
    rw [hfs] at hp
    obtain ⟨i, hi, rfl⟩ := List.mem_map.1 hp
    have hi' : i < n := by simpa using hi
    exact ⟨xs[i], by rw [hall i hi', List.getElem?_eq_getElem (by omega)]⟩)
  exact ⟨y, by rw [List.drop_zero] at hy; exact hy, ho, hq⟩
theorem reads49 {H : Type} {enc : TypeId × Value → H} {W : World} : Reads enc Tryz.prog W 49 ti49.sh (fun q => inK64 q.1 ∧ inK64 q.2.1 ∧ inK64 q.2.2) :=
  reads_array (n := 3) (e := 2) (fs := [(0, 2), (1, 2), (2, 2)]) fit49 rfl rfl (by rw [cellsOf_fits fit2]; rfl)
    (readsF_cons reads2 (cellsOf_fits fit2) rfl (readsF_cons reads2 (cellsOf_fits fit2) rfl (readsF_one reads2 (cellsOf_fits fit2))))
theorem Tryz.b64 : Tryz.prog.bytesOf 64 = 80 := by kernel_rfl
/-- How long an argument that is a slice is. -/
theorem slice_bytes {H : Type} {enc : TypeId × Value → H} {W : World} {t e : TypeId} {a : Option Addr} {n c : Nat} {d : DataW H} {ps : List MemPlace} (ht : Tryz.prog.underlying t = some (.slice e)) (h : DataW.Trod enc Tryz.prog W 0 (fun _ => true) true t (.slice a n c) d ps)
    {ts : List TypeId} {ds : List (DataW H)} (hs : (DataW.weightsEach Tryz.prog ts ds).all (· ≤ reachBytes) = true) {j : Nat} (hj : ts[j]? = some t) (hd : ds[j]? = some d) : n * Tryz.prog.bytesOf e ≤ reachBytes := by
  obtain ⟨fuel, h⟩ := h
  rcases DataW.trod_slice ht h with ⟨hc, hx⟩ | ⟨a', len, cap, elems, rest, m, -, hc, hx, -, -, -, hlen, -⟩
  · have : n = 0 := by
      simp only [Value.cells, List.cons.injEq, Value.slice.injEq, and_true] at hc
      exact hc.2.1
    rw [this]; omega
  · have hdd : d = .slice (elems.map (·.1)) (rest.map (·.1)) := congrArg Prod.fst hx
    have hn : n = len := by
      simp only [Value.cells, List.cons.injEq, Value.slice.injEq, and_true] at hc
      exact hc.2.1
    have := sized_slice hs (j := j) (t := t) (e := e) (elems := elems.map (·.1)) (spare := rest.map (·.1)) hj (by rw [hd, hdd]) ht
    rw [List.length_map, List.length_map, hlen, ← hn] at this
    exact Nat.le_trans (Nat.mul_le_mul_right _ (Nat.le_add_right _ _)) this
noncomputable def intsOf (W : World) (h : Hd) : List Int := open Classical in if hx : okInts W h then hx.2.2.choose else []
theorem ints_ok {W : World} {h : Hd} (hx : okInts W h) : NsIs (Store.of W) h (intsOf W h) := by
  unfold intsOf
  rw [dif_pos hx]
  obtain ⟨h1, h2, h3⟩ := hx.2.2.choose_spec
  exact ⟨h1.symm, hx.1, h2, fun y hy => h3 y hy⟩
noncomputable def actOf (W : World) (x : Ex) : Rc.Ev := ⟨x.1, x.2.1, x.2.2.1, x.2.2.2.1.1.data.toList, intsOf W x.2.2.2.1.2, x.2.2.2.2.1, x.2.2.2.2.2⟩
theorem acts_of {W : World} {p : Hd} {xs : List Ex} (hc : p.2.1 ≤ p.2.2) (hl : xs.length = p.2.1) (hr : RowRd (Store.of W) p.1 shA xs) (hy : ∀ y ∈ xs, okAct W y) : AsRaw (Store.of W) p (xs.map (actOf W)) := by
  refine ⟨xs.map (fun x => (x, actOf W x)), by rw [List.map_map]; rfl, by rw [List.length_map, hl], hc, ?_, fun z hz => ?_⟩
  · rw [List.map_map]
    have : ((fun z : Ex × Rc.Ev => z.1) ∘ fun x => (x, actOf W x)) = id := rfl
    rw [this, List.map_id]; exact hr
  · obtain ⟨x, hx, rfl⟩ := List.mem_map.1 hz
    obtain ⟨h1, h2, h3, ⟨-, h4⟩, h5, h6⟩ := hy x hx
    have h1' : (0 : Int) ≤ x.1 ∧ x.1 ≤ 255 := h1
    exact ⟨rfl, rfl, rfl, (data_bs _).symm, ints_ok h4, rfl, rfl, h1'.1, h1'.2, h2, h3, h5, h6⟩
theorem few_of {p : Hd} {n : Nat} (hl : n = p.2.1) (hb : p.2.1 * 80 ≤ reachBytes) : n ≤ 1000000000000000 := by
  have := reachBytes_lt
  omega
theorem bytes_of {p : Hd} {n : Nat} (hl : n = p.2.1) (hb : p.2.1 * 80 ≤ reachBytes) : n * 80 ≤ 140737488351232 := by
  have : reachBytes = 140737488351232 := by decide
  omega
theorem act_of {W : World} {x : Ex} (h : okAct W x) : ARaw (Store.of W) x (actOf W x) := by
  obtain ⟨h1, h2, h3, ⟨-, h4⟩, h5, h6⟩ := h
  have h1' : (0 : Int) ≤ x.1 ∧ x.1 ≤ 255 := h1
  exact ⟨rfl, rfl, rfl, (data_bs _).symm, ints_ok h4, rfl, rfl, h1'.1, h1'.2, h2, h3, h5, h6⟩
/-- The law's word as a result. -/
theorem pure_true {f : FuncId} {S : Store} {args : List Value} (h : Vc.Pure Tryz.prog f S args (A := Unit) (fun _ => rB true) (fun _ _ => True)) : Vc.Pure Tryz.prog f S args (A := Bool) (fun b => .c (.v (.bool b))) (fun _ b => b = true) := by
  intro w hw
  refine (h w hw).mono ?_
  rintro e w' ⟨v, _, S', h1, h2, h3, h4, h5, h6, -⟩
  exact ⟨v, true, S', h1, h2, h3, h4, h5, h6, rfl⟩
end Go.Proofs.YtpeehenohdlfdaaGreatDoor
