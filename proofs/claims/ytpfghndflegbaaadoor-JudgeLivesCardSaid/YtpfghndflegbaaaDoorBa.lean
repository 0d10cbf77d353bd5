/- law58: what comes in, read as data: for the statements. -/
import Derived.Test.YtpfghndflegbaaaDoorFq
import Derived.ProofKit
import Derived.LaidMore
import Derived.Lib.LaidTab
import Derived.SizedLaws
import Derived.ChangeMaps5
import Derived.Stop.Joined
import Derived.Stop.LaidErr
import Derived.Lay
import Derived.LaidOnce
namespace Go.Proofs.YtpfghndflegbaaaDoor
open Go Go.Vc Go.ChangeShapes Go.WideShapes Go.ChangeAt Go.RowKit
set_option maxRecDepth 100000
theorem Tryd.own : ownKnob Tryd.prog.godebug = none := by kernel_rfl
theorem Tryd.kids : Kids Tryd.prog (· < Tryd.prog.types.size) := kids_rows (by kernel_rfl) (by kernel_rfl)
theorem Tryd.full : ∀ t e, t < Tryd.prog.types.size → Tryd.prog.underlying t = some (.slice e) → 0 < Tryd.prog.cellsOf e := slices_full_of Tryd.prog (by kernel_rfl)
theorem Tryd.tS : (Tryd.prog.globals[2]?).map (·.type) = some 133 := by kernel_rfl
theorem Tryd.c133 : Tryd.prog.cellsOf 133 = 20 := by kernel_rfl
theorem Tryd.c112 : Tryd.prog.cellsOf 112 = 1 := by kernel_rfl

theorem fit2 : Fits Tryd.prog 2 ti2 := agrees 2 ti2 (by rfl)
theorem fit3 : Fits Tryd.prog 3 ti3 := agrees 3 ti3 (by rfl)
theorem fit5 : Fits Tryd.prog 5 ti5 := agrees 5 ti5 (by rfl)
theorem fit9 : Fits Tryd.prog 9 ti9 := agrees 9 ti9 (by rfl)
theorem fit22 : Fits Tryd.prog 22 ti22 := agrees 22 ti22 (by rfl)
theorem fit24 : Fits Tryd.prog 24 ti24 := agrees 24 ti24 (by rfl)
theorem fit25 : Fits Tryd.prog 25 ti25 := agrees 25 ti25 (by rfl)
theorem fit40 : Fits Tryd.prog 40 ti40 := agrees 40 ti40 (by rfl)
theorem fit43 : Fits Tryd.prog 43 ti43 := agrees 43 ti43 (by rfl)
theorem fit47 : Fits Tryd.prog 47 ti47 := agrees 47 ti47 (by rfl)
theorem fit48 : Fits Tryd.prog 48 ti48 := agrees 48 ti48 (by rfl)
theorem fit50 : Fits Tryd.prog 50 ti50 := agrees 50 ti50 (by rfl)
theorem fit52 : Fits Tryd.prog 52 ti52 := agrees 52 ti52 (by rfl)
theorem fit56 : Fits Tryd.prog 56 ti56 := agrees 56 ti56 (by rfl)
def inK64 (x : Int) : Prop := IntKind.i64.min ≤ x ∧ x ≤ IntKind.i64.max
def inU8 (x : Int) : Prop := IntKind.u8.min ≤ x ∧ x ≤ IntKind.u8.max
def inI8 (x : Int) : Prop := IntKind.i8.min ≤ x ∧ x ≤ IntKind.i8.max
theorem reads2 {H : Type} {enc : TypeId × Value → H} {W : World} : Reads enc Tryd.prog W 2 (.int .i64) inK64 := reads_int fit2.kind
theorem reads3 {H : Type} {enc : TypeId × Value → H} {W : World} : Reads enc Tryd.prog W 3 (.int .i64) inK64 := reads_int fit3.kind
theorem reads5 {H : Type} {enc : TypeId × Value → H} {W : World} : Reads enc Tryd.prog W 5 (.int .u8) inU8 := reads_int fit5.kind
theorem reads25 {H : Type} {enc : TypeId × Value → H} {W : World} : Reads enc Tryd.prog W 25 (.int .i64) inK64 := reads_int fit25.kind
theorem reads43 {H : Type} {enc : TypeId × Value → H} {W : World} : Reads enc Tryd.prog W 43 (.int .i8) inI8 := reads_int fit43.kind
theorem reads9 {H : Type} {enc : TypeId × Value → H} {W : World} : Reads enc Tryd.prog W 9 .str (fun s => s.size ≤ maxLen) := reads_str fit9.kind
def okInts (W : World) (x : Hd) : Prop := x.2.1 ≤ x.2.2 ∧ x.2.2 ≤ maxLen ∧ ∃ xs : List Int, xs.length = x.2.1 ∧ RowRd (Store.of W) x.1 (.int .i64) xs ∧ ∀ y ∈ xs, inK64 y
theorem reads48 {H : Type} {enc : TypeId × Value → H} {W : World} : Reads enc Tryd.prog W 48 .slice (okInts W) :=
  reads_slice (sh := .int .i64) fit48.kind (cellsOf_fits fit2) (by decide) reads2
theorem reads24 {H : Type} {enc : TypeId × Value → H} {W : World} : Reads enc Tryd.prog W 24 .slice (okInts W) :=
  reads_slice (sh := .int .i64) fit24.kind (cellsOf_fits fit3) (by decide) reads3
theorem reads50 {H : Type} {enc : TypeId × Value → H} {W : World} : Reads enc Tryd.prog W 50 shCall (fun x => x.1.size ≤ maxLen ∧ okInts W x.2) :=
  reads_struct fit50 rfl rfl (readsF_cons reads9 (cellsOf_fits fit9) rfl (readsF_one reads48 (cellsOf_fits fit48)))
theorem reads52 {H : Type} {enc : TypeId × Value → H} {W : World} : Reads enc Tryd.prog W 52 shAns (fun x => inK64 x.1 ∧ inK64 x.2) :=
  reads_struct fit52 rfl rfl (readsF_cons reads25 (cellsOf_fits fit25) rfl (readsF_one reads2 (cellsOf_fits fit2)))
def okEv (W : World) (x : shE.T) : Prop := inK64 x.1 ∧ inK64 x.2.1 ∧ inK64 x.2.2.1 ∧ (x.2.2.2.1.1.size ≤ maxLen ∧ okInts W x.2.2.2.1.2) ∧ inK64 x.2.2.2.2.1 ∧ inK64 x.2.2.2.2.2
theorem reads56 {H : Type} {enc : TypeId × Value → H} {W : World} : Reads enc Tryd.prog W 56 shE (okEv W) :=
  reads_struct fit56 rfl rfl (readsF_cons reads3 (cellsOf_fits fit3) rfl (readsF_cons reads3 (cellsOf_fits fit3) rfl (readsF_cons reads3 (cellsOf_fits fit3) rfl (readsF_cons reads50 (cellsOf_fits fit50) rfl (readsF_one reads52 (cellsOf_fits fit52))))))
theorem reads22 {H : Type} {enc : TypeId × Value → H} {W : World} : Reads enc Tryd.prog W 22 .slice (fun x => x.2.1 ≤ x.2.2 ∧ x.2.2 ≤ maxLen ∧ ∃ xs : List shE.T, xs.length = x.2.1 ∧ RowRd (Store.of W) x.1 shE xs ∧ ∀ y ∈ xs, okEv W y) :=
  reads_slice (sh := shE) fit22.kind (cellsOf_fits fit56) (by decide) reads56
/-- A move: do, thread, kind, two numbers. -/
@[reducible] def shMove : Shape := .st (.pair (.int .u8) (.pair (.int .u8) (.pair (.int .u8) (.pair (.int .i8) (.int .i8)))))
def okMove (x : shMove.T) : Prop := inU8 x.1 ∧ inU8 x.2.1 ∧ inU8 x.2.2.1 ∧ inI8 x.2.2.2.1 ∧ inI8 x.2.2.2.2
theorem reads47 {H : Type} {enc : TypeId × Value → H} {W : World} : Reads enc Tryd.prog W 47 shMove okMove :=
  reads_struct fit47 rfl rfl (readsF_cons reads5 (cellsOf_fits fit5) rfl (readsF_cons reads5 (cellsOf_fits fit5) rfl (readsF_cons reads5 (cellsOf_fits fit5) rfl (readsF_cons reads43 (cellsOf_fits fit43) rfl (readsF_one reads43 (cellsOf_fits fit43))))))
theorem reads40 {H : Type} {enc : TypeId × Value → H} {W : World} : Reads enc Tryd.prog W 40 .slice (fun x => x.2.1 ≤ x.2.2 ∧ x.2.2 ≤ maxLen ∧ ∃ xs : List shMove.T, xs.length = x.2.1 ∧ RowRd (Store.of W) x.1 shMove xs ∧ ∀ y ∈ xs, okMove y) :=
  reads_slice (sh := shMove) fit40.kind (cellsOf_fits fit47) (by decide) reads47

theorem Tryd.b56 : Tryd.prog.bytesOf 56 = 80 := by kernel_rfl
/-- How long an argument that is a slice is. -/
theorem slice_bytes {H : Type} {enc : TypeId × Value → H} {W : World} {t e : TypeId} {a : Option Addr} {n c : Nat} {d : DataW H} {ps : List MemPlace} (ht : Tryd.prog.underlying t = some (.slice e)) (h : DataW.Trod enc Tryd.prog W 0 (fun _ => true) true t (.slice a n c) d ps)
    {ts : List TypeId} {ds : List (DataW H)} (hs : (DataW.weightsEach Tryd.prog ts ds).all (· ≤ reachBytes) = true) {j : Nat} (hj : ts[j]? = some t) (hd : ds[j]? = some d) : n * Tryd.prog.bytesOf e ≤ reachBytes := by
  obtain ⟨fuel, h⟩ := h
  rcases DataW.trod_slice ht h with ⟨hc, hx⟩ | ⟨a', len, cap, elems, rest, m, -, hc, hx, -, -, -, hlen, -⟩
  · have : n = 0 := by
      simp only [Value.cells, List.cons.injEq, Value.slice.injEq, and_true] at hc
      exact hc.2.1
    rw [this]; omega
  · have hdd : d = .slice (elems.map (·.1)) (rest.map (·.1)) := congrArg Prod.fst hx
    have hn : n = len := by
      simp only [Value.cells, List.cons.injEq, Value.slice.injEq, and_true] at hc
      exact hc.2.1
    have := sized_slice hs (j := j) (t := t) (e := e) (elems := elems.map (·.1)) (spare := rest.map (·.1)) hj (by rw [hd, hdd]) ht
    rw [List.length_map, List.length_map, hlen, ← hn] at this
    exact Nat.le_trans (Nat.mul_le_mul_right _ (Nat.le_add_right _ _)) this
/-- The numbers behind a slice. -/
noncomputable def argsOf (W : World) (h : Hd) : List Int := open Classical in if hx : okInts W h then hx.2.2.choose else []
theorem argsOf_ok {W : World} {h : Hd} (hx : okInts W h) : (argsOf W h).length = h.2.1 ∧ RowRd (Store.of W) h.1 shI (argsOf W h) ∧ ∀ a ∈ argsOf W h, inI64 a := by
  unfold argsOf
  rw [dif_pos hx]
  exact hx.2.2.choose_spec
theorem lx_of {W : World} (hT : Lw (Store.of W)) {p : Hd} {l : List shE.T} (hc : p.2.1 ≤ p.2.2) (hl : l.length = p.2.1) (hr : RowRd (Store.of W) p.1 shE l) (hy : ∀ y ∈ l, okEv W y) (hf : l.length * 80 ≤ reachBytes) : Lx (Store.of W) (argsOf W) p l :=
  ⟨hl, hc, hr, Nat.le_trans hf (Nat.le_of_lt reachBytes_lt), fun e he => argsOf_ok (hy e he).2.2.2.1.2, hT⟩

/-- What the condition gives: the table of powers of ten. -/
theorem tab_of {W : World} {rest : List (String × DataW Unit)} (hp : (([("math/bits.deBruijn32tab", Rows.laid_math_bits_deBruijn32tab), ("math/bits.deBruijn64tab", Rows.laid_math_bits_deBruijn64tab), ("internal/strconv.uint64pow10", Rows.laid_internal_strconv_uint64pow10)] ++ rest).all fun x => x.2.handleName?.isNone) = true)
    (h : laidMetH Tryd.prog ([("math/bits.deBruijn32tab", Rows.laid_math_bits_deBruijn32tab), ("math/bits.deBruijn64tab", Rows.laid_math_bits_deBruijn64tab), ("internal/strconv.uint64pow10", Rows.laid_internal_strconv_uint64pow10)] ++ rest) W) : Lw (Store.of W) := by
  rw [MakeChecks.laidMetH_plain _ _ _ hp] at h
  have hT := Lib.tabIs_of_head (k := .u64) (zs := Lib.pow10Tab) (rest := rest) gPow Tryd.tS Tryd.underlying133 Tryd.underlying112 Tryd.c112 Tryd.c133 (laidMet.tail (laidMet.tail h))
  unfold Lib.TabIs World.var? at hT
  rw [gPow] at hT
  simp only [Option.bind_some] at hT
  split at hT
  · rename_i cs T z hb
    simp only [Option.some.injEq] at hT
    subst hT
    exact ⟨T, z, hb⟩
  · cases hT

/-- The door's own heap meets the condition. -/
theorem door_met (os : Os) (args : Array Value) : laidMetH Tryd.prog Rows.judgeFormsRow.laid ((World.doorLaid Tryd.prog 400 os).forCall (fun _ _ => 0) ⟨#[], args, []⟩).memory :=
  laidMetH_of_parts3 (fuel := 8) (laidMet_of_run' 8 (by kernel_rfl) (by kernel_rfl)) (by kernel_rfl) (by kernel_rfl)
/-- The five variables of the later two statements. -/
abbrev restS : List (String × DataW Unit) := [("strconv.ErrRange", Rows.laid_strconv_ErrRange), ("strconv.ErrSyntax", Rows.laid_strconv_ErrSyntax)]
noncomputable def startW (os : Os) : World := World.laidAll Tryd.prog os Rows.judgeLivesRow.laid
theorem start_met (os : Os) (args : Array Value) : laidMetH Tryd.prog Rows.judgeLivesRow.laid ((startW os).forCall (fun _ _ => 0) ⟨#[], args, []⟩).memory := by
  rw [MakeChecks.laidMetH_plain _ _ _ (by kernel_rfl)]
  exact laidMet_laidAll _ (by kernel_rfl) (by kernel_rfl)
theorem start_shaped (os : Os) (args : Array Value) : ((startW os).forCall (fun _ _ => 0) ⟨#[], args, []⟩).Shaped Tryd.prog := World.shaped_of_ZipB (by kernel_rfl) (by kernel_rfl)
end Go.Proofs.YtpfghndflegbaaaDoor
