/- law09: what comes in, read as data: for the statements. -/
import Derived.Test.YtapblcfbmaikjaaGreatDoorFu
import Derived.Test.YtapblcfbmaikjaaGreatDoorFw
import Derived.Test.YtapblcfbmaikjaaGreatDoorGb
import Derived.ProofKit
import Derived.LaidMore
import Derived.Lib.LaidTab
import Derived.SizedLaws
import Derived.ChangeMaps5
import Derived.Stop.Joined
import Derived.Stop.LaidErr
import Derived.Lay
import Derived.LaidOnce
import Derived.HandedShaped
import Derived.Test.YtapblcfbmaikjaaGreatDoorVcN
namespace Go.Proofs.YtapblcfbmaikjaaGreatDoor
open Go Go.Vc Go.ChangeShapes Go.WideShapes Go.ChangeAt Go.RowKit
set_option maxRecDepth 100000
theorem Tryz.own : ownKnob Tryz.prog.godebug = none := by kernel_rfl
theorem Tryz.kids : Kids Tryz.prog (· < Tryz.prog.types.size) := kids_rows (by kernel_rfl) (by kernel_rfl)
theorem Tryz.full : ∀ t e, t < Tryz.prog.types.size → Tryz.prog.underlying t = some (.slice e) → 0 < Tryz.prog.cellsOf e := slices_full_of Tryz.prog (by kernel_rfl)
theorem Tryz.tP : (Tryz.prog.globals[0]?).map (·.type) = some 270 := by kernel_rfl
theorem Tryz.c270 : Tryz.prog.cellsOf 270 = 20 := by kernel_rfl
theorem Tryz.c170 : Tryz.prog.cellsOf 170 = 1 := by kernel_rfl
theorem fit2 : Fits Tryz.prog 2 ti2 := agrees 2 ti2 (by rfl)
theorem fit3 : Fits Tryz.prog 3 ti3 := agrees 3 ti3 (by rfl)
theorem fit4 : Fits Tryz.prog 4 ti4 := agrees 4 ti4 (by rfl)
theorem fit5 : Fits Tryz.prog 5 ti5 := agrees 5 ti5 (by rfl)
theorem fit9 : Fits Tryz.prog 9 ti9 := agrees 9 ti9 (by rfl)
theorem fit22 : Fits Tryz.prog 22 ti22 := agrees 22 ti22 (by rfl)
theorem fit23 : Fits Tryz.prog 23 ti23 := agrees 23 ti23 (by rfl)
theorem fit25 : Fits Tryz.prog 25 ti25 := agrees 25 ti25 (by rfl)
theorem fit30 : Fits Tryz.prog 30 ti30 := agrees 30 ti30 (by rfl)
theorem fit32 : Fits Tryz.prog 32 ti32 := agrees 32 ti32 (by rfl)
theorem fit33 : Fits Tryz.prog 33 ti33 := agrees 33 ti33 (by rfl)
theorem fit35 : Fits Tryz.prog 35 ti35 := agrees 35 ti35 (by rfl)
theorem fit37 : Fits Tryz.prog 37 ti37 := agrees 37 ti37 (by rfl)
theorem fit50 : Fits Tryz.prog 50 ti50 := agrees 50 ti50 (by rfl)
theorem fit58 : Fits Tryz.prog 58 ti58 := agrees 58 ti58 (by rfl)
def inK64 (x : Int) : Prop := IntKind.i64.min ≤ x ∧ x ≤ IntKind.i64.max
def inKu32 (x : Int) : Prop := IntKind.u32.min ≤ x ∧ x ≤ IntKind.u32.max
def inU8 (x : Int) : Prop := IntKind.u8.min ≤ x ∧ x ≤ IntKind.u8.max
section
variable {H : Type} {enc : TypeId × Value → H} {W : World}
theorem reads2 : Reads enc Tryz.prog W 2 (.int .i64) inK64 := reads_int fit2.kind
theorem reads3 : Reads enc Tryz.prog W 3 (.int .i64) inK64 := reads_int fit3.kind
theorem reads4 : Reads enc Tryz.prog W 4 .bool (fun _ => True) := reads_bool fit4.kind
theorem reads5 : Reads enc Tryz.prog W 5 (.int .u8) inU8 := reads_int fit5.kind
theorem reads32 : Reads enc Tryz.prog W 32 (.int .i64) inK64 := reads_int fit32.kind
theorem reads33 : Reads enc Tryz.prog W 33 (.int .u32) inKu32 := reads_int fit33.kind
def okWr (x : Int × Int × Int) : Prop := inK64 x.1 ∧ inKu32 x.2.1 ∧ inKu32 x.2.2
theorem reads35 : Reads enc Tryz.prog W 35 shW okWr :=
  reads_struct fit35 rfl rfl (readsF_cons reads2 (cellsOf_fits fit2) rfl (readsF_cons reads33 (cellsOf_fits fit33) rfl (readsF_one reads33 (cellsOf_fits fit33))))
def okAr (x : Ax) : Prop := inK64 x.1 ∧ inK64 x.2.1 ∧ okWr x.2.2.1 ∧ okWr x.2.2.2
theorem reads37 : Reads enc Tryz.prog W 37 shA okAr :=
  reads_struct fit37 rfl rfl (readsF_cons reads3 (cellsOf_fits fit3) rfl (readsF_cons reads32 (cellsOf_fits fit32) rfl (readsF_cons reads35 (cellsOf_fits fit35) rfl (readsF_one reads35 (cellsOf_fits fit35)))))
def okPr (x : Int × Int × Int) : Prop := inK64 x.1 ∧ inK64 x.2.1 ∧ inK64 x.2.2
theorem reads58 : Reads enc Tryz.prog W 58 shP okPr :=
  reads_struct fit58 rfl rfl (readsF_cons reads3 (cellsOf_fits fit3) rfl (readsF_cons reads3 (cellsOf_fits fit3) rfl (readsF_one reads3 (cellsOf_fits fit3))))
def okWs (W : World) (x : Hd) : Prop := x.2.1 ≤ x.2.2 ∧ x.2.2 ≤ maxLen ∧ ∃ xs : List (Int × Int × Int), xs.length = x.2.1 ∧ RowRd (Store.of W) x.1 shW xs ∧ ∀ y ∈ xs, okWr y
def okAs (W : World) (x : Hd) : Prop := x.2.1 ≤ x.2.2 ∧ x.2.2 ≤ maxLen ∧ ∃ xs : List Ax, xs.length = x.2.1 ∧ RowRd (Store.of W) x.1 shA xs ∧ ∀ y ∈ xs, okAr y
def okTs (W : World) (x : Hd) : Prop := x.2.1 ≤ x.2.2 ∧ x.2.2 ≤ maxLen ∧ ∃ xs : List Hd, xs.length = x.2.1 ∧ RowRd (Store.of W) x.1 .slice xs ∧ ∀ y ∈ xs, okAs W y
def okPs (W : World) (x : Hd) : Prop := x.2.1 ≤ x.2.2 ∧ x.2.2 ≤ maxLen ∧ ∃ xs : List (Int × Int × Int), xs.length = x.2.1 ∧ RowRd (Store.of W) x.1 shP xs ∧ ∀ y ∈ xs, okPr y
theorem reads22 : Reads enc Tryz.prog W 22 .slice (okWs W) := reads_slice (sh := shW) fit22.kind (cellsOf_fits fit35) (by decide) reads35
theorem reads30 : Reads enc Tryz.prog W 30 .slice (okAs W) := reads_slice (sh := shA) fit30.kind (cellsOf_fits fit37) (by decide) reads37
theorem reads23 : Reads enc Tryz.prog W 23 .slice (okTs W) := reads_slice (sh := .slice) fit23.kind (cellsOf_fits fit30) (by decide) reads30
theorem reads50 : Reads enc Tryz.prog W 50 .slice (okPs W) := reads_slice (sh := shP) fit50.kind (cellsOf_fits fit58) (by decide) reads58
def okTt (W : World) (x : Tz) : Prop := okWs W x.1 ∧ okTs W x.2
theorem reads25 : Reads enc Tryz.prog W 25 (.st (.pair .slice .slice)) (okTt W) :=
  reads_struct fit25 rfl rfl (readsF_cons reads22 (cellsOf_fits fit22) rfl (readsF_one reads23 (cellsOf_fits fit23)))
end
theorem k64 {x : Int} (h : inK64 x) : inI64 x := h
theorem ku32 {x : Int} (h : inKu32 x) : inU32 x := h
theorem okW_of {x : Int × Int × Int} (h : okWr x) : okW x := ⟨h.1, h.2.1, h.2.2⟩
theorem ws_in {W : World} {x : Hd} (h : okWs W x) : ∃ ws : List Li.Wd, WsIs (Store.of W) x ws := by
  obtain ⟨h1, -, xs, h3, h4, h5⟩ := h
  obtain ⟨p, n, c⟩ := x
  have h3 : xs.length = n := h3
  subst h3
  exact ⟨xs, xs.map fun w => (w, w), by rw [List.map_map]; exact List.map_id xs, by show xs.length = _; rw [List.length_map], h1, by rw [List.map_map, show ((fun x : Li.Wd × Li.Wd => x.1) ∘ fun w : Li.Wd => (w, w)) = id from rfl, List.map_id]; exact h4, fun z hz => by obtain ⟨w, hw, rfl⟩ := List.mem_map.1 hz; exact ⟨rfl, okW_of (h5 w hw)⟩⟩
def actOf (x : Ax) : Li.Act := ⟨x.1, x.2.1, x.2.2.1, x.2.2.2⟩
theorem as_in {W : World} {x : Hd} (h : okAs W x) : ∃ l : List Li.Act, ActsIs (Store.of W) x l := by
  obtain ⟨h1, -, xs, h3, h4, h5⟩ := h
  obtain ⟨p, n, c⟩ := x
  have h3 : xs.length = n := h3
  subst h3
  refine ⟨xs.map actOf, xs.map fun w => (w, actOf w), by rw [List.map_map]; rfl, by show xs.length = _; rw [List.length_map], h1, ?_, fun z hz => ?_⟩
  · rw [List.map_map, show ((fun x : Ax × Li.Act => x.1) ∘ fun w : Ax => (w, actOf w)) = id from rfl, List.map_id]; exact h4
  · obtain ⟨w, hw, rfl⟩ := List.mem_map.1 hz
    obtain ⟨k1, k2, k3, k4⟩ := h5 w hw
    exact ⟨rfl, k1, k2, okW_of k3, okW_of k4⟩
theorem pairUp {α β : Type} {R : α → β → Prop} : ∀ {l : List α}, (∀ x ∈ l, ∃ y, R x y) → ∃ L : List (α × β), L.map (·.1) = l ∧ ∀ z ∈ L, R z.1 z.2
  | [], _ => ⟨[], rfl, fun z hz => by cases hz⟩
  | x :: l, h => by
    obtain ⟨y, hy⟩ := h x (List.mem_cons_self ..)
    obtain ⟨L, h1, h2⟩ := pairUp fun z hz => h z (List.mem_cons_of_mem _ hz)
    exact ⟨(x, y) :: L, by rw [List.map_cons, h1], fun z hz => by
      rcases List.mem_cons.1 hz with rfl | hz
      · exact hy
      · exact h2 z hz⟩
theorem th_in {W : World} {x : Hd} (h : okTs W x) : ∃ T : List (List Li.Act), ThIs (Store.of W) x T := by
  obtain ⟨h1, -, xs, h3, h4, h5⟩ := h
  obtain ⟨L, hL1, hL2⟩ := pairUp (R := fun x l => ActsIs (Store.of W) x l) fun y hy => as_in (h5 y hy)
  obtain ⟨p, n, c⟩ := x
  have h3 : xs.length = n := h3
  subst h3
  exact ⟨L.map (·.2), L, rfl, by show xs.length = L.length; rw [← hL1, List.length_map], h1, by rw [hL1]; exact h4, hL2⟩
theorem test_in {W : World} {x : Tz} (h : okTt W x) : ∃ first T, TestIs (Store.of W) x first T := by
  obtain ⟨first, h1⟩ := ws_in h.1
  obtain ⟨T, h2⟩ := th_in h.2
  exact ⟨first, T, h1, h2⟩
theorem pks_in {W : World} {x : Hd} (h : okPs W x) : ∃ l : List Li.Pk, PksIs (Store.of W) x l := by
  obtain ⟨h1, -, xs, h3, h4, h5⟩ := h
  obtain ⟨p, n, c⟩ := x
  have h3 : xs.length = n := h3
  subst h3
  exact ⟨xs, rfl, h1, h4, fun y hy => h5 y hy⟩
/-- The table alone. -/
theorem lt_of {W : World} {l : List (String × DataW Unit)} (hl : l = [("math/bits.deBruijn32tab", Rows.laid_math_bits_deBruijn32tab), ("math/bits.deBruijn64tab", Rows.laid_math_bits_deBruijn64tab), ("internal/strconv.uint64pow10", Rows.laid_internal_strconv_uint64pow10)])
    (h : laidMetH Tryz.prog l W) : Lt (Store.of W) := by
  subst hl
  rw [MakeChecks.laidMetH_plain _ _ _ (by kernel_rfl)] at h
  have h2 := laidMet.tail (laidMet.tail h)
  have hT := Lib.tabIs_of_head (k := .u64) (zs := Lib.pow10Tab) gPow Tryz.tP Tryz.underlying270 Tryz.underlying170 Tryz.c170 Tryz.c270 h2
  unfold Lib.TabIs World.var? at hT
  rw [gPow] at hT
  simp only [Option.bind_some] at hT
  split at hT
  · rename_i cs T z hb
    simp only [Option.some.injEq] at hT
    subst hT
    exact ⟨T, z, hb⟩
  · cases hT
theorem pure_true {P : Program} {f : FuncId} {S : Store} {args : List Value} (h : Vc.Pure P f S args (A := Unit) (fun _ => rB true) (fun _ _ => True)) : Vc.Pure P f S args (A := Bool) (fun b => .c (.v (.bool b))) (fun _ b => b = true) := by
  intro w hw
  refine (h w hw).mono ?_
  rintro e w' ⟨v, x, S', rfl, hv, h1, h2, h3, h4, -⟩
  exact ⟨v, true, S', rfl, hv, h1, h2, h3, h4, rfl⟩
/-- The wrap with both the condition and the world's shape. -/
theorem handed_shaped_and {H : Type} {enc : TypeId × Value → H} {a : Assume} {C : Checked} {os : Os} {f : FuncId} {fn : Func} {s : ChangeSpec} {conds : List PathCond} {apart fresh handsOn again : Bool} {X : World → Array Value → Prop}
    (hX : ∀ (w w' : World) (args : Array Value), w.heap = w'.heap → X w args → X w' args)
    (own : ownKnob C.prog.godebug = none) (started : os.Started) (noInit : C.prog.inits.idxOf? f = none) (hfn : C.prog.funcs[f]? = some fn)
    (witness : ∃ (w : World) (tape : Tape) (i : Input), w.os = os ∧ (w.forCall tape i).Shaped C.prog ∧ i.vars = [] ∧ Input.okWide C.prog (w.forCall tape i) .any w.heap.size f i ∧
      ((s.pre enc C.prog fn conds apart (w.forCall tape i).memory i.args ∧ X (w.forCall tape i).memory i.args) ∧ sizedMet enc C.prog fn (OpenSpec.ofChange s) apart (w.forCall tape i).memory i.args) ∧ a.holds C.prog (lone (Frame.enter C.prog f i.args .normal) [] (w.forCall tape i)))
    (contract : ∀ (W : World) (base : Nat) (args : Array Value) (ds gs : List (DataW H)) (before : List MemPlace),
      (∀ (j : Nat) t v, fn.params[j]? = some t → args[j]? = some v → Value.okWide C.prog W .any base t v) →
      DataW.Whole enc C.prog fn.params.toList s.vars apart W args.toList ds gs before →
      (DataW.weightsEach C.prog (fn.params.toList ++ s.plain.varTypes C.prog) (ds ++ gs)).all (· ≤ reachBytes) = true → X W args → W.ShapedOpen C.prog →
      Calls C.prog f args W fun e W' => ∃ v, e = .returned v ∧ s.post enc C.prog fn apart fresh handsOn again W args v W') :
    ReturnsInHanded a C os f .any (fun w args => (s.pre enc C.prog fn conds apart w args ∧ X w args) ∧ sizedMet enc C.prog fn (OpenSpec.ofChange s) apart w args) (s.post enc C.prog fn apart fresh handsOn again) := by
  refine returnsInHanded_of_calls own started noInit witness ?_
  intro w tape i _ hsh _ hok hpre _
  obtain ⟨_, _, _, fn', hfn', _, _, _, _, hval⟩ := hok
  obtain rfl : fn' = fn := Option.some.inj (hfn'.symm.trans hfn)
  obtain ⟨⟨⟨ds, gs, before, hw, _⟩, hx⟩, hz⟩ := hpre
  have hw' := DataW.Whole.of_heap (w' := w.forCall tape i) (by rfl) hw
  refine (contract (w.forCall tape i) w.heap.size i.args ds gs before hval hw' (hz.weights hw) (hX _ _ _ (by rfl) hx) hsh).mono fun e W' ⟨v, he, hp⟩ => ?_
  subst he
  exact ChangeSpec.post_blind hp
/-- Starts that fit. -/
noncomputable def startT (os : Os) : World := World.laidAll Tryz.prog os Rows.litmusNamedRow.laid
theorem startT_met (os : Os) (args : Array Value) : laidMetH Tryz.prog Rows.litmusNamedRow.laid ((startT os).forCall (fun _ _ => 0) ⟨#[], args, []⟩).memory := by
  rw [MakeChecks.laidMetH_plain _ _ _ (by kernel_rfl)]
  exact laidMet_laidAll _ (by kernel_rfl) (by kernel_rfl)
theorem startT_shaped (os : Os) (args : Array Value) : ((startT os).forCall (fun _ _ => 0) ⟨#[], args, []⟩).Shaped Tryz.prog := World.shaped_of_ZipB (by kernel_rfl) (by kernel_rfl)
end Go.Proofs.YtapblcfbmaikjaaGreatDoor
