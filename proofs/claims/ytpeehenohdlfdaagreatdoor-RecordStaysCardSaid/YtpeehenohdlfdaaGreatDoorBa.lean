/- law57: what comes in, read as data: for the statements. -/
import Derived.Test.YtpeehenohdlfdaaGreatDoorFe
import Derived.ProofKit
import Derived.LaidMore
import Derived.Lib.LaidTab
import Derived.SizedLaws
import Derived.ChangeMaps5
import Derived.Stop.Joined
import Derived.Stop.LaidErr
import Derived.Lay
import Derived.LaidOnce
import Derived.HandedShaped
import Derived.Test.YtpeehenohdlfdaaGreatDoorVcN
namespace Go.Proofs.YtpeehenohdlfdaaGreatDoor
open Go Go.Vc Go.ChangeShapes Go.WideShapes Go.ChangeAt Go.RowKit
set_option maxRecDepth 100000
theorem Tryz.own : ownKnob Tryz.prog.godebug = none := by kernel_rfl
theorem Tryz.kids : Kids Tryz.prog (· < Tryz.prog.types.size) := kids_rows (by kernel_rfl) (by kernel_rfl)
theorem Tryz.full : ∀ t e, t < Tryz.prog.types.size → Tryz.prog.underlying t = some (.slice e) → 0 < Tryz.prog.cellsOf e := slices_full_of Tryz.prog (by kernel_rfl)
theorem Tryz.tP : (Tryz.prog.globals[1]?).map (·.type) = some 170 := by kernel_rfl
theorem Tryz.c170 : Tryz.prog.cellsOf 170 = 20 := by kernel_rfl
theorem Tryz.c132 : Tryz.prog.cellsOf 132 = 1 := by kernel_rfl
theorem Tryz.gS : Tryz.prog.globalNamed "strconv.ErrSyntax" = some 4 := by kernel_rfl
theorem Tryz.gR : Tryz.prog.globalNamed "strconv.ErrRange" = some 5 := by kernel_rfl
theorem Tryz.tS : (Tryz.prog.globals[4]?).map (·.type) = some 78 := by kernel_rfl
theorem Tryz.tR : (Tryz.prog.globals[5]?).map (·.type) = some 78 := by kernel_rfl
theorem Tryz.star : "*" ++ "errors.errorString" = "*errors.errorString" := by decide
theorem Tryz.row195 (u : TypeId) (h : Tryz.prog.typeName? 3 u = some "*errors.errorString") : u = 195 :=
  typeName_ptr_named (nm := "errors.errorString") (by rw [Tryz.star]; kernel_rfl) (by kernel_rfl) (by decide) u (by rw [Tryz.star]; exact h)
theorem Tryz.c197 : Tryz.prog.cellsOf 197 = 1 := by kernel_rfl
theorem Tryz.c9 : Tryz.prog.cellsOf 9 = 1 := by kernel_rfl

theorem fit2 : Fits Tryz.prog 2 ti2 := agrees 2 ti2 (by rfl)
theorem fit3 : Fits Tryz.prog 3 ti3 := agrees 3 ti3 (by rfl)
theorem fit5 : Fits Tryz.prog 5 ti5 := agrees 5 ti5 (by rfl)
theorem fit9 : Fits Tryz.prog 9 ti9 := agrees 9 ti9 (by rfl)
theorem fit22 : Fits Tryz.prog 22 ti22 := agrees 22 ti22 (by rfl)
theorem fit42 : Fits Tryz.prog 42 ti42 := agrees 42 ti42 (by rfl)
theorem fit43 : Fits Tryz.prog 43 ti43 := agrees 43 ti43 (by rfl)
theorem fit45 : Fits Tryz.prog 45 ti45 := agrees 45 ti45 (by rfl)
theorem fit49 : Fits Tryz.prog 49 ti49 := agrees 49 ti49 (by rfl)
theorem fit64 : Fits Tryz.prog 64 ti64 := agrees 64 ti64 (by rfl)
theorem fit74 : Fits Tryz.prog 74 ti74 := agrees 74 ti74 (by rfl)
theorem fit104 : Fits Tryz.prog 104 ti104 := agrees 104 ti104 (by rfl)
theorem fit40 : Fits Tryz.prog 40 ti40 := agrees 40 ti40 (by rfl)
def inK64 (x : Int) : Prop := IntKind.i64.min ≤ x ∧ x ≤ IntKind.i64.max
def inU8 (x : Int) : Prop := IntKind.u8.min ≤ x ∧ x ≤ IntKind.u8.max
theorem reads2 {H : Type} {enc : TypeId × Value → H} {W : World} : Reads enc Tryz.prog W 2 (.int .i64) inK64 := reads_int fit2.kind
theorem reads3 {H : Type} {enc : TypeId × Value → H} {W : World} : Reads enc Tryz.prog W 3 (.int .i64) inK64 := reads_int fit3.kind
theorem reads5 {H : Type} {enc : TypeId × Value → H} {W : World} : Reads enc Tryz.prog W 5 (.int .u8) inU8 := reads_int fit5.kind
theorem reads9 {H : Type} {enc : TypeId × Value → H} {W : World} : Reads enc Tryz.prog W 9 .str (fun s => s.size ≤ maxLen) := reads_str fit9.kind
def okInts (W : World) (x : Hd) : Prop := x.2.1 ≤ x.2.2 ∧ x.2.2 ≤ maxLen ∧ ∃ xs : List Int, xs.length = x.2.1 ∧ RowRd (Store.of W) x.1 (.int .i64) xs ∧ ∀ y ∈ xs, inK64 y
def okStrs (W : World) (x : Hd) : Prop := x.2.1 ≤ x.2.2 ∧ x.2.2 ≤ maxLen ∧ ∃ xs : List ByteArray, xs.length = x.2.1 ∧ RowRd (Store.of W) x.1 .str xs ∧ ∀ y ∈ xs, y.size ≤ maxLen
theorem reads40 {H : Type} {enc : TypeId × Value → H} {W : World} : Reads enc Tryz.prog W 40 .slice (okInts W) := reads_slice (sh := .int .i64) fit40.kind (cellsOf_fits fit2) (by decide) reads2
theorem reads104 {H : Type} {enc : TypeId × Value → H} {W : World} : Reads enc Tryz.prog W 104 .slice (okStrs W) := reads_slice (sh := .str) fit104.kind (cellsOf_fits fit9) (by decide) reads9
theorem reads43 {H : Type} {enc : TypeId × Value → H} {W : World} : Reads enc Tryz.prog W 43 (.int .i64) inK64 := reads_int fit43.kind
def okCall (W : World) (x : ByteArray × Hd) : Prop := x.1.size ≤ maxLen ∧ okInts W x.2
theorem reads42 {H : Type} {enc : TypeId × Value → H} {W : World} : Reads enc Tryz.prog W 42 (.st (.pair .str .slice)) (okCall W) :=
  reads_struct fit42 rfl rfl (readsF_cons reads9 (cellsOf_fits fit9) rfl (readsF_one reads40 (cellsOf_fits fit40)))
def okAns (x : Int × Int) : Prop := inK64 x.1 ∧ inK64 x.2
theorem reads45 {H : Type} {enc : TypeId × Value → H} {W : World} : Reads enc Tryz.prog W 45 (.st (.pair (.int .i64) (.int .i64))) okAns :=
  reads_struct fit45 rfl rfl (readsF_cons reads43 (cellsOf_fits fit43) rfl (readsF_one reads2 (cellsOf_fits fit2)))
def okAct (W : World) (x : Ex) : Prop := inU8 x.1 ∧ inK64 x.2.1 ∧ inK64 x.2.2.1 ∧ okCall W x.2.2.2.1 ∧ okAns x.2.2.2.2
theorem reads64 {H : Type} {enc : TypeId × Value → H} {W : World} : Reads enc Tryz.prog W 64 shA (okAct W) :=
  reads_struct fit64 rfl rfl (readsF_cons reads5 (cellsOf_fits fit5) rfl (readsF_cons reads3 (cellsOf_fits fit3) rfl (readsF_cons reads3 (cellsOf_fits fit3) rfl (readsF_cons reads42 (cellsOf_fits fit42) rfl (readsF_one reads45 (cellsOf_fits fit45))))))
theorem reads22 {H : Type} {enc : TypeId × Value → H} {W : World} : Reads enc Tryz.prog W 22 .slice (fun x => x.2.1 ≤ x.2.2 ∧ x.2.2 ≤ maxLen ∧ ∃ xs : List Ex, xs.length = x.2.1 ∧ RowRd (Store.of W) x.1 shA xs ∧ ∀ y ∈ xs, okAct W y) :=
  reads_slice (sh := shA) fit22.kind (cellsOf_fits fit64) (by decide) reads64
theorem k64 {x : Int} (h : inK64 x) : inI64 x := h
theorem small_of {n : Nat} (h : n ≤ reachBytes) : n ≤ 1000000000000000 := Nat.le_of_lt (Nat.lt_of_le_of_lt h (Nat.lt_of_lt_of_le reachBytes_lt (by decide)))

/-- What the condition gives: the library's variables. -/
theorem lw_of {W : World} {l : List (String × DataW Unit)} (hl : l = [("math/bits.deBruijn32tab", Rows.laid_math_bits_deBruijn32tab), ("math/bits.deBruijn64tab", Rows.laid_math_bits_deBruijn64tab), ("internal/strconv.uint64pow10", Rows.laid_internal_strconv_uint64pow10),
      ("unicode/utf8.acceptRanges", Rows.laid_unicode_utf8_acceptRanges), ("strconv.ErrRange", Rows.laid_strconv_ErrRange), ("strconv.ErrSyntax", Rows.laid_strconv_ErrSyntax), ("unicode/utf8.first", Rows.laid_unicode_utf8_first)])
    (h : laidMetH Tryz.prog l W) (hsh : W.ShapedOpen Tryz.prog) : Lw (Store.of W) := by
  subst hl
  rw [MakeChecks.laidMetH_plain _ _ _ (by kernel_rfl)] at h
  have h2 := laidMet.tail (laidMet.tail h)
  have hT := Lib.tabIs_of_head (k := .u64) (zs := Lib.pow10Tab) gPow Tryz.tP Tryz.underlying170 Tryz.underlying132 Tryz.c132 Tryz.c170 h2
  have h4 := laidMet.tail (laidMet.tail h2)
  obtain ⟨aR, sR, vR, -⟩ := laid_sentinel h4 Tryz.gR Tryz.tR Tryz.underlying78 Tryz.row195 Tryz.underlying195 Tryz.underlying197 rfl rfl Tryz.underlying9 Tryz.c197 Tryz.c9
  obtain ⟨aS, sS, vS, -⟩ := laid_sentinel (laidMet.tail h4) Tryz.gS Tryz.tS Tryz.underlying78 Tryz.row195 Tryz.underlying195 Tryz.underlying197 rfl rfl Tryz.underlying9 Tryz.c197 Tryz.c9
  have one : ∀ {g : Nat} {n : String} {v : Value}, Tryz.prog.globalNamed n = some g → W.var? Tryz.prog n = some #[v] → (Store.of W).rd g 0 [v] := by
    intro g n v hg hv j x hx
    have := World.var?_cell hg hv j
    show W.cell? ⟨g, 0 + j, none⟩ = some x
    rw [Nat.zero_add, this]
    simpa using hx
  refine ⟨?_, ⟨_, _, one Tryz.gS vS⟩, ⟨_, _, one Tryz.gR vR⟩, ?_⟩
  · obtain ⟨m, hm⟩ : ∃ m, W.cell? ⟨0, 0, none⟩ = some (.int .i64 m) := Go.Proofs.cell_of_shapedOpen_int (zero := #[.int .i64 0]) (t := 3) hsh (of_decide_eq_true (by kernel_rfl)) (by kernel_rfl) rfl (by kernel_rfl) (by kernel_rfl) Tryz.underlying3
    refine ⟨m, fun j x hx => ?_⟩
    cases j with
    | zero => simp only [List.getElem?_cons_zero, Option.some.injEq] at hx; subst hx; exact hm
    | succ j => simp at hx
  · unfold Lib.TabIs World.var? at hT
    rw [gPow] at hT
    simp only [Option.bind_some] at hT
    split at hT
    · rename_i cs T z hb
      simp only [Option.some.injEq] at hT
      subst hT
      exact ⟨T, z, hb⟩
    · cases hT

/-- The wrap with both the condition and the world's shape. -/
theorem handed_shaped_and {H : Type} {enc : TypeId × Value → H} {a : Assume} {C : Checked} {os : Os} {f : FuncId} {fn : Func} {s : ChangeSpec} {conds : List PathCond} {apart fresh handsOn again : Bool} {X : World → Array Value → Prop}
    (hX : ∀ (w w' : World) (args : Array Value), w.heap = w'.heap → X w args → X w' args)
    (own : ownKnob C.prog.godebug = none) (started : os.Started) (noInit : C.prog.inits.idxOf? f = none) (hfn : C.prog.funcs[f]? = some fn)
    (witness : ∃ (w : World) (tape : Tape) (i : Input), w.os = os ∧ (w.forCall tape i).Shaped C.prog ∧ i.vars = [] ∧ Input.okWide C.prog (w.forCall tape i) .any w.heap.size f i ∧
      ((s.pre enc C.prog fn conds apart (w.forCall tape i).memory i.args ∧ X (w.forCall tape i).memory i.args) ∧ sizedMet enc C.prog fn (OpenSpec.ofChange s) apart (w.forCall tape i).memory i.args) ∧ a.holds C.prog (lone (Frame.enter C.prog f i.args .normal) [] (w.forCall tape i)))
    (contract : ∀ (W : World) (base : Nat) (args : Array Value) (ds gs : List (DataW H)) (before : List MemPlace),
      (∀ (j : Nat) t v, fn.params[j]? = some t → args[j]? = some v → Value.okWide C.prog W .any base t v) →
      DataW.Whole enc C.prog fn.params.toList s.vars apart W args.toList ds gs before →
      (DataW.weightsEach C.prog (fn.params.toList ++ s.plain.varTypes C.prog) (ds ++ gs)).all (· ≤ reachBytes) = true → X W args → W.ShapedOpen C.prog →
      Calls C.prog f args W fun e W' => ∃ v, e = .returned v ∧ s.post enc C.prog fn apart fresh handsOn again W args v W') :
    ReturnsInHanded a C os f .any (fun w args => (s.pre enc C.prog fn conds apart w args ∧ X w args) ∧ sizedMet enc C.prog fn (OpenSpec.ofChange s) apart w args) (s.post enc C.prog fn apart fresh handsOn again) := by
  refine returnsInHanded_of_calls own started noInit witness ?_
  intro w tape i _ hsh _ hok hpre _
  obtain ⟨_, _, _, fn', hfn', _, _, _, _, hval⟩ := hok
  obtain rfl : fn' = fn := Option.some.inj (hfn'.symm.trans hfn)
  obtain ⟨⟨⟨ds, gs, before, hw, _⟩, hx⟩, hz⟩ := hpre
  have hw' := DataW.Whole.of_heap (w' := w.forCall tape i) (by rfl) hw
  refine (contract (w.forCall tape i) w.heap.size i.args ds gs before hval hw' (hz.weights hw) (hX _ _ _ (by rfl) hx) hsh).mono fun e W' ⟨v, he, hp⟩ => ?_
  subst he
  exact ChangeSpec.post_blind hp

/-- The table alone. -/
theorem lt_of {W : World} {l : List (String × DataW Unit)} (hl : l = [("math/bits.deBruijn32tab", Rows.laid_math_bits_deBruijn32tab), ("math/bits.deBruijn64tab", Rows.laid_math_bits_deBruijn64tab), ("internal/strconv.uint64pow10", Rows.laid_internal_strconv_uint64pow10),
      ("unicode/utf8.acceptRanges", Rows.laid_unicode_utf8_acceptRanges), ("unicode/utf8.first", Rows.laid_unicode_utf8_first)])
    (h : laidMetH Tryz.prog l W) : Lt (Store.of W) := by
  subst hl
  rw [MakeChecks.laidMetH_plain _ _ _ (by kernel_rfl)] at h
  have h2 := laidMet.tail (laidMet.tail h)
  have hT := Lib.tabIs_of_head (k := .u64) (zs := Lib.pow10Tab) gPow Tryz.tP Tryz.underlying170 Tryz.underlying132 Tryz.c132 Tryz.c170 h2
  unfold Lib.TabIs World.var? at hT
  rw [gPow] at hT
  simp only [Option.bind_some] at hT
  split at hT
  · rename_i cs T z hb
    simp only [Option.some.injEq] at hT
    subst hT
    exact ⟨T, z, hb⟩
  · cases hT
/-- Starts that fit. -/
noncomputable def startW (os : Os) : World := World.laidAll Tryz.prog os Rows.recordParsesRow.laid
theorem start_met (os : Os) (args : Array Value) : laidMetH Tryz.prog Rows.recordParsesRow.laid ((startW os).forCall (fun _ _ => 0) ⟨#[], args, []⟩).memory := by
  rw [MakeChecks.laidMetH_plain _ _ _ (by kernel_rfl)]
  exact laidMet_laidAll _ (by kernel_rfl) (by kernel_rfl)
theorem start_shaped (os : Os) (args : Array Value) : ((startW os).forCall (fun _ _ => 0) ⟨#[], args, []⟩).Shaped Tryz.prog := World.shaped_of_ZipB (by kernel_rfl) (by kernel_rfl)
noncomputable def startT (os : Os) : World := World.laidAll Tryz.prog os Rows.recordPlaysRow.laid
theorem startT_met (os : Os) (args : Array Value) : laidMetH Tryz.prog Rows.recordPlaysRow.laid ((startT os).forCall (fun _ _ => 0) ⟨#[], args, []⟩).memory := by
  rw [MakeChecks.laidMetH_plain _ _ _ (by kernel_rfl)]
  exact laidMet_laidAll _ (by kernel_rfl) (by kernel_rfl)
theorem startT_shaped (os : Os) (args : Array Value) : ((startT os).forCall (fun _ _ => 0) ⟨#[], args, []⟩).Shaped Tryz.prog := World.shaped_of_ZipB (by kernel_rfl) (by kernel_rfl)
end Go.Proofs.YtpeehenohdlfdaaGreatDoor
