/- Arrays that come in, read as data. -/
import Derived.Test.YtfchicmekieclaaBa
namespace Go.Vc
open Go Go.ChangeShapes Go.WideShapes Go.ChangeAt Go.RowKit
variable {H : Type} {enc : TypeId × Value → H} {P : Program} {W : World}

theorem reads_array {t e : TypeId} {ti : TI} {n : Nat} {fs : List (Nat × Nat)} {sh : Shape} {Q : sh.T → Prop} (hf : Fits P t ti) (hk : ti.kind = .array n e) (hn : sh.n = ti.sz) (hfs : fs = (List.range n).map fun i => (i * P.cellsOf e, e)) (h : ReadsF enc P W fs 0 sh Q) : Reads enc P W t (.st sh) Q := by
  intro fuel cs x hx
  have hkind := hf.kind
  rw [hk] at hkind
  obtain ⟨xs, m, rfl, -, hl, hxs, hall⟩ := DataW.trod_array hkind hx
  obtain ⟨y, hy, ho, hq⟩ := h m cs (by rw [hl, cellsOf_fits hf, hn]; omega) (by
    intro p hp
    rw [hfs] at hp
    obtain ⟨i, hi, rfl⟩ := List.mem_map.1 hp
    have hi' : i < n := by simpa using hi
    exact ⟨xs[i], by rw [hall i hi', List.getElem?_eq_getElem (by omega)]⟩)
  exact ⟨y, by rw [List.drop_zero] at hy; exact hy, ho, hq⟩
end Go.Vc
namespace Go.Proofs.Ytfchicmekieclaa
open Go Go.Vc
theorem reads45 {H : Type} {enc : TypeId × Value → H} {W : World} : Reads enc Try.prog W 45 ti45.sh (fun q => opIn q.1 ∧ opIn q.2.1 ∧ opIn q.2.2) :=
  reads_array (n := 3) (e := 33) (fs := [(0, 33), (3, 33), (6, 33)]) fit45 rfl rfl (by rw [cellsOf_fits fit33]; rfl)
    (readsF_cons reads33 (cellsOf_fits fit33) rfl (readsF_cons reads33 (cellsOf_fits fit33) rfl (readsF_one reads33 (cellsOf_fits fit33))))
end Go.Proofs.Ytfchicmekieclaa
