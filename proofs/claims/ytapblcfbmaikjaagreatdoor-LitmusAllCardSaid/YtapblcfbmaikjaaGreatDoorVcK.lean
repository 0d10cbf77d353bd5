/- Verification conditions, eleventh part: what comes in, read as data; a law that says true. -/
import Derived.Test.YtapblcfbmaikjaaGreatDoorVcJ
import Derived.ChangeArms
import Derived.OpenShut
import Derived.ChangeSame
import Derived.ChangeReads
import Derived.ReadAgain
import Derived.WideKeyElems2
import Derived.RowKit
import Derived.ChangeAt
import Derived.JoinedOf
namespace Go.Vc
open Go Go.ChangeShapes Go.WideShapes Go.ChangeAt Go.RowKit

variable {H : Type} {enc : TypeId × Value → H} {P : Program} {tt : Nat → Option TI} {W W' : World}

/-- What is read at a type is data of a shape, of which Q holds. -/
def Reads (enc : TypeId × Value → H) (P : Program) (W : World) (t : TypeId) (sh : Shape) (Q : sh.T → Prop) : Prop :=
  ∀ fuel cs x, DataW.trod enc P W 0 (fun _ => true) true fuel t cs = some x → ∃ y : sh.T, cs = sh.enc y ∧ sh.ok y ∧ Q y

theorem reads_int {t : TypeId} {k : IntKind} (ht : P.underlying t = some (.int k)) : Reads enc P W t (.int k) (fun x => k.min ≤ x ∧ x ≤ k.max) := by
  intro fuel cs x h
  obtain ⟨n, rfl, _, hw⟩ := DataW.trod_int ht h
  simp only [Lit.wf, Bool.and_eq_true, decide_eq_true_eq] at hw
  exact ⟨n, rfl, trivial, hw⟩

theorem reads_bool {t : TypeId} (ht : P.underlying t = some .bool) : Reads enc P W t .bool (fun _ => True) := by
  intro fuel cs x h
  obtain ⟨b, rfl, _⟩ := DataW.trod_bool ht h
  exact ⟨b, rfl, trivial, trivial⟩

theorem reads_str {t : TypeId} (ht : P.underlying t = some .string) : Reads enc P W t .str (fun s => s.size ≤ maxLen) := by
  intro fuel cs x h
  obtain ⟨s, rfl, _, hw⟩ := DataW.trod_string ht h
  exact ⟨s, rfl, trivial, hw⟩

/-- Fields in a row, from an offset. -/
def ReadsF (enc : TypeId × Value → H) (P : Program) (W : World) : List (Nat × Nat) → Nat → (sh : Shape) → (sh.T → Prop) → Prop
  | fs, off, sh, Q => ∀ fuel (cs : List Value), cs.length = off + sh.n → (∀ p ∈ fs, ∃ x, DataW.trod enc P W 0 (fun _ => true) true fuel p.2 ((cs.drop p.1).take (P.cellsOf p.2)) = some x) →
      ∃ y : sh.T, cs.drop off = sh.enc y ∧ sh.ok y ∧ Q y

theorem enc_n : ∀ (sh : Shape) (y : sh.T), (sh.enc y).length = sh.n
  | .int _, _ | .bool, _ | .str, _ | .slice, _ | .map, _ | .any, _ | .unit, _ => rfl
  | .pair a b, (x, y) => by simp [Shape.enc, Shape.n, enc_n a, enc_n b]
  | .st a, x => by simp [Shape.enc, Shape.n, enc_n a]

theorem readsF_nil {off : Nat} : ReadsF enc P W [] off .unit (fun _ => True) := by
  intro fuel cs hl _
  exact ⟨(), by simp [Shape.enc, Shape.n] at hl ⊢; omega, trivial, trivial⟩

theorem readsF_one {t off : Nat} {sh : Shape} {Q : sh.T → Prop} (h : Reads enc P W t sh Q) (hc : P.cellsOf t = sh.n) : ReadsF enc P W [(off, t)] off sh Q := by
  intro fuel cs hl hx
  obtain ⟨x, hx⟩ := hx _ (List.mem_singleton.2 rfl)
  obtain ⟨y, hy, ho, hq⟩ := h _ _ _ hx
  refine ⟨y, ?_, ho, hq⟩
  rw [← hy, List.take_of_length_le]
  simp [hc]; omega

theorem readsF_cons {t off off' : Nat} {fs : List (Nat × Nat)} {sh sh' : Shape} {Q : sh.T → Prop} {Q' : sh'.T → Prop} (h : Reads enc P W t sh Q) (hc : P.cellsOf t = sh.n) (hoff : off' = off + sh.n)
    (h' : ReadsF enc P W fs off' sh' Q') : ReadsF enc P W ((off, t) :: fs) off (.pair sh sh') (fun y => Q y.1 ∧ Q' y.2) := by
  intro fuel cs hl hx
  obtain ⟨x, hx0⟩ := hx _ (List.mem_cons_self ..)
  obtain ⟨y, hy, ho, hq⟩ := h _ _ _ hx0
  have hl2 : cs.length = off' + sh'.n := by simp only [Shape.n] at hl; omega
  obtain ⟨z, hz, ho', hq'⟩ := h' fuel cs hl2 fun p hp => hx p (List.mem_cons_of_mem _ hp)
  refine ⟨(y, z), ?_, ⟨ho, ho'⟩, hq, hq'⟩
  show cs.drop off = sh.enc y ++ sh'.enc z
  rw [← hy, ← hz, hc, hoff, ← List.drop_drop, List.take_append_drop]

theorem cellsOf_fits {t : TypeId} {ti : TI} (h : Fits P t ti) : P.cellsOf t = ti.sz := by
  obtain ⟨i, hi, hs, _⟩ := h.info
  simp [Program.cellsOf, hi, hs]

theorem reads_struct {t : TypeId} {ti : TI} {fs : List (Nat × Nat)} {sh : Shape} {Q : sh.T → Prop} (hf : Fits P t ti) (hk : ti.kind = .struct fs) (hn : sh.n = ti.sz) (h : ReadsF enc P W fs 0 sh Q) : Reads enc P W t (.st sh) Q := by
  intro fuel cs x hx
  have hkind := hf.kind
  rw [hk] at hkind
  obtain ⟨fa, hu, hfs, _⟩ := hkind
  obtain ⟨xs, n, rfl, _, hl, hxl, hall⟩ := DataW.trod_struct hu hx
  obtain ⟨y, hy, ho, hq⟩ := h n cs (by rw [hl, cellsOf_fits hf, hn]; omega) (by
    intro p hp
    rw [← hfs] at hp
    obtain ⟨f, hfm, rfl⟩ := List.mem_map.1 hp
    obtain ⟨i, hi⟩ := List.getElem?_of_mem hfm
    have h1 := hall i f (by simpa using hi)
    have hlt : i < xs.length := by
      have := (List.getElem?_eq_some_iff.1 hi).1
      rw [hxl]; simpa using this
    exact ⟨xs[i], by rw [h1]; simp [hlt]⟩)
  exact ⟨y, by rw [List.drop_zero] at hy; exact hy, ho, hq⟩

theorem cells_some {a : Addr} {n : Nat} {l : List Value} (h : W.cells? 0 a n = some l) (hn : 0 < n) : l.length = n ∧ a.spot = none ∧ ∀ j y, l[j]? = some y → W.cell? ⟨a.block, a.off + j, none⟩ = some y := by
  simp only [World.cells?, Nat.zero_le, if_true] at h
  have hlen : l.length = n := by simpa using mapM_some_length h
  have hget : ∀ (j : Nat) (y : Value), l[j]? = some y → W.cell? (a.add j) = some y := by
    intro j y hy
    have hj := (List.getElem?_eq_some_iff.1 hy).1
    rw [← hy]
    exact mapM_some_get h j j (by rw [List.getElem?_range (by omega)])
  have hsp : a.spot = none := by
    obtain ⟨y, hy⟩ : ∃ y, l[0]? = some y := ⟨l[0], by simp [hlen, hn]⟩
    have h0 := hget 0 y hy
    obtain ⟨b, o, sp⟩ := a
    cases sp with
    | none => rfl
    | some s =>
      simp only [World.cell?] at h0
      split at h0
      · split at h0
        · cases h0
        · rename_i hsn
          exfalso
          revert hsn
          unfold Addr.add
          split <;> simp_all
      · cases h0
  refine ⟨hlen, hsp, fun j y hy => ?_⟩
  have := hget j y hy
  obtain ⟨b, o, sp⟩ := a
  simp only at hsp
  subst hsp
  rwa [Addr.add_lit] at this

theorem rd_append {S : Store} {b o : Nat} {l m : List Value} (h : S.rd b o l) (h' : S.rd b (o + l.length) m) : S.rd b o (l ++ m) := by
  intro j x hx
  rw [List.getElem?_append] at hx
  split at hx
  · exact h j x hx
  · rename_i hj
    have := h' _ x hx
    rwa [show o + l.length + (j - l.length) = o + j by omega] at this

theorem rd_flat {S : Store} {b n : Nat} {sh : Shape} (hn : sh.n = n) : ∀ (xs : List sh.T) (o : Nat), (∀ (i : Nat) y, xs[i]? = some y → S.rd b (o + i * n) (sh.enc y)) → S.rd b o (xs.flatMap sh.enc)
  | [], _, _ => by intro j x hx; simp at hx
  | x :: xs, o, h => by
    rw [List.flatMap_cons]
    refine rd_append (by simpa using h 0 x rfl) (rd_flat hn xs _ fun i y hy => ?_)
    have := h (i + 1) y (by simpa using hy)
    rw [enc_n, hn]
    rwa [show o + (i + 1) * n = o + n + i * n by rw [Nat.add_mul]; omega] at this

theorem reads_slice {t e : TypeId} {sh : Shape} {Q : sh.T → Prop} (ht : P.underlying t = some (.slice e)) (hc : P.cellsOf e = sh.n) (hn : 0 < sh.n) (h : Reads enc P W e sh Q) :
    Reads enc P W t .slice (fun x => x.2.1 ≤ x.2.2 ∧ x.2.2 ≤ maxLen ∧ ∃ xs : List sh.T, xs.length = x.2.1 ∧ RowRd (Store.of W) x.1 sh xs ∧ ∀ y ∈ xs, Q y) := by
  intro fuel cs x hx
  rcases DataW.trod_slice ht hx with ⟨rfl, _⟩ | ⟨a, len, cap, elems, rest, n, rfl, rfl, _, _, hlc, hcap, hlen, hel, _⟩
  · exact ⟨(none, 0, 0), rfl, trivial, Nat.le_refl _, by decide, [], rfl, ⟨.inl rfl, by simp⟩, by simp⟩
  · refine ⟨(some a, len, cap), rfl, trivial, hlc, hcap, ?_⟩
    have hone : ∀ i, i < len → ∃ y : sh.T, W.cells? 0 (a.add (i * sh.n)) sh.n = some (sh.enc y) ∧ sh.ok y ∧ Q y := by
      intro i hi
      have h1 := hel i hi
      rw [hc] at h1
      obtain ⟨z, hz⟩ : ∃ z, elems[i]? = some z := ⟨elems[i], by simp [hlen, hi]⟩
      rw [hz] at h1
      obtain ⟨l, hl, hl2⟩ := Option.bind_eq_some_iff.1 h1
      obtain ⟨y, rfl, ho, hq⟩ := h _ _ _ hl2
      exact ⟨y, hl, ho, hq⟩
    have hmany : ∀ k, k ≤ len → ∃ xs : List sh.T, xs.length = k ∧ (∀ (i : Nat) y, xs[i]? = some y → W.cells? 0 (a.add (i * sh.n)) sh.n = some (sh.enc y)) ∧ ∀ y ∈ xs, sh.ok y ∧ Q y := by
      intro k
      induction k with
      | zero => exact fun _ => ⟨[], rfl, by simp, by simp⟩
      | succ k ih =>
        intro hk
        obtain ⟨xs, h1, h2, h3⟩ := ih (by omega)
        obtain ⟨y, hy, ho, hq⟩ := hone k (by omega)
        refine ⟨xs ++ [y], by simp [h1], ?_, ?_⟩
        · intro i z hz
          rw [List.getElem?_append] at hz
          split at hz
          · exact h2 i z hz
          · rename_i hik
            have hik' : i = k := by
              have := (List.getElem?_eq_some_iff.1 hz).1
              simp at this; omega
            subst hik'
            simp [h1] at hz
            subst hz
            exact hy
        · intro z hz
          rcases List.mem_append.1 hz with hz | hz
          · exact h3 z hz
          · simp at hz; subst hz; exact ⟨ho, hq⟩
    obtain ⟨xs, h1, h2, h3⟩ := hmany len (Nat.le_refl _)
    refine ⟨xs, h1, ⟨?_, fun y hy => (h3 y hy).1⟩, fun y hy => (h3 y hy).2⟩
    cases xs with
    | nil => exact .inl rfl
    | cons y ys =>
      right
      have h0 := h2 0 y rfl
      rw [Nat.zero_mul] at h0
      have hadd : a.add 0 = a := by simp [Addr.add]
      rw [hadd] at h0
      obtain ⟨_, hsp, _⟩ := cells_some h0 hn
      obtain ⟨b, o, sp⟩ := a
      simp only at hsp
      subst hsp
      refine ⟨b, o, rfl, rd_flat rfl _ _ fun i z hz => ?_⟩
      have hi := h2 i z hz
      rw [Addr.add_lit] at hi
      obtain ⟨_, _, hg⟩ := cells_some hi hn
      intro j u hu
      exact hg j u hu

theorem enc_agg {sh : Shape} (h : sh.agg = true) (y : sh.T) : sh.val y = .agg (sh.enc y).toArray := by
  cases sh <;> simp [Shape.agg] at h <;> rfl

theorem enc_one {sh : Shape} (h : sh.agg = false) (y : sh.T) : sh.enc y = [sh.val y] := by
  cases sh <;> simp [Shape.agg] at h <;> rfl

/-- An argument, out of its reading. -/
theorem arg_of {t : TypeId} {ti : TI} {r : Reach} {base : Nat} {v : Value} {d : DataW H} {p : List MemPlace} {Q : ti.sh.T → Prop} (hf : Fits P t ti) (hval : Value.okWide P W r base t v) (hrd : DataW.Trod enc P W 0 (fun _ => true) true t v d p) (hR : Reads enc P W t ti.sh Q) :
    ∃ y, v = ti.sh.val y ∧ ti.sh.ok y ∧ Q y := by
  obtain ⟨fuel, h⟩ := hrd
  obtain ⟨y, hy, ho, hq⟩ := hR _ _ _ h
  refine ⟨y, ?_, ho, hq⟩
  obtain ⟨dd, hu, hagg⟩ := hf.agg
  unfold Value.okWide at hval
  rw [hu] at hval
  cases hb : ti.sh.agg with
  | true =>
    rw [hb] at hagg
    rw [enc_agg hb, ← hy]
    cases dd <;> simp only [isAggD, reduceCtorEq] at hagg <;> (obtain ⟨cs, rfl, _⟩ := hval; simp [Value.cells])
  | false =>
    rw [hb] at hagg
    rw [enc_one hb] at hy
    have hv : ∀ cs, v ≠ .agg cs := by
      rintro cs rfl
      cases dd <;> simp only [isAggD, reduceCtorEq] at hagg <;> simp [Cell.okWide, Cell.ok, hu] at hval
    cases v <;> first | (simp [Value.cells] at hy; exact hy) | exact absurd rfl (hv _)

/-- The frame of a call that turns nothing. -/
theorem Old.kept {w w' : World} (h : Old w w') (may : MemPlace → Prop) : w.keptBut w' may := by
  refine ⟨h.os, h.output, fun i hi => ?_⟩
  rw [h.block i hi]
  cases w.heap[i]? with
  | none => rfl
  | some o => cases o <;> simp

theorem Old.sameAt {w w' : World} (h : Old w w') {p : MemPlace} (hp : p.block < w.heap.size) : w.sameAt w' p := by
  cases p with
  | cell b off => simp only [World.sameAt, World.cell?, h.block b hp]
  | map b => exact h.block b hp

theorem trodAll_old {sp : Nat → Bool} {hd : Bool} (h : Old W W') : ∀ {ts : List TypeId} {vs : List Value} {ds : List (DataW H)} {ps : List MemPlace}, DataW.TrodAll enc P W 0 sp hd ts vs ds ps → (∀ p ∈ ps, p.block < W.heap.size) → DataW.TrodAll enc P W' 0 sp hd ts vs ds ps
  | [], [], [], _, hA, _ => hA
  | _ :: _, _ :: _, _ :: _, _, ⟨p, q, ⟨n, h1⟩, h2, e⟩, hp => ⟨p, q, ⟨n, DataW.trod_carry n _ _ _ h1 fun x hx => h.sameAt (hp x (by rw [e]; exact List.mem_append_left _ hx))⟩, trodAll_old h h2 (fun x hx => hp x (by rw [e]; exact List.mem_append_right _ hx)), e⟩
  | [], [], _ :: _, _, hA, _ | [], _ :: _, _, _, hA, _ | _ :: _, [], _, _, hA, _ | _ :: _, _ :: _, [], _, hA, _ => hA.elim

/-- A LAW THAT SAYS TRUE, out of its 'Pure'. -/
theorem told_of_pure {T : TypeId → Prop} (K : Kids P T) (hz : ∀ t e, T t → P.underlying t = some (.slice e) → 0 < P.cellsOf e) {f : FuncId} {fn : Func} {s : ChangeSpec} {apart fresh handsOn again : Bool} (hT : ∀ t ∈ fn.params.toList, T t)
    {tb : TypeId} (hr : fn.resultTypes = #[tb]) (htb : P.underlying tb = some .bool) (hv : s.vars = []) {args : Array Value} {ds gs : List (DataW H)} {before : List MemPlace}
    (hW : DataW.Whole enc P fn.params.toList s.vars apart W args.toList ds gs before) (hs1 : (s.fn H (ds ++ [])).results = [.lit (.bool true)]) (hs2 : (s.fn H (ds ++ [])).args = ds) (hs3 : (s.fn H (ds ++ [])).vars = [])
    (hp : Pure P f (Store.of W) args.toList (A := Bool) (fun b => .c (.v (.bool b))) (fun _ b => b = true)) :
    Calls P f args W fun e W' => ∃ v, e = .returned v ∧ s.post enc P fn apart fresh handsOn again W args v W' := by
  have hc := hp W (Store.le_refl _)
  rw [Array.toArray_toList] at hc
  refine hc.mono ?_
  rintro e W' ⟨v, x, S', rfl, hrel, _, _, hold, _, rfl⟩
  obtain ⟨rfl, -⟩ := hrel
  refine ⟨_, rfl, ?_⟩
  have hW' := hW
  have hlt : ∀ p ∈ before, p.block < W.heap.size := fun p hp => by simpa using hW.lt p hp
  obtain ⟨p, q, hA, hV, rfl, hfz, hnd⟩ := hW
  rw [hv] at hV
  obtain ⟨rfl, rfl⟩ := trodVars_none hV
  simp only [List.append_nil] at hW' hlt hfz hnd
  have hA' := trodAll_old hold hA hlt
  have hres : ∀ (b : Nat) (sp : Nat → Bool) (hd : Bool), DataW.TrodAll enc P W' b sp hd fn.resultTypes.toList ((Value.bool true).resultList fn.resultTypes.size) (s.fn H (ds ++ [])).results [] := by
    intro b sp hd
    rw [hs1, hr]
    exact trodAll_mk1 (shut_bool htb true)
  have hargs : ∀ sp : Nat → Bool, (∀ z ∈ p, sp z.block = true) → DataW.TrodAll enc P W' 0 sp true fn.params.toList args.toList (s.fn H (ds ++ [])).args p := by
    intro sp hsp
    rw [hs2]
    exact DataW.TrodAll.respare K hz hT hA' hsp
  have hvars : ∀ sp : Nat → Bool, DataW.TrodVars enc P W' sp s.vars (s.fn H (ds ++ [])).vars [] := by
    intro sp
    rw [hs3, hv]
    rfl
  have hbl : ∀ p1 ∈ p, (fun b => decide (b < W.heap.size)) p1.block = true := fun p hp => by simpa using hlt p hp
  refine ⟨ds, [], p, [], p, [], hW', hres _ _ _, hargs _ hbl, hvars _, hold.kept _, fun _ => ?_⟩
  refine ⟨ok_one hr rfl (okWide_bool_mk htb true), _, _, ([] ++ p) ++ [], ⟨[] ++ p, [], trodAll_append (hargs _ (fun _ _ => rfl)) (hres _ _ _), hvars _, rfl, ?_, ?_⟩, ?_⟩
  · intro b off hp
    simp only [List.nil_append, List.append_nil] at hp
    have := hfz b off hp
    have hb : b < W.heap.size := hlt _ hp
    simp only [World.frozen?, hold.block b hb]
    exact this
  · intro ha
    simpa using hnd ha
  · intro p hp _
    simpa using hp

end Go.Vc
