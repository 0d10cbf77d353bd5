/- law63: the library's functions on strings, by the kit's contracts. -/
import Derived.Test.YtpeehenohdlfdaaGreatDoorFa
import Derived.Test.YtpeehenohdlfdaaGreatDoorSh
import Derived.Shelf.Strings.SlTrimAscii
import Derived.Test.YtpeehenohdlfdaaGreatDoorLs
import Derived.Lib.ParseIntBTie
import Derived.Laws.RangeString
import Derived.Laws.RangeAny
namespace Go.Proofs.YtpeehenohdlfdaaGreatDoor
open Go Go.Vc Go.Sort
set_option maxRecDepth 100000

@[reducible] def rS (s : ByteArray) : SV := .c (.v (.string s))
def bs (l : List UInt8) : ByteArray := ⟨l.toArray⟩
theorem bs_data (l : List UInt8) : (bs l).data.toList = l := rfl
theorem data_bs (s : ByteArray) : bs s.data.toList = s := rfl
theorem bs_size (l : List UInt8) : (bs l).size = l.length := by simp [bs, ByteArray.size]
theorem bs_inj {l m : List UInt8} : bs l = bs m ↔ l = m := ⟨fun h => by rw [← bs_data l, h, bs_data], fun h => by rw [h]⟩
theorem bs_app (a b : List UInt8) : bs a ++ bs b = bs (a ++ b) := by
  apply ByteArray.ext
  simp [bs, ByteArray.data_append]
theorem streq (u v : ByteArray) : (u.toList == v.toList) = decide (u = v) := by
  rw [ByteArray.toList_eq, ByteArray.toList_eq]
  by_cases h : u = v
  · subst h; simp
  · rw [decide_eq_false h]
    refine beq_eq_false_iff_ne.2 fun e => h ?_
    cases u; cases v
    simp only [ByteArray.mk.injEq]
    exact Array.ext' e
theorem bsq (u v : List UInt8) : ((bs u).toList == (bs v).toList) = decide (u = v) := by rw [streq]; exact decide_eq_decide.2 bs_inj

/-- What the store knows of the library's variables. -/
structure Lw (S : Store) : Prop where
  m : ∃ m, S.rd 0 0 [.int .i64 m]
  es : ∃ te pe, S.rd 4 0 [.iface te pe]
  er : ∃ te pe, S.rd 5 0 [.iface te pe]
  tab : ∃ T z, S.o 1 = some (.cells (Lib.pow10Tab.map fun z => Value.int .u64 z).toArray T z)
theorem gPow : Tryz.prog.globalNamed "internal/strconv.uint64pow10" = some 1 := by kernel_rfl
theorem Lw.le {S S' : Store} (h : S.le S') (hL : Lw S) : Lw S' := by
  obtain ⟨⟨m, h1⟩, ⟨t1, p1, h2⟩, ⟨t2, p2, h3⟩, T, z, h4⟩ := hL
  exact ⟨⟨m, Store.rd_le h h1⟩, ⟨t1, p1, Store.rd_le h h2⟩, ⟨t2, p2, Store.rd_le h h3⟩, T, z, h.2 _ _ h4⟩
theorem Lw.is {S : Store} (hL : Lw S) {w : World} (h : S.le (Store.of w)) : Lib.TabIs Tryz.prog w "internal/strconv.uint64pow10" .u64 Lib.pow10Tab := by
  obtain ⟨T, z, h1⟩ := hL.tab
  have h2 : w.heap[1]? = some _ := h.2 _ _ h1
  simp only [Lib.TabIs, World.var?, gPow, Option.bind_some, h2]
/-- The table alone. -/
structure Lt (S : Store) : Prop where
  tab : ∃ T z, S.o 1 = some (.cells (Lib.pow10Tab.map fun z => Value.int .u64 z).toArray T z)
theorem Lt.le {S S' : Store} (h : S.le S') (hL : Lt S) : Lt S' := by
  obtain ⟨T, z, h4⟩ := hL
  exact ⟨T, z, h.2 _ _ h4⟩
theorem Lw.lt {S : Store} (hL : Lw S) : Lt S := ⟨hL.tab⟩
theorem Lt.is {S : Store} (hL : Lt S) {w : World} (h : S.le (Store.of w)) : Lib.TabIs Tryz.prog w "internal/strconv.uint64pow10" .u64 Lib.pow10Tab := by
  obtain ⟨T, z, h1⟩ := hL.tab
  have h2 : w.heap[1]? = some _ := h.2 _ _ h1
  simp only [Lib.TabIs, World.var?, gPow, Option.bind_some, h2]
theorem cell_of {S : Store} {b o : Nat} {v : Value} (h : S.rd b o [v]) {w : World} (hw : S.le (Store.of w)) : w.cell? ⟨b, o, none⟩ = some v := hw.1 _ _ _ (h 0 v rfl)

theorem old_le {S : Store} {w w' : World} (hw : S.le (Store.of w)) (hold : Old w w') : S.le (Store.of w') := Store.le_of hw (fun b hk => hold.block b (by
  rcases Nat.lt_or_ge b w.heap.size with hb | hb
  · exact hb
  · have := Store.lt_of hw hb
    rcases hk with ⟨o, x, hx⟩ | ⟨x, hx⟩
    · rw [this.1 o] at hx; cases hx
    · rw [this.2] at hx; cases hx))
theorem old_below {w w' : World} (h : Go.RowKit.Below w.heap.size w w') : Old w w' := ⟨h.os, h.tape, h.output, h.size, h.block⟩
theorem _root_.Go.Vc.Old.refl (w : World) : Old w w := ⟨rfl, rfl, rfl, Nat.le_refl _, fun _ _ => rfl⟩
theorem old_drewN (w : World) (n : Nat) : Old w (w.drewN n) := ⟨rfl, rfl, rfl, Nat.le_refl _, fun _ _ => rfl⟩
theorem old_alloc (w : World) (o : Obj) : Old w (w.alloc o) := ⟨rfl, rfl, rfl, by show w.heap.size ≤ (w.heap.push o).size; rw [Array.size_push]; omega, fun k hk => heap_alloc_old w o hk⟩

/-- A contract whose call leaves what was there. -/
theorem pure_old {f : FuncId} {S : Store} {args : List Value} {A : Type} {out : A → SV} {Post : Store → A → Prop} (h : ∀ w : World, S.le (Store.of w) → Calls Tryz.prog f args.toArray w fun e w' => ∃ v x, e = .returned v ∧ (out x).rel [] v ∧ Old w w' ∧ Post S x) :
    Pure Tryz.prog f S args out Post := by
  intro w hw
  refine (h w hw).mono ?_
  rintro e w' ⟨v, x, rfl, hv, hold, hp⟩
  exact ⟨v, x, S, rfl, hv, Store.le_refl _, old_le hw hold, hold, fun _ _ => ⟨fun _ => rfl, rfl⟩, hp⟩

/-- What was known, and all that is new. -/
noncomputable def _root_.Go.Vc.Store.plus (S : Store) (w w' : World) : Store :=
  ⟨fun b o => if b < w.heap.size then S.c b o else (Store.of w').c b o, fun b => if b < w.heap.size then S.o b else (Store.of w').o b⟩
theorem plus_facts {S : Store} {w w' : World} (hS : S.le (Store.of w)) (hold : Old w w') : S.le (S.plus w w') ∧ (S.plus w w').le (Store.of w') ∧ ∀ b, b < w.heap.size → (∀ i, (S.plus w w').c b i = S.c b i) ∧ (S.plus w w').o b = S.o b := by
  have hlt : ∀ b, w.heap.size ≤ b → (∀ o, S.c b o = none) ∧ S.o b = none := fun b hb => Store.lt_of hS hb
  have hle := old_le hS hold
  refine ⟨⟨?_, ?_⟩, ⟨?_, ?_⟩, ?_⟩
  · intro b o y hy
    simp only [Store.plus]
    split
    · exact hy
    · rename_i hn; rw [(hlt b (by omega)).1 o] at hy; cases hy
  · intro b y hy
    simp only [Store.plus]
    split
    · exact hy
    · rename_i hn; rw [(hlt b (by omega)).2] at hy; cases hy
  · intro b o y hy
    simp only [Store.plus] at hy
    split at hy
    · exact hle.1 b o y hy
    · exact hy
  · intro b y hy
    simp only [Store.plus] at hy
    split at hy
    · exact hle.2 b y hy
    · exact hy
  · intro b hb
    simp only [Store.plus, if_pos hb]; exact ⟨fun _ => trivial, trivial⟩

theorem cut_spec (S : Store) (hL : Lw S) (s : List UInt8) (c : UInt8) (hs : s.length ≤ 1000000000) :
    Pure Tryz.prog 45 S [.string (bs s), .string (bs [c])] (A := Unit) (fun _ => .tup [(false, [.v (.string (bs (Lib.cut s [c]).1))]), (false, [.v (.string (bs (Lib.cut s [c]).2.1))]), (false, [.v (.bool (Lib.cut s [c]).2.2)])]) (fun _ _ => True) := by
  refine pure_old fun w hw => ?_
  obtain ⟨m, hm⟩ := hL.m
  refine (Tryz.strings_Cut (bs s) (bs [c]) m w (by rw [bs_size]; omega) (cell_of hm hw)).mono ?_
  rintro e w' ⟨rfl, n, rfl⟩
  exact ⟨_, (), rfl, ⟨[_, _, _], rfl, ⟨rfl, rfl⟩, ⟨rfl, rfl⟩, ⟨rfl, rfl⟩, trivial⟩, old_drewN w n, trivial⟩
@[reducible] def rCut (a b : List UInt8) (c : Bool) : SV := .tup [(false, [.v (.string (bs a))]), (false, [.v (.string (bs b))]), (false, [.v (.bool c)])]
theorem cut_miss_spec (S : Store) (hL : Lw S) (s : List UInt8) (c : UInt8) (hs : s.length ≤ 1000000000) (h : c ∉ s) :
    Pure Tryz.prog 45 S [.string (bs s), .string (bs [c])] (A := Unit) (fun _ => rCut s [] false) (fun _ _ => True) := by
  have := cut_spec S hL s c hs
  rw [Txt.cut_miss h] at this
  exact this
theorem cut_hit_spec (S : Store) (hL : Lw S) (l r : List UInt8) (c : UInt8) (hs : (l ++ c :: r).length ≤ 1000000000) (h : c ∉ l) :
    Pure Tryz.prog 45 S [.string (bs (l ++ c :: r)), .string (bs [c])] (A := Unit) (fun _ => rCut l r true) (fun _ _ => True) := by
  have := cut_spec S hL (l ++ c :: r) c hs
  rw [Txt.cut_hit h] at this
  exact this

/-- The texts between single spaces. -/
def wordsR (s : List UInt8) : List ByteArray := (Txt.pieces 32 s).map bs
theorem splitB_words (s : List UInt8) : Lib.splitB (bs [32]) 0 (Lib.countB (bs s) (bs [32])) (bs s) = wordsR s := by
  have h := Lib.splitB_data (bs [32]) 0 (Lib.countB (bs s) (bs [32])) (bs s)
  have h2 : Lib.splitK (bs [32]).data.toList 0 (Lib.countB (bs s) (bs [32])) (bs s).data.toList = Txt.pieces 32 s := Txt.split_pieces 32 s.length s (Nat.le_refl _)
  rw [h2] at h
  rw [wordsR, ← h, List.map_map]
  exact (List.map_id _).symm
theorem split_spec (S : Store) (hL : Lw S) (s : List UInt8) (hs : s.length ≤ 1000000000) :
    Pure Tryz.prog 66 S [.string (bs s), .string (bs [32])] (A := Hd) (fun q => .c (.v (slV q))) (fun S' q => q.2.1 = (wordsR s).length ∧ q.2.1 ≤ q.2.2 ∧ RowRd S' q.1 .str (wordsR s)) := by
  intro w hw
  obtain ⟨m, hm⟩ := hL.m
  refine (Tryz.strings_Split (bs s) (bs [32]) m w (by rw [bs_size]; omega) (cell_of hm hw) (by decide)).mono ?_
  rintro e w' ⟨rfl, rfl⟩
  rw [splitB_words]
  have hold := old_alloc w (.cells ((wordsR s).map Value.string).toArray 9)
  obtain ⟨g1, g2, g3⟩ := plus_facts hw hold
  have hlen : (wordsR s).length = Lib.countB (bs s) (bs [32]) + 1 := by
    rw [wordsR, List.length_map]; exact Txt.count_len 32 s.length s (Nat.le_refl _)
  refine ⟨_, (some ⟨w.heap.size, 0, none⟩, Lib.countB (bs s) (bs [32]) + 1, Lib.countB (bs s) (bs [32]) + 1), _, rfl, ⟨rfl, rfl⟩, g1, g2, hold, g3, hlen.symm, Nat.le_refl _, .inr ⟨w.heap.size, 0, rfl, fun j x hj => ?_⟩, fun _ _ => trivial⟩
  simp only [Store.plus, if_neg (Nat.lt_irrefl _), Store.of]
  have e : (wordsR s).flatMap Shape.str.enc = (wordsR s).map Value.string := by
    induction wordsR s with
    | nil => rfl
    | cons a l ih => simp only [List.flatMap_cons, List.map_cons, ih]; rfl
  rw [e] at hj
  simp only [World.cell?, heap_alloc_new w, Option.isSome_none, Bool.false_eq_true, if_false, Nat.zero_add]
  simpa using hj

def alnum : List UInt8 := [65, 66, 67, 68, 69, 70, 71, 72, 73, 74, 75, 76, 77, 78, 79, 80, 81, 82, 83, 84, 85, 86, 87, 88, 89, 90, 97, 98, 99, 100, 101, 102, 103, 104, 105, 106, 107, 108, 109, 110, 111, 112, 113, 114, 115, 116, 117, 118, 119, 120, 121, 122, 48, 49, 50, 51, 52, 53, 54, 55, 56, 57, 95]
theorem trim_spec (S : Store) (s : List UInt8) (hs : s.length ≤ 1000000000) : Pure Tryz.prog 61 S [.string (bs s), .string (bs alnum)] (A := Unit) (fun _ => rS (bs (Lib.trimS s alnum))) (fun _ _ => True) := by
  refine pure_old fun w hw => ?_
  refine (Any.strings_Trim_laid Tryz.lays160 (by kernel_rfl) (bs s) (bs alnum) w (by rw [bs_size]; omega) (by decide) (ascii_of_all (by decide))).mono ?_
  rintro e w' ⟨rfl, hb⟩
  exact ⟨_, (), rfl, ⟨rfl, rfl⟩, old_below hb, trivial⟩
theorem alnum_has (x : UInt8) : alnum.contains x = Sc.nameB x := by
  have h : ∀ n : Fin 256, alnum.contains (UInt8.ofNat n.val) = Sc.nameB (UInt8.ofNat n.val) := by decide +kernel
  have := h ⟨x.toNat, x.toNat_lt⟩
  simpa using this
theorem old_grow (w : World) (k : Nat) (os : Array Obj) : Old w (Go.Sort.grow (w.drewN k) os) := ⟨rfl, rfl, rfl, by simp [grow, World.drewN], fun i hi => by
    show (w.heap ++ os)[i]? = w.heap[i]?
    rw [Array.getElem?_append_left hi]⟩
theorem format_spec (S : Store) (hL : Lw S) (n : Int) (hn : inI64 n) : Pure Tryz.prog 58 S [.int .i64 n, .int .i64 10] (A := Unit) (fun _ => rS (bs (Lib.itoa n))) (fun _ _ => True) := by
  refine pure_old fun w hw => ?_
  refine (Tryz.strconv_FormatInt_10 n hn.1 hn.2 w (hL.is hw)).mono ?_
  rintro e w' ⟨rfl, k, os, rfl⟩
  exact ⟨_, (), rfl, ⟨rfl, rfl⟩, old_grow _ _ _, trivial⟩
/-- What ParseInt hands back: the number and nil, or whatever and an error. -/
theorem parse_spec (S : Store) (hL : Lw S) (s : List UInt8) (hs : s.length ≤ 1000000000) :
    Pure Tryz.prog 101 S [.string (bs s), .int .i64 10, .int .i64 64] (A := Int × Value) (fun x => .tup [(false, [.v (.int .i64 x.1)]), (false, [.v x.2])])
      (fun _ x => (x.2 = .nilIface ∧ Lib.parseIntB 64 s = .ok x.1) ∨ ((∃ t p, x.2 = .iface t p) ∧ ∀ v, Lib.parseIntB 64 s ≠ .ok v)) := by
  refine pure_old fun w hw => ?_
  have hsz := bs_size s
  cases hr : Lib.parseIntB 64 s with
  | ok v =>
    refine (Tryz.strconv_ParseInt_10_at64_ok (bs s) (by rw [bs_size]; omega) v hr w).mono ?_
    rintro e w' ⟨rfl, hw'⟩
    have : Old w w' := by
      rcases hw' with rfl | ⟨t, rfl⟩
      · exact Old.refl _
      · exact ⟨rfl, rfl, rfl, by rw [Lib.bytesWorld_size]; omega, fun k hk => Lib.bytesWorld_at_old w 5 t k hk⟩
    exact ⟨_, (v, .nilIface), rfl, ⟨[_, _], rfl, ⟨rfl, rfl⟩, ⟨rfl, rfl⟩, trivial⟩, this, .inl ⟨rfl, rfl⟩⟩
  | range =>
    obtain ⟨te, pe, he⟩ := hL.er
    refine (Tryz.strconv_ParseInt_10_at64_range (bs s) (by rw [bs_size]; omega) hr (.iface te pe) w (cell_of he hw) (.inr ⟨_, _, rfl⟩)).mono ?_
    rintro e w' ⟨N, rfl, -, -, hb⟩
    exact ⟨_, (_, .iface 179 (.pointer (some ⟨N, 0, none⟩))), rfl, ⟨[_, _], rfl, ⟨rfl, rfl⟩, ⟨rfl, rfl⟩, trivial⟩, old_below hb, .inr ⟨⟨_, _, rfl⟩, fun v q => by cases q⟩⟩
  | _ =>
    obtain ⟨te, pe, he⟩ := hL.es
    refine (Any.strconv_ParseInt_10_at64_syntax Tryz.laysC174 (bs s) (by rw [bs_size]; omega) hr (.iface te pe) w (cell_of he hw) (.inr ⟨_, _, rfl⟩)).mono ?_
    rintro e w' ⟨N, rfl, -, -, hb⟩
    exact ⟨_, (_, .iface 179 (.pointer (some ⟨N, 0, none⟩))), rfl, ⟨[_, _], rfl, ⟨rfl, rfl⟩, ⟨rfl, rfl⟩, trivial⟩, old_below hb, .inr ⟨⟨_, _, rfl⟩, fun v q => by cases q⟩⟩
theorem parse_okW {s : List UInt8} : (∃ v, Lib.parseIntB 64 s = .ok v ∧ Lib.itoa v = s) ↔ Sc.okW s = true := by
  unfold Sc.okW
  constructor
  · rintro ⟨v, h, rfl⟩
    rw [Lib.parseIntB_64, Txt.atoi_canon (Txt.canon_itoa v), Txt.val_itoa] at h
    rw [Txt.canon_itoa, Txt.val_itoa]
    by_cases hv : -9223372036854775808 ≤ v ∧ v ≤ 9223372036854775807
    · simp [Sc.in64, hv]
    · rw [if_neg hv] at h; cases h
  · intro h
    rw [Bool.and_eq_true] at h
    obtain ⟨h1, h2⟩ := h
    refine ⟨Txt.valOf s, ?_, Txt.itoa_val h1⟩
    rw [Lib.parseIntB_64, Txt.atoi_canon h1]
    exact if_pos (in64_iff.1 h2)
theorem parse_in {s : List UInt8} {v : Int} (h : Lib.parseIntB 64 s = .ok v) (hi : Lib.itoa v = s) : v = Txt.valOf s ∧ Sc.okW s = true := ⟨by rw [← hi, Txt.val_itoa], parse_okW.1 ⟨v, h, hi⟩⟩
theorem join_spec (S : Store) (p : Hd) (ws : List (List UInt8)) (hw1 : ws ≠ []) (hl : p.2.1 = ws.length) (hc : p.2.1 ≤ p.2.2) (hr : RowRd S p.1 .str (ws.map bs)) (hlen : (Txt.joinC 32 ws).length ≤ 1000000000) (hN : ws.length ≤ 1000000000) :
    Pure Tryz.prog 90 S [slV p, .string (bs [32])] (A := Unit) (fun _ => rS (bs (Txt.joinC 32 ws))) (fun _ _ => True) := by
  refine pure_old fun w hw => ?_
  obtain ⟨p, n, c⟩ := p
  simp only at hl hc hr
  subst hl
  rcases hr.1 with h0 | ⟨b, o, rfl, hrd⟩
  · exact absurd (List.map_eq_nil_iff.1 h0) hw1
  have hcells : ∀ (j : Nat) x, (ws.map bs)[j]? = some x → w.cell? ⟨b, o + j, none⟩ = some (.string x) := by
    intro j x hx
    have e : (ws.map bs).flatMap Shape.str.enc = (ws.map bs).map Value.string := by
      induction ws.map bs with
      | nil => rfl
      | cons a l ih => simp only [List.flatMap_cons, List.map_cons, ih]; rfl
    rw [e] at hrd
    exact hw.1 _ _ _ (hrd j _ (by rw [List.getElem?_map, hx]; rfl))
  have hlt : b < w.heap.size := by
    rcases Nat.lt_or_ge b w.heap.size with h | h
    · exact h
    · exfalso
      cases ws with
      | nil => exact hw1 rfl
      | cons a l =>
        have := hcells 0 (bs a) rfl
        simp [World.cell?, Array.getElem?_eq_none h] at this
  have hj : Lib.join ((ws.map bs).map (·.data.toList)) (bs [32]).data.toList = Txt.joinC 32 ws := by
    rw [List.map_map]
    have : ((fun x : ByteArray => x.data.toList) ∘ bs) = id := rfl
    rw [this, List.map_id]
    exact Txt.join_eq 32 ws
  have := Tryz.strings_Join b o c (ws.map bs) (bs [32]) w hcells hlt (by rw [List.length_map]; omega) (by rw [List.length_map]; exact hc) (by rw [hj]; omega)
  rw [List.length_map, hj] at this
  refine this.mono ?_
  rintro e w' ⟨rfl, hb⟩
  exact ⟨_, (), rfl, ⟨rfl, rfl⟩, old_below hb, trivial⟩

end Go.Proofs.YtpeehenohdlfdaaGreatDoor
