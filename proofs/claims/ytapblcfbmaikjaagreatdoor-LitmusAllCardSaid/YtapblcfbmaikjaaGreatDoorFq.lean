/- law09: the library's functions on numbers and strings, by the kit's contracts; FormatUint by hand. memory.New, machine.New. what is left behind a crash: lines and machine. -/
import Derived.Test.YtapblcfbmaikjaaGreatDoorFk
import Derived.Test.YtapblcfbmaikjaaGreatDoorSh
import Derived.Lib.ItoaMem
import Derived.Lib.AppendIntMem
import Derived.Shelf.Strconv.Itoa4
namespace Go.Proofs.YtapblcfbmaikjaaGreatDoor
open Go Go.Vc Go.Sort Go.RowKit
set_option maxRecDepth 100000

def bs (l : List UInt8) : ByteArray := ⟨l.toArray⟩
theorem bs_data (l : List UInt8) : (bs l).data.toList = l := rfl
theorem data_bs (s : ByteArray) : bs s.data.toList = s := rfl
theorem bs_size (l : List UInt8) : (bs l).size = l.length := by simp [bs, ByteArray.size]
theorem bs_inj {l m : List UInt8} : bs l = bs m ↔ l = m := ⟨fun h => by rw [← bs_data l, h, bs_data], fun h => by rw [h]⟩
theorem bs_app (a b : List UInt8) : bs a ++ bs b = bs (a ++ b) := by
  apply ByteArray.ext
  simp [bs, ByteArray.data_append]
theorem streq (u v : ByteArray) : (u.toList == v.toList) = decide (u = v) := by
  rw [ByteArray.toList_eq, ByteArray.toList_eq]
  by_cases h : u = v
  · subst h; simp
  · rw [decide_eq_false h]
    refine beq_eq_false_iff_ne.2 fun e => h ?_
    cases u; cases v
    simp only [ByteArray.mk.injEq]
    exact Array.ext' e
theorem bsq (u v : List UInt8) : ((bs u).toList == (bs v).toList) = decide (u = v) := by rw [streq]; exact decide_eq_decide.2 bs_inj

/-- What the store knows of the library's variables: the table of powers. -/
structure Lt (S : Store) : Prop where
  tab : ∃ T z, S.o 0 = some (.cells (Lib.pow10Tab.map fun z => Value.int .u64 z).toArray T z)
theorem gPow : Tryz.prog.globalNamed "internal/strconv.uint64pow10" = some 0 := by kernel_rfl
theorem Lt.le {S S' : Store} (h : S.le S') (hL : Lt S) : Lt S' := by
  obtain ⟨T, z, h4⟩ := hL
  exact ⟨T, z, h.2 _ _ h4⟩
theorem Lt.is {S : Store} (hL : Lt S) {w : World} (h : S.le (Store.of w)) : Lib.TabIs Tryz.prog w "internal/strconv.uint64pow10" .u64 Lib.pow10Tab := by
  obtain ⟨T, z, h1⟩ := hL.tab
  have h2 : w.heap[0]? = some _ := h.2 _ _ h1
  simp only [Lib.TabIs, World.var?, gPow, Option.bind_some, h2]
theorem old_le {S : Store} {w w' : World} (hw : S.le (Store.of w)) (hold : Old w w') : S.le (Store.of w') := Store.le_of hw (fun b hk => hold.block b (by
  rcases Nat.lt_or_ge b w.heap.size with hb | hb
  · exact hb
  · have := Store.lt_of hw hb
    rcases hk with ⟨o, x, hx⟩ | ⟨x, hx⟩
    · rw [this.1 o] at hx; cases hx
    · rw [this.2] at hx; cases hx))
theorem old_below {w w' : World} (h : Go.RowKit.Below w.heap.size w w') : Old w w' := ⟨h.os, h.tape, h.output, h.size, h.block⟩
theorem old_grow (w : World) (k : Nat) (os : Array Obj) : Old w (Go.Sort.grow (w.drewN k) os) := ⟨rfl, rfl, rfl, by simp [grow, World.drewN], fun i hi => by
    show (w.heap ++ os)[i]? = w.heap[i]?
    rw [Array.getElem?_append_left hi]⟩
/-- A contract whose call leaves what was there. -/
theorem pure_old {f : FuncId} {S : Store} {args : List Value} {A : Type} {out : A → SV} {Post : Store → A → Prop} (h : ∀ w : World, S.le (Store.of w) → Calls Tryz.prog f args.toArray w fun e w' => ∃ v x, e = .returned v ∧ (out x).rel [] v ∧ Old w w' ∧ Post S x) :
    Pure Tryz.prog f S args out Post := by
  intro w hw
  refine (h w hw).mono ?_
  rintro e w' ⟨v, x, rfl, hv, hold, hp⟩
  exact ⟨v, x, S, rfl, hv, Store.le_refl _, old_le hw hold, hold, fun _ _ => ⟨fun _ => rfl, rfl⟩, hp⟩
theorem format_spec (S : Store) (hL : Lt S) (n : Int) (hn : inI64 n) : Pure Tryz.prog 91 S [.int .i64 n, .int .i64 10] (A := Unit) (fun _ => rS (bs (Lib.itoa n))) (fun _ _ => True) := by
  refine pure_old fun w hw => ?_
  refine (Tryz.strconv_FormatInt_10 n hn.1 hn.2 w (hL.is hw)).mono ?_
  rintro e w' ⟨rfl, k, os, rfl⟩
  exact ⟨_, (), rfl, ⟨rfl, rfl⟩, old_grow _ _ _, trivial⟩
theorem itoa_spec (S : Store) (hL : Lt S) (n : Int) (hn : inI64 n) : Pure Tryz.prog 94 S [.int .i64 n] (A := Unit) (fun _ => rS (bs (Lib.itoa n))) (fun _ _ => True) := by
  refine pure_old fun w hw => ?_
  refine (Tryz.strconv_Itoa n hn.1 hn.2 w (hL.is hw)).mono ?_
  rintro e w' ⟨rfl, k, os, rfl⟩
  exact ⟨_, (), rfl, ⟨rfl, rfl⟩, old_grow _ _ _, trivial⟩

/-! FormatUint at base 10. -/
theorem fu_small (u : Nat) (hu : u < 100) (w : World) : Calls Tryz.prog 133 #[.int .u64 u, .int .i64 10] w fun e w' => e = .returned (.string ⟨(Lib.decDigits u).toArray⟩) ∧ w' = w := by
  have iu : (u : Int) < 100 := by omega
  have L := Tryz.laysM173
  have e283 : ∀ args w, (callFunc 156 args).run Tryz.prog w = .ok (.enter 156 args) w := enters_of L.f283 (by kernel_rfl) rfl
  go_enter Tryz.func133, Tryz.ntmps133
  go_wp2_with (go_at_fn 156; refine (Any.internal_strconv_small { L with } u hu _).mono ?_; rintro e w' ⟨rfl, rfl⟩)
  go_ret
  exact ⟨rfl, rfl⟩
set_option maxHeartbeats 12800000 in
theorem fu_big (u : Nat) (hu : 100 ≤ u) (hu64 : u < 18446744073709551616) (w : World) (htab : Lib.TabIs Tryz.prog w "internal/strconv.uint64pow10" .u64 Lib.pow10Tab) :
    Calls Tryz.prog 133 #[.int .u64 u, .int .i64 10] w fun e w' => e = .returned (.string ⟨(Lib.decDigits u).toArray⟩) ∧ ∃ k os, w' = grow (w.drewN k) os := by
  have L := Tryz.laysM173
  have mixed := L.mixed
  have e284 : ∀ args w, (callFunc 157 args).run Tryz.prog w = .ok (.enter 157 args) w := enters_of L.f284 (by kernel_rfl) rfl
  have e285 : ∀ args w, (callFunc 158 args).run Tryz.prog w = .ok (.enter 158 args) w := enters_of L.f285 (by kernel_rfl) rfl
  have hu1 : 1 ≤ u := by omega
  have hnd20 : Lib.nDigits u ≤ 20 := by have := Lib.numDigits_eq u hu1 hu64; split at this <;> omega
  have hal : Tryz.prog.arrayLen 247 = 24 := by simp [Program.arrayLen, Tryz.underlying247]
  have hsl : ∀ W, (Instr.sliceAt 247 (.pointer (some ⟨w.heap.size, 0, none⟩)) none (some (.int .i64 (Lib.nDigits u : Int))) none).run Tryz.prog W = .ok (.slice (some ⟨w.heap.size, 0, none⟩) (Lib.nDigits u) 24) W := fun W => by
    rw [run_sliceAt_array_h W 247 ⟨w.heap.size, 0, none⟩ (by simp [Program.arrayLen, Program.elem, Tryz.underlying247]) .i64 (Lib.nDigits u : Int) (by omega) (by rw [hal]; omega)]
    go_simp
  have hH0 := Lib.holds_zero0 w 247 (Lib.nDigits u) (by omega)
  have hfmt := Any.internal_strconv_formatBase10 (P := Tryz.prog) (ρ := Tryz.laysM173_ren) { L with } w.heap.size 0 24 u (Array.replicate (Lib.nDigits u) 0) (w.alloc (.cells Lib.zeros24 247)) hH0 (by rw [Array.size_replicate]; exact Lib.lt_pow_nDigits u) hu64 (by rw [Array.size_replicate]; omega)
  rw [Array.size_replicate] at hfmt
  have HH0 := Lib.hid hH0
  have iu : (100 : Int) ≤ (u : Int) := by omega
  clear hH0 hal
  go_enter Tryz.func133, Tryz.ntmps133
  go_wp2_with (first
    | (go_at_fn 157; refine (Any.internal_strconv_numDigits (P := Tryz.prog) (ρ := Tryz.laysM173_ren) { L with } u hu1 hu64 _ (Lib.tabIs_alloc htab _)).mono ?_; rintro e w' ⟨rfl, rfl⟩))
  go_at_fn 158
  refine hfmt.mono ?_
  rintro e w' ⟨rfl, k, v', dk, rfl, hF⟩
  have hcv : (convert 174 9 (.slice (some ⟨w.heap.size, 0, none⟩) (Lib.nDigits u) 24)).run Tryz.prog ((putRow (fun (b : UInt8) => Value.int .u8 (b.toNat : Int)) (w.alloc (.cells Lib.zeros24 247)) w.heap.size 0 dk).drewN k) = .ok (.string ⟨(Lib.decDigits u).toArray⟩) ((putRow (fun (b : UInt8) => Value.int .u8 (b.toNat : Int)) (w.alloc (.cells Lib.zeros24 247)) w.heap.size 0 dk).drewN k) := by
    have h := run_convert_bytes_back (P := Tryz.prog) ((putRow (fun (b : UInt8) => Value.int .u8 (b.toNat : Int)) (w.alloc (.cells Lib.zeros24 247)) w.heap.size 0 dk).drewN k) 174 9 5 ⟨w.heap.size, 0, none⟩ 24 (Lib.decDigits u) Tryz.underlying174 Tryz.underlying5 Tryz.underlying9 (fun j hj => by
      rw [Lib.row_is_numeral hF j hj, Lib.add_plain, World.cell?_drewN]
      exact cell?_putRow (fun (b : UInt8) => Value.int .u8 (b.toNat : Int)) _ w.heap.size 0 _ dk HH0.out (by rw [hF.size, Array.size_replicate]) j (by rw [hF.size]; rw [Lib.decDigits_length] at hj; exact hj))
    rw [Lib.decDigits_length] at h
    exact h
  go_wp2
  go_ret
  obtain ⟨os, eo⟩ := Lib.fin_at w (.cells Lib.zeros24 247) dk k 0
  exact ⟨rfl, k, os, eo⟩
theorem formatU_spec (S : Store) (hL : Lt S) (n : Int) (hn : inU32 n) : Pure Tryz.prog 92 S [.int .u64 n, .int .i64 10] (A := Unit) (fun _ => rS (bs (Lib.itoa n))) (fun _ _ => True) := by
  obtain ⟨u, rfl⟩ : ∃ u : Nat, n = (u : Int) := ⟨n.toNat, by have := hn.1; omega⟩
  have hu : u ≤ 4294967295 := by have := hn.2; omega
  have h133 : Pure Tryz.prog 133 S [.int .u64 (u : Int), .int .i64 10] (A := Unit) (fun _ => rS (bs (Lib.itoa (u : Int)))) (fun _ _ => True) := by
    refine pure_old fun w hw => ?_
    rw [Lib.itoa_nonneg]
    by_cases h : u < 100
    · refine (fu_small u h w).mono ?_
      rintro e w' ⟨rfl, rfl⟩
      exact ⟨_, (), rfl, ⟨rfl, rfl⟩, ⟨rfl, rfl, rfl, Nat.le_refl _, fun _ _ => rfl⟩, trivial⟩
    · refine (fu_big u (by omega) (by omega) w (hL.is hw)).mono ?_
      rintro e w' ⟨rfl, k, os, rfl⟩
      exact ⟨_, (), rfl, ⟨rfl, rfl⟩, old_grow _ _ _, trivial⟩
  refine pure_vc agrees Tryz.func92 rfl rfl (fun S S' q hle h => h) ?_
  exact ⟨⟨_, rfl, rfl, rfl⟩, .inl ⟨_, _, _, h133, fun S1 _ hS1 _ => ⟨rfl, (), rfl, trivial⟩⟩⟩
theorem join_spec (S : Store) (p : Hd) (sep : List UInt8) (ws : List (List UInt8)) (hw1 : ws ≠ []) (hl : p.2.1 = ws.length) (hc : p.2.1 ≤ p.2.2) (hr : RowRd S p.1 .str (ws.map bs)) (hlen : (Lib.join ws sep).length ≤ 1000000000) (hN : ws.length ≤ 1000000000) :
    Pure Tryz.prog 63 S [slV p, .string (bs sep)] (A := Unit) (fun _ => rS (bs (Lib.join ws sep))) (fun _ _ => True) := by
  refine pure_old fun w hw => ?_
  obtain ⟨p, n, c⟩ := p
  simp only at hl hc hr
  subst hl
  rcases hr.1 with h0 | ⟨b, o, rfl, hrd⟩
  · exact absurd (List.map_eq_nil_iff.1 h0) hw1
  have hcells : ∀ (j : Nat) x, (ws.map bs)[j]? = some x → w.cell? ⟨b, o + j, none⟩ = some (.string x) := by
    intro j x hx
    have e : (ws.map bs).flatMap Shape.str.enc = (ws.map bs).map Value.string := by
      induction ws.map bs with
      | nil => rfl
      | cons a l ih => simp only [List.flatMap_cons, List.map_cons, ih]; rfl
    rw [e] at hrd
    exact hw.1 _ _ _ (hrd j _ (by rw [List.getElem?_map, hx]; rfl))
  have hlt : b < w.heap.size := by
    rcases Nat.lt_or_ge b w.heap.size with h | h
    · exact h
    · exfalso
      cases ws with
      | nil => exact hw1 rfl
      | cons a l =>
        have := hcells 0 (bs a) rfl
        simp [World.cell?, Array.getElem?_eq_none h] at this
  have hj : Lib.join ((ws.map bs).map (·.data.toList)) (bs sep).data.toList = Lib.join ws sep := by
    rw [List.map_map]
    have : ((fun x : ByteArray => x.data.toList) ∘ bs) = id := rfl
    rw [this, List.map_id]
    rfl
  have := Tryz.strings_Join b o c (ws.map bs) (bs sep) w hcells hlt (by rw [List.length_map]; omega) (by rw [List.length_map]; exact hc) (by rw [hj]; omega)
  rw [List.length_map, hj] at this
  refine this.mono ?_
  rintro e w' ⟨rfl, hb⟩
  exact ⟨_, (), rfl, ⟨rfl, rfl⟩, old_below hb, trivial⟩
end Go.Proofs.YtapblcfbmaikjaaGreatDoor
namespace Go.Proofs.YtapblcfbmaikjaaGreatDoor
open Go Go.Vc Go.Sort Go.RowKit Go.Maps
set_option maxRecDepth 100000
set_option maxHeartbeats 8000000

theorem mnew_spec (S : Store) (k : Nat) (hk : 1 ≤ k) (hk8 : k ≤ 8) (q : Hd) (ws : List Li.Wd) (hq : WsIs S q ws) (hne : 0 < ws.length) (hn : ws.length ≤ 8) :
    Pure Tryz.prog 64 S [.int .i64 (k : Int), slV q] (A := Mm) rME (fun S' x => MemIs S' x (Li.initM ws k)) := by
  have hl := hq.len
  obtain ⟨p, n, c⟩ := q
  have hl : n = ws.length := hl
  subst hl
  refine pure_vc agrees Tryz.func64 rfl rfl (fun S S' q hle h => h.le hle) ?_
  refine offE (decide_eq_false (show ¬ (k : Int) < 1 by omega)) ?_
  refine offE (decide_eq_false (show ¬ (k : Int) > 8 by omega)) ?_
  refine offE (show (((ws.length : Nat) : Int) == 0) = false from beq_eq_false_iff_ne.2 (by omega)) ?_
  refine offE (decide_eq_false (show ¬ ((ws.length : Nat) : Int) > 4096 by omega)) ?_
  refine ⟨Int.natCast_nonneg _, Int.le_refl _, by show (8 : Int) * (k : Int) ≤ 140737488355328; omega, by show (k : Int) ≤ 140737488355328; omega, ?_⟩
  refine ⟨[], [(300002, shH, 153)], Nat × List (Hd × List Li.Msg) × Store, [8] ++ List.range' 33 12, fun z => [(32, rI z.1)], fun z => [.box [.v (.slice none 0 0), .v (.slice none 0 0)], .row shV 159 (List.replicate k none), .box [.ref 3, .ref 1], .row shH 153 (z.2.1.map (·.1))], fun z => z.2.2,
    fun z => z.1 ≤ ws.length ∧ S.le z.2.2 ∧ z.2.1.map (·.2) = (ws.take z.1).map (fun w => [⟨w, List.replicate ws.length 0⟩]) ∧ ∀ y ∈ z.2.1, HsIs z.2.2 y.1 y.2, fun z => ws.length - z.1, ?_⟩
  refine And.intro (Exists.intro (0, [], S) (And.intro (And.intro (And.intro ?_ rfl) (And.intro rfl (Store.le_refl _))) ⟨Nat.zero_le _, Store.le_refl _, rfl, fun y hy => by cases hy⟩)) ?_
  · repeat' first | exact trivial | exact rfl | refine And.intro ?_ ?_
  rintro ⟨i, L, S1⟩ ⟨hi, hle, hL, hH⟩
  simp only at hi hle hL hH
  refine And.intro (fun h1 => ?_) (fun h1 => ?_)
  · have h1 : (i : Int) < ((ws.length : Nat) : Int) := of_decide_eq_true h1
    have hin : i < ws.length := by omega
    obtain ⟨x, y, b, o, hm, ⟨hx, hok⟩, hp, hok2, hrd⟩ := (WsIs.le hle hq).at hin
    subst hx
    obtain ⟨w1, w2, w3⟩ := x
    refine ⟨Int.natCast_nonneg _, h1, b, o, hp, ((w1, w2, w3) : Li.Wd), hok2, hrd, ?_⟩
    refine ⟨or64_11, [2, 3], oF64_11, by kernel_rfl, ?_⟩
    have hn := hnew_spec S1 (w1, w2, w3) hok ws.length
    have hLl : L.length = i := by
      have := congrArg List.length hL
      rw [List.length_map, List.length_map, List.length_take] at this; omega
    have hxs : (L.map (·.1)).length = i := by rw [List.length_map, hLl]
    refine And.intro ⟨⟨_, rfl, rfl, rfl⟩, .inl ⟨_, _, _, hn, fun S2 q2 hS2 hq2 => ?_⟩⟩ (And.intro ⟨⟨_, rfl, rfl, rfl⟩, .inl ⟨_, _, _, hn, fun S2 q2 hS2 hq2 => And.intro ?_ (And.intro ?_ trivial)⟩⟩ trivial)
    all_goals
      refine ⟨[q2], ⟨rfl, rfl⟩, fun _ _ => trivial, by show ((List.map Prod.fst L).length + 1) * 24 ≤ 140737488355328; have : (List.map Prod.fst L).length = i := hxs; omega, ((i + 1 : Nat) : Int), wrap_i64 (by omega) (by omega), (i + 1, L ++ [(q2, [⟨(w1, w2, w3), List.replicate ws.length 0⟩])], S2), ⟨⟨?_, rfl⟩, ?_, Store.le_refl _⟩, ⟨hin, Store.le_trans hle hS2, ?_, fun y hy => ?_⟩, ?_⟩
      · repeat' first | exact trivial | exact rfl | refine And.intro ?_ ?_
      · show _ = [Res.box _, Res.row _ _ _, Res.box _, Res.row shH 153 (List.map Prod.fst (L ++ [((q2, [⟨(w1, w2, w3), List.replicate ws.length 0⟩]) : Hd × List Li.Msg)]))]
        rw [List.map_append]; rfl
      · show List.map Prod.snd (L ++ [((q2, [⟨(w1, w2, w3), List.replicate ws.length 0⟩]) : Hd × List Li.Msg)]) = (ws.take (i + 1)).map _
        rw [List.map_append, hL, List.take_add_one, hm, List.map_append]; rfl
      · rcases List.mem_append.1 hy with hy | hy
        · exact (hH y hy).le hS2
        · simp only [List.mem_singleton] at hy; subst hy; exact hq2
      · show ws.length - (i + 1) < ws.length - i
        omega
  · have h1 : ¬ (i : Int) < ((ws.length : Nat) : Int) := of_decide_eq_false h1
    have hin : i = ws.length := by omega
    subst hin
    rw [List.take_length] at hL
    intro p5 c5 S5 hS5 hr5 hpf5 p6 c6 S6 hS6 hr6 hpf6
    refine ⟨rfl, ((p5, (L.map (·.1)).length, c5), (p6, (List.replicate k (none : Option Nat)).length, c6)), rfl, ⟨L, hL, List.length_map .., pform_le hpf5.1, hr5.le hS6, fun z hz => (hH z hz).le (Store.le_trans hS5 hS6)⟩, ⟨List.replicate k ((none : Option Nat), List.replicate ws.length 0), ?_, ?_, pform_le hpf6.1, ?_, fun z hz => ?_⟩⟩
    · rw [List.map_replicate]; rfl
    · show (List.replicate k (none : Option Nat)).length = _
      rw [List.length_replicate, List.length_replicate]
    · rw [List.map_replicate]; exact hr6
    · obtain ⟨-, rfl⟩ := List.mem_replicate.1 hz
      exact vw_nil _ _
@[reducible] def rMcE (x : Mcx) : SV := .tup [(true, cMc x), (false, [.v (.int .i64 0)])]
structure MachIs (S : Store) (x : Mcx) (m : Li.Mem) (l : Li.Ln) (d : List Nat) : Prop where
  m : MemIs S x.1 m
  l : LnIs S x.2.1 l
  d : DidIs S x.2.2.1 d
theorem MachIs.le {S S' : Store} (h : S.le S') {x m l d} (hx : MachIs S x m l d) : MachIs S' x m l d := ⟨hx.m.le h, hx.l.le h, hx.d.le h⟩
theorem znew_spec (S : Store) (k : Nat) (hk : 1 ≤ k) (hk8 : k ≤ 8) (q : Hd) (ws : List Li.Wd) (hq : WsIs S q ws) (hne : 0 < ws.length) (hn : ws.length ≤ 8) :
    Pure Tryz.prog 37 S [.int .i64 (k : Int), slV q] (A := Mcx) rMcE (fun S' x => MachIs S' x (Li.initM ws k) (Li.newL ws) (List.replicate k 0) ∧ x.2.2.2 = 0) := by
  have h1 := mnew_spec S k hk hk8 q ws hq hne hn
  have h2 := fun (S' : Store) (hS : S.le S') => lnew_spec S' q ws (hq.le hS) hne hn
  obtain ⟨p, n, c⟩ := q
  refine pure_vc agrees Tryz.func37 rfl rfl (fun S S' q hle h => ⟨h.1.le hle, h.2⟩) ?_
  refine ⟨⟨_, rfl, rfl, rfl⟩, .inl ⟨_, _, _, h1, fun S1 x hS1 hx => ?_⟩⟩
  refine offE rfl ?_
  refine ⟨⟨_, rfl, rfl, rfl⟩, .inl ⟨_, _, _, h2 S1 hS1, fun S2 y hS2 hy => ?_⟩⟩
  refine offE rfl ?_
  obtain ⟨⟨x1, x2, x3⟩, ⟨x4, x5, x6⟩⟩ := x
  obtain ⟨⟨y1, y2, y3⟩, ⟨y4, y5, y6⟩, yb⟩ := y
  refine ⟨or37_7, [0], oF37_7, by kernel_rfl, ?_⟩
  refine ⟨Int.natCast_nonneg _, Int.le_refl _, by show (8 : Int) * (k : Int) ≤ 140737488355328; omega, by show (k : Int) ≤ 140737488355328; omega, ?_⟩
  intro p5 c5 S5 hS5 hr5 hpf5
  refine ⟨rfl, (((x1, x2, x3), (x4, x5, x6)), ((y1, y2, y3), (y4, y5, y6), yb), (p5, (List.replicate k (0 : Int)).length, c5), 0), rfl, ⟨hx.le (Store.le_trans hS2 hS5), hy.le hS5, ?_, ?_, ?_⟩, rfl⟩
  · show (List.replicate k (0 : Int)).length = _
    rw [List.length_replicate, List.length_replicate]
  · have := pform_le hpf5.1
    rw [List.length_replicate]
    have : (List.replicate k (0 : Int)).length ≤ c5 := this
    rw [List.length_replicate] at this; exact this
  · rw [List.map_replicate]; exact hr5
end Go.Proofs.YtapblcfbmaikjaaGreatDoor
namespace Go.Proofs.YtapblcfbmaikjaaGreatDoor
open Go Go.Vc Go.Sort Go.RowKit Go.Maps
set_option maxRecDepth 100000
set_option maxHeartbeats 8000000

theorem ws_row {S : Store} {q : Hd} {ws : List Li.Wd} (h : WsIs S q ws) : q.2.1 = ws.length ∧ ws.length ≤ q.2.2 ∧ RowRd S q.1 shW ws ∧ ∀ w ∈ ws, okW w := by
  obtain ⟨L, rfl, h2, h3, h4, h5⟩ := h
  have e : L.map (·.1) = L.map (·.2) := List.map_congr_left fun z hz => (h5 z hz).1
  refine ⟨by rw [List.length_map]; exact h2, by rw [List.length_map, ← h2]; exact h3, by rw [← e]; exact h4, fun w hw => ?_⟩
  obtain ⟨z, hz, rfl⟩ := List.mem_map.1 hw
  exact (h5 z hz).2
theorem ws_of {S : Store} {p : Option Addr} {c : Nat} {ws : List Li.Wd} (hp : PForm p ws.length c) (hr : RowRd S p shW ws) (hok : ∀ w ∈ ws, okW w) : WsIs S (p, ws.length, c) ws :=
  ⟨ws.map fun w => (w, w), by rw [List.map_map]; exact List.map_id ws, by show ws.length = _; rw [List.length_map], pform_le hp, by rw [List.map_map, show ((fun x : Li.Wd × Li.Wd => x.1) ∘ fun w : Li.Wd => (w, w)) = id from rfl, List.map_id]; exact hr, fun z hz => by obtain ⟨w, hw, rfl⟩ := List.mem_map.1 hz; exact ⟨rfl, hok w hw⟩⟩
theorem wnew_spec (S : Store) (q : Hd) (ws : List Li.Wd) (hq : WsIs S q ws) (hne : 0 < ws.length) (hn : ws.length ≤ 1000) : SpecN Tryz.prog 99 S [slV q] (A := Unit) (fun _ => .c (.ref 0)) (fun _ => [.row shW 35 ws]) (fun _ _ => True) := by
  obtain ⟨hl, -, hr, -⟩ := ws_row hq
  obtain ⟨p, n, c⟩ := q
  have hl : n = ws.length := hl
  subst hl
  have hr : RowRd S p shW ws := hr
  refine specN_vc agrees Tryz.func99 rfl rfl (fun _ _ _ _ h => h) ?_
  cases hp : p with
  | none =>
    subst hp
    rcases hr.1 with e | ⟨b, o, e, -⟩
    · exfalso; rw [e] at hne; simp at hne
    · cases e
  | some a =>
    subst hp
    exact onF ⟨ws, src_of rfl hr, fun y hy => hr.2 y hy, by show (0 + ws.length) * 16 ≤ 140737488355328; omega, [0], (), rfl, rfl, rfl, trivial⟩
theorem mix_le (c : Int) (many : Nat) : Li.mixL c many ≤ many := by
  unfold Li.mixL
  split
  · exact Nat.zero_le _
  split
  · exact Nat.le_refl _
  · have := Nat.mod_lt (c % 1009 * 31 % 1009).toNat (show 0 < many + 1 by omega)
    omega
theorem more_spec (S : Store) (g : Nat) (c : Int) (hc : inI64 c) (hg : S.rd g 0 [.int .i64 c]) (many : Nat) (hm : many ≤ 1000000) : Pure Tryz.prog 102 S [.int .i64 0, .int .i64 (many : Int), .pointer (some ⟨g, 0, none⟩)] (A := Unit) (fun _ => rI (Li.mixL c many : Nat)) (fun _ _ => True) := by
  refine pure_vc agrees Tryz.func102 rfl rfl (fun S S' q hle h => h) ?_
  refine ⟨c, trivial, hg, ?_⟩
  exact ⟨⟨_, rfl, rfl, rfl⟩, .inl ⟨_, _, _, mix_spec S c hc many hm, fun S1 _ hS1 _ => ⟨rfl, (), rfl, trivial⟩⟩⟩
theorem left_spec (S : Store) (x : Lx) (n : Nat) (l : Li.Ln) (hx : LnIs S x l) (hol : Li.okL n l) (hn0 : 0 < n) (hn : n ≤ 8) (hs : l.st.length ≤ 100000) (g : Nat) (c : Int) (hc : inI64 c) (hg : S.rd g 0 [.int .i64 c]) :
    Pure Tryz.prog 101 S [vL x, .func (.func 102) #[] #[.pointer (some ⟨g, 0, none⟩)]] (A := Hd) rSl (fun S' q => WsIs S' q (Li.crashL l c)) := by
  have hf := hx.f
  have hfl := hol.len
  have hk := hol.kept
  obtain ⟨st, g1, g2, g3, g4⟩ := hx.g
  obtain ⟨⟨fp, fn, fc⟩, ⟨p, n1, cc⟩, b⟩ := x
  have g1 : n1 = 1 := g1
  subst g1
  have hfok := (ws_row hf).2.2.2
  obtain ⟨sp, sn, sc⟩ := st
  have hsn : sn = l.st.length := g4.len
  have hsc := g4.cap
  have hmx := mix_le c (l.st.length - l.kept)
  obtain ⟨M, hM⟩ : ∃ M, M = Li.mixL c (l.st.length - l.kept) := ⟨_, rfl⟩
  rw [← hM] at hmx
  have hcr : Li.crashL l c = Li.putL l.first (l.st.take (l.kept + M)) := by unfold Li.crashL; rw [hM]
  subst hsn
  have hsc : l.st.length ≤ sc := hsc
  refine pure_vc agrees Tryz.func101 rfl rfl (fun S S' q hle h => h.le hle) ?_
  refine ⟨⟨_, rfl, rfl, rfl⟩, .inr (.inr (.inr (.inr (.inl ⟨_, _, _, _, wnew_spec S (fp, fn, fc) l.first hf (by omega) (by omega), fun S1 _ hS1 _ => ?_⟩))))⟩
  refine ⟨[], [], Nat × List Li.Wd, [6, 7, 8, 9] ++ List.range' 17 32, fun z => [(16, rI z.1)], fun z => [.box [.v (.slice fp fn fc), .v (.slice p 1 cc), .v (.map b)], .row shW 35 z.2], fun _ => S1,
    fun z => (z.1 = 0 ∧ z.2 = l.first) ∨ (z.1 = 1 ∧ z.2 = Li.crashL l c ∧ ∀ w ∈ z.2, okW w), fun z => 1 - z.1, ?_⟩
  refine And.intro (Exists.intro (0, l.first) (And.intro (And.intro (And.intro ?_ rfl) (And.intro rfl (Store.le_refl _))) (.inl ⟨rfl, rfl⟩))) ?_
  · repeat' first | exact trivial | exact rfl | refine And.intro ?_ ?_
  rintro ⟨i, ws⟩ hi
  simp only at hi
  rcases hi with ⟨rfl, rfl⟩ | ⟨rfl, hws, hok⟩
  · refine onE (decide_eq_true (show ((0 : Nat) : Int) < ((1 : Nat) : Int) by decide)) ?_
    obtain ⟨b1, o1, hp, hok2, hrd⟩ := row_at (g3.le hS1) (i := 0) (x := ((sp, l.st.length, sc), (l.kept : Int))) rfl
    refine ⟨Int.le_refl _, (show ((0 : Nat) : Int) < ((1 : Nat) : Int) by decide), b1, o1, hp, ((sp, l.st.length, sc), (l.kept : Int)), hok2, hrd, ?_⟩
    refine ⟨or101_5, [], oF101_5, by kernel_rfl, ?_⟩
    have w1 : IntKind.i64.wrap (((l.st.length : Nat) : Int) - (l.kept : Int)) = ((l.st.length - l.kept : Nat) : Int) := by rw [wrap_i64 (by omega) (by omega)]; omega
    have w2 : IntKind.i64.wrap ((l.kept : Int) + (M : Int)) = ((l.kept + M : Nat) : Int) := by rw [wrap_i64 (by omega) (by omega)]; omega
    have hmore := more_spec S1 g c hc (Store.rd_le hS1 hg) (l.st.length - l.kept) (by omega)
    rw [← hM] at hmore
    refine ⟨_, w1, 102, #[], _, rfl, rfl, fun v hv => by simp at hv; subst hv; rfl, ⟨_, rfl, rfl, rfl⟩, .inl ⟨_, _, _, hmore, fun S2 _ hS2 _ => ?_⟩⟩
    refine ⟨_, w2, Int.natCast_nonneg _, (show l.kept + M ≤ sc by omega), ?_⟩
    have hS02 := Store.le_trans hS1 hS2
    obtain ⟨T, hT⟩ : ∃ T, T = l.st.take (l.kept + M) := ⟨_, rfl⟩
    have hTl : T.length = l.kept + M := by rw [hT, List.length_take]; omega
    rw [← hT] at hcr
    refine ⟨[], [], Nat × List Li.Wd, [9] ++ List.range' 38 10, fun z => [(37, rI z.1)], fun z => [.box [.v (.slice fp fn fc), .v (.slice p 1 cc), .v (.map b)], .row shW 35 z.2, .box [.v (.slice sp l.st.length sc), .v (.int .i64 (l.kept : Int))]], fun _ => S2,
      fun z => z.1 ≤ T.length ∧ z.2 = Li.putL l.first (T.take z.1) ∧ ∀ w ∈ z.2, okW w, fun z => T.length - z.1, ?_⟩
    refine And.intro (Exists.intro (0, l.first) (And.intro (And.intro (And.intro ?_ rfl) (And.intro rfl (Store.le_refl _))) ⟨Nat.zero_le _, rfl, hfok⟩)) ?_
    · repeat' first | exact trivial | exact rfl | refine And.intro ?_ ?_
    rintro ⟨j, ws⟩ ⟨hj, hws, hok⟩
    simp only at hj hws hok
    refine And.intro (fun h1 => ?_) (fun h1 => ?_)
    · have h1 : (j : Int) < ((l.kept + M : Nat) : Int) := of_decide_eq_true h1
      have hjT : j < l.kept + M := by omega
      obtain ⟨⟨ya, y1, y2, y3⟩, ⟨pa, pw⟩, b2, o2, hm, ⟨hy1, hy2, hy3⟩, hp2, hok3, hrd2⟩ := (TsIs.le hS02 g4).at (i := j) (by omega)
      have hy1 : ya = ((pa : Nat) : Int) := hy1
      have hy2 : (y1, y2, y3) = pw := hy2
      subst hy1 hy2
      refine ⟨Int.natCast_nonneg _, h1, b2, o2, hp2, (((pa : Nat) : Int), (y1, y2, y3)), hok3, hrd2, ?_⟩
      have hlw : ws.length = n := by rw [hws, Li.put_len]; exact hfl
      have hpr : pa < n := hol.st (pa, (y1, y2, y3)) (List.mem_of_getElem? hm)
      have hTj : T[j]? = some (pa, (y1, y2, y3)) := by rw [hT, List.getElem?_take, if_pos hjT]; exact hm
      refine ⟨Int.natCast_nonneg _, by show ((pa : Nat) : Int) < (ws.length : Int); omega, ?_⟩
      refine ⟨_, ((y1, y2, y3) : Li.Wd), List.getElem?_eq_getElem (show pa < ws.length by omega), ⟨trivial, trivial, trivial⟩, rfl, by show 0 + 3 ≤ 3; decide, ?_⟩
      refine ⟨((j + 1 : Nat) : Int), wrap_i64 (by omega) (by omega), (j + 1, ws.set pa (y1, y2, y3)), ⟨⟨?_, rfl⟩, rfl, Store.le_refl _⟩, ⟨by show j + 1 ≤ T.length; omega, ?_, fun w hw => ?_⟩, ?_⟩
      · repeat' first | exact trivial | exact rfl | refine And.intro ?_ ?_
      · show ws.set pa (y1, y2, y3) = Li.putL l.first (T.take (j + 1))
        rw [List.take_add_one, hTj]
        show _ = Li.putL l.first (T.take j ++ [(pa, (y1, y2, y3))])
        unfold Li.putL
        rw [List.foldl_append, hws]
        rfl
      · rcases List.mem_or_eq_of_mem_set hw with hw | hw
        · exact hok w hw
        · subst hw; exact hy3
      · show T.length - (j + 1) < T.length - j
        omega
    · have h1 : ¬ (j : Int) < ((l.kept + M : Nat) : Int) := of_decide_eq_false h1
      have hjT : j = T.length := by omega
      subst hjT
      rw [List.take_length] at hws
      refine ⟨((1 : Nat) : Int), rfl, (1, ws), ⟨⟨?_, rfl⟩, rfl, hS2⟩, .inr ⟨rfl, by show ws = _; rw [hcr]; exact hws, hok⟩, Nat.lt_succ_self 0⟩
      repeat' first | exact trivial | exact rfl | refine And.intro ?_ ?_
  · refine offE (decide_eq_false (show ¬ ((1 : Nat) : Int) < ((1 : Nat) : Int) by decide)) ?_
    intro p5 c5 S5 hS5 hr5 hpf5
    have := ws_of hpf5.1 hr5 hok
    refine ⟨rfl, (p5, ws.length, c5), rfl, ?_⟩
    show WsIs S5 (p5, ws.length, c5) (Li.crashL l c)
    rw [← hws]; exact this
theorem lcrash_spec (S : Store) (x : Lx) (n : Nat) (l : Li.Ln) (hx : LnIs S x l) (hol : Li.okL n l) (hn0 : 0 < n) (hn : n ≤ 8) (hs : l.st.length ≤ 100000) (c : Int) (hc : inI64 c) :
    Pure Tryz.prog 67 S [vL x, .int .i64 c] (A := Hd) rSl (fun S' q => WsIs S' q (Li.crashL l c)) := by
  have hh := fun (S' : Store) (hS : S.le S') (g : Nat) (hg : S'.rd g 0 [.int .i64 c]) => left_spec S' x n l (hx.le hS) hol hn0 hn hs g c hc hg
  obtain ⟨⟨fp, fn, fc⟩, ⟨p, n1, cc⟩, b⟩ := x
  refine pure_vc agrees Tryz.func67 rfl rfl (fun S S' q hle h => h.le hle) ?_
  refine ⟨⟨_, rfl, rfl, rfl⟩, .inl fun g S1 hS1 hg => ?_⟩
  exact ⟨_, _, _, hh S1 hS1 g hg.1, fun S2 q hS2 hq => ⟨rfl, q, rfl, hq⟩⟩
theorem zcrash_spec (S : Store) (x : Mcx) (n : Nat) (m : Li.Mem) (l : Li.Ln) (d : List Nat) (hx : MachIs S x m l d) (hf : fewM n m) (hol : Li.okL n l) (hn0 : 0 < n) (hn : n ≤ 8) (hv0 : 0 < m.vs.length) (hv8 : m.vs.length ≤ 8) (hdl : d.length = m.vs.length) (hs : l.st.length ≤ 100000) (hx4 : 0 ≤ x.2.2.2 ∧ x.2.2.2 ≤ 100000) (c : Int) (hc : inI64 c) :
    Pure Tryz.prog 38 S [vMc x, .int .i64 c] (A := Mcx) rMc (fun S' y => MachIs S' y (Li.initM (Li.crashL l c) m.vs.length) (Li.newL (Li.crashL l c)) d ∧ y.2.2.2 = x.2.2.2 + 1) := by
  have hsz := zsize_spec S x m hx.m
  have hml := hf.ok.len
  have hcl := Li.crash_len hol c
  have hlc := fun (S' : Store) (hS : S.le S') => lcrash_spec S' x.2.1 n l (hx.l.le hS) hol hn0 hn hs c hc
  obtain ⟨⟨⟨p, np, c1⟩, ⟨p2, n2, c2⟩⟩, ⟨⟨⟨fp, fn, fc⟩, ⟨p3, n3, c3⟩, b⟩, ⟨⟨ep, en, ec⟩, ei⟩⟩⟩ := x
  obtain ⟨d1, d2, d3⟩ := hx.d
  have d1 : en = d.length := d1
  subst d1
  refine pure_vc agrees Tryz.func38 rfl rfl (fun S S' q hle h => ⟨h.1.le hle, h.2⟩) ?_
  refine ⟨⟨_, rfl, rfl, rfl⟩, .inl ⟨_, _, _, hsz, fun S1 _ hS1 _ => ?_⟩⟩
  refine offE (show (((m.vs.length : Nat) : Int) == 0) = false from beq_eq_false_iff_ne.2 (by omega)) ?_
  refine offE (show (((m.ms.length : Nat) : Int) == 0) = false from beq_eq_false_iff_ne.2 (by omega)) ?_
  refine ⟨⟨_, rfl, rfl, rfl⟩, .inl ⟨_, _, _, hlc S1 hS1, fun S2 q hS2 hq => ?_⟩⟩
  refine ⟨⟨_, rfl, rfl, rfl⟩, .inl ⟨_, _, _, znew_spec S2 m.vs.length hv0 hv8 q (Li.crashL l c) hq (by omega) (by omega), fun S3 y hS3 hy => ?_⟩⟩
  refine offE rfl ?_
  have hS03 := Store.le_trans hS1 (Store.le_trans hS2 hS3)
  obtain ⟨⟨⟨y1, y2, y3⟩, ⟨y4, y5, y6⟩⟩, ⟨⟨⟨z1, z2, z3⟩, ⟨z4, z5, z6⟩, zb⟩, ⟨⟨u1, u2, u3⟩, ui⟩⟩⟩ := y
  have w1 : IntKind.i64.wrap (ei + 1) = ei + 1 := wrap_i64 (by have : 0 ≤ ei := hx4.1; omega) (by have : ei ≤ 100000 := hx4.2; omega)
  have hic := fun (S' : Store) (hS : S.le S') => iclone_spec S' (ep, d.length, ec) (d.map fun i : Nat => (i : Int)) (List.length_map ..).symm (by rw [List.length_map]; omega) (d3.le hS) (by rw [List.length_map]; omega)
  have fin : ∀ (S5 : Store) (p5 : Option Addr) (c5 : Nat), S3.le S5 → PForm p5 (d.map fun i : Nat => (i : Int)).length c5 → RowRd S5 p5 shI (d.map fun i : Nat => (i : Int)) → DidIs S5 (p5, (d.map fun i : Nat => (i : Int)).length, c5) d := fun S5 p5 c5 h5 hp hr => by
    refine ⟨by show (d.map fun i : Nat => (i : Int)).length = _; rw [List.length_map], ?_, hr⟩
    have := pform_le hp
    rw [List.length_map] at this; exact this
  refine ⟨or38_7, [2], oF38_7, by kernel_rfl, ?_⟩
  refine And.intro ⟨⟨_, rfl, rfl, rfl⟩, .inr (.inr (.inr (.inr (.inl ⟨_, _, _, _, hic S3 hS03, fun S4 _ hS4 _ => And.intro ⟨_, w1, ?_⟩ (And.intro ⟨_, w1, ?_⟩ trivial)⟩))))⟩ (And.intro ⟨_, w1, ⟨_, rfl, rfl, rfl⟩, .inr (.inr (.inr (.inr (.inl ⟨_, _, _, _, hic S3 hS03, fun S4 _ hS4 _ => ?_⟩))))⟩ trivial)
  all_goals
    intro p5 c5 S5 hS5 hr5 hpf5
    exact ⟨rfl, (((y1, y2, y3), (y4, y5, y6)), ((z1, z2, z3), (z4, z5, z6), zb), (p5, (d.map fun i : Nat => (i : Int)).length, c5), ei + 1), rfl, ⟨hy.1.m.le (Store.le_trans hS4 hS5), hy.1.l.le (Store.le_trans hS4 hS5), fin S5 p5 c5 (Store.le_trans hS4 hS5) hpf5.1 hr5⟩, rfl⟩
end Go.Proofs.YtapblcfbmaikjaaGreatDoor
