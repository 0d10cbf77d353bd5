/- law58: numerals: strconv's functions, by the kit's contracts. -/
import Derived.Test.YtpfghndflegbaaaDoorFj
import Derived.Test.YtpfghndflegbaaaDoorSh
import Derived.Test.YtpfghndflegbaaaDoorLs
import Derived.Lib.ParseIntBTie
namespace Go.Proofs.YtpfghndflegbaaaDoor
open Go Go.Vc Go.Sort
set_option maxRecDepth 100000

@[reducible] def rS (s : ByteArray) : SV := .c (.v (.string s))
def bs (l : List UInt8) : ByteArray := ⟨l.toArray⟩
theorem bs_data (l : List UInt8) : (bs l).data.toList = l := rfl
theorem bs_size (l : List UInt8) : (bs l).size = l.length := by simp [bs, ByteArray.size]
theorem bs_inj {l m : List UInt8} : bs l = bs m ↔ l = m := ⟨fun h => by rw [← bs_data l, h, bs_data], fun h => by rw [h]⟩
theorem bs_app (a b : List UInt8) : bs a ++ bs b = bs (a ++ b) := by
  apply ByteArray.ext
  simp [bs, ByteArray.data_append]
theorem streq (u v : ByteArray) : (u.toList == v.toList) = decide (u = v) := by
  rw [ByteArray.toList_eq, ByteArray.toList_eq]
  by_cases h : u = v
  · subst h; simp
  · rw [decide_eq_false h]
    refine beq_eq_false_iff_ne.2 fun e => h ?_
    cases u; cases v
    simp only [ByteArray.mk.injEq]
    exact Array.ext' e

theorem gPow : Tryd.prog.globalNamed "internal/strconv.uint64pow10" = some 2 := by kernel_rfl
/-- What the store knows of the library's variables. -/
def Lw (S : Store) : Prop := ∃ T z, S.o 2 = some (.cells (Lib.pow10Tab.map fun z => Value.int .u64 z).toArray T z)
theorem Lw.le {S S' : Store} (h : S.le S') (hL : Lw S) : Lw S' := by
  obtain ⟨T, z, h4⟩ := hL
  exact ⟨T, z, h.2 _ _ h4⟩
theorem Lw.is {S : Store} (hL : Lw S) {w : World} (h : S.le (Store.of w)) : Lib.TabIs Tryd.prog w "internal/strconv.uint64pow10" .u64 Lib.pow10Tab := by
  obtain ⟨T, z, h1⟩ := hL
  have h2 : w.heap[2]? = some _ := h.2 _ _ h1
  simp only [Lib.TabIs, World.var?, gPow, Option.bind_some, h2]

theorem old_le {S : Store} {w w' : World} (hw : S.le (Store.of w)) (hold : Old w w') : S.le (Store.of w') := Store.le_of hw (fun b hk => hold.block b (by
  rcases Nat.lt_or_ge b w.heap.size with hb | hb
  · exact hb
  · have := Store.lt_of hw hb
    rcases hk with ⟨o, x, hx⟩ | ⟨x, hx⟩
    · rw [this.1 o] at hx; cases hx
    · rw [this.2] at hx; cases hx))
theorem _root_.Go.Vc.Old.refl (w : World) : Old w w := ⟨rfl, rfl, rfl, Nat.le_refl _, fun _ _ => rfl⟩
/-- A contract whose call leaves what was there. -/
theorem pure_old {f : FuncId} {S : Store} {args : List Value} {A : Type} {out : A → SV} {Post : Store → A → Prop} (h : ∀ w : World, S.le (Store.of w) → Calls Tryd.prog f args.toArray w fun e w' => ∃ v x, e = .returned v ∧ (out x).rel [] v ∧ Old w w' ∧ Post S x) :
    Pure Tryd.prog f S args out Post := by
  intro w hw
  refine (h w hw).mono ?_
  rintro e w' ⟨v, x, rfl, hv, hold, hp⟩
  exact ⟨v, x, S, rfl, hv, Store.le_refl _, old_le hw hold, hold, fun _ _ => ⟨fun _ => rfl, rfl⟩, hp⟩
theorem old_grow (w : World) (k : Nat) (os : Array Obj) : Old w (grow (w.drewN k) os) := ⟨rfl, rfl, rfl, by simp [grow, World.drewN], fun i hi => by
    show (w.heap ++ os)[i]? = w.heap[i]?
    rw [Array.getElem?_append_left hi]⟩

theorem itoa_spec (S : Store) (hL : Lw S) (n : Int) (hn : inI64 n) : Pure Tryd.prog 44 S [.int .i64 n] (A := Unit) (fun _ => rS (bs (Lib.itoa n))) (fun _ _ => True) := by
  refine pure_old fun w hw => ?_
  refine (Tryd.strconv_Itoa n hn.1 hn.2 w (hL.is hw)).mono ?_
  rintro e w' ⟨rfl, k, os, rfl⟩
  exact ⟨_, (), rfl, ⟨rfl, rfl⟩, old_grow _ _ _, trivial⟩
theorem format_spec (S : Store) (hL : Lw S) (n : Int) (hn : inI64 n) : Pure Tryd.prog 31 S [.int .i64 n, .int .i64 10] (A := Unit) (fun _ => rS (bs (Lib.itoa n))) (fun _ _ => True) := by
  refine pure_old fun w hw => ?_
  refine (Tryd.strconv_FormatInt_10 n hn.1 hn.2 w (hL.is hw)).mono ?_
  rintro e w' ⟨rfl, k, os, rfl⟩
  exact ⟨_, (), rfl, ⟨rfl, rfl⟩, old_grow _ _ _, trivial⟩
theorem parse_itoa {n : Int} (hn : inI64 n) : Lib.parseIntB 64 (Lib.itoa n) = .ok n := by
  rw [Lib.parseIntB_64, Txt.atoi_canon (Txt.canon_itoa n), Txt.val_itoa]
  exact if_pos hn
theorem parse_spec (S : Store) (n : Int) (hn : inI64 n) : Pure Tryd.prog 29 S [.string (bs (Lib.itoa n)), .int .i64 10, .int .i64 64] (A := Unit) (fun _ => .tup [(false, [.v (.int .i64 n)]), (false, [.v .nilIface])]) (fun _ _ => True) := by
  refine pure_old fun w hw => ?_
  have hsz := Txt.itoa_len hn.1 hn.2
  refine (Tryd.strconv_ParseInt_10_at64_ok (bs (Lib.itoa n)) (by rw [bs_size]; omega) n (parse_itoa hn) w).mono ?_
  rintro e w' ⟨rfl, hw'⟩
  have : Old w w' := by
    rcases hw' with rfl | ⟨t, rfl⟩
    · exact Old.refl _
    · exact ⟨rfl, rfl, rfl, by rw [Lib.bytesWorld_size]; omega, fun k hk => Lib.bytesWorld_at_old w 5 t k hk⟩
  exact ⟨_, (), rfl, ⟨[_, _], rfl, ⟨rfl, rfl⟩, ⟨rfl, rfl⟩, trivial⟩, this, trivial⟩
end Go.Proofs.YtpfghndflegbaaaDoor
