/- law09: basics: shapes, what the store knows of words, views, messages, memories. views: At, With, Join. rows of things; histories: New, Len, At, Last, Add, Choose. the memory: Size, thread, place, wrong, Seen, History, Last, with. -/
import Derived.Test.YtapblcfbmaikjaaGreatDoorTt
import Derived.Test.YtapblcfbmaikjaaGreatDoorVcP
import Derived.Test.YtapblcfbmaikjaaGreatDoorOr
import Derived.Test.YtapblcfbmaikjaaGreatDoorPa
import Derived.Test.YtapblcfbmaikjaaGreatDoorLm
import Derived.Test.YtapblcfbmaikjaaGreatDoorSi
namespace Go.Proofs.YtapblcfbmaikjaaGreatDoor
open Go Go.Vc
set_option maxRecDepth 100000

@[reducible] def shI : Shape := .int .i64
@[reducible] def shW : Shape := .st (.pair (.int .i64) (.pair (.int .u32) (.int .u32)))
@[reducible] def shA : Shape := .st (.pair (.int .i64) (.pair (.int .i64) (.pair shW shW)))
@[reducible] def shV : Shape := .st .map
@[reducible] def shM : Shape := .st (.pair shW (.pair (.int .i64) shV))
@[reducible] def shP : Shape := .st (.pair (.int .i64) (.pair (.int .i64) (.int .i64)))
@[reducible] def shH : Shape := .st .slice
@[reducible] def rB (b : Bool) : SV := .c (.v (.bool b))
@[reducible] def rI (n : Int) : SV := .c (.v (.int .i64 n))
@[reducible] def rS (s : ByteArray) : SV := .c (.v (.string s))
abbrev Hd := Option Addr × Nat × Nat
@[reducible] def slV (p : Hd) : Value := .slice p.1 p.2.1 p.2.2
@[reducible] def rSl (p : Hd) : SV := .c (.v (slV p))
@[reducible] def vW (w : Li.Wd) : Value := .agg #[.int .i64 w.1, .int .u32 w.2.1, .int .u32 w.2.2]
@[reducible] def cW (w : Li.Wd) : List C := [.v (.int .i64 w.1), .v (.int .u32 w.2.1), .v (.int .u32 w.2.2)]
@[reducible] def rW (w : Li.Wd) : SV := .agg (cW w)
theorem onE {b : Bool} {p q : Prop} (hb : b = true) (h : p) : (b = true → p) ∧ (b = false → q) := ⟨fun _ => h, fun e => (by rw [hb] at e; cases e)⟩
theorem offE {b : Bool} {p q : Prop} (hb : b = false) (h : q) : (b = true → p) ∧ (b = false → q) := ⟨fun e => (by rw [hb] at e; cases e), fun _ => h⟩
def inI64 (x : Int) : Prop := -9223372036854775808 ≤ x ∧ x ≤ 9223372036854775807
def inU32 (x : Int) : Prop := 0 ≤ x ∧ x ≤ 4294967295
theorem pform_le {p : Option Addr} {n c : Nat} (h : PForm p n c) : n ≤ c := by
  rcases h with ⟨-, h, h2⟩ | ⟨g, -, h⟩
  · omega
  · exact h
/-- A word's parts are in range. -/
def okW (w : Li.Wd) : Prop := inI64 w.1 ∧ inU32 w.2.1 ∧ inU32 w.2.2
theorem okW_0 : okW (0, 0, 0) := ⟨⟨by decide, by decide⟩, ⟨by decide, by decide⟩, ⟨by decide, by decide⟩⟩
theorem mget_mset' {V : Type} (es : List (Int × V)) (y : Int) (v : V) (x : Int) : mget shI (mset shI es y v) x = if x = y then some v else mget shI es x := by
  rw [mget_mset (k := shI) rfl]
  by_cases hx : x = y
  · rw [if_pos hx, if_pos (show shI.eq x y = true from beq_iff_eq.2 hx)]
  · rw [if_neg hx, if_neg (show ¬ shI.eq x y = true from fun q => hx (beq_iff_eq.1 q))]

/-- A view: a map that holds what the list holds. -/
@[reducible] def imax (a b : Int) : Int := if b > a then b else a
theorem imax_max (a b : Int) : imax a b = max a b := by unfold imax; split <;> omega
def vAt (v : List Nat) (x : Int) : Int := if 0 ≤ x then ((v.getD x.toNat 0 : Nat) : Int) else 0
def VwIs (S : Store) (b : Option Nat) (v : List Nat) : Prop := ∃ es : List (Int × Int), MapRd S b shI shI es ∧ keysOnce (k := shI) es ∧ ∀ x : Int, (mget shI es x).getD (0 : Int) = vAt v x
theorem VwIs.le {S S' : Store} (h : S.le S') {b v} (hx : VwIs S b v) : VwIs S' b v := by
  obtain ⟨es, h1, h2⟩ := hx; exact ⟨es, h1.le h, h2⟩
theorem vAt_zero (n : Nat) (x : Int) : vAt (List.replicate n 0) x = 0 := by
  unfold vAt
  split
  · rw [Li.zero_at]; rfl
  · rfl
theorem vw_nil (S : Store) (n : Nat) : VwIs S none (List.replicate n 0) := ⟨[], rfl, once_nil, fun x => (vAt_zero n x).symm⟩
@[reducible] def vV (b : Option Nat) : Value := .agg #[.map b]
@[reducible] def rV (b : Option Nat) : SV := .agg [.v (.map b)]
theorem vAt_nat (v : List Nat) (a : Nat) : vAt v (a : Int) = ((v.getD a 0 : Nat) : Int) := by
  unfold vAt; rw [if_pos (Int.natCast_nonneg _), Int.toNat_natCast]
theorem vAt_with {v : List Nat} {a i : Nat} (ha : a < v.length) (hlt : v.getD a 0 < i) (x : Int) : vAt (Li.withV v a i) x = if x = (a : Int) then (i : Int) else vAt v x := by
  unfold vAt
  by_cases h0 : 0 ≤ x
  · rw [if_pos h0, if_pos h0, Li.with_at]
    by_cases hx : x = (a : Int)
    · have : a = x.toNat := by omega
      rw [if_pos ⟨this, ha⟩, if_pos hx, ← this]; omega
    · rw [if_neg (fun q => hx (by omega)), if_neg hx]
  · rw [if_neg h0, if_neg h0, if_neg (by omega)]
theorem vAt_join {v u : List Nat} (h : v.length = u.length) (x : Int) : vAt (Li.joinV v u) x = max (vAt v x) (vAt u x) := by
  unfold vAt
  by_cases h0 : 0 ≤ x
  · rw [if_pos h0, if_pos h0, if_pos h0, Li.join_at h]; omega
  · rw [if_neg h0, if_neg h0, if_neg h0]; rfl
theorem vAt_nonneg (v : List Nat) (x : Int) : 0 ≤ vAt v x := by
  unfold vAt; split
  · exact Int.natCast_nonneg _
  · exact Int.le_refl _
end Go.Proofs.YtapblcfbmaikjaaGreatDoor
namespace Go.Proofs.YtapblcfbmaikjaaGreatDoor
open Go Go.Vc Go.Sort Go.RowKit Go.Maps
set_option maxRecDepth 100000
set_option maxHeartbeats 4000000

theorem vclone_spec (S : Store) (b : Nat) (es : List (Int × Int)) (hm : MapRd S (some b) shI shI es) : SpecN Tryz.prog 179 S [.map (some b)] (A := Unit) (fun _ => .c (.ref 0)) (fun _ => [.map shI shI es]) (fun _ _ => True) :=
  specN_clone hm fun ents clock w hb => AnyW.maps_Clone Tryz.layClone b ents clock w hb
theorem vclone_nil_spec (S : Store) : Pure Tryz.prog 179 S [.map none] (A := Unit) (fun _ => .c (.v (.map none))) (fun _ _ => True) :=
  pure_clone_nil fun w => AnyW.maps_Clone_nil Tryz.layClone w
theorem vat_spec (S : Store) (b : Option Nat) (v : List Nat) (x : Int) (hv : VwIs S b v) : Pure Tryz.prog 85 S [vV b, .int .i64 x] (A := Unit) (fun _ => rI (vAt v x)) (fun _ _ => True) := by
  obtain ⟨es, h1, -, h3⟩ := hv
  refine pure_vc agrees Tryz.func85 rfl rfl (fun S S' q hle h => h) ?_
  exact ⟨es, h1, x, (0 : Int), rfl, rfl, rfl, (), (show rI (vAt v x) = rI ((mget shI es x).getD (0 : Int)) by rw [h3 x]), trivial⟩
theorem vatn_spec (S : Store) (b : Option Nat) (v : List Nat) (a : Nat) (hv : VwIs S b v) : Pure Tryz.prog 85 S [vV b, .int .i64 (a : Int)] (A := Unit) (fun _ => rI ((v.getD a 0 : Nat) : Int)) (fun _ _ => True) := by
  have := vat_spec S b v (a : Int) hv
  rw [vAt_nat] at this; exact this
theorem vwith_spec (S : Store) (b : Option Nat) (v : List Nat) (a i : Nat) (hv : VwIs S b v) (ha : a < v.length) (hl : v.length ≤ 4096) : Pure Tryz.prog 162 S [vV b, .int .i64 (a : Int), .int .i64 (i : Int)] (A := Option Nat) rV (fun S' b => VwIs S' b (Li.withV v a i)) := by
  have hv0 := hv
  obtain ⟨es, h1, h2, h3⟩ := hv
  refine pure_vc agrees Tryz.func162 rfl rfl (fun S S' q hle h => h.le hle) ?_
  refine offE (decide_eq_false (by show ¬ (a : Int) < 0; omega)) (offE (decide_eq_false (by show ¬ (a : Int) ≥ 4096; omega)) ⟨es, h1, (a : Int), (0 : Int), rfl, rfl, ?_⟩)
  have hat : (mget shI es (a : Int)).getD (0 : Int) = ((v.getD a 0 : Nat) : Int) := (h3 a).trans (vAt_nat v a)
  by_cases hle : i ≤ v.getD a 0
  · refine onE (decide_eq_true (p := (i : Int) ≤ (mget shI es (a : Int)).getD (0 : Int)) (by rw [hat]; omega)) ⟨rfl, b, rfl, ?_⟩
    unfold Li.withV; rw [if_pos hle]; exact hv0
  refine offE (decide_eq_false (p := (i : Int) ≤ (mget shI es (a : Int)).getD (0 : Int)) (by rw [hat]; omega)) ?_
  have fin : ∀ (S' : Store) (b' : Nat), MapRd S' (some b') shI shI (mset shI es (a : Int) (i : Int)) → VwIs S' (some b') (Li.withV v a i) := fun S' b' hm => by
    refine ⟨_, hm, once_mset rfl h2 _ _, fun x => ?_⟩
    rw [mget_mset', vAt_with ha (by omega)]
    by_cases hx : x = (a : Int)
    · rw [if_pos hx, if_pos hx]; rfl
    · rw [if_neg hx, if_neg hx]; exact h3 x
  cases b with
  | none =>
    have he : es = [] := h1
    subst he
    refine ⟨⟨_, rfl, rfl, rfl⟩, .inl ⟨_, _, _, vclone_nil_spec S, fun S1 _ hS1 _ => ?_⟩⟩
    refine onT ⟨(a : Int), (i : Int), rfl, rfl, trivial, fun b' S' hle hm => ?_⟩
    exact ⟨rfl, some b', rfl, fin S' b' hm.1⟩
  | some b =>
    refine ⟨⟨_, rfl, rfl, rfl⟩, .inr (.inr (.inr (.inr (.inl ⟨_, _, _, _, vclone_spec S b es h1, fun S1 _ hS1 _ => ?_⟩))))⟩
    refine onF ⟨(a : Int), (i : Int), rfl, rfl, trivial, fun b' S' hle hm => ?_⟩
    exact ⟨rfl, some b', rfl, fin S' b' hm.1⟩
theorem vjoin_spec (S : Store) (a b : Option Nat) (v u : List Nat) (hv : VwIs S a v) (hu : VwIs S b u) (hl : v.length = u.length) : Pure Tryz.prog 181 S [vV a, vV b] (A := Option Nat) rV (fun S' b => VwIs S' b (Li.joinV v u)) := by
  have hv0 := hv
  obtain ⟨es, h1, h2, h3⟩ := hv
  obtain ⟨fs, k1, k2, k3⟩ := hu
  refine pure_vc agrees Tryz.func181 rfl rfl (fun S S' q hle h => h.le hle) ?_
  refine ⟨fs, k1, ?_⟩
  refine And.intro (fun h0 => ?_) (fun h0 => ?_)
  · have hf : fs = [] := by
      have : (((List.length (α := Int × Int) fs : Nat) : Int) == 0) = true := h0
      have : ((List.length (α := Int × Int) fs : Nat) : Int) = 0 := by simpa using this
      exact List.eq_nil_of_length_eq_zero (by omega)
    subst hf
    refine ⟨rfl, a, rfl, es, h1, h2, fun x => ?_⟩
    have hux : vAt u x = 0 := (k3 x).symm
    rw [h3, vAt_join hl, hux]
    have := vAt_nonneg v x
    omega
  cases b with
  | none =>
    have hf : fs = [] := k1
    subst hf
    cases h0
  | some b =>
    refine ⟨⟨_, rfl, rfl, rfl⟩, .inr (.inr (.inr (.inr (.inl ⟨_, _, _, _, vclone_spec S b fs k1, fun S1 _ hS1 _ => ?_⟩))))⟩
    obtain ⟨ents, clock, hit, hio⟩ := iter_of (h1.le hS1)
    refine ⟨ents, clock, es, hit, ?_⟩
    refine ⟨[], [], List (Int × Int) × List (Int × Int) × Option (Int × Int), [6, 7, 8] ++ List.range' 19 40, fun _ => [], fun z => [.box [.v (.map a)], .box [.v (.map (some b))], .box [.v (.map none)], .map shI shI z.1, .iter shI shI a ents clock z.2.1 z.2.2], fun _ => S1,
      fun z => keysOnce (k := shI) z.1 ∧ keysOnce (k := shI) z.2.1 ∧ (∀ p ∈ z.2.1, p ∈ es) ∧ ∀ x : Int, (mget shI z.1 x).getD (0 : Int) = if mget shI z.2.1 x = none then max (vAt v x) (vAt u x) else vAt u x, fun z => z.2.1.length, ?_⟩
    refine And.intro (Exists.intro (fs, es, none) (And.intro (And.intro (And.intro ?_ rfl) (And.intro rfl (Store.le_refl _))) ⟨k2, h2, fun _ h => h, fun x => ?_⟩)) ?_
    · repeat' first | exact trivial | exact rfl | refine And.intro ?_ ?_
    · show (mget shI fs x).getD (0 : Int) = if mget shI es x = none then max (vAt v x) (vAt u x) else vAt u x
      rw [k3]
      split
      · rename_i hx
        have : vAt v x = 0 := by rw [← h3, hx]; rfl
        rw [this]
        have := vAt_nonneg u x
        omega
      · rfl
    rintro ⟨cur, left, ce⟩ ⟨i1, i2, i3, i5⟩
    simp only at i1 i2 i3 i5
    refine And.intro hio (And.intro (fun hl' => ?_) fun (pre : List (Int × Int)) (p : Int × Int) (post : List (Int × Int)) hl' => ?_)
    · have hl' : left = [] := hl'
      subst hl'
      refine onF fun b' S' hle hm => ⟨rfl, some b', rfl, cur, hm.1, i1, fun x => ?_⟩
      rw [i5, vAt_join hl]; rfl
    · have hl' : left = pre ++ p :: post := hl'
      subst hl'
      have hpm : p ∈ es := i3 p (by simp)
      have hsrc : mget shI es p.1 = some p.2 := (mget_some (k := shI) rfl h2).2 hpm
      have hleft : mget shI (pre ++ p :: post) p.1 = some p.2 := (mget_some (k := shI) rfl i2).2 (by simp)
      have hvp : vAt v p.1 = p.2 := by rw [← h3, hsrc]; rfl
      have hc : (mget shI cur p.1).getD (0 : Int) = vAt u p.1 := by rw [i5, hleft]; rfl
      refine onT ⟨hio, p.1, (0 : Int), rfl, rfl, p.1, imax ((mget shI cur p.1).getD (0 : Int)) p.2, rfl, rfl, trivial, ?_⟩
      refine ⟨(mset shI cur p.1 (imax ((mget shI cur p.1).getD (0 : Int)) p.2), pre ++ post, some p), ⟨⟨?_, rfl⟩, rfl, Store.le_refl _⟩, ⟨once_mset rfl i1 _ _, once_out i2, fun q hq => i3 q ?_, fun x => ?_⟩, ?_⟩
      · repeat' first | exact trivial | exact rfl | refine And.intro ?_ ?_
      · rcases List.mem_append.1 hq with hq | hq
        · exact List.mem_append_left _ hq
        · exact List.mem_append_right _ (List.mem_cons_of_mem _ hq)
      · show (mget shI (mset shI cur p.1 (imax ((mget shI cur p.1).getD (0 : Int)) p.2)) x).getD (0 : Int) = if mget shI (pre ++ post) x = none then max (vAt v x) (vAt u x) else vAt u x
        rw [mget_mset', mget_out (k := shI) rfl i2 x]
        by_cases hx : x = p.1
        · rw [if_pos hx, if_pos (show shI.eq x p.1 = true from beq_iff_eq.2 hx), if_pos rfl, hc, imax_max, hx, hvp]
          show max (vAt u p.1) p.2 = _
          omega
        · rw [if_neg hx, if_neg (show ¬ shI.eq x p.1 = true from fun q => hx (beq_iff_eq.1 q))]
          exact i5 x
      · show (pre ++ post).length < (pre ++ p :: post).length
        simp
end Go.Proofs.YtapblcfbmaikjaaGreatDoor
namespace Go.Proofs.YtapblcfbmaikjaaGreatDoor
open Go Go.Vc
set_option maxRecDepth 100000
set_option maxHeartbeats 4000000

/-- A slice whose elements the store knows, each as something. -/
def RowOf (S : Store) (sh : Shape) {β : Type} (R : Store → sh.T → β → Prop) (q : Hd) (l : List β) : Prop :=
  ∃ L : List (sh.T × β), L.map (·.2) = l ∧ q.2.1 = L.length ∧ q.2.1 ≤ q.2.2 ∧ RowRd S q.1 sh (L.map (·.1)) ∧ ∀ z ∈ L, R S z.1 z.2
section
variable {sh : Shape} {β : Type} {R : Store → sh.T → β → Prop} {S S' : Store} {q : Hd} {l : List β}
theorem RowOf.le (hR : ∀ x y, R S x y → R S' x y) (h : S.le S') (hx : RowOf S sh R q l) : RowOf S' sh R q l := by
  obtain ⟨L, h1, h2, h3, h4, h5⟩ := hx
  exact ⟨L, h1, h2, h3, h4.le h, fun z hz => hR _ _ (h5 z hz)⟩
theorem RowOf.len (h : RowOf S sh R q l) : q.2.1 = l.length := by obtain ⟨L, rfl, h2, -⟩ := h; rw [List.length_map]; exact h2
theorem RowOf.cap (h : RowOf S sh R q l) : q.2.1 ≤ q.2.2 := by obtain ⟨L, -, -, h3, -⟩ := h; exact h3
theorem RowOf.at (h : RowOf S sh R q l) {i : Nat} (hi : i < l.length) : ∃ (x : sh.T) (y : β) (b o : Nat), l[i]? = some y ∧ R S x y ∧ q.1 = some ⟨b, o, none⟩ ∧ sh.ok x ∧ S.rd b (o + i * sh.n) (sh.enc x) := by
  obtain ⟨L, rfl, -, -, hr, hK⟩ := h
  rw [List.length_map] at hi
  obtain ⟨z, hz⟩ : ∃ z, L[i]? = some z := ⟨_, List.getElem?_eq_getElem hi⟩
  obtain ⟨b, o, hp, hok, hrd⟩ := row_at hr (i := i) (x := z.1) (by rw [List.getElem?_map, hz]; rfl)
  exact ⟨z.1, z.2, b, o, by rw [List.getElem?_map, hz]; rfl, hK z (List.mem_of_getElem? hz), hp, hok, hrd⟩
theorem RowOf.nil (S : Store) (sh : Shape) (R : Store → sh.T → β → Prop) : RowOf S sh R (none, 0, 0) [] := ⟨[], rfl, rfl, Nat.le_refl _, ⟨.inl rfl, fun x hx => (by cases hx)⟩, fun z hz => (by cases hz)⟩
/-- The row's data, and the things behind them. -/
theorem RowOf.data (h : RowOf S sh R q l) : ∃ L : List (sh.T × β), L.map (·.2) = l ∧ L.length = l.length ∧ q.2.1 = l.length ∧ RowRd S q.1 sh (L.map (·.1)) ∧ ∀ z ∈ L, R S z.1 z.2 := by
  obtain ⟨L, rfl, h2, h3, h4, h5⟩ := h
  exact ⟨L, rfl, (List.length_map ..).symm, by rw [List.length_map]; exact h2, h4, h5⟩
theorem RowOf.of (L : List (sh.T × β)) {p : Option Addr} {c : Nat} (hp : PForm p L.length c) (hr : RowRd S p sh (L.map (·.1))) (hK : ∀ z ∈ L, R S z.1 z.2) : RowOf S sh R (p, L.length, c) (L.map (·.2)) := ⟨L, rfl, rfl, pform_le hp, hr, hK⟩
end
/-- A message: word, thread, view. -/
abbrev Mx := (Int × Int × Int) × Int × Option Nat
@[reducible] def vM (x : Mx) : Value := .agg #[.int .i64 x.1.1, .int .u32 x.1.2.1, .int .u32 x.1.2.2, .int .i64 x.2.1, .map x.2.2]
@[reducible] def cM (x : Mx) : List C := [.v (.int .i64 x.1.1), .v (.int .u32 x.1.2.1), .v (.int .u32 x.1.2.2), .v (.int .i64 x.2.1), .v (.map x.2.2)]
structure MsgIs (S : Store) (x : Mx) (m : Li.Msg) : Prop where
  w : x.1 = m.w
  ok : okW m.w
  v : VwIs S x.2.2 m.v
theorem MsgIs.le {S S' : Store} (h : S.le S') {x m} (hx : MsgIs S x m) : MsgIs S' x m := ⟨hx.w, hx.ok, hx.v.le h⟩
def HsIs (S : Store) (q : Hd) (h : List Li.Msg) : Prop := RowOf S shM MsgIs q h
theorem HsIs.le {S S' : Store} (h : S.le S') {q l} (hx : HsIs S q l) : HsIs S' q l := RowOf.le (fun _ _ => MsgIs.le h) h hx
@[reducible] def vH (q : Hd) : Value := .agg #[slV q]
@[reducible] def rH (q : Hd) : SV := .agg [.v (slV q)]
theorem okMs (xs : List Mx) : ∀ y ∈ xs, shM.ok y := fun _ _ => ⟨⟨trivial, trivial, trivial⟩, trivial, trivial⟩
theorem hnew_spec (S : Store) (w : Li.Wd) (hw : okW w) (n : Nat) : Pure Tryz.prog 98 S [vW w] (A := Hd) rH (fun S' q => HsIs S' q [⟨w, List.replicate n 0⟩]) := by
  obtain ⟨w1, w2, w3⟩ := w
  refine pure_vc agrees Tryz.func98 rfl rfl (fun S S' q hle h => h.le hle) ?_
  intro p c S1 hS1 hr hpf
  have hx : HsIs S1 (p, 1, c) [⟨(w1, w2, w3), List.replicate n 0⟩] := RowOf.of (sh := shM) (R := MsgIs) [((((w1, w2, w3), 0, none) : Mx), (⟨(w1, w2, w3), List.replicate n 0⟩ : Li.Msg))] hpf.1 hr fun z hz => by
    simp only [List.mem_singleton] at hz; subst hz
    exact ⟨rfl, hw, vw_nil _ n⟩
  exact ⟨rfl, (p, 1, c), rfl, hx⟩
theorem hlen_spec (S : Store) (q : Hd) (h : List Li.Msg) (hq : HsIs S q h) : Pure Tryz.prog 83 S [vH q] (A := Unit) (fun _ => rI (h.length : Nat)) (fun _ _ => True) := by
  have hl := hq.len
  obtain ⟨p, n, c⟩ := q
  have hl : n = h.length := hl
  subst hl
  refine pure_vc agrees Tryz.func83 rfl rfl (fun S S' q hle h => h) ?_
  exact ⟨rfl, (), rfl, trivial⟩
@[reducible] def rMB (x : Mx × Bool) : SV := .tup [(true, cM x.1), (false, [.v (.bool x.2)])]
theorem hat_spec (S : Store) (q : Hd) (h : List Li.Msg) (hq : HsIs S q h) (i : Nat) (hi : i < h.length) : Pure Tryz.prog 167 S [vH q, .int .i64 (i : Int)] (A := Mx × Bool) rMB (fun S' x => MsgIs S' x.1 (h.getD i Li.dm)) := by
  have hl := hq.len
  obtain ⟨x, m, b, o, hm, hx, hp, hok, hrd⟩ := hq.at hi
  obtain ⟨p, n, c⟩ := q
  have hl : n = h.length := hl
  subst hl
  refine pure_vc agrees Tryz.func167 rfl rfl (fun S S' q hle h => h.le hle) ?_
  refine offE (decide_eq_false (by show ¬ (i : Int) < 0; omega)) (offE (decide_eq_false (by show ¬ (i : Int) ≥ ((h.length : Nat) : Int); omega)) ?_)
  refine ⟨Int.natCast_nonneg _, by show (i : Int) < ((h.length : Nat) : Int); omega, b, o, hp, x, hok, hrd, rfl, (x, true), rfl, ?_⟩
  have e : h.getD i Li.dm = m := by rw [List.getD_eq_getElem?_getD, hm]; rfl
  show MsgIs S x (h.getD i Li.dm)
  rw [e]; exact hx
theorem hlast_spec (S : Store) (q : Hd) (h : List Li.Msg) (hq : HsIs S q h) (hne : 0 < h.length) (hn : h.length ≤ 1000000) : Pure Tryz.prog 145 S [vH q] (A := Mx) (fun x => .agg (cM x)) (fun S' x => MsgIs S' x (h.getD (h.length - 1) Li.dm)) := by
  have hl := hq.len
  obtain ⟨p, n, c⟩ := q
  have hl : n = h.length := hl
  subst hl
  refine pure_vc agrees Tryz.func145 rfl rfl (fun S S' q hle h => h.le hle) ?_
  refine ⟨((h.length - 1 : Nat) : Int), ?_, ⟨_, rfl, rfl, rfl⟩, .inl ⟨_, _, _, hat_spec S (p, h.length, c) h hq (h.length - 1) (by omega), fun S1 x hS1 hx => ?_⟩⟩
  · have : IntKind.i64.wrap (((h.length : Nat) : Int) - 1) = ((h.length : Nat) : Int) - 1 := wrap_i64 (by omega) (by omega)
    show IntKind.i64.wrap (((h.length : Nat) : Int) - 1) = _
    rw [this]; omega
  · exact ⟨rfl, x.1, rfl, hx⟩
theorem hclip_spec (S : Store) (q : Hd) (h : List Li.Msg) (hq : HsIs S q h) : Pure Tryz.prog 180 S [slV q] (A := Hd) rSl (fun S' q => HsIs S' q h ∧ q.2.2 = h.length) := by
  have hl := hq.len
  have hc := hq.cap
  obtain ⟨p, n, c⟩ := q
  have hl : n = h.length := hl
  subst hl
  refine pure_vc agrees Tryz.func180 rfl rfl (fun S S' q hle h => ⟨h.1.le hle, h.2⟩) ?_
  refine ⟨Int.natCast_nonneg _, Int.natCast_nonneg _, Nat.zero_le _, Nat.le_refl _, hc, rfl, (p, h.length, h.length), ?_, ?_, rfl⟩
  · show SV.c (C.v (Value.slice p h.length h.length)) = SV.c (C.v (Value.slice (if h.length = 0 then p else Option.map (fun p => addrAdd p (0 * 5)) p) h.length h.length))
    obtain ⟨L, h1, h2, h3, hr, hK⟩ := hq
    by_cases h0 : h.length = 0
    · rw [if_pos h0]
    · rw [if_neg h0]
      rcases hr.1 with e | ⟨b, o, e, -⟩
      · exfalso; apply h0; rw [← h1, List.length_map]; exact List.length_eq_zero_iff.2 (List.map_eq_nil_iff.1 e)
      · have e : p = some ⟨b, o, none⟩ := e
        subst e; rfl
  · obtain ⟨L, h1, h2, h3, hr, hK⟩ := hq
    exact ⟨L, h1, h2, Nat.le_refl _, hr, hK⟩
theorem hadd_spec (S : Store) (q : Hd) (h : List Li.Msg) (hq : HsIs S q h) (hn : h.length ≤ 1000000) (x : Mx) (m : Li.Msg) (hx : MsgIs S x m) : Pure Tryz.prog 163 S [vH q, vM x] (A := Hd) rH (fun S' q => HsIs S' q (h ++ [m])) := by
  have hl := hq.len
  obtain ⟨p, n, c⟩ := q
  have hl : n = h.length := hl
  subst hl
  obtain ⟨⟨w1, w2, w3⟩, xt, xm⟩ := x
  refine pure_vc agrees Tryz.func163 rfl rfl (fun S S' q hle h => h.le hle) ?_
  have okm : ∀ y ∈ [(((w1, w2, w3), xt, xm) : Mx)], shM.ok y := fun _ _ => ⟨⟨trivial, trivial, trivial⟩, trivial, trivial⟩
  refine ⟨or163_1, [2], oF163_1, by kernel_rfl, And.intro (And.intro ?_ (And.intro ?_ trivial)) (And.intro ?_ trivial)⟩
  all_goals
    refine ⟨⟨_, rfl, rfl, rfl⟩, .inl ⟨_, _, _, hclip_spec S (p, h.length, c) h hq, fun S4 q hS4 hq4 => ?_⟩⟩
    obtain ⟨qp, qn, qc⟩ := q
    obtain ⟨hq4, hqc⟩ := hq4
    have hqc : qc = h.length := hqc
    have hqn : qn = h.length := hq4.len
    subst hqn hqc
    obtain ⟨L, hL1, hL2, hL3, hL4, hL5⟩ := hq4.data
    obtain ⟨xs, hxs⟩ : ∃ xs : List Mx, xs = L.map (·.1) := ⟨_, rfl⟩
    have hxl : xs.length = h.length := by rw [hxs, List.length_map, hL2]
    have hL4 : RowRd S4 qp shM xs := by rw [hxs]; exact hL4
    have fin : ∀ (p5 : Option Addr) (c5 : Nat) (S5 : Store), S4.le S5 → PForm p5 (xs ++ [(((w1, w2, w3), xt, xm) : Mx)]).length c5 → RowRd S5 p5 shM (xs ++ [((w1, w2, w3), xt, xm)]) → HsIs S5 (p5, (xs ++ [(((w1, w2, w3), xt, xm) : Mx)]).length, c5) (h ++ [m]) := fun p5 c5 S5 hS5 hpf hr => by
      have e : (xs ++ [(((w1, w2, w3), xt, xm) : Mx)]).length = (L ++ [((((w1, w2, w3), xt, xm) : Mx), m)]).length := by rw [List.length_append, List.length_append, hxl, hL2]; rfl
      refine ⟨L ++ [(((w1, w2, w3), xt, xm), m)], by rw [List.map_append, hL1]; rfl, e, pform_le hpf, by rw [List.map_append]; rw [hxs] at hr; exact hr, fun z hz => ?_⟩
      rcases List.mem_append.1 hz with hz | hz
      · exact (hL5 z hz).le hS5
      · simp only [List.mem_singleton] at hz; subst hz; exact hx.le (Store.le_trans hS4 hS5)
    cases qp with
    | none =>
      have hx0 : xs = [] := by
        rcases hL4.1 with e | ⟨b, o, e, -⟩
        · exact e
        · cases e
      have hh0 : h = [] := List.eq_nil_of_length_eq_zero (by rw [← hxl, hx0]; rfl)
      subst hx0 hh0
      refine .inl ⟨rfl, [((w1, w2, w3), xt, xm)], ⟨rfl, rfl⟩, okm, by show 1 * 32 ≤ 140737488355328; decide, ?_⟩
      intro p5 c5 S5 hS5 hr5 hpf5
      exact ⟨rfl, (p5, _, c5), rfl, fin p5 c5 S5 hS5 hpf5.1 hr5⟩
    | some ad =>
      refine .inr (.inr (.inl ⟨ad, h.length, h.length, xs, [((w1, w2, w3), xt, xm)], rfl, hxl, Nat.le_refl _, Nat.lt_succ_self _, hL4, ⟨rfl, rfl⟩, okm, ?_, ?_⟩))
      · show (h.length + 1) * 32 ≤ 140737488355328; omega
      intro p5 c5 S5 hS5 hr5 hpf5
      exact ⟨rfl, (p5, _, c5), rfl, fin p5 c5 S5 hS5 hpf5.1 hr5⟩
theorem hchoose_spec (S : Store) (q : Hd) (h : List Li.Msg) (hq : HsIs S q h) (hn : h.length ≤ 1000000) (o : Nat) (ho : o < h.length) (c : Int) (hc : inI64 c) : Pure Tryz.prog 166 S [vH q, .int .i64 (o : Int), .int .i64 c] (A := Unit) (fun _ => rI (Li.pickI h.length o c : Nat)) (fun _ _ => True) := by
  have hl := hq.len
  obtain ⟨p, n, cc⟩ := q
  have hl : n = h.length := hl
  subst hl
  refine pure_vc agrees Tryz.func166 rfl rfl (fun S S' q hle h => h) ?_
  have w1 : IntKind.i64.wrap (((h.length : Nat) : Int) - 1) = ((h.length - 1 : Nat) : Int) := by rw [wrap_i64 (by omega) (by omega)]; omega
  refine ⟨_, w1, offE (decide_eq_false (by show ¬ ((h.length - 1 : Nat) : Int) < 0; omega)) ?_⟩
  have e1 : (if (if ((h.length - 1 : Nat) : Int) < (o : Int) then ((h.length - 1 : Nat) : Int) else (o : Int)) > 0 then (if ((h.length - 1 : Nat) : Int) < (o : Int) then ((h.length - 1 : Nat) : Int) else (o : Int)) else 0) = (o : Int) := by
    have eX : (if ((h.length - 1 : Nat) : Int) < (o : Int) then ((h.length - 1 : Nat) : Int) else (o : Int)) = (o : Int) := if_neg (by omega)
    rw [eX]; split <;> omega
  have e2 : (if 0 > c then 0 else c) = (((max c 0).toNat : Nat) : Int) := by split <;> omega
  have w2 : IntKind.i64.wrap (((h.length - 1 : Nat) : Int) - (if (if ((h.length - 1 : Nat) : Int) < (o : Int) then ((h.length - 1 : Nat) : Int) else (o : Int)) > 0 then (if ((h.length - 1 : Nat) : Int) < (o : Int) then ((h.length - 1 : Nat) : Int) else (o : Int)) else 0)) = ((h.length - 1 - o : Nat) : Int) := by
    rw [e1, wrap_i64 (by omega) (by omega)]; omega
  have w3 : IntKind.i64.wrap (((h.length - 1 - o : Nat) : Int) + 1) = ((h.length - o : Nat) : Int) := by rw [wrap_i64 (by omega) (by omega)]; omega
  have w4 : Int.tmod (if 0 > c then 0 else c) ((h.length - o : Nat) : Int) = (((max c 0).toNat % (h.length - o) : Nat) : Int) := by
    rw [e2, Int.tmod_eq_emod_of_nonneg (Int.natCast_nonneg _)]; rfl
  have hm := Nat.mod_lt (max c 0).toNat (show 0 < h.length - o by omega)
  have w5 : IntKind.i64.wrap (((h.length - 1 : Nat) : Int) - (((max c 0).toNat % (h.length - o) : Nat) : Int)) = ((Li.pickI h.length o c : Nat) : Int) := by
    rw [wrap_i64 (by omega) (by omega)]; unfold Li.pickI; omega
  exact ⟨_, w2, _, w3, by omega, _, w4, _, w5, rfl, (), rfl, trivial⟩
end Go.Proofs.YtapblcfbmaikjaaGreatDoor
namespace Go.Proofs.YtapblcfbmaikjaaGreatDoor
open Go Go.Vc
set_option maxRecDepth 100000
set_option maxHeartbeats 4000000

abbrev Mm := Hd × Hd
@[reducible] def vMem (x : Mm) : Value := .agg #[slV x.1, slV x.2]
@[reducible] def cMem (x : Mm) : List C := [.v (slV x.1), .v (slV x.2)]
@[reducible] def rMem (x : Mm) : SV := .agg (cMem x)
structure MemIs (S : Store) (x : Mm) (m : Li.Mem) : Prop where
  ps : RowOf S shH HsIs x.1 m.ms
  vs : RowOf S shV VwIs x.2 m.vs
theorem MemIs.le {S S' : Store} (h : S.le S') {x m} (hx : MemIs S x m) : MemIs S' x m := ⟨hx.ps.le (fun _ _ => HsIs.le h) h, hx.vs.le (fun _ _ => VwIs.le h) h⟩
/-- A memory of few threads and places, with short histories. -/
structure fewM (n : Nat) (m : Li.Mem) : Prop where
  ok : Li.okM n m
  n4 : n ≤ 4096
  vs : m.vs.length ≤ 1000
  hs : ∀ h ∈ m.ms, h.length ≤ 100000
theorem fewM.hist {n : Nat} {m : Li.Mem} (h : fewM n m) {a : Nat} (ha : a < n) : (Li.hist m a).length ≤ 100000 := h.hs _ (Li.getD_mem (by rw [h.ok.len]; exact ha))
theorem size_spec (S : Store) (x : Mm) (m : Li.Mem) (hx : MemIs S x m) : Pure Tryz.prog 100 S [vMem x] (A := Unit) (fun _ => .tup [(false, [.v (.int .i64 (m.vs.length : Nat))]), (false, [.v (.int .i64 (m.ms.length : Nat))])]) (fun _ _ => True) := by
  have h1 := hx.ps.len
  have h2 := hx.vs.len
  obtain ⟨⟨p, n, c⟩, ⟨p2, n2, c2⟩⟩ := x
  have h1 : n = m.ms.length := h1
  have h2 : n2 = m.vs.length := h2
  subst h1 h2
  refine pure_vc agrees Tryz.func100 rfl rfl (fun S S' q hle h => h) ?_
  refine ⟨or100_1, [], oF100_1, by kernel_rfl, ?_⟩
  exact ⟨rfl, (), rfl, trivial⟩
theorem thread_spec (S : Store) (x : Mm) (m : Li.Mem) (hx : MemIs S x m) (k : Nat) (hk : k < m.vs.length) : Pure Tryz.prog 120 S [vMem x, .int .i64 ((k : Int) + 1)] (A := Unit) (fun _ => rB true) (fun _ _ => True) := by
  have h2 := hx.vs.len
  obtain ⟨⟨p, n, c⟩, ⟨p2, n2, c2⟩⟩ := x
  have h2 : n2 = m.vs.length := h2
  subst h2
  refine pure_vc agrees Tryz.func120 rfl rfl (fun S S' q hle h => h) ?_
  refine onE (decide_eq_true (by show (k : Int) + 1 ≥ 1; omega)) ⟨rfl, (), ?_, trivial⟩
  show rB true = rB (decide ((k : Int) + 1 ≤ ((m.vs.length : Nat) : Int)))
  rw [decide_eq_true (by omega)]
theorem place_spec (S : Store) (x : Mm) (m : Li.Mem) (hx : MemIs S x m) (a : Nat) (ha : a < m.ms.length) : Pure Tryz.prog 119 S [vMem x, .int .i64 (a : Int)] (A := Unit) (fun _ => rB true) (fun _ _ => True) := by
  have h2 := hx.ps.len
  obtain ⟨⟨p, n, c⟩, ⟨p2, n2, c2⟩⟩ := x
  have h2 : n = m.ms.length := h2
  subst h2
  refine pure_vc agrees Tryz.func119 rfl rfl (fun S S' q hle h => h) ?_
  refine onE (decide_eq_true (by show (a : Int) ≥ 0; omega)) ⟨rfl, (), ?_, trivial⟩
  show rB true = rB (decide ((a : Int) < ((m.ms.length : Nat) : Int)))
  rw [decide_eq_true (by omega)]
theorem wrong_spec (S : Store) (x : Mm) (m : Li.Mem) (hx : MemIs S x m) (k a : Nat) (hk : k < m.vs.length) (ha : a < m.ms.length) : Pure Tryz.prog 139 S [vMem x, .int .i64 ((k : Int) + 1), .int .i64 (a : Int)] (A := Unit) (fun _ => rI 0) (fun _ _ => True) := by
  refine pure_vc agrees Tryz.func139 rfl rfl (fun S S' q hle h => h) ?_
  refine ⟨⟨_, rfl, rfl, rfl⟩, .inl ⟨_, _, _, thread_spec S x m hx k hk, fun S1 _ hS1 _ => offE rfl ?_⟩⟩
  refine ⟨⟨_, rfl, rfl, rfl⟩, .inl ⟨_, _, _, place_spec S1 x m (hx.le hS1) a ha, fun S2 _ hS2 _ => offE rfl ?_⟩⟩
  exact ⟨rfl, (), rfl, trivial⟩
theorem wk (k : Nat) (hk : k ≤ 1000000) : IntKind.i64.wrap (((k : Nat) : Int) + 1 - 1) = ((k : Nat) : Int) := by rw [wrap_i64 (by omega) (by omega)]; omega
theorem seen_spec (S : Store) (x : Mm) (n : Nat) (m : Li.Mem) (hx : MemIs S x m) (hf : fewM n m) (k : Nat) (hk : k < m.vs.length) : Pure Tryz.prog 84 S [vMem x, .int .i64 ((k : Int) + 1)] (A := Option Nat) rV (fun S' b => VwIs S' b (Li.seen m k)) := by
  have h2 := hx.vs.len
  have hv := hf.vs
  obtain ⟨y, v, b, o, hm, hy, hp, hok, hrd⟩ := hx.vs.at hk
  have hth := thread_spec S x m hx k hk
  obtain ⟨⟨p, n, c⟩, ⟨p2, n2, c2⟩⟩ := x
  have h2 : n2 = m.vs.length := h2
  subst h2
  refine pure_vc agrees Tryz.func84 rfl rfl (fun S S' q hle h => h.le hle) ?_
  refine ⟨⟨_, rfl, rfl, rfl⟩, .inl ⟨_, _, _, hth, fun S1 _ hS1 _ => offE rfl ?_⟩⟩
  refine ⟨_, wk k (by omega), Int.natCast_nonneg _, by show (k : Int) < ((m.vs.length : Nat) : Int); omega, b, o, hp, y, hok, Store.rd_le hS1 hrd, rfl, y, rfl, ?_⟩
  have e : Li.seen m k = v := by unfold Li.seen; rw [List.getD_eq_getElem?_getD, hm]; rfl
  rw [e]; exact hy.le hS1
@[reducible] def rHB (x : Hd × Bool) : SV := .tup [(true, [.v (slV x.1)]), (false, [.v (.bool x.2)])]
theorem history_spec (S : Store) (x : Mm) (m : Li.Mem) (hx : MemIs S x m) (a : Nat) (ha : a < m.ms.length) : Pure Tryz.prog 82 S [vMem x, .int .i64 (a : Int)] (A := Hd × Bool) rHB (fun S' q => HsIs S' q.1 (Li.hist m a)) := by
  have h2 := hx.ps.len
  obtain ⟨y, v, b, o, hm, hy, hp, hok, hrd⟩ := hx.ps.at ha
  have hpl := place_spec S x m hx a ha
  obtain ⟨⟨p, n, c⟩, ⟨p2, n2, c2⟩⟩ := x
  have h2 : n = m.ms.length := h2
  subst h2
  refine pure_vc agrees Tryz.func82 rfl rfl (fun S S' q hle h => h.le hle) ?_
  refine ⟨⟨_, rfl, rfl, rfl⟩, .inl ⟨_, _, _, hpl, fun S1 _ hS1 _ => offE rfl ?_⟩⟩
  refine ⟨Int.natCast_nonneg _, by show (a : Int) < ((m.ms.length : Nat) : Int); omega, b, o, hp, y, hok, Store.rd_le hS1 hrd, rfl, (y, true), rfl, ?_⟩
  have e : Li.hist m a = v := by unfold Li.hist; rw [List.getD_eq_getElem?_getD, hm]; rfl
  show HsIs S1 y (Li.hist m a)
  rw [e]; exact hy.le hS1
@[reducible] def rWB (x : Li.Wd × Bool) : SV := .tup [(true, cW x.1), (false, [.v (.bool x.2)])]
theorem mlast_spec (S : Store) (x : Mm) (n : Nat) (m : Li.Mem) (hx : MemIs S x m) (hf : fewM n m) (a : Nat) (ha : a < n) : Pure Tryz.prog 116 S [vMem x, .int .i64 (a : Int)] (A := Li.Wd × Bool) rWB (fun _ w => w.1 = (Li.lasts m).getD a (0, 0, 0) ∧ okW w.1) := by
  have hp := Li.hist_pos hf.ok ha
  have hl := hf.hist ha
  refine pure_vc agrees Tryz.func116 rfl rfl (fun S S' q hle h => h) ?_
  refine ⟨⟨_, rfl, rfl, rfl⟩, .inl ⟨_, _, _, history_spec S x m hx a (by rw [hf.ok.len]; exact ha), fun S1 q hS1 hq => ?_⟩⟩
  refine ⟨⟨_, rfl, rfl, rfl⟩, .inl ⟨_, _, _, hlast_spec S1 q.1 (Li.hist m a) hq hp (by omega), fun S2 y hS2 hy => ?_⟩⟩
  obtain ⟨⟨w1, w2, w3⟩, yt, ym⟩ := y
  refine ⟨rfl, ((w1, w2, w3), q.2), rfl, ?_, ?_⟩
  · rw [Li.lasts_at hf.ok ha]; exact hy.w
  · have h1 := hy.ok
    have h2 := hy.w
    show okW (w1, w2, w3)
    have h2 : (w1, w2, w3) = _ := h2
    rw [h2]; exact h1
theorem mwith_spec (S : Store) (x : Mm) (m : Li.Mem) (hx : MemIs S x m) (hv : m.vs.length ≤ 1000) (k : Nat) (hk : k < m.vs.length) (b : Option Nat) (v : List Nat) (hb : VwIs S b v) : Pure Tryz.prog 164 S [vMem x, .int .i64 ((k : Int) + 1), vV b] (A := Mm) rMem (fun S' y => MemIs S' y ⟨m.ms, m.vs.set k v⟩) := by
  have hps := hx.ps
  obtain ⟨L, hL1, hL2, hL3, hL4, hL5⟩ := hx.vs.data
  obtain ⟨⟨p, n1, c⟩, ⟨p2, n2, c2⟩⟩ := x
  have hL3 : n2 = m.vs.length := hL3
  subst hL3
  refine pure_vc agrees Tryz.func164 rfl rfl (fun S S' q hle h => h.le hle) ?_
  obtain ⟨xs, hxs⟩ : ∃ xs : List (Option Nat), xs = L.map (·.1) := ⟨_, rfl⟩
  have hxl : xs.length = m.vs.length := by rw [hxs, List.length_map, hL2]
  have hL4 : RowRd S p2 shV xs := by rw [hxs]; exact hL4
  obtain ⟨u, hu⟩ : ∃ u, xs[k]? = some u := ⟨_, List.getElem?_eq_getElem (by omega)⟩
  refine ⟨Int.natCast_nonneg _, Int.le_refl _, by show ((8 : Nat) : Int) * ((m.vs.length : Nat) : Int) ≤ 140737488355328; omega, by show ((m.vs.length : Nat) : Int) ≤ 140737488355328; omega, xs, hL4, hxl, hxl.trans (show m.vs.length = (List.replicate (Int.toNat ((m.vs.length : Nat) : Int)) (none : Option Nat)).length by rw [List.length_replicate, Int.toNat_natCast]), by show 0 < m.vs.length; omega, _, wk k (by omega), Int.natCast_nonneg _, by show (k : Int) < ((xs.length : Nat) : Int); omega, u, b, hu, trivial, rfl, by show 0 + 0 + 1 ≤ 1; decide, ?_⟩
  intro p5 c5 S5 hS5 hr5 hpf5
  refine ⟨rfl, ((p, n1, c), (p5, _, c5)), rfl, hps.le (fun _ _ => HsIs.le hS5) hS5, L.set k (b, v), ?_, ?_, pform_le hpf5.1, ?_, fun z hz => ?_⟩
  · rw [List.map_set, hL1]
  · show (xs.set k b).length = _
    rw [List.length_set, List.length_set, hxl, hL2]
  · rw [List.map_set, ← hxs]; exact hr5
  · rcases List.mem_or_eq_of_mem_set hz with hz | hz
    · exact (hL5 z hz).le hS5
    · subst hz; exact hb.le hS5
end Go.Proofs.YtapblcfbmaikjaaGreatDoor
