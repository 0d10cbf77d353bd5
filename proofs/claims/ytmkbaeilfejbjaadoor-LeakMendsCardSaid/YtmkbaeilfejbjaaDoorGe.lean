/- law16, LeakMends: Clone of words, the words with the marks of a list of blocks. -/
import Derived.Test.YtmkbaeilfejbjaaDoorGc
import Derived.Test.YtmkbaeilfejbjaaDoorGd
namespace Go.Proofs.YtmkbaeilfejbjaaDoor
open Go Go.Vc
set_option maxRecDepth 100000

@[reducible] def cOut : Option Addr → SV
  | none => .c (.v (.slice none 0 0))
  | some _ => .c (.ref 0)
@[reducible] def cNews (xs : List Wd) : Option Addr → List Res
  | none => []
  | some _ => [.row shW 37 xs]
set_option maxHeartbeats 1000000 in
theorem clone_spec (S : Store) (p : Hd) (xs : List Wd) (hl : xs.length = p.2.1) (hr : RowRd S p.1 shW xs) (hn : xs.length ≤ 1000000) :
    SpecN Tryd.prog 18 S [slV p] (A := Unit) (fun _ => cOut p.1) (fun _ => cNews xs p.1) (fun _ _ => True) := by
  obtain ⟨p, k, c⟩ := p
  simp only at hl hr
  subst hl
  refine specN_vc agrees Tryd.func18 rfl rfl (fun _ _ _ _ h => h) ?_
  cases p with
  | none => exact onT ⟨[], (), rfl, rfl, rfl, trivial⟩
  | some a =>
    refine onF ⟨xs, src_of rfl hr, fun y hy => hr.2 y hy, by show ([].length + xs.length) * 16 ≤ 140737488355328; rw [List.length_nil]; omega, [0], (), rfl, rfl, rfl, trivial⟩

theorem mright_spec (S : Store) (b : Int) (hb : 1 ≤ b ∧ b ≤ 64) (hS : S.rd 0 0 sizesL) (p : Hd) (h : 144 + 32 * b ≤ (p.2.1 : Int)) : Pure Tryd.prog 15 S [vL b, slV p] rB (fun _ x => x = true) := by
  refine pure_vc agrees Tryd.func15 rfl rfl (fun S S' q hle h => h) ?_
  refine ⟨⟨_, rfl, rfl, rfl⟩, .inl ⟨_, _, _, check_spec S b hb hS, fun S1 x hS1 hx => ?_⟩⟩
  obtain rfl : 0 = x := hx.symm
  refine onT ⟨⟨_, rfl, rfl, rfl⟩, .inl ⟨_, _, _, size_spec S1 b hb (Store.rd_le hS1 hS), fun S2 x hS2 hx => ?_⟩⟩
  obtain rfl : 144 + 32 * b = x := hx.symm
  exact ⟨rfl, _, rfl, decide_eq_true h⟩

theorem row_none {S : Store} {sh : Shape} {xs : List sh.T} (h : RowRd S none sh xs) : xs = [] := by
  rcases h.1 with h | ⟨_, _, h, _⟩
  · exact h
  · cases h

set_option maxHeartbeats 2000000 in
theorem mark_spec (S : Store) (b : Int) (hb : 1 ≤ b ∧ b ≤ 64) (hS : S.rd 0 0 sizesL) (p q : Hd) (w : List Wd) (u : List Int) (hl : w.length = p.2.1) (hr : RowRd S p.1 shW w) (hn : w.length ≤ 1000000)
    (hm : u.length = q.2.1) (hr' : RowRd S q.1 shI u) (hn' : u.length ≤ 1000000) (hw : 144 + 32 * b ≤ (w.length : Int)) :
    Pure Tryd.prog 5 S [vL b, slV p, slV q] (A := Hd × Int × List Wd) (fun x => .tup [(false, [.v (slV x.1)]), (false, [.v (.int .i64 x.2.1)])])
      (fun S' x => x.1.2.1 = x.2.2.length ∧ RowRd S' x.1.1 shW x.2.2 ∧ (if u.any (bad b) then x.2.1 = 3 ∧ x.2.2 = w else x.2.1 = 0 ∧ x.2.2 = markW b.toNat w u)) := by
  obtain ⟨p, n, c⟩ := p
  obtain ⟨q, m, d⟩ := q
  simp only at hl hr hm hr'
  subst hl
  subst hm
  refine pure_vc agrees Tryd.func5 rfl rfl (fun S S' q hle h => ⟨h.1, h.2.1.le hle, h.2.2⟩) ?_
  refine ⟨⟨_, rfl, rfl, rfl⟩, .inl ⟨_, _, _, mright_spec S b hb hS (p, w.length, c) hw, fun S1 x hS1 hx => ?_⟩⟩
  obtain rfl : true = x := hx.symm
  refine onF ⟨⟨_, rfl, rfl, rfl⟩, .inl fun B S2 hS2 hB => ⟨_, _, _, hasI_spec S2 (q, u.length, d) u 17 #[] #[.pointer (some ⟨B, 0, none⟩)] (bad b) rfl (hr'.le (Store.le_trans hS1 hS2)) hn' ⟨⟨_, rfl, rfl, rfl⟩, rfl, by simp [Value.oneCell'], fun i _ => bad_spec S2 b B hB i⟩, fun S3 x hS3 hx => ?_⟩⟩
  have hx : x = u.any (bad b) := hx
  have h3 := Store.le_trans hS1 (Store.le_trans hS2 hS3)
  refine And.intro (fun h => ?_) (fun h => ?_)
  · exact ⟨rfl, ((p, w.length, c), 3, w), rfl, rfl, hr.le h3, by rw [← hx, show x = true from h, if_pos rfl]; exact ⟨rfl, rfl⟩⟩
  have hgood : u.any (bad b) = false := by rw [← hx]; exact h
  refine ⟨⟨_, rfl, rfl, rfl⟩, .inr (.inr (.inr (.inr ⟨_, _, _, _, clone_spec S3 (p, w.length, c) w rfl (hr.le h3) hn, fun S4 _ hS4 _ => ?_⟩)))⟩
  cases p with
  | none => exfalso; have := row_none hr; rw [this] at hw; simp at hw; omega
  | some a =>
  have h4 := Store.le_trans h3 hS4
  have hB4 := Store.rd_le hS4 (Store.rd_le hS3 hB)
  refine ⟨_, trivial, rd_at hB4 2 _ rfl, ?_⟩
  refine ⟨[], [], Nat × List Wd × Store, List.range' 9 100, fun x => [(30, .c (.v (.int .i64 b))), (31, rI x.1)], fun x => [.gone, .row shW 37 x.2.1], fun x => x.2.2, fun x => (x.1 : Int) ≤ b ∧ S4.le x.2.2 ∧ x.2.1 = bitsW x.1 w fun _ => 0, fun x => b.toNat - x.1, ?_⟩
  refine And.intro (Exists.intro (0, w, S4) (And.intro (And.intro (And.intro ?_ rfl) (And.intro rfl (Store.le_refl _))) ⟨by show (0 : Int) ≤ b; omega, Store.le_refl _, rfl⟩)) ?_
  · repeat' first | exact trivial | exact rfl | refine And.intro ?_ ?_
  refine fun x hx => ?_
  obtain ⟨i, xs, T⟩ := x
  obtain ⟨hi, hT, hxs⟩ := hx
  simp only at hi hT hxs
  have hxl : xs.length = w.length := by rw [hxs, bitsW_length]
  refine And.intro (fun h => ?_) (fun h => ?_)
  · have h : (i : Int) < b := of_decide_eq_true h
    refine ⟨(1, 8, b), ⟨trivial, trivial, trivial⟩, Store.rd_le hT hB4, ⟨_, rfl, rfl, rfl⟩, .inl ⟨_, _, _, bits_spec T b hb (Store.rd_le (Store.le_trans h4 hT) hS) i h, fun T1 x hT1 hx => ?_⟩⟩
    obtain rfl : _ = x := hx.symm
    have hn : (((136 + i / 32 : Nat) : Int)).toNat = 136 + i / 32 := by omega
    obtain ⟨x1, hx1⟩ : ∃ x, xs[(((136 + i / 32 : Nat) : Int)).toNat]? = some x := ⟨xs[(((136 + i / 32 : Nat) : Int)).toNat]'(by omega), List.getElem?_eq_getElem (by omega)⟩
    refine ⟨by omega, by show ((136 + i / 32 : Nat) : Int) < (xs.length : Int); omega, x1, (0, x1.2), hx1, ⟨trivial, trivial, trivial⟩, rfl, (by decide : 0 + 1 ≤ 3), ?_⟩
    refine ⟨(i : Int) + 1, wrap_i64 (by omega) (by omega), ?_⟩
    rw [set_setV hx1, hn]
    refine Exists.intro (i + 1, setV xs (136 + i / 32) 0, T1) (And.intro (And.intro (And.intro ?_ rfl) (And.intro rfl (Store.le_refl _))) ⟨⟨by show ((i + 1 : Nat) : Int) ≤ b; omega, Store.le_trans hT hT1, by show setV xs (136 + i / 32) 0 = _; rw [hxs]; exact bitsW_succ i (by omega) w⟩, by show b.toNat - (i + 1) < b.toNat - i; omega⟩)
    repeat' first | exact trivial | exact rfl | refine And.intro ?_ ?_
  have hib : i = b.toNat := by have := of_decide_eq_false h; simp only at this; omega
  subst hib
  refine ⟨[], [], Nat × List Wd × Store, List.range' 9 36 ++ List.range' 47 100, fun x => [(47, rI x.1)], fun x => [.gone, .row shW 37 x.2.1], fun x => x.2.2, fun x => x.1 ≤ u.length ∧ S4.le x.2.2 ∧ x.2.1 = markW b.toNat w (u.take x.1), fun x => u.length - x.1, ?_⟩
  refine And.intro (Exists.intro (0, xs, T) (And.intro (And.intro (And.intro ?_ rfl) (And.intro rfl (Store.le_refl _))) ⟨Nat.zero_le _, hT, by show xs = _; rw [hxs]; rfl⟩)) ?_
  · repeat' first | exact trivial | exact rfl | refine And.intro ?_ ?_
  refine fun x hx => ?_
  obtain ⟨k, xs, T⟩ := x
  obtain ⟨hk, hT, hxs⟩ := hx
  simp only at hk hT hxs
  have hxl : xs.length = w.length := by rw [hxs, markW_length]
  refine And.intro (fun h => ?_) (fun h => ?_)
  · have h : k < u.length := by have : ((k : Nat) : Int) < ((u.length : Nat) : Int) := of_decide_eq_true h; omega
    have hx : u[k]? = some u[k] := List.getElem?_eq_getElem h
    have hxm : u[k] ∈ u := List.getElem_mem h
    obtain ⟨x, hxx⟩ : ∃ x, u[k] = x := ⟨_, rfl⟩
    rw [hxx] at hx hxm
    obtain ⟨b1, o, hp, hok, hrd⟩ := row_at (hr'.le (Store.le_trans h4 hT)) hx
    refine ⟨by omega, by show ((k : Nat) : Int) < ((u.length : Nat) : Int); omega, b1, o, hp, x, trivial, hrd, ?_⟩
    have hgx := List.any_eq_false.1 hgood x hxm
    have hx0 : 0 ≤ x ∧ x < b := by
      simp only [bad, Bool.or_eq_true, decide_eq_true_eq, not_or] at hgx
      omega
    obtain ⟨n, rfl⟩ : ∃ n : Nat, x = n := ⟨x.toNat, by omega⟩
    have hxu := hx
    refine ⟨(1, 8, b), ⟨trivial, trivial, trivial⟩, Store.rd_le hT hB4, ⟨_, rfl, rfl, rfl⟩, .inl ⟨_, _, _, bits_spec T b hb (Store.rd_le (Store.le_trans h4 hT) hS) n hx0.2, fun T1 x hT1 hx => ?_⟩⟩
    obtain rfl : _ = x := hx.symm
    have hN : (((136 + n / 32 : Nat) : Int)).toNat = 136 + n / 32 := by omega
    obtain ⟨x1, hx1⟩ : ∃ x, xs[(((136 + n / 32 : Nat) : Int)).toNat]? = some x := ⟨xs[(((136 + n / 32 : Nat) : Int)).toNat]'(by omega), List.getElem?_eq_getElem (by omega)⟩
    have hst : xs.set (((136 + n / 32 : Nat) : Int)).toNat (bitOr .i64 x1.1 ((2 ^ (n % 32) : Nat) : Int), x1.2) = markW b.toNat w (u.take (k + 1)) := by
      rw [List.take_add_one, hxu]
      rw [hN] at hx1 ⊢
      rw [hxs] at hx1 ⊢
      exact markW_step b.toNat (by omega) w _ n (by omega) hx1
    refine ⟨by show (0 : Int) ≤ ((136 + n / 32 : Nat) : Int); omega, by show ((136 + n / 32 : Nat) : Int) < (xs.length : Int); omega, x1, hx1, _, rfl, by show (0 : Int) ≤ ((136 + n / 32 : Nat) : Int); omega, by show ((136 + n / 32 : Nat) : Int) < (xs.length : Int); omega, x1, (bitOr .i64 x1.1 ((2 ^ (n % 32) : Nat) : Int), x1.2), hx1, ⟨trivial, trivial, trivial⟩, rfl, (by decide : 0 + 1 ≤ 3), ?_⟩
    refine ⟨(k : Int) + 1, wrap_i64 (by omega) (by omega), ?_⟩
    refine Exists.intro (k + 1, _, T1) (And.intro (And.intro (And.intro ?_ rfl) (And.intro rfl (Store.le_refl _))) ⟨⟨h, Store.le_trans hT hT1, hst⟩, by show u.length - (k + 1) < u.length - k; omega⟩)
    repeat' first | exact trivial | exact rfl | refine And.intro ?_ ?_
  have hku : k = u.length := by have : ¬ ((k : Nat) : Int) < ((u.length : Nat) : Int) := of_decide_eq_false h; omega
  subst hku
  rw [List.take_length] at hxs
  refine fun p c S' hS' hr' hf => ⟨rfl, ((p, xs.length, c), 0, xs), rfl, rfl, hr', ?_⟩
  rw [hgood]
  exact ⟨rfl, hxs⟩
end Go.Proofs.YtmkbaeilfejbjaaDoor
