/- law29, Passes: the closures. -/
import Derived.Test.YtjlkekebhgjlcaaDoorFb
namespace Go.Proofs.YtjlkekebhgjlcaaDoor
open Go Go.Vc
set_option maxRecDepth 100000

theorem cell_of {S : Store} {b o : Nat} {v : Value} (h : S.rd b o [v]) {w : World} (hw : S.le (Store.of w)) : w.cell? ⟨b, o, none⟩ = some v := by
  have := h 0 v rfl
  exact hw.1 _ _ _ this
theorem _root_.Go.Vc.Old.refl (w : World) : Old w w := ⟨rfl, rfl, rfl, Nat.le_refl _, fun _ _ => rfl⟩
def passE (k : Int) (s : ByteArray) (n : Int) (e : Ending) : Prop :=
  if k % 4 = 1 then e = .panicked [{ v := .iface 9 (.string s), recovered := false }]
  else if k % 4 = 2 then e = .panicked [{ v := .iface 25 (.agg #[.string s]), recovered := false }]
  else if k % 4 = 3 then e = .panicked [{ v := .iface 2 (.int .i64 n), recovered := false }]
  else e = .returned (.int .i64 n)

theorem pass_spec (S : Store) (bk bs bn : Nat) (k : Int) (s : ByteArray) (n : Int) (hk : 0 ≤ k) (h1 : S.rd bk 0 [.int .u8 k]) (h2 : S.rd bs 0 [.string s]) (h3 : S.rd bn 0 [.int .i64 n]) :
    PureX S 16 [.pointer (some ⟨bk, 0, none⟩), .pointer (some ⟨bs, 0, none⟩), .pointer (some ⟨bn, 0, none⟩)] (passE k s n) := by
  intro w hw
  have c1 := cell_of h1 hw
  have c2 := cell_of h2 hw
  have c3 := cell_of h3 hw
  have hm : k.tmod 4 = k % 4 := Int.tmod_eq_emod_of_nonneg hk
  by_cases e1 : k % 4 = 1
  · simp only [passE, if_pos e1]
    go_enter Tryd.func16, Tryd.ntmps16
    go_wp2
    exact ⟨rfl, Old.refl w, rfl⟩
  by_cases e2 : k % 4 = 2
  · simp only [passE, if_neg e1, if_pos e2]
    go_enter Tryd.func16, Tryd.ntmps16
    go_wp2
    exact ⟨rfl, Old.refl w, rfl⟩
  by_cases e3 : k % 4 = 3
  · simp only [passE, if_neg e1, if_neg e2, if_pos e3]
    go_enter Tryd.func16, Tryd.ntmps16
    go_wp2
    exact ⟨rfl, Old.refl w, rfl⟩
  simp only [passE, if_neg e1, if_neg e2, if_neg e3]
  go_enter Tryd.func16, Tryd.ntmps16
  go_wp2
  go_ret
  exact ⟨Old.refl w, rfl⟩

/-- What Guard answers of it. -/
def passR (k : Int) (s : ByteArray) (n : Int) : Int × ByteArray × Bool :=
  if k % 4 = 1 then (0, s, false) else if k % 4 = 2 then (0, wrongOf s, false) else if k % 4 = 3 then (0, dec n, false) else (n, ByteArray.empty, true)

@[reducible] def gOut (x : Int × ByteArray × Bool) : SV := .tup [(false, [.v (.int .i64 x.1)]), (false, [.v (.string x.2.1)]), (false, [.v (.bool x.2.2)])]
theorem pass_guard (S : Store) (hT : Tab S) (bk bs bn : Nat) (k : Int) (s : ByteArray) (n : Int) (hk : 0 ≤ k) (hs : s.size ≤ 1000000000000000) (hn : inI64 n) (h1 : S.rd bk 0 [.int .u8 k]) (h2 : S.rd bs 0 [.string s]) (h3 : S.rd bn 0 [.int .i64 n]) :
    Pure Tryd.prog 8 S [.func (.func 16) #[] #[.pointer (some ⟨bk, 0, none⟩), .pointer (some ⟨bs, 0, none⟩), .pointer (some ⟨bn, 0, none⟩)]] (A := Int × ByteArray × Bool) gOut (fun _ x => x = passR k s n) := by
  refine guard_spec S 16 [_, _, _] (passE k s n) _ (enters_of Tryd.func16 (by kernel_rfl) rfl) (pass_spec S bk bs bn k s n hk h1 h2 h3) fun e he => ?_
  unfold passE at he
  unfold passR
  split at he
  · rename_i e1; rw [if_pos e1]; exact .inr ⟨_, s, [], he, rfl, said_string S s, rfl⟩
  rename_i e1
  rw [if_neg e1]
  split at he
  · rename_i e2; rw [if_pos e2]; exact .inr ⟨_, wrongOf s, [], he, rfl, said_wrong S s hs, rfl⟩
  rename_i e2
  rw [if_neg e2]
  split at he
  · rename_i e3; rw [if_pos e3]; exact .inr ⟨_, dec n, [], he, rfl, said_int64 S hT n hn, rfl⟩
  rename_i e3
  rw [if_neg e3]
  exact .inl ⟨n, he, rfl⟩

def againE (R : Int × ByteArray × Bool) (e : Ending) : Prop := if R.2.2 = true then e = .returned (.int .i64 R.1) else e = .panicked [{ v := .iface 9 (.string R.2.1), recovered := false }]
theorem gOut_rel {x : Int × ByteArray × Bool} {v : Value} (h : (gOut x).rel [] v) : v = .tuple #[.int .i64 x.1, .string x.2.1, .bool x.2.2] := by
  obtain ⟨ys, rfl, hys⟩ := h
  match ys, hys with
  | [y0, y1, y2], ⟨⟨h0, _⟩, ⟨h1, _⟩, ⟨h2, _⟩, _⟩ =>
  subst h0 h1 h2
  rfl
theorem pass2_spec (S : Store) (bf : Nat) (u : Value) (R : Int × ByteArray × Bool) (hf : S.rd bf 0 [u]) (hg : Pure Tryd.prog 8 S [u] (A := Int × ByteArray × Bool) gOut (fun _ x => x = R)) :
    PureX S 17 [.pointer (some ⟨bf, 0, none⟩)] (againE R) := by
  intro w hw
  have c1 := cell_of hf hw
  have hE : ∀ args w, (callFunc 8 args).run Tryd.prog w = .ok (.enter 8 args) w := enters_of Tryd.func8 (by kernel_rfl) rfl
  obtain ⟨a, b, c⟩ := R
  cases c with
  | true =>
    simp only [againE, if_true]
    go_enter Tryd.func17, Tryd.ntmps17
    go_wp2_with (go_at_call 8; refine (hg _ hw).mono ?_; rintro e w' ⟨v, x, S', rfl, hrel, -, -, hold, -, rfl⟩; obtain rfl := gOut_rel hrel)
    go_ret
    exact ⟨hold, rfl⟩
  | false =>
    simp only [againE, Bool.false_eq_true, if_false]
    go_enter Tryd.func17, Tryd.ntmps17
    go_wp2_with (go_at_call 8; refine (hg _ hw).mono ?_; rintro e w' ⟨v, x, S', rfl, hrel, -, -, hold, -, rfl⟩; obtain rfl := gOut_rel hrel)
    exact ⟨rfl, hold, rfl⟩
theorem pass2_guard (S : Store) (bf : Nat) (u : Value) (R : Int × ByteArray × Bool) (hR : (R.2.2 = true ∧ R.2.1 = ByteArray.empty) ∨ (R.2.2 = false ∧ R.1 = 0)) (hf : S.rd bf 0 [u]) (hg : Pure Tryd.prog 8 S [u] (A := Int × ByteArray × Bool) gOut (fun _ x => x = R)) :
    Pure Tryd.prog 8 S [.func (.func 17) #[] #[.pointer (some ⟨bf, 0, none⟩)]] (A := Int × ByteArray × Bool) gOut (fun _ x => x = R) := by
  refine guard_spec S 17 [_] (againE R) _ (enters_of Tryd.func17 (by kernel_rfl) rfl) (pass2_spec S bf u R hf hg) fun e he => ?_
  obtain ⟨a, b, c⟩ := R
  rcases hR with ⟨h1, h2⟩ | ⟨h1, h2⟩
  · simp only at h1 h2
    subst h1 h2
    simp only [againE, if_true] at he
    exact .inl ⟨a, he, rfl⟩
  · simp only at h1 h2
    subst h1 h2
    simp only [againE, Bool.false_eq_true, if_false] at he
    exact .inr ⟨_, b, [], he, rfl, said_string S b, rfl⟩
end Go.Proofs.YtjlkekebhgjlcaaDoor
