/- law57: names, numbers, words: the program's whole, named, the reference's tens, number, words. -/
import Derived.Test.YtpeehenohdlfdaaGreatDoorFb
import Derived.Lib.AtoiAllCases
namespace Go.Proofs.YtpeehenohdlfdaaGreatDoor
open Go Go.Vc Go.Sort
set_option maxRecDepth 100000
set_option maxHeartbeats 4000000

theorem isE {u v : List UInt8} (h : u = v) : ((bs u).toList == (bs v).toList) = true := (bsq u v).trans (decide_eq_true h)
theorem isN {u v : List UInt8} (h : u ≠ v) : ((bs u).toList == (bs v).toList) = false := (bsq u v).trans (decide_eq_false h)
theorem ntT {b : Bool} (h : b = true) : (!b) = false := by rw [h]; rfl
theorem ntF {b : Bool} (h : b = false) : (!b) = true := by rw [h]; rfl
theorem eqv {u v : List UInt8} : ((bs u).toList == (bs v).toList) = decide (u = v) := bsq u v
theorem bs_get (s : List UInt8) (i : Nat) : (bs s)[i]? = s[i]? := by
  by_cases h : i < s.length
  · rw [getElem?_pos (bs s) i (by rw [bs_size]; exact h), List.getElem?_eq_getElem h]; rfl
  · rw [getElem?_neg (bs s) i (by rw [bs_size]; exact h), List.getElem?_eq_none (by omega)]
@[reducible] def rHB (x : Hd × Bool) : SV := .tup [(false, [.v (slV x.1)]), (false, [.v (.bool x.2)])]
theorem below_old {w w' : World} (h : Old w w') : Go.RowKit.Below w.heap.size w w' := ⟨h.os, h.tape, h.output, h.size, h.block⟩
theorem named_spec (S : Store) (s : List UInt8) (hs : s.length ≤ 1000000000) : Pure Tryz.prog 37 S [.string (bs s)] (A := Unit) (fun _ => rB (Sc.namedW s)) (fun _ _ => True) := by
  refine pure_vc agrees Tryz.func37 rfl rfl (fun S S' q hle h => h) ?_
  have hsz := bs_size s
  by_cases h0 : s = []
  · refine offE (ntT (isE h0)) (offE rfl ⟨rfl, (), ?_, trivial⟩)
    rw [h0]; rfl
  have hl : 1 ≤ s.length := by cases s with | nil => exact absurd rfl h0 | cons _ _ => simp
  refine onE (ntF (isN h0)) ?_
  unfold Sc.namedW
  rw [decide_eq_true hl, Bool.true_and]
  by_cases h1 : s.length ≤ 24
  · refine onE (decide_eq_true (by show ((bs s).size : Int) ≤ 24; omega)) ⟨⟨_, rfl, rfl, rfl⟩, .inl ⟨_, _, _, trim_spec S s hs, fun S1 _ hS1 _ => ⟨rfl, (), ?_, trivial⟩⟩⟩
    rw [decide_eq_true h1, Bool.true_and]
    show rB (s.all Sc.nameB) = rB ((bs (Lib.trimS s alnum)).toList == (bs []).toList)
    rw [eqv]
    congr 3
    rw [eq_comm]
    have := Txt.trim_empty (l := s) (cs := alnum)
    cases hq : s.all Sc.nameB with
    | true => exact decide_eq_true (this.2 fun x hx => by rw [alnum_has]; exact List.all_eq_true.1 hq x hx)
    | false =>
      refine decide_eq_false fun h => ?_
      have h2 := this.1 h
      have : s.all Sc.nameB = true := List.all_eq_true.2 fun x hx => by rw [← alnum_has]; exact h2 x hx
      rw [this] at hq; cases hq
  · refine offE (decide_eq_false (by show ¬ ((bs s).size : Int) ≤ 24; omega)) ⟨rfl, (), ?_, trivial⟩
    rw [decide_eq_false h1]; rfl
/-- Words, and numbers, that the store knows. -/
structure WsIs (S : Store) (q : Hd) (ws : List Sc.Bs) : Prop where
  len : q.2.1 = ws.length
  cap : q.2.1 ≤ q.2.2
  row : RowRd S q.1 .str (ws.map bs)
  few : ∀ w ∈ ws, w.length ≤ 1000000000
structure NsIs (S : Store) (q : Hd) (ns : List Int) : Prop where
  len : q.2.1 = ns.length
  cap : q.2.1 ≤ q.2.2
  row : RowRd S q.1 shI ns
  ins : ∀ n ∈ ns, inI64 n
theorem WsIs.le {S S' : Store} (h : S.le S') {q ws} (hv : WsIs S q ws) : WsIs S' q ws := ⟨hv.len, hv.cap, hv.row.le h, hv.few⟩
theorem NsIs.le {S S' : Store} (h : S.le S') {q ns} (hv : NsIs S q ns) : NsIs S' q ns := ⟨hv.len, hv.cap, hv.row.le h, hv.ins⟩
theorem ws_nil (S : Store) : WsIs S (none, 0, 0) [] := ⟨rfl, Nat.le_refl _, ⟨.inl rfl, fun x hx => (by cases hx)⟩, fun x hx => (by cases hx)⟩
theorem ns_nil (S : Store) : NsIs S (none, 0, 0) [] := ⟨rfl, Nat.le_refl _, ⟨.inl rfl, fun x hx => (by cases hx)⟩, fun x hx => (by cases hx)⟩
theorem pform_le {p : Option Addr} {n c : Nat} (h : PForm p n c) : n ≤ c := by
  rcases h with ⟨_, h1, _⟩ | ⟨g, _, h⟩
  · omega
  · exact h
theorem okInt (l : List Int) : ∀ y ∈ l, shI.ok y := fun _ _ => trivial
def WPost (ws : List Sc.Bs) (S' : Store) (x : Hd × Bool) : Prop := if ws.all Sc.okW = true then x.2 = true ∧ NsIs S' x.1 (ws.map Txt.valOf) else x.2 = false
theorem WPost.le {S S' : Store} (h : S.le S') {ws x} (hx : WPost ws S x) : WPost ws S' x := by
  unfold WPost at hx ⊢
  split
  · rename_i hq; rw [if_pos hq] at hx; exact ⟨hx.1, hx.2.le h⟩
  · rename_i hq; rw [if_neg hq] at hx; exact hx
theorem all_take {ws : List Sc.Bs} {i : Nat} {w : Sc.Bs} (hw : ws[i]? = some w) : ws.take (i + 1) = ws.take i ++ [w] := by rw [List.take_add_one, hw]; rfl
theorem whole_spec (S : Store) (hL : Lw S) (q : Hd) (ws : List Sc.Bs) (hw : WsIs S q ws) (hn : ws.length ≤ 1000000000) : Pure Tryz.prog 68 S [slV q] rHB (fun S' x => WPost ws S' x) := by
  obtain ⟨p, n, c⟩ := q
  obtain ⟨hl, hc, hr, hf⟩ := hw
  simp only at hl hc hr
  subst hl
  refine pure_vc agrees Tryz.func68 rfl rfl (fun S S' q hle h => h.le hle) ?_
  refine ⟨[], [(4, shI, 2)], Nat, [6, 7, 8] ++ List.range' 12 22, fun i => [(11, rI i)], fun i => [.row shI 2 ((ws.take i).map Txt.valOf)], fun _ => S, fun i => i ≤ ws.length ∧ ∀ w ∈ ws.take i, Sc.okW w = true, fun i => ws.length - i, ?_⟩
  refine And.intro (Exists.intro 0 (And.intro (And.intro (And.intro ?_ rfl) (And.intro rfl (Store.le_refl _))) ⟨Nat.zero_le _, by simp⟩)) ?_
  · repeat' first | exact trivial | exact rfl | refine And.intro ?_ ?_
  rintro i ⟨hi, hall⟩
  have i0 : (0 : Int) ≤ ((i : Nat) : Int) := Int.natCast_nonneg _
  refine And.intro (fun h => ?_) (fun h => ?_)
  · have hil : i < ws.length := by
      have : ((i : Nat) : Int) < ((ws.length : Nat) : Int) := of_decide_eq_true h
      omega
    obtain ⟨w, hx⟩ : ∃ w, ws[i]? = some w := ⟨_, List.getElem?_eq_getElem hil⟩
    have hmem := List.mem_of_getElem? hx
    obtain ⟨b, o, hp, -, hrd⟩ := row_at hr (i := i) (x := bs w) (by rw [List.getElem?_map, hx]; rfl)
    refine ⟨i0, by show ((i : Nat) : Int) < (ws.length : Int); omega, b, o, hp, bs w, trivial, hrd, ⟨_, rfl, rfl, rfl⟩, .inl ⟨_, _, _, parse_spec S hL w (hf w hmem), fun S1 x hS1 hx1 => ?_⟩⟩
    obtain ⟨v, e⟩ := x
    have bad : Sc.okW w = false → WPost ws S1 ((none, 0, 0), false) := fun h => by
      unfold WPost
      rw [if_neg]
      intro hq
      rw [List.all_eq_true.1 hq w hmem] at h; cases h
    rcases hx1 with ⟨he, hv⟩ | ⟨⟨t, p1, he⟩, hno⟩
    · have he : e = .nilIface := he
      subst he
      have hv : Lib.parseIntB 64 w = .ok v := hv
      have hv64 : inI64 v := by
        rw [Lib.parseIntB_64] at hv
        exact Lib.atoiAll_bounds hv
      refine onF ⟨⟨_, rfl, rfl, rfl⟩, .inl ⟨_, _, _, format_spec S1 (hL.le hS1) v hv64, fun S2 _ hS2 _ => ?_⟩⟩
      by_cases hq : Lib.itoa v = w
      · obtain ⟨hvv, hok⟩ := parse_in hv hq
        refine offE (ntT (isE hq)) ?_
        refine ⟨[v], ⟨rfl, rfl⟩, okInt _, by rw [List.length_map, List.length_take]; show (min i ws.length + 1) * 8 ≤ 140737488355328; omega, ?_⟩
        refine ⟨((i + 1 : Nat) : Int), wrap_i64 (by omega) (by omega), i + 1, ⟨⟨?_, rfl⟩, ?_, Store.le_trans hS1 hS2⟩, ⟨hil, ?_⟩, by show ws.length - (i + 1) < ws.length - i; omega⟩
        · repeat' first | exact trivial | exact rfl | refine And.intro ?_ ?_
        · show [Res.row shI 2 _] = [Res.row shI 2 _]
          rw [all_take hx, List.map_append, List.map_singleton, ← hvv]
        · intro z hz
          rw [all_take hx] at hz
          rcases List.mem_append.1 hz with hz | hz
          · exact hall z hz
          · rw [List.mem_singleton.1 hz]; exact hok
      · refine onE (ntF (isN hq)) ⟨rfl, ((none, 0, 0), false), rfl, ?_⟩
        refine WPost.le hS2 (bad ?_)
        cases hb : Sc.okW w with
        | false => rfl
        | true =>
          obtain ⟨u, h1, h2⟩ := parse_okW.2 hb
          rw [hv] at h1
          injection h1 with h1
          rw [h1] at hq
          exact absurd h2 hq
    · have he : e = .iface t p1 := he
      subst he
      refine onT (onT ⟨rfl, ((none, 0, 0), false), rfl, bad ?_⟩)
      cases hb : Sc.okW w with
      | false => rfl
      | true =>
        obtain ⟨u, h1, h2⟩ := parse_okW.2 hb
        exact absurd h1 (hno u)
  · have hil : i = ws.length := by
      have : ¬ ((i : Nat) : Int) < ((ws.length : Nat) : Int) := of_decide_eq_false h
      omega
    subst hil
    rw [List.take_length] at hall
    intro p3 c3 S3 hS3 hr3 hpf3
    refine ⟨rfl, ((p3, ((ws.take ws.length).map Txt.valOf).length, c3), true), rfl, ?_⟩
    rw [List.take_length] at hr3 hpf3 ⊢
    unfold WPost
    rw [if_pos (List.all_eq_true.2 hall)]
    refine ⟨rfl, rfl, pform_le hpf3.1, hr3, fun n hn => ?_⟩
    obtain ⟨w, hw, rfl⟩ := List.mem_map.1 hn
    exact in64_iff.1 (Sc.okW_in (hall w hw))
end Go.Proofs.YtpeehenohdlfdaaGreatDoor
