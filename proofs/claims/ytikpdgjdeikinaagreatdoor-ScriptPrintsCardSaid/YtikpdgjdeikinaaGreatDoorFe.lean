/- law63: the program's fits, whole, check. -/
import Derived.Test.YtikpdgjdeikinaaGreatDoorFd
import Derived.Lib.AtoiAllCases
namespace Go.Proofs.YtikpdgjdeikinaaGreatDoor
open Go Go.Vc Go.Sort
set_option maxRecDepth 100000
set_option maxHeartbeats 4000000

/-- Words, and numbers, that the store knows. -/
structure WsIs (S : Store) (q : Hd) (ws : List Sc.Bs) : Prop where
  len : q.2.1 = ws.length
  cap : q.2.1 ≤ q.2.2
  row : RowRd S q.1 .str (ws.map bs)
  few : ∀ w ∈ ws, w.length ≤ 1000000000
structure NsIs (S : Store) (q : Hd) (ns : List Int) : Prop where
  len : q.2.1 = ns.length
  cap : q.2.1 ≤ q.2.2
  row : RowRd S q.1 shI ns
  ins : ∀ n ∈ ns, inI64 n
theorem WsIs.le {S S' : Store} (h : S.le S') {q ws} (hv : WsIs S q ws) : WsIs S' q ws := ⟨hv.len, hv.cap, hv.row.le h, hv.few⟩
theorem NsIs.le {S S' : Store} (h : S.le S') {q ns} (hv : NsIs S q ns) : NsIs S' q ns := ⟨hv.len, hv.cap, hv.row.le h, hv.ins⟩
theorem ws_nil (S : Store) : WsIs S (none, 0, 0) [] := ⟨rfl, Nat.le_refl _, ⟨.inl rfl, fun x hx => (by cases hx)⟩, fun x hx => (by cases hx)⟩
theorem ns_nil (S : Store) : NsIs S (none, 0, 0) [] := ⟨rfl, Nat.le_refl _, ⟨.inl rfl, fun x hx => (by cases hx)⟩, fun x hx => (by cases hx)⟩
theorem fits_no {k : Nat} {ws : List Sc.Bs} (hk : k ≠ 0) (h : ws.length ≠ 1) : Sc.fitsW k ws = false := by
  unfold Sc.fitsW
  split
  · exact beq_eq_false_iff_ne.2 hk
  · exact absurd rfl h
  · rfl
theorem fits_z (ws : List Sc.Bs) : Sc.fitsW 0 ws = decide (ws.length = 0) := by
  unfold Sc.fitsW
  split
  · rfl
  · simp
  · rename_i h1 h2
    cases ws with
    | nil => exact absurd rfl h1
    | cons a l => simp
theorem fits_spec (S : Store) (x : Sx) (q : Hd) (ws : List Sc.Bs) (k : Nat) (hk2 : k = 0 ∨ k = 1 ∨ k = 2) (hk : x.2.2.2 = (k : Int)) (hw : WsIs S q ws) : Pure Tryz.prog 33 S [vS x, slV q] (A := Unit) (fun _ => rB (Sc.fitsW k ws)) (fun _ _ => True) := by
  obtain ⟨x1, x2, x3, x4⟩ := x
  have hk : x4 = (k : Int) := hk
  subst hk
  refine pure_vc agrees Tryz.func33 rfl rfl (fun S S' q hle h => h) ?_
  have hl := hw.len
  rcases hk2 with rfl | rfl | rfl
  · refine onE rfl ⟨rfl, (), ?_, trivial⟩
    rw [fits_z]
    show rB (decide (ws.length = 0)) = rB (((q.2.1 : Nat) : Int) == 0)
    have : (((q.2.1 : Nat) : Int) == 0) = decide (ws.length = 0) := by
      by_cases h : ws.length = 0
      · rw [decide_eq_true h]; exact beq_iff_eq.2 (by omega)
      · rw [decide_eq_false h]; exact beq_eq_false_iff_ne.2 (by omega)
    rw [this]
  all_goals refine offE rfl ?_
  · by_cases h1 : ws.length = 1
    · obtain ⟨w, rfl⟩ : ∃ w, ws = [w] := List.length_eq_one_iff.1 h1
      obtain ⟨b, o, hp, -, hrd⟩ := row_at hw.row (i := 0) rfl
      refine onE (beq_iff_eq.2 (show ((q.2.1 : Nat) : Int) = 1 by omega)) (onE rfl ⟨Int.le_refl _, by show (0 : Int) < ((q.2.1 : Nat) : Int); omega, b, o, hp, bs w, trivial, hrd, ⟨_, rfl, rfl, rfl⟩, .inl ⟨_, _, _, plain_spec S w, fun S1 _ hS1 _ => ?_⟩⟩)
      have e : Sc.fitsW 1 [w] = Sc.plainW w := by simp [Sc.fitsW]
      rw [e]
      cases hq : Sc.plainW w with
      | true => exact onT ⟨rfl, (), rfl, trivial⟩
      | false => exact onF (offE rfl ⟨rfl, (), rfl, trivial⟩)
    · refine offE (beq_eq_false_iff_ne.2 (show ¬ ((q.2.1 : Nat) : Int) = 1 by omega)) ?_
      rw [fits_no (by decide) h1]
      exact ⟨rfl, (), rfl, trivial⟩
  · by_cases h1 : ws.length = 1
    · obtain ⟨w, rfl⟩ : ∃ w, ws = [w] := List.length_eq_one_iff.1 h1
      obtain ⟨b, o, hp, -, hrd⟩ := row_at hw.row (i := 0) rfl
      have e : Sc.fitsW 2 [w] = Sc.namedW w := by simp [Sc.fitsW]
      rw [e]
      exact onE (beq_iff_eq.2 (show ((q.2.1 : Nat) : Int) = 1 by omega)) (offE rfl (onF (onE rfl ⟨Int.le_refl _, by show (0 : Int) < ((q.2.1 : Nat) : Int); omega, b, o, hp, bs w, trivial, hrd, ⟨_, rfl, rfl, rfl⟩, .inl ⟨_, _, _, named_spec S w (hw.few w (by simp)), fun S1 _ hS1 _ => ⟨rfl, (), rfl, trivial⟩⟩⟩)))
    · refine offE (beq_eq_false_iff_ne.2 (show ¬ ((q.2.1 : Nat) : Int) = 1 by omega)) ?_
      rw [fits_no (by decide) h1]
      exact ⟨rfl, (), rfl, trivial⟩
@[reducible] def rHB (x : Hd × Bool) : SV := .tup [(false, [.v (slV x.1)]), (false, [.v (.bool x.2)])]
theorem pform_le {p : Option Addr} {n c : Nat} (h : PForm p n c) : n ≤ c := by
  rcases h with ⟨_, h1, _⟩ | ⟨g, _, h⟩
  · omega
  · exact h
theorem okInt (l : List Int) : ∀ y ∈ l, shI.ok y := fun _ _ => trivial
def WPost (ws : List Sc.Bs) (S' : Store) (x : Hd × Bool) : Prop := if ws.all Sc.okW = true then x.2 = true ∧ NsIs S' x.1 (ws.map Txt.valOf) else x.2 = false
theorem WPost.le {S S' : Store} (h : S.le S') {ws x} (hx : WPost ws S x) : WPost ws S' x := by
  unfold WPost at hx ⊢
  split
  · rename_i hq; rw [if_pos hq] at hx; exact ⟨hx.1, hx.2.le h⟩
  · rename_i hq; rw [if_neg hq] at hx; exact hx
theorem all_take {ws : List Sc.Bs} {i : Nat} {w : Sc.Bs} (hw : ws[i]? = some w) : ws.take (i + 1) = ws.take i ++ [w] := by rw [List.take_add_one, hw]; rfl
theorem whole_spec (S : Store) (hL : Lw S) (q : Hd) (ws : List Sc.Bs) (hw : WsIs S q ws) (hn : ws.length ≤ 1000000000) : Pure Tryz.prog 41 S [slV q] rHB (fun S' x => WPost ws S' x) := by
  obtain ⟨p, n, c⟩ := q
  obtain ⟨hl, hc, hr, hf⟩ := hw
  simp only at hl hc hr
  subst hl
  refine pure_vc agrees Tryz.func41 rfl rfl (fun S S' q hle h => h.le hle) ?_
  refine ⟨[], [(4, shI, 2)], Nat, [6, 7, 8] ++ List.range' 12 22, fun i => [(11, rI i)], fun i => [.row shI 2 ((ws.take i).map Txt.valOf)], fun _ => S, fun i => i ≤ ws.length ∧ ∀ w ∈ ws.take i, Sc.okW w = true, fun i => ws.length - i, ?_⟩
  refine And.intro (Exists.intro 0 (And.intro (And.intro (And.intro ?_ rfl) (And.intro rfl (Store.le_refl _))) ⟨Nat.zero_le _, by simp⟩)) ?_
  · repeat' first | exact trivial | exact rfl | refine And.intro ?_ ?_
  rintro i ⟨hi, hall⟩
  have i0 : (0 : Int) ≤ ((i : Nat) : Int) := Int.natCast_nonneg _
  refine And.intro (fun h => ?_) (fun h => ?_)
  · have hil : i < ws.length := by
      have : ((i : Nat) : Int) < ((ws.length : Nat) : Int) := of_decide_eq_true h
      omega
    obtain ⟨w, hx⟩ : ∃ w, ws[i]? = some w := ⟨_, List.getElem?_eq_getElem hil⟩
    have hmem := List.mem_of_getElem? hx
    obtain ⟨b, o, hp, -, hrd⟩ := row_at hr (i := i) (x := bs w) (by rw [List.getElem?_map, hx]; rfl)
    refine ⟨i0, by show ((i : Nat) : Int) < (ws.length : Int); omega, b, o, hp, bs w, trivial, hrd, ⟨_, rfl, rfl, rfl⟩, .inl ⟨_, _, _, parse_spec S hL w (hf w hmem), fun S1 x hS1 hx1 => ?_⟩⟩
    obtain ⟨v, e⟩ := x
    have bad : Sc.okW w = false → WPost ws S1 ((none, 0, 0), false) := fun h => by
      unfold WPost
      rw [if_neg]
      intro hq
      rw [List.all_eq_true.1 hq w hmem] at h; cases h
    rcases hx1 with ⟨he, hv⟩ | ⟨⟨t, p1, he⟩, hno⟩
    · have he : e = .nilIface := he
      subst he
      have hv : Lib.parseIntB 64 w = .ok v := hv
      have hv64 : inI64 v := by
        rw [Lib.parseIntB_64] at hv
        exact Lib.atoiAll_bounds hv
      refine onF ⟨⟨_, rfl, rfl, rfl⟩, .inl ⟨_, _, _, format_spec S1 (hL.le hS1) v hv64, fun S2 _ hS2 _ => ?_⟩⟩
      by_cases hq : Lib.itoa v = w
      · obtain ⟨hvv, hok⟩ := parse_in hv hq
        refine offE (ntT (isE hq)) ?_
        refine ⟨[v], ⟨rfl, rfl⟩, okInt _, by rw [List.length_map, List.length_take]; show (min i ws.length + 1) * 8 ≤ 140737488355328; omega, ?_⟩
        refine ⟨((i + 1 : Nat) : Int), wrap_i64 (by omega) (by omega), i + 1, ⟨⟨?_, rfl⟩, ?_, Store.le_trans hS1 hS2⟩, ⟨hil, ?_⟩, by show ws.length - (i + 1) < ws.length - i; omega⟩
        · repeat' first | exact trivial | exact rfl | refine And.intro ?_ ?_
        · show [Res.row shI 2 _] = [Res.row shI 2 _]
          rw [all_take hx, List.map_append, List.map_singleton, ← hvv]
        · intro z hz
          rw [all_take hx] at hz
          rcases List.mem_append.1 hz with hz | hz
          · exact hall z hz
          · rw [List.mem_singleton.1 hz]; exact hok
      · refine onE (ntF (isN hq)) ⟨rfl, ((none, 0, 0), false), rfl, ?_⟩
        refine WPost.le hS2 (bad ?_)
        cases hb : Sc.okW w with
        | false => rfl
        | true =>
          obtain ⟨u, h1, h2⟩ := parse_okW.2 hb
          rw [hv] at h1
          injection h1 with h1
          rw [h1] at hq
          exact absurd h2 hq
    · have he : e = .iface t p1 := he
      subst he
      refine onT (onT ⟨rfl, ((none, 0, 0), false), rfl, bad ?_⟩)
      cases hb : Sc.okW w with
      | false => rfl
      | true =>
        obtain ⟨u, h1, h2⟩ := parse_okW.2 hb
        exact absurd h1 (hno u)
  · have hil : i = ws.length := by
      have : ¬ ((i : Nat) : Int) < ((ws.length : Nat) : Int) := of_decide_eq_false h
      omega
    subst hil
    rw [List.take_length] at hall
    intro p3 c3 S3 hS3 hr3 hpf3
    refine ⟨rfl, ((p3, ((ws.take ws.length).map Txt.valOf).length, c3), true), rfl, ?_⟩
    rw [List.take_length] at hr3 hpf3 ⊢
    unfold WPost
    rw [if_pos (List.all_eq_true.2 hall)]
    refine ⟨rfl, rfl, pform_le hpf3.1, hr3, fun n hn => ?_⟩
    obtain ⟨w, hw, rfl⟩ := List.mem_map.1 hn
    exact in64_iff.1 (Sc.okW_in (hall w hw))
def chkR (op : Int) (ns : List Int) (ws : List Sc.Bs) : Int := if ns.length < Sc.leastOf op ∨ Sc.leastOf op + Sc.moreOf op < ns.length ∨ Sc.fitsW (Sc.kindOf op) ws = false then 5 else if Sc.rangeOk (Sc.bnds op) ns = false then 3 else 0
theorem check_chk (n op : Int) (h0 : 0 ≤ op) (h1 : op ≤ 15) (ns : List Int) (ws : List Sc.Bs) : Sc.checkR (n, op, ns, ws) = chkR op ns ws := by
  unfold Sc.checkR
  rw [if_neg (by show ¬ (op < 0 ∨ 15 < op); omega)]
  rfl
theorem more_le (op : Int) : Sc.moreOf op ≤ 4 := by unfold Sc.moreOf; split <;> omega
theorem range_nil (ns : List Int) : Sc.rangeOk [] ns = true := by unfold Sc.rangeOk; rfl
theorem range_nil2 (l : List (Int × Int)) : Sc.rangeOk l [] = true := by cases l <;> rfl
theorem range_cons (b : Int × Int) (bl : List (Int × Int)) (n : Int) (ns : List Int) : Sc.rangeOk (b :: bl) (n :: ns) = (inB b n && Sc.rangeOk bl ns) := rfl
set_option maxHeartbeats 8000000 in
theorem check_spec (S : Store) (x : Sx) (op : Int) (hx : ShIs S op x) (nq wq : Hd) (ns : List Int) (ws : List Sc.Bs) (hn : NsIs S nq ns) (hnl : ns.length ≤ 1000000000) (hw : WsIs S wq ws) : Pure Tryz.prog 18 S [vS x, slV nq, slV wq] rI (fun _ e => e = chkR op ns ws) := by
  obtain ⟨x1, ⟨xp, xn, xc⟩, x3, x4⟩ := x
  obtain ⟨-, ⟨hfl, fs, hfs, hfr, hfn⟩, hm, hk⟩ := hx
  have hm : x3 = (Sc.moreOf op : Nat) := hm
  have hk : x4 = (Sc.kindOf op : Nat) := hk
  have hfl : xn = Sc.leastOf op := hfl
  have hfs : fs.length = Sc.leastOf op := hfs
  subst hm hk hfl
  obtain ⟨np, nn, nc⟩ := nq
  obtain ⟨hnn, hnc, hnr, hni⟩ := hn
  have hnn : nn = ns.length := hnn
  subst hnn
  have hll := Sc.least_le op
  have hml := more_le op
  have hkc := Sc.kind_cases op
  refine pure_vc agrees Tryz.func18 rfl rfl (fun S S' q hle h => h) ?_
  by_cases h1 : ns.length < Sc.leastOf op
  · refine onE (decide_eq_true (show ((ns.length : Nat) : Int) < ((Sc.leastOf op : Nat) : Int) by omega)) (onT (onT ⟨rfl, 5, rfl, ?_⟩))
    unfold chkR; rw [if_pos (.inl h1)]
  refine offE (decide_eq_false (show ¬ ((ns.length : Nat) : Int) < ((Sc.leastOf op : Nat) : Int) by omega)) ⟨((Sc.leastOf op + Sc.moreOf op : Nat) : Int), (by rw [wrap_i64 (by simp only; omega) (by simp only; omega)]; simp only; omega), ?_⟩
  by_cases h2 : Sc.leastOf op + Sc.moreOf op < ns.length
  · refine onE (decide_eq_true (show ((ns.length : Nat) : Int) > ((Sc.leastOf op + Sc.moreOf op : Nat) : Int) by omega)) (onT ⟨rfl, 5, rfl, ?_⟩)
    unfold chkR; rw [if_pos (.inr (.inl h2))]
  refine offE (decide_eq_false (show ¬ ((ns.length : Nat) : Int) > ((Sc.leastOf op + Sc.moreOf op : Nat) : Int) by omega)) ⟨⟨_, rfl, rfl, rfl⟩, .inl ⟨_, _, _, fits_spec S (x1, (xp, Sc.leastOf op, xc), ((Sc.moreOf op : Nat) : Int), ((Sc.kindOf op : Nat) : Int)) wq ws (Sc.kindOf op) hkc rfl hw, fun S1 _ hS1 _ => ?_⟩⟩
  cases hf : Sc.fitsW (Sc.kindOf op) ws with
  | false =>
    refine onT ⟨rfl, 5, rfl, ?_⟩
    unfold chkR; rw [if_pos (.inr (.inr hf))]
  | true =>
    refine onF ?_
    have hchk : chkR op ns ws = if Sc.rangeOk (Sc.bnds op) ns = false then 3 else 0 := by
      unfold chkR; rw [if_neg]; rintro (q | q | q)
      · exact h1 q
      · exact h2 q
      · rw [hf] at q; cases q
    rw [hchk]
    refine ⟨[], [], Nat, [7, 8, 9] ++ List.range' 36 19, fun i => [(35, rI i)], fun _ => [.box [.v (.string x1), .v (.slice xp (Sc.leastOf op) xc), .v (.int .i64 (Sc.moreOf op : Nat)), .v (.int .i64 (Sc.kindOf op : Nat))]], fun _ => S1, fun i => i ≤ ns.length ∧ Sc.rangeOk ((Sc.bnds op).drop i) (ns.drop i) = Sc.rangeOk (Sc.bnds op) ns, fun i => ns.length - i, ?_⟩
    refine And.intro (Exists.intro 0 (And.intro (And.intro (And.intro ?_ rfl) (And.intro rfl (Store.le_refl _))) ⟨Nat.zero_le _, rfl⟩)) ?_
    · repeat' first | exact trivial | exact rfl | refine And.intro ?_ ?_
    rintro i ⟨hi, hinv⟩
    have i0 : (0 : Int) ≤ ((i : Nat) : Int) := Int.natCast_nonneg _
    refine And.intro (fun h => ?_) (fun h => ?_)
    · have hil : i < ns.length := by
        have : ((i : Nat) : Int) < ((ns.length : Nat) : Int) := of_decide_eq_true h
        omega
      obtain ⟨v, hv⟩ : ∃ v, ns[i]? = some v := ⟨_, List.getElem?_eq_getElem hil⟩
      obtain ⟨b, o, hp, -, hrd⟩ := row_at (hnr.le hS1) hv
      have hdn : ns.drop i = v :: ns.drop (i + 1) := by
        rw [List.getElem?_eq_getElem hil] at hv
        rw [← Option.some.inj hv, List.getElem_cons_drop]
      refine ⟨i0, by show ((i : Nat) : Int) < (ns.length : Int); omega, b, o, hp, v, trivial, hrd, ?_⟩
      by_cases hlt : i < Sc.leastOf op
      · obtain ⟨f, hff⟩ : ∃ f, fs[i]? = some f := ⟨_, List.getElem?_eq_getElem (by omega)⟩
        have hlt2 : i < (Sc.bnds op).length := hlt
        obtain ⟨bd, hbd⟩ : ∃ bd, (Sc.bnds op)[i]? = some bd := ⟨_, List.getElem?_eq_getElem hlt2⟩
        have hdb : (Sc.bnds op).drop i = bd :: (Sc.bnds op).drop (i + 1) := by
          rw [List.getElem?_eq_getElem hlt2] at hbd
          rw [← Option.some.inj hbd, List.getElem_cons_drop]
        rw [hdn, hdb, range_cons] at hinv
        obtain ⟨b2, o2, hp2, hok2, hrd2⟩ := row_at (hfr.le hS1) hff
        have hfi := (hfn i f bd hff hbd).le hS1
        refine onE (decide_eq_true (show ((i : Nat) : Int) < ((Sc.leastOf op : Nat) : Int) by omega)) ⟨i0, by show ((i : Nat) : Int) < ((Sc.leastOf op : Nat) : Int); omega, b2, o2, hp2, f, hok2, hrd2, ?_⟩
        rcases hfi with ⟨g, rfl, hE, hsp⟩ | ⟨a1, c1, rfl, ha1, hc1⟩
        · refine ⟨g, #[], #[], rfl, rfl, (by intro v hv; simp at hv), hE, .inl ⟨_, _, _, hsp S1 v, fun S2 _ hS2 _ => ?_⟩⟩
          cases hb : inB bd v with
          | false =>
            rw [hb, Bool.false_and] at hinv
            exact onT ⟨rfl, 3, rfl, by rw [← hinv]; rfl⟩
          | true =>
            rw [hb, Bool.true_and] at hinv
            refine onF ⟨((i + 1 : Nat) : Int), wrap_i64 (by omega) (by omega), i + 1, ⟨⟨?_, rfl⟩, rfl, hS2⟩, ⟨hil, hinv⟩, by show ns.length - (i + 1) < ns.length - i; omega⟩
            repeat' first | exact trivial | exact rfl | refine And.intro ?_ ?_
        · refine ⟨42, #[], #[ptrV a1, ptrV c1], rfl, rfl, (by intro v hv; simp at hv; rcases hv with rfl | rfl <;> rfl), ⟨_, rfl, rfl, rfl⟩, .inl ⟨_, _, _, clo_spec S1 a1 c1 bd v ha1 hc1, fun S2 _ hS2 _ => ?_⟩⟩
          cases hb : inB bd v with
          | false =>
            rw [hb, Bool.false_and] at hinv
            exact onT ⟨rfl, 3, rfl, by rw [← hinv]; rfl⟩
          | true =>
            rw [hb, Bool.true_and] at hinv
            refine onF ⟨((i + 1 : Nat) : Int), wrap_i64 (by omega) (by omega), i + 1, ⟨⟨?_, rfl⟩, rfl, hS2⟩, ⟨hil, hinv⟩, by show ns.length - (i + 1) < ns.length - i; omega⟩
            repeat' first | exact trivial | exact rfl | refine And.intro ?_ ?_
      · have hd0 : (Sc.bnds op).drop i = [] := List.drop_eq_nil_of_le (by show Sc.leastOf op ≤ i; omega)
        have hd1 : (Sc.bnds op).drop (i + 1) = [] := List.drop_eq_nil_of_le (by show Sc.leastOf op ≤ i + 1; omega)
        rw [hd0, range_nil] at hinv
        refine offE (decide_eq_false (show ¬ ((i : Nat) : Int) < ((Sc.leastOf op : Nat) : Int) by omega)) ⟨34, #[], #[], rfl, rfl, (by intro v hv; simp at hv), ⟨_, rfl, rfl, rfl⟩, .inl ⟨_, _, _, any_spec S1 v, fun S2 _ hS2 _ => ?_⟩⟩
        refine onF ⟨((i + 1 : Nat) : Int), wrap_i64 (by omega) (by omega), i + 1, ⟨⟨?_, rfl⟩, rfl, hS2⟩, ⟨hil, by rw [hd1, range_nil]; exact hinv⟩, by show ns.length - (i + 1) < ns.length - i; omega⟩
        repeat' first | exact trivial | exact rfl | refine And.intro ?_ ?_
    · have hil : i = ns.length := by
        have : ¬ ((i : Nat) : Int) < ((ns.length : Nat) : Int) := of_decide_eq_false h
        omega
      subst hil
      rw [List.drop_length, range_nil2] at hinv
      exact ⟨rfl, 0, rfl, by rw [← hinv]; rfl⟩
end Go.Proofs.YtikpdgjdeikinaaGreatDoor
