/- law63: the program's Parse. -/
import Derived.Test.YtikpdgjdeikinaaGreatDoorFf
namespace Go.Proofs.YtikpdgjdeikinaaGreatDoor
open Go Go.Vc Go.Sort
set_option maxRecDepth 100000
set_option maxHeartbeats 8000000

/-- A line by its first space. -/
theorem read_miss {s : Sc.Bs} (h : (32 : UInt8) ∉ s) : Sc.readR s = if Sc.opOf s < 0 then (Sc.c0, 16) else readP (Sc.opOf s) [] false := by
  unfold Sc.readR
  rw [Txt.pieces_miss h]
  show Sc.readW s [] = _
  unfold Sc.readW readP readL
  by_cases h0 : Sc.opOf s < 0
  · rw [if_pos h0, if_pos h0]
  rw [if_neg h0, if_neg h0]
  by_cases h1 : Sc.kindOf (Sc.opOf s) = 1
  · rw [if_pos h1, if_pos h1, if_pos (.inl rfl), if_pos (.inl rfl)]
  rw [if_neg h1, if_neg h1, if_neg (show ¬ false = true by decide)]
theorem read_hit {l r : Sc.Bs} (h : (32 : UInt8) ∉ l) : Sc.readR (l ++ 32 :: r) = if Sc.opOf l < 0 then (Sc.c0, 16) else readP (Sc.opOf l) r true := by
  unfold Sc.readR
  rw [Txt.pieces_hit _ h]
  show Sc.readW l (Txt.pieces 32 r) = _
  unfold Sc.readW readP readL
  by_cases h0 : Sc.opOf l < 0
  · rw [if_pos h0, if_pos h0]
  rw [if_neg h0, if_neg h0, Txt.join_pieces, if_pos rfl]
  by_cases h1 : Sc.kindOf (Sc.opOf l) = 1
  · rw [if_pos h1, if_pos h1]
    have hn := Txt.pieces_ne 32 r
    by_cases hp : Sc.plainW r = false
    · rw [if_pos (.inr hp), if_pos (.inr hp)]
    · rw [if_neg (by rintro (q | q); exact hn q; exact hp q), if_neg (by rintro (q | q); cases q; exact hp q)]
  rw [if_neg h1, if_neg h1]
/-- The first line and the rest. -/
theorem line_cut {s : Sc.Bs} (hs : s ≠ []) : ∃ one rest : Sc.Bs, ((10 ∉ s ∧ one = s ∧ rest = []) ∨ (s = one ++ 10 :: rest ∧ 10 ∉ one)) ∧ rest.length < s.length ∧ one.length ≤ s.length ∧ ∀ (n : Nat) (acc : List Sc.Cmd), Sc.parseP n acc (Txt.pieces 10 s) =
    if Sc.skipR one = true then Sc.parseP (n + 1) acc (Txt.pieces 10 rest) else if (Sc.readR one).2 ≠ 0 then ([], (n : Int), (Sc.readR one).2) else if acc.length = 1000 then ([], (n : Int), 15) else Sc.parseP (n + 1) (acc ++ [((n : Int), (Sc.readR one).1.2)]) (Txt.pieces 10 rest) := by
  have hl : 0 < s.length := by cases s with | nil => exact absurd rfl hs | cons _ _ => simp
  rcases Txt.split_at 10 s with h | ⟨l, r, rfl, h⟩
  · refine ⟨s, [], .inl ⟨h, rfl, rfl⟩, hl, Nat.le_refl _, fun n acc => ?_⟩
    have e : ∀ (m : Nat) (a : List Sc.Cmd), Sc.parseP m a (Txt.pieces 10 []) = Sc.parseP m a [] := fun m a => rfl
    rw [Txt.pieces_miss h, Sc.parse_cons, e, e]
  · refine ⟨l, r, .inr ⟨rfl, h⟩, by rw [List.length_append, List.length_cons]; omega, by rw [List.length_append]; omega, fun n acc => ?_⟩
    rw [Txt.pieces_hit _ h, Sc.parse_cons]
/-- Commands that the store knows. -/
def LIs (S : Store) (q : Hd) (l : List Sc.Cmd) : Prop := ∃ L : List (Cx × Sc.Cmd), L.map (·.2) = l ∧ q.2.1 = L.length ∧ q.2.1 ≤ q.2.2 ∧ RowRd S q.1 shC (L.map (·.1)) ∧ ∀ z ∈ L, CIs S z.1 z.2
theorem LIs.le {S S' : Store} (h : S.le S') {q l} (hx : LIs S q l) : LIs S' q l := by
  obtain ⟨L, h1, h2, h3, h4, h5⟩ := hx
  exact ⟨L, h1, h2, h3, h4.le h, fun z hz => (h5 z hz).le h⟩
theorem l_nil (S : Store) : LIs S (none, 0, 0) [] := ⟨[], rfl, rfl, Nat.le_refl _, ⟨.inl rfl, fun x hx => (by cases hx)⟩, fun z hz => (by cases hz)⟩
@[reducible] def rLE (x : Hd × Int × Int) : SV := .tup [(false, [.v (slV x.1)]), (false, [.v (.int .i64 x.2.1)]), (false, [.v (.int .i64 x.2.2)])]
def PPost (r : List Sc.Cmd × Int × Int) (S' : Store) (x : Hd × Int × Int) : Prop := x.2 = r.2 ∧ LIs S' x.1 r.1
theorem PPost.le {S S' : Store} (h : S.le S') {r x} (hx : PPost r S x) : PPost r S' x := ⟨hx.1, hx.2.le h⟩
theorem okC (l : List Cx) : ∀ y ∈ l, shC.ok y := fun _ _ => ⟨trivial, trivial, trivial, trivial⟩
theorem skip_head {b : UInt8} {l : Sc.Bs} : Sc.skipR (b :: l) = (b == 59) := rfl
theorem pure_as {f : FuncId} {S : Store} {args : List Value} {A B : Type} {out : A → SV} {out' : B → SV} {Post : Store → A → Prop} (g : A → B) (h : Pure Tryz.prog f S args out Post) (ho : ∀ x, out x = out' (g x) := by intro _; rfl) : Pure Tryz.prog f S args out' (fun _ _ => True) := by
  intro w hw
  refine (h w hw).mono ?_
  rintro e w' ⟨v, x, S', h1, h2, h3, h4, h5, h6, _⟩
  exact ⟨v, g x, S', h1, by rw [← ho]; exact h2, h3, h4, h5, h6, trivial⟩
theorem c59 {b : UInt8} (h : b ≠ 59) : ((b.toNat : Int) == 59) = false := beq_eq_false_iff_ne.2 fun q => h (by
  have : b.toNat = 59 := by omega
  exact UInt8.toNat_inj.1 this)
/-- A line cut at its first space. -/
theorem space_cut (S : Store) (hL : Lw S) (one : Sc.Bs) (hs : one.length ≤ 1000000) : ∃ (name args : Sc.Bs) (b : Bool), Pure Tryz.prog 23 S [.string (bs one), .string (bs [32])] (A := Unit) (fun _ => rCut name args b) (fun _ _ => True) ∧
    Sc.readR one = (if Sc.opOf name < 0 then (Sc.c0, 16) else readP (Sc.opOf name) args b) ∧ args.length ≤ one.length := by
  rcases Txt.split_at 32 one with h | ⟨l, r, rfl, h⟩
  · exact ⟨one, [], false, cut_miss_spec S hL one 32 (by omega) h, read_miss h, Nat.zero_le _⟩
  · exact ⟨l, r, true, cut_hit_spec S hL l r 32 (by omega) h, read_hit h, by rw [List.length_append, List.length_cons]; omega⟩
theorem bs_get (s : List UInt8) (i : Nat) : (bs s)[i]? = s[i]? := by
  by_cases h : i < s.length
  · rw [getElem?_pos (bs s) i (by rw [bs_size]; exact h), List.getElem?_eq_getElem h]; rfl
  · rw [getElem?_neg (bs s) i (by rw [bs_size]; exact h), List.getElem?_eq_none (by omega)]
/-- The state of the loop: what is left, the line, the commands, the store. -/
abbrev Pz := Sc.Bs × Nat × List (Cx × Sc.Cmd) × Store
theorem parse_spec' (S : Store) (hL : Lw S) (s : Sc.Bs) (hs : s.length ≤ 1000000) : Pure Tryz.prog 9 S [.string (bs s)] rLE (fun S' x => PPost (Sc.parseR s) S' x) := by
  refine pure_vc agrees Tryz.func9 rfl rfl (fun S S' q hle h => h.le hle) ?_
  have hsz := bs_size s
  by_cases hbig : s.length > 65536
  · refine onE (decide_eq_true (by show ((bs s).size : Int) > 65536; omega)) ⟨rfl, ((none, 0, 0), 0, 7), rfl, ?_⟩
    unfold Sc.parseR; rw [if_pos hbig]
    exact ⟨rfl, l_nil S⟩
  refine offE (decide_eq_false (by show ¬ ((bs s).size : Int) > 65536; omega)) ?_
  have hR : Sc.parseR s = Sc.parseP 1 [] (Txt.pieces 10 s) := by unfold Sc.parseR; rw [if_neg hbig]
  rw [hR]
  refine ⟨[], [(5, shC, 28)], Pz, List.range' 7 9 ++ List.range' 19 51, fun a => [(0, rS (bs a.1)), (6, rI a.2.1)], fun a => [.row shC 28 (a.2.2.1.map (·.1))], fun a => a.2.2.2,
    fun a => S.le a.2.2.2 ∧ a.2.1 + a.1.length ≤ s.length + 1 ∧ a.2.2.1.length ≤ 1000 ∧ (∀ z ∈ a.2.2.1, CIs a.2.2.2 z.1 z.2) ∧ Sc.parseP a.2.1 (a.2.2.1.map (·.2)) (Txt.pieces 10 a.1) = Sc.parseP 1 [] (Txt.pieces 10 s), fun a => a.1.length, ?_⟩
  refine And.intro (Exists.intro (s, 1, [], S) (And.intro (And.intro (And.intro ?_ rfl) (And.intro rfl (Store.le_refl _))) ⟨Store.le_refl _, by show 1 + s.length ≤ s.length + 1; omega, Nat.zero_le _, (by simp), rfl⟩)) ?_
  · repeat' first | exact trivial | exact rfl | refine And.intro ?_ ?_
  rintro ⟨u, n, L, Sa⟩ ⟨hSa, hn, hL1k, hK, hinv⟩
  have hSa : S.le Sa := hSa
  have hn : n + u.length ≤ s.length + 1 := hn
  have hL1k : L.length ≤ 1000 := hL1k
  have hK : ∀ z ∈ L, CIs Sa z.1 z.2 := hK
  have hinv : Sc.parseP n (L.map (·.2)) (Txt.pieces 10 u) = Sc.parseP 1 [] (Txt.pieces 10 s) := hinv
  rw [← hinv]
  have hLa := hL.le hSa
  by_cases hu : u = []
  · refine offE (ntT (isE hu)) ?_
    intro p3 c3 S3 hS3 hr3 hpf3
    refine ⟨rfl, ((p3, (L.map (·.1)).length, c3), 0, 0), rfl, ?_⟩
    rw [hu]
    exact ⟨rfl, L, rfl, List.length_map _, pform_le hpf3.1, hr3, fun z hz => (hK z hz).le hS3⟩
  · obtain ⟨one, rest, hcut, hlt, hle, hstep⟩ := line_cut hu
    have hstep := hstep n (L.map (·.2))
    refine onE (ntF (isN hu)) ?_
    have hcs : Pure Tryz.prog 23 Sa [.string (bs u), .string (bs [10])] (A := Bool) (fun b => rCut one rest b) (fun _ _ => True) := by
      rcases hcut with ⟨h10, rfl, rfl⟩ | ⟨rfl, h10⟩
      · exact pure_as (fun _ => false) (cut_miss_spec Sa hLa _ 10 (by omega) h10)
      · exact pure_as (fun _ => true) (cut_hit_spec Sa hLa one rest 10 (by omega) h10)
    refine ⟨⟨_, rfl, rfl, rfl⟩, .inl ⟨_, _, _, hcs, fun S1 bl hS1 _ => ?_⟩⟩
    have hL1 := hLa.le hS1
    have wn : IntKind.i64.wrap (((n : Nat) : Int) + 1) = ((n + 1 : Nat) : Int) := wrap_i64 (by omega) (by omega)
    cases one with
    | nil =>
      rw [if_pos (show Sc.skipR [] = true from rfl)] at hstep
      refine onE (isE rfl) (onT ⟨((n + 1 : Nat) : Int), wn, (rest, n + 1, L, S1), ⟨⟨?_, rfl⟩, rfl, Store.le_refl _⟩, ⟨Store.le_trans hSa hS1, by show n + 1 + rest.length ≤ s.length + 1; omega, hL1k, fun z hz => (hK z hz).le hS1, hstep.symm⟩, hlt⟩)
      repeat' first | exact trivial | exact rfl | refine And.intro ?_ ?_
    | cons b l =>
      refine offE (isN (by simp)) ⟨Int.le_refl _, b, by rw [bs_get]; rfl, ?_⟩
      rw [skip_head] at hstep
      by_cases hb : b = 59
      · rw [if_pos (beq_iff_eq.2 hb)] at hstep
        refine onE (by rw [hb]; rfl) ⟨((n + 1 : Nat) : Int), wn, (rest, n + 1, L, S1), ⟨⟨?_, rfl⟩, rfl, Store.le_refl _⟩, ⟨Store.le_trans hSa hS1, by show n + 1 + rest.length ≤ s.length + 1; omega, hL1k, fun z hz => (hK z hz).le hS1, hstep.symm⟩, hlt⟩
        repeat' first | exact trivial | exact rfl | refine And.intro ?_ ?_
      rw [if_neg (fun q => hb (beq_iff_eq.1 q))] at hstep
      refine offE (c59 hb) ?_
      generalize hone : b :: l = one at *
      obtain ⟨name, args, bl2, hsp, hrd, hal⟩ := space_cut S1 hL1 one (by omega)
      refine ⟨⟨_, rfl, rfl, rfl⟩, .inl ⟨_, _, _, hsp, fun S2 _ hS2 _ => ?_⟩⟩
      have hL2 := hL1.le hS2
      refine ⟨⟨_, rfl, rfl, rfl⟩, .inl ⟨_, _, _, find_spec S2 name, fun S3 op hS3 hop => ?_⟩⟩
      have hop : op = Sc.opOf name := hop
      subst hop
      have hL3 := hL2.le hS3
      by_cases h0 : Sc.opOf name < 0
      · rw [if_pos h0] at hrd
        rw [hrd] at hstep
        refine onE (decide_eq_true h0) ⟨rfl, ((none, 0, 0), (n : Int), 16), rfl, ?_⟩
        rw [hstep]
        exact ⟨rfl, l_nil _⟩
      rw [if_neg h0] at hrd
      have h15 : Sc.opOf name ≤ 15 := by rcases Sc.op_range name with q | q <;> omega
      refine offE (decide_eq_false h0) ⟨⟨_, rfl, rfl, rfl⟩, .inl ⟨_, _, _, read_spec S3 hL3 (Sc.opOf name) (by omega) h15 args (by omega) bl2, fun S4 x hS4 hx => ?_⟩⟩
      rw [← hrd] at hx
      obtain ⟨⟨xl, xo, xn, xw⟩, e⟩ := x
      obtain ⟨hx1, hx2⟩ := hx
      have hx1 : e = (Sc.readR one).2 := hx1
      by_cases he : e = 0
      · rw [if_neg (by rw [← hx1, he]; simp)] at hstep
        have hc : CIs S4 (xl, xo, xn, xw) (Sc.readR one).1 := hx2 (hx1.symm.trans he)
        refine offE (bne_eq_false_iff_eq.2 he) ?_
        by_cases hf : L.length = 1000
        · rw [if_pos (by rw [List.length_map]; exact hf)] at hstep
          refine onE (beq_iff_eq.2 (show (((L.map (·.1)).length : Nat) : Int) = 1000 by rw [List.length_map]; omega)) ⟨rfl, ((none, 0, 0), (n : Int), 15), rfl, ?_⟩
          rw [hstep]
          exact ⟨rfl, l_nil _⟩
        · rw [if_neg (by rw [List.length_map]; exact hf)] at hstep
          have hS14 := Store.le_trans hS1 (Store.le_trans hS2 (Store.le_trans hS3 hS4))
          refine offE (beq_eq_false_iff_ne.2 (show ¬ (((L.map (·.1)).length : Nat) : Int) = 1000 by rw [List.length_map]; omega)) ?_
          refine ⟨[((n : Int), xo, xn, xw)], ⟨rfl, rfl⟩, okC _, by rw [List.length_map]; show (L.length + 1) * 64 ≤ 140737488355328; omega, ?_⟩
          refine ⟨((n + 1 : Nat) : Int), wn, (rest, n + 1, L ++ [(((n : Int), xo, xn, xw), ((n : Int), (Sc.readR one).1.2))], S4), ⟨⟨?_, rfl⟩, ?_, Store.le_refl _⟩, ⟨Store.le_trans hSa hS14, by show n + 1 + rest.length ≤ s.length + 1; omega, by show (L ++ [_]).length ≤ 1000; rw [List.length_append, List.length_singleton]; omega, fun z hz => ?_, ?_⟩, hlt⟩
          · repeat' first | exact trivial | exact rfl | refine And.intro ?_ ?_
          · show [Res.row shC 28 _] = [Res.row shC 28 _]
            rw [List.map_append]; rfl
          · rcases List.mem_append.1 hz with hz | hz
            · exact (hK z hz).le hS14
            · obtain rfl := List.mem_singleton.1 hz
              exact ⟨rfl, hc.op, hc.ns, hc.ws⟩
          · show Sc.parseP (n + 1) (List.map (fun z : Cx × Sc.Cmd => z.2) (L ++ [(((n : Int), xo, xn, xw), ((n : Int), (Sc.readR one).1.2))])) (Txt.pieces 10 rest) = _
            rw [List.map_append]
            exact hstep.symm
      · rw [if_pos (by rw [← hx1]; exact he)] at hstep
        refine onE (bne_iff_ne.2 he) ⟨rfl, ((none, 0, 0), (n : Int), e), rfl, ?_⟩
        rw [hstep, ← hx1]
        exact ⟨rfl, l_nil _⟩
end Go.Proofs.YtikpdgjdeikinaaGreatDoor
