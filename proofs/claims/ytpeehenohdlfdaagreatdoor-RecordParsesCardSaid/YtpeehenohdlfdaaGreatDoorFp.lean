/- law57: the program's Parse. -/
import Derived.Test.YtpeehenohdlfdaaGreatDoorFo
namespace Go.Proofs.YtpeehenohdlfdaaGreatDoor
open Go Go.Vc Go.Sort
set_option maxRecDepth 100000
set_option maxHeartbeats 4000000

theorem pure_as {f : FuncId} {S : Store} {args : List Value} {A B : Type} {out : A → SV} {out' : B → SV} {Post : Store → A → Prop} (g : A → B) (h : Pure Tryz.prog f S args out Post) (ho : ∀ x, out x = out' (g x) := by intro _; rfl) : Pure Tryz.prog f S args out' (fun _ _ => True) := by
  intro w hw
  refine (h w hw).mono ?_
  rintro e w' ⟨v, x, S', h1, h2, h3, h4, h5, h6, _⟩
  exact ⟨v, g x, S', h1, by rw [← ho]; exact h2, h3, h4, h5, h6, trivial⟩
@[reducible] def rHNE (x : Hx × Int × Int) : SV := .tup [cH x.1, (false, [.v (.int .i64 x.2.1)]), (false, [.v (.int .i64 x.2.2)])]
def QPost (r : List Rc.Ev × Int × Int) (S' : Store) (x : Hx × Int × Int) : Prop := HIs S' x.1 r.1 ∧ x.2 = r.2
theorem QPost.le {S S' : Store} (h : S.le S') {r x} (hx : QPost r S x) : QPost r S' x := ⟨hx.1.le h, hx.2⟩
theorem parse_miss {u : Sc.Bs} (hu : u ≠ []) (h : (10 : UInt8) ∉ u) (n : Nat) (l : List Rc.Ev) : Rc.parseP n l (Txt.pieces 10 u) = ([], (n : Int), 5) := by
  rw [Txt.pieces_miss h]
  unfold Rc.parseP
  rw [if_pos rfl, if_neg hu]
theorem parse_hit {one rest : Sc.Bs} (h : (10 : UInt8) ∉ one) (n : Nat) (l : List Rc.Ev) : Rc.parseP n l (Txt.pieces 10 (one ++ 10 :: rest)) = if (Rc.readR l one).2 ≠ 0 then ([], (n : Int), (Rc.readR l one).2) else Rc.parseP (n + 1) (Rc.readR l one).1 (Txt.pieces 10 rest) := by
  rw [Txt.pieces_hit _ h]
  show (if Txt.pieces 10 rest = [] then (if one = [] then (l, 0, 0) else ([], (n : Int), 5)) else if (Rc.readR l one).2 ≠ 0 then ([], (n : Int), (Rc.readR l one).2) else Rc.parseP (n + 1) (Rc.readR l one).1 (Txt.pieces 10 rest)) = _
  rw [if_neg (Txt.pieces_ne 10 rest)]
theorem hparse_spec (S : Store) (hL : Lw S) (s : Sc.Bs) (hs : s.length ≤ 800000) : Pure Tryz.prog 23 S [.string (bs s)] (A := Hx × Int × Int) rHNE (fun S' x => QPost (Rc.parseR s) S' x) := by
  refine pure_vc agrees Tryz.func23 rfl rfl (fun S S' q hle h => h.le hle) ?_
  have hsz := bs_size s
  by_cases hbig : 65536 < s.length
  · refine onE (decide_eq_true (by show ((bs s).size : Int) > 65536; omega)) ⟨rfl, (((none, 0, 0), none, none), 0, 7), rfl, ?_⟩
    unfold Rc.parseR; rw [if_pos hbig]
    exact ⟨h_nil S, rfl⟩
  refine offE (decide_eq_false (by show ¬ ((bs s).size : Int) > 65536; omega)) ?_
  have hR : Rc.parseR s = Rc.parseP 1 [] (Txt.pieces 10 s) := by unfold Rc.parseR; rw [if_neg hbig]
  rw [hR]
  refine ⟨[], [], Sc.Bs × Nat × Hx × List Rc.Ev × Store, [7, 8, 9, 10, 11] ++ List.range' 16 27, fun a => [(0, rS (bs a.1)), (6, rI a.2.1)], fun a => [.box [.v (.slice none 0 0), .v (.map none), .v (.map none)], .box [.v (slV a.2.2.1.1), .v (.map a.2.2.1.2.1), .v (.map a.2.2.1.2.2)]], fun a => a.2.2.2.2,
    fun a => S.le a.2.2.2.2 ∧ a.2.1 + a.1.length ≤ s.length + 1 ∧ HIs a.2.2.2.2 a.2.2.1 a.2.2.2.1 ∧ Rc.parseP a.2.1 a.2.2.2.1 (Txt.pieces 10 a.1) = Rc.parseP 1 [] (Txt.pieces 10 s), fun a => a.1.length, ?_⟩
  refine And.intro (Exists.intro (s, 1, ((none, 0, 0), none, none), [], S) (And.intro (And.intro (And.intro ?_ rfl) (And.intro rfl (Store.le_refl _))) ⟨Store.le_refl _, by show 1 + s.length ≤ s.length + 1; omega, h_nil S, rfl⟩)) ?_
  · repeat' first | exact trivial | exact rfl | refine And.intro ?_ ?_
  rintro ⟨u, n, x, l, Sa⟩ ⟨hSa, hn, hx, hinv⟩
  have hSa : S.le Sa := hSa
  have hn : n + u.length ≤ s.length + 1 := hn
  have hx : HIs Sa x l := hx
  have hinv : Rc.parseP n l (Txt.pieces 10 u) = Rc.parseP 1 [] (Txt.pieces 10 s) := hinv
  rw [← hinv]
  have hLa := hL.le hSa
  by_cases hu : u = []
  · refine offE (ntT (isE hu)) ⟨rfl, (x, 0, 0), rfl, ?_⟩
    rw [hu]
    exact ⟨hx, rfl⟩
  refine onE (ntF (isN hu)) ?_
  rcases Txt.split_at 10 u with h10 | ⟨one, rest, rfl, h10⟩
  · refine ⟨⟨_, rfl, rfl, rfl⟩, .inl ⟨_, _, _, cut_miss_spec Sa hLa u 10 (by omega) h10, fun S1 _ hS1 _ => ?_⟩⟩
    refine onT ⟨rfl, (((none, 0, 0), none, none), (n : Int), 5), rfl, ?_⟩
    rw [parse_miss hu h10]
    exact ⟨h_nil _, rfl⟩
  · have hul : (one ++ 10 :: rest).length = one.length + rest.length + 1 := by rw [List.length_append, List.length_cons]; omega
    refine ⟨⟨_, rfl, rfl, rfl⟩, .inl ⟨_, _, _, cut_hit_spec Sa hLa one rest 10 (by omega) h10, fun S1 _ hS1 _ => ?_⟩⟩
    refine onF ⟨⟨_, rfl, rfl, rfl⟩, .inl ⟨_, _, _, read_spec S1 (hLa.le hS1) x l (hx.le hS1) one (by omega), fun S2 y hS2 hy => ?_⟩⟩
    obtain ⟨y, e⟩ := y
    have hy1 : HIs S2 y (Rc.readR l one).1 := hy.1
    have hy2 : e = (Rc.readR l one).2 := hy.2
    rw [parse_hit h10]
    by_cases he : e = 0
    · have hr : ¬ (Rc.readR l one).2 ≠ 0 := by rw [← hy2, he]; simp
      rw [if_neg hr]
      refine offE (bne_eq_false_iff_eq.2 he) ⟨((n + 1 : Nat) : Int), wrap_i64 (by omega) (by omega), (rest, n + 1, y, (Rc.readR l one).1, S2), ⟨⟨?_, rfl⟩, ?_, Store.le_refl _⟩, ⟨Store.le_trans hSa (Store.le_trans hS1 hS2), by show n + 1 + rest.length ≤ s.length + 1; omega, hy1, ?_⟩, by show rest.length < (one ++ 10 :: rest).length; omega⟩
      · repeat' first | exact trivial | exact rfl | refine And.intro ?_ ?_
      · rfl
      · rfl
    · have hr : (Rc.readR l one).2 ≠ 0 := by rw [← hy2]; exact he
      rw [if_pos hr, ← hy2]
      exact onE (bne_iff_ne.2 he) ⟨rfl, (((none, 0, 0), none, none), (n : Int), e), rfl, h_nil _, rfl⟩
end Go.Proofs.YtpeehenohdlfdaaGreatDoor
