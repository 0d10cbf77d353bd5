/- law07: the program's reading of a line, all of it. -/
import Derived.Test.YtlecojgodkidkaaDoorFd
namespace Go.Proofs.YtlecojgodkidkaaDoor
open Go Go.Vc
set_option maxRecDepth 100000

def cntOf (k : Int) : Nat := if k = 0 then 2 else 1
def mkP (k : Int) (vs : List Int) : Pk := if k = 0 then (0, vs.getD 0 0, vs.getD 1 0) else if k = 1 then (1, vs.getD 0 0, 0) else (2, 0, vs.getD 0 0)
def readW (w : List UInt8) (args : List (List UInt8)) : Pk × Int :=
  if kindOf w < 0 then ((0, 0, 0), 5) else if args.length ≠ cntOf (kindOf w) then ((0, 0, 0), 5) else if args.all Txt.canon = false then ((0, 0, 0), 5)
  else if checkR (mkP (kindOf w) (args.map Txt.valOf)) ≠ 0 then ((0, 0, 0), 3) else (mkP (kindOf w) (args.map Txt.valOf), 0)
/-- A line as a pick: the pick and the error. -/
def readR (s : List UInt8) : Pk × Int := match Txt.pieces 32 s with
  | [] => ((0, 0, 0), 5)
  | w :: args => readW w args
@[reducible] def rPE (x : Pk × Int) : SV := .tup [(true, [.v (.int .i64 x.1.1), .v (.int .i64 x.1.2.1), .v (.int .i64 x.1.2.2)]), (false, [.v (.int .i64 x.2)])]

theorem kindOf_cases (w : List UInt8) : kindOf w = 0 ∨ kindOf w = 1 ∨ kindOf w = 2 ∨ kindOf w = -1 := by
  unfold kindOf
  split
  · simp
  · split
    · simp
    · split <;> simp

theorem atoiR_canon {a : List UInt8} (h : Txt.canon a = true) : (atoiR a = (Txt.valOf a, true) ∧ inI64 (Txt.valOf a)) ∨ ((atoiR a).2 = false ∧ ¬ inI64 (Txt.valOf a)) := by
  unfold atoiR
  rw [Txt.atoi_canon h]
  by_cases hv : -9223372036854775808 ≤ Txt.valOf a ∧ Txt.valOf a ≤ 9223372036854775807
  · rw [if_pos hv]; exact .inl ⟨rfl, hv⟩
  · rw [if_neg hv]; exact .inr ⟨rfl, hv⟩
theorem check_out {p : Pk} (h : ¬ inI64 p.2.1 ∨ ¬ inI64 p.2.2) : checkR p ≠ 0 := by
  obtain ⟨k, a, b⟩ := p
  simp only [inI64] at h
  unfold checkR
  simp only
  repeat' split
  all_goals omega
def satR (args : List (List UInt8)) : List Int := args.map fun a => (atoiR a).1
def greatR (args : List (List UInt8)) : Bool := args.any fun a => !(atoiR a).2
theorem great_no {args : List (List UInt8)} (hc : args.all Txt.canon = true) (hg : greatR args = false) : satR args = args.map Txt.valOf := by
  rw [satR]
  refine List.map_congr_left fun a ha => ?_
  have h1 := List.all_eq_true.1 hc a ha
  have h2 := List.any_eq_false.1 hg a ha
  rcases atoiR_canon h1 with ⟨h, _⟩ | ⟨h, _⟩
  · rw [h]
  · rw [h] at h2; exact absurd rfl h2
theorem great_yes {k : Int} {args : List (List UInt8)} (hk : k = 0 ∨ k = 1 ∨ k = 2) (hn : args.length = cntOf k) (hc : args.all Txt.canon = true) (hg : greatR args = true) : checkR (mkP k (args.map Txt.valOf)) ≠ 0 := by
  obtain ⟨a, ha, hb⟩ := List.any_eq_true.1 hg
  have h1 := List.all_eq_true.1 hc a ha
  have h2 : ¬ inI64 (Txt.valOf a) := by
    rcases atoiR_canon h1 with ⟨h, _⟩ | ⟨_, h⟩
    · rw [h] at hb; cases hb
    · exact h
  rcases hk with rfl | rfl | rfl
  · match args, hn with
    | [x, y], _ =>
      simp only [List.mem_cons, List.not_mem_nil, or_false] at ha
      rcases ha with rfl | rfl
      · exact check_out (.inl h2)
      · exact check_out (.inr h2)
    | [], hn => simp [cntOf] at hn
    | [_], hn => simp [cntOf] at hn
    | _ :: _ :: _ :: _, hn => simp [cntOf] at hn
  · match args, hn with
    | [x], _ =>
      simp only [List.mem_cons, List.not_mem_nil, or_false] at ha
      subst ha
      exact check_out (.inl h2)
    | [], hn => simp [cntOf] at hn
    | _ :: _ :: _, hn => simp [cntOf] at hn
  · match args, hn with
    | [x], _ =>
      simp only [List.mem_cons, List.not_mem_nil, or_false] at ha
      subst ha
      exact check_out (.inr h2)
    | [], hn => simp [cntOf] at hn
    | _ :: _ :: _, hn => simp [cntOf] at hn
/-- What the reading comes to where all numbers are well formed. -/
theorem read_end {k : Int} {w : List UInt8} {args : List (List UInt8)} (hw : kindOf w = k) (hk : k = 0 ∨ k = 1 ∨ k = 2) (hn : args.length = cntOf k) (hc : args.all Txt.canon = true) :
    readW w args = if greatR args = true ∨ checkR (mkP k (satR args)) ≠ 0 then ((0, 0, 0), 3) else (mkP k (satR args), 0) := by
  unfold readW
  rw [hw, if_neg (by omega), if_neg (by rw [hn]; simp), if_neg (by rw [hc]; simp)]
  by_cases hg : greatR args = true
  · rw [if_pos (great_yes hk hn hc hg), if_pos (.inl hg)]
  · rw [great_no hc (by simpa using hg)]
    by_cases h : checkR (mkP k (args.map Txt.valOf)) ≠ 0
    · rw [if_pos h, if_pos (.inr h)]
    · rw [if_neg h, if_neg (by simp only [not_or]; exact ⟨hg, h⟩)]
theorem read_cnt {k : Int} {w : List UInt8} {args : List (List UInt8)} (hw : kindOf w = k) (hk : k = 0 ∨ k = 1 ∨ k = 2) (hn : args.length ≠ cntOf k) : readW w args = ((0, 0, 0), 5) := by
  unfold readW
  rw [hw, if_neg (by omega), if_pos hn]
theorem read_form {k : Int} {w a : List UInt8} {args : List (List UInt8)} (hw : kindOf w = k) (hk : k = 0 ∨ k = 1 ∨ k = 2) (ha : a ∈ args) (hc : Txt.canon a = false) : readW w args = ((0, 0, 0), 5) := by
  unfold readW
  rw [hw, if_neg (by omega)]
  split
  · rfl
  · rw [if_pos]
    rw [List.all_eq_false]
    exact ⟨a, ha, by rw [hc]; simp⟩
theorem great_step {args : List (List UInt8)} {i : Nat} {a : List UInt8} (h : args[i]? = some a) : greatR (args.take (i + 1)) = (greatR (args.take i) || !(atoiR a).2) := by
  rw [List.take_add_one, h, greatR, List.any_append]; simp [greatR]
theorem sat_step {args : List (List UInt8)} {i : Nat} {a : List UInt8} (h : args[i]? = some a) : satR (args.take (i + 1)) = satR (args.take i) ++ [(atoiR a).1] := by
  rw [List.take_add_one, h, satR, List.map_append]; rfl
theorem okPtr (b o : Nat) : ∀ y ∈ [Value.pointer (some ⟨b, o, none⟩)], Shape.any.ok y := fun y hy => by rw [List.mem_singleton.1 hy]; rfl

set_option maxHeartbeats 1000000 in
theorem read_spec (S : Store) (hL : Lw S) (s : List UInt8) (hs : s.length ≤ 1000000) : Pure Tryd.prog 31 S [.string (bs s)] (A := Unit) (fun _ => rPE (readR s)) (fun _ _ => True) := by
  refine pure_vc agrees Tryd.func31 rfl rfl (fun S S' q hle h => h) ?_
  refine ⟨⟨_, rfl, rfl, rfl⟩, .inl ⟨_, _, _, split_spec S hL s (by omega), fun S1 q hS1 hq => ?_⟩⟩
  obtain ⟨p, n, c⟩ := q
  obtain ⟨hn, hc, hr⟩ := hq
  simp only at hn hc hr
  have hne := Txt.pieces_ne 32 s
  obtain ⟨w, args, hp⟩ : ∃ w args, Txt.pieces 32 s = w :: args := by
    cases h : Txt.pieces 32 s with
    | nil => exact absurd h hne
    | cons w args => exact ⟨w, args, rfl⟩
  have hwR : wordsR s = bs w :: args.map bs := by rw [wordsR, hp]; rfl
  have hRR : readR s = readW w args := by rw [readR, hp]
  have hal : ∀ a ∈ args, a.length ≤ s.length := fun a ha => Txt.pieces_len (c := 32) (by rw [hp]; simp [ha])
  rw [hwR] at hn hr
  rw [hRR]
  refine ⟨⟨_, rfl, rfl, rfl⟩, .inl ⟨_, _, _, kinds_spec S1, fun S2 _ hS2 _ => ?_⟩⟩
  have hL2 := (hL.le hS1).le hS2
  have hr2 := hr.le hS2
  refine ⟨by decide, by decide, by decide, ⟨_, rfl, rfl, rfl⟩, .inr (.inr (.inl fun b0 S3 hS3 hb0 b1 S4 hS4 hb1 => ?_))⟩
  refine ⟨_, _, _, find_spec S4 b1 b0 p n c w _ hb1 hn ((hr2.le hS3).le hS4) ⟨.inr ⟨b0, 0, rfl, Store.rd_le hS4 hb0⟩, fun _ _ => ⟨trivial, trivial, trivial⟩⟩, fun S5 k hS5 hk => ?_⟩
  obtain rfl : k = kindOf w := hk
  have hcnt : args.length ≤ s.length := by
    have := Txt.pieces_count 32 s
    rw [hp] at this
    simpa using this
  have hsub : IntKind.i64.wrap ((n : Int) - 1) = (args.length : Int) := by
    rw [hn]; simp only [List.length_cons, List.length_map]; rw [wrap_i64 (by omega) (by omega)]; omega
  have hr4 : RowRd S2 (if c = 1 then p else p.map fun p => addrAdd p (1 * 1)) .str (args.map bs) := by
    have := hr2.drop (c := c) (k := 1) (sz := 1) (by rw [← hn]; exact hc) rfl
    simpa using this
  have hn1 : n - 1 = args.length := by rw [hn]; simp
  rcases kindOf_cases w with hk | hk | hk | hk
  all_goals rw [hk]
  · refine onF ⟨by decide, by decide, onT fun bp => .inl ⟨rfl, [.pointer (some ⟨bp, 1, none⟩)], ⟨rfl, rfl⟩, okPtr _ _, by show 1 * 8 ≤ 140737488355328; decide, ?_⟩⟩
    refine onT ⟨[.pointer (some ⟨bp, 2, none⟩)], ⟨rfl, rfl⟩, okPtr _ _, by show (1 + 1) * 8 ≤ 140737488355328; decide, ?_⟩
    refine ⟨(args.length : Int), hsub, ?_⟩
    by_cases hal2 : args.length = cntOf 0
    · refine offE (by rw [hal2]; rfl) ?_
      refine ⟨by decide, by show 1 ≤ n; rw [hn]; simp, hc, ?_⟩
      refine ⟨[], [], Nat, List.range' 11 39 ++ List.range' 53 33, fun i => [(10, rB (greatR (args.take i))), (52, rI i)],
        fun i => [.box [.v (.int .i64 0), .v (.int .i64 0), .v (.int .i64 0)], .box [.v (.slice p n c)], .box (kindL.flatMap shK.cs), .box (shK.cs (bs wStep, true, true)),
          .ext (BoxAt bp [.int .i64 (mkP 0 (satR (args.take i))).1, .int .i64 (mkP 0 (satR (args.take i))).2.1, .int .i64 (mkP 0 (satR (args.take i))).2.2] none), .row .any 94 [.pointer (some ⟨bp, 1, none⟩)],
          .row .any 94 [.pointer (some ⟨bp, 1, none⟩), .pointer (some ⟨bp, 2, none⟩)]], fun _ => S2, fun i => i ≤ args.length ∧ ∀ a ∈ args.take i, Txt.canon a = true, fun i => args.length - i, ?_⟩
      refine And.intro (Exists.intro 0 (And.intro (And.intro (And.intro ?_ rfl) (And.intro rfl ?_)) ⟨Nat.zero_le _, by simp⟩)) ?_
      · repeat' first | exact trivial | exact rfl | refine And.intro ?_ ?_
      · exact Store.le_refl _
      rintro i ⟨hi, hok⟩
      have i0 : (0 : Int) ≤ ((i : Nat) : Int) := Int.natCast_nonneg _
      refine And.intro (fun h => ?_) (fun h => ?_)
      · have hil : i < args.length := by
          have : ((i : Nat) : Int) < ((n - 1 : Nat) : Int) := of_decide_eq_true h
          omega
        obtain ⟨a, ha⟩ : ∃ a, args[i]? = some a := ⟨_, List.getElem?_eq_getElem hil⟩
        have haR : (args.map bs)[i]? = some (bs a) := by rw [List.getElem?_map, ha]; rfl
        obtain ⟨b2, o2, hp2, hok2, hrd⟩ := row_at hr4 haR
        have hal3 : a.length ≤ 1000000 := Nat.le_trans (hal a (List.mem_of_getElem? ha)) hs
        have hst := great_step ha
        refine ⟨i0, by show ((i : Nat) : Int) < ((n - 1 : Nat) : Int); omega, b2, o2, hp2, .inr ⟨bs a, trivial, hrd, ⟨_, rfl, rfl, rfl⟩, .inl ⟨_, _, _, number_spec S2 hL2 a hal3, fun S5 _ hS5 _ => ?_⟩⟩⟩
        by_cases hcan : Txt.canon a = true
        · refine offE (ntT hcan) ?_
          have h2 : i = 0 ∨ i = 1 := by have : args.length = 2 := hal2; omega
          have hok' : ∀ a' ∈ args.take (i + 1), Txt.canon a' = true := by
            intro a' ha'
            rw [List.take_add_one, ha] at ha'
            rcases List.mem_append.1 ha' with h | h
            · exact hok a' h
            · have : a' = a := by simpa using h
              rw [this]; exact hcan
          have hmu : args.length - (i + 1) < args.length - i := by omega
          obtain ⟨x, y, rfl⟩ : ∃ x y, args = [x, y] := by
            match args, hal2 with
            | [x, y], _ => exact ⟨x, y, rfl⟩
            | [], h => simp [cntOf] at h
            | [_], h => simp [cntOf] at h
            | _ :: _ :: _ :: _, h => simp [cntOf] at h
          rcases h2 with rfl | rfl
          · obtain rfl : x = a := Option.some.inj ha
            refine ⟨by decide, by show ((0 : Nat) : Int) < ((2 : Nat) : Int); decide, .pointer (some ⟨bp, 1, none⟩), rfl, 4, _, none, rfl, rfl, by show 1 + 1 ≤ 3; decide, ?_⟩
            refine onB (fun h => ?_) (fun h => ?_)
            all_goals
              rw [h] at hst
              refine ⟨((1 : Nat) : Int), rfl, 1, ⟨⟨?_, rfl⟩, rfl, hS5⟩, ⟨hil, hok'⟩, hmu⟩
              have e : rB (greatR (List.take (0 + 1) [x, y])) = _ := congrArg rB hst
              repeat' first | exact trivial | exact rfl | exact e.symm | refine And.intro ?_ ?_
          · obtain rfl : y = a := Option.some.inj ha
            refine ⟨by decide, by show ((1 : Nat) : Int) < ((2 : Nat) : Int); decide, .pointer (some ⟨bp, 2, none⟩), rfl, 4, _, none, rfl, rfl, by show 2 + 1 ≤ 3; decide, ?_⟩
            refine onB (fun h => ?_) (fun h => ?_)
            all_goals
              rw [h] at hst
              refine ⟨((2 : Nat) : Int), rfl, 2, ⟨⟨?_, rfl⟩, rfl, hS5⟩, ⟨hil, hok'⟩, hmu⟩
              have e : rB (greatR (List.take (1 + 1) [x, y])) = _ := congrArg rB hst
              repeat' first | exact trivial | exact rfl | exact e.symm | refine And.intro ?_ ?_
        · exact onE (ntF (show Txt.canon a = false by simpa using hcan)) ⟨rfl, (), (congrArg rPE (read_form hk (by simp) (List.mem_of_getElem? ha) (by simpa using hcan))).trans rfl, trivial⟩
      · have hil : i = args.length := by
          have : ¬ ((i : Nat) : Int) < ((n - 1 : Nat) : Int) := of_decide_eq_false h
          omega
        subst hil
        have hti : List.take args.length args = args := List.take_length
        rw [hti] at hok
        have hcan : args.all Txt.canon = true := List.all_eq_true.2 hok
        have hre : readW w args = if greatR (List.take args.length args) = true ∨ checkR (mkP 0 (satR (List.take args.length args))) ≠ 0 then ((0, 0, 0), 3) else (mkP 0 (satR (List.take args.length args)), 0) := by
          rw [hti]; exact read_end hk (by simp) hal2 hcan
        refine onB (fun hg => ?_) (fun hg => ?_)
        · exact onT ⟨rfl, (), (congrArg rPE (hre.trans (if_pos (.inl hg)))).trans rfl, trivial⟩
        · refine .inl ⟨4, _, none, rfl, ⟨_, rfl, rfl, rfl⟩, .inl ⟨_, _, _, wrong_spec S2 (mkP 0 (satR (List.take args.length args))), fun S5 e hS5 he => ?_⟩⟩
          obtain rfl : e = _ := he
          by_cases hch : checkR (mkP 0 (satR (List.take args.length args))) = 0
          · refine offE (by rw [hch]; rfl) ?_
            exact .inl ⟨4, _, none, rfl, rfl, (), (congrArg rPE (hre.trans (if_neg (by simp only [not_or]; exact ⟨by rw [hg]; simp, by rw [hch]; simp⟩)))).trans rfl, trivial⟩
          · exact onE (by simpa using hch) ⟨rfl, (), (congrArg rPE (hre.trans (if_pos (.inr hch)))).trans rfl, trivial⟩
    · exact onE (by show (!((2 : Int) == (args.length : Int))) = true; simp [cntOf] at hal2 ⊢; omega) ⟨rfl, (), (congrArg rPE (read_cnt hk (by simp) hal2)).trans rfl, trivial⟩
  · refine onF ⟨by decide, by decide, onT fun bp => .inl ⟨rfl, [.pointer (some ⟨bp, 1, none⟩)], ⟨rfl, rfl⟩, okPtr _ _, by show 1 * 8 ≤ 140737488355328; decide, onF ?_⟩⟩
    refine ⟨(args.length : Int), hsub, ?_⟩
    by_cases hal2 : args.length = cntOf 1
    · refine offE (by rw [hal2]; rfl) ?_
      refine ⟨by decide, by show 1 ≤ n; rw [hn]; simp, hc, ?_⟩
      refine ⟨[], [], Nat, List.range' 11 39 ++ List.range' 53 33, fun i => [(10, rB (greatR (args.take i))), (52, rI i)],
        fun i => [.box [.v (.int .i64 0), .v (.int .i64 0), .v (.int .i64 0)], .box [.v (.slice p n c)], .box (kindL.flatMap shK.cs), .box (shK.cs (bs wStop, true, false)),
          .ext (BoxAt bp [.int .i64 (mkP 1 (satR (args.take i))).1, .int .i64 (mkP 1 (satR (args.take i))).2.1, .int .i64 (mkP 1 (satR (args.take i))).2.2] none), .row .any 94 [.pointer (some ⟨bp, 1, none⟩)],
          .row .any 94 [.pointer (some ⟨bp, 1, none⟩)]], fun _ => S2, fun i => i ≤ args.length ∧ ∀ a ∈ args.take i, Txt.canon a = true, fun i => args.length - i, ?_⟩
      refine And.intro (Exists.intro 0 (And.intro (And.intro (And.intro ?_ rfl) (And.intro rfl ?_)) ⟨Nat.zero_le _, by simp⟩)) ?_
      · repeat' first | exact trivial | exact rfl | refine And.intro ?_ ?_
      · exact Store.le_refl _
      rintro i ⟨hi, hok⟩
      have i0 : (0 : Int) ≤ ((i : Nat) : Int) := Int.natCast_nonneg _
      refine And.intro (fun h => ?_) (fun h => ?_)
      · have hil : i < args.length := by
          have : ((i : Nat) : Int) < ((n - 1 : Nat) : Int) := of_decide_eq_true h
          omega
        obtain ⟨a, ha⟩ : ∃ a, args[i]? = some a := ⟨_, List.getElem?_eq_getElem hil⟩
        have haR : (args.map bs)[i]? = some (bs a) := by rw [List.getElem?_map, ha]; rfl
        obtain ⟨b2, o2, hp2, hok2, hrd⟩ := row_at hr4 haR
        have hal3 : a.length ≤ 1000000 := Nat.le_trans (hal a (List.mem_of_getElem? ha)) hs
        have hst := great_step ha
        refine ⟨i0, by show ((i : Nat) : Int) < ((n - 1 : Nat) : Int); omega, b2, o2, hp2, .inr ⟨bs a, trivial, hrd, ⟨_, rfl, rfl, rfl⟩, .inl ⟨_, _, _, number_spec S2 hL2 a hal3, fun S5 _ hS5 _ => ?_⟩⟩⟩
        by_cases hcan : Txt.canon a = true
        · refine offE (ntT hcan) ?_
          have h2 : i = 0 := by have : args.length = 1 := hal2; omega
          have hok' : ∀ a' ∈ args.take (i + 1), Txt.canon a' = true := by
            intro a' ha'
            rw [List.take_add_one, ha] at ha'
            rcases List.mem_append.1 ha' with h | h
            · exact hok a' h
            · have : a' = a := by simpa using h
              rw [this]; exact hcan
          have hmu : args.length - (i + 1) < args.length - i := by omega
          obtain ⟨x, rfl⟩ : ∃ x, args = [x] := by
            match args, hal2 with
            | [x], _ => exact ⟨x, rfl⟩
            | [], h => simp [cntOf] at h
            | _ :: _ :: _, h => simp [cntOf] at h
          subst h2
          obtain rfl : x = a := Option.some.inj ha
          refine ⟨by decide, by show ((0 : Nat) : Int) < ((1 : Nat) : Int); decide, .pointer (some ⟨bp, 1, none⟩), rfl, 4, _, none, rfl, rfl, by show 1 + 1 ≤ 3; decide, ?_⟩
          refine onB (fun h => ?_) (fun h => ?_)
          all_goals
            rw [h] at hst
            refine ⟨((1 : Nat) : Int), rfl, 1, ⟨⟨?_, rfl⟩, rfl, hS5⟩, ⟨hil, hok'⟩, hmu⟩
            have e : rB (greatR (List.take (0 + 1) [x])) = _ := congrArg rB hst
            repeat' first | exact trivial | exact rfl | exact e.symm | refine And.intro ?_ ?_
        · exact onE (ntF (show Txt.canon a = false by simpa using hcan)) ⟨rfl, (), (congrArg rPE (read_form hk (by simp) (List.mem_of_getElem? ha) (by simpa using hcan))).trans rfl, trivial⟩
      · have hil : i = args.length := by
          have : ¬ ((i : Nat) : Int) < ((n - 1 : Nat) : Int) := of_decide_eq_false h
          omega
        subst hil
        have hti : List.take args.length args = args := List.take_length
        rw [hti] at hok
        have hcan : args.all Txt.canon = true := List.all_eq_true.2 hok
        have hre : readW w args = if greatR (List.take args.length args) = true ∨ checkR (mkP 1 (satR (List.take args.length args))) ≠ 0 then ((0, 0, 0), 3) else (mkP 1 (satR (List.take args.length args)), 0) := by
          rw [hti]; exact read_end hk (by simp) hal2 hcan
        refine onB (fun hg => ?_) (fun hg => ?_)
        · exact onT ⟨rfl, (), (congrArg rPE (hre.trans (if_pos (.inl hg)))).trans rfl, trivial⟩
        · refine .inl ⟨4, _, none, rfl, ⟨_, rfl, rfl, rfl⟩, .inl ⟨_, _, _, wrong_spec S2 (mkP 1 (satR (List.take args.length args))), fun S5 e hS5 he => ?_⟩⟩
          obtain rfl : e = _ := he
          by_cases hch : checkR (mkP 1 (satR (List.take args.length args))) = 0
          · refine offE (by rw [hch]; rfl) ?_
            exact .inl ⟨4, _, none, rfl, rfl, (), (congrArg rPE (hre.trans (if_neg (by simp only [not_or]; exact ⟨by rw [hg]; simp, by rw [hch]; simp⟩)))).trans rfl, trivial⟩
          · exact onE (by simpa using hch) ⟨rfl, (), (congrArg rPE (hre.trans (if_pos (.inr hch)))).trans rfl, trivial⟩
    · exact onE (by show (!((1 : Int) == (args.length : Int))) = true; simp [cntOf] at hal2 ⊢; omega) ⟨rfl, (), (congrArg rPE (read_cnt hk (by simp) hal2)).trans rfl, trivial⟩
  · refine onF ⟨by decide, by decide, onF (onT fun bp => .inl ⟨rfl, [.pointer (some ⟨bp, 2, none⟩)], ⟨rfl, rfl⟩, okPtr _ _, by show 1 * 8 ≤ 140737488355328; decide, ?_⟩)⟩
    refine ⟨(args.length : Int), hsub, ?_⟩
    by_cases hal2 : args.length = cntOf 2
    · refine offE (by rw [hal2]; rfl) ?_
      refine ⟨by decide, by show 1 ≤ n; rw [hn]; simp, hc, ?_⟩
      refine ⟨[], [], Nat, List.range' 11 39 ++ List.range' 53 33, fun i => [(10, rB (greatR (args.take i))), (52, rI i)],
        fun i => [.box [.v (.int .i64 0), .v (.int .i64 0), .v (.int .i64 0)], .box [.v (.slice p n c)], .box (kindL.flatMap shK.cs), .box (shK.cs (bs wCrash, false, true)),
          .ext (BoxAt bp [.int .i64 (mkP 2 (satR (args.take i))).1, .int .i64 (mkP 2 (satR (args.take i))).2.1, .int .i64 (mkP 2 (satR (args.take i))).2.2] none), .row .any 94 [.pointer (some ⟨bp, 2, none⟩)],
          .row .any 94 [.pointer (some ⟨bp, 2, none⟩)]], fun _ => S2, fun i => i ≤ args.length ∧ ∀ a ∈ args.take i, Txt.canon a = true, fun i => args.length - i, ?_⟩
      refine And.intro (Exists.intro 0 (And.intro (And.intro (And.intro ?_ rfl) (And.intro rfl ?_)) ⟨Nat.zero_le _, by simp⟩)) ?_
      · repeat' first | exact trivial | exact rfl | refine And.intro ?_ ?_
      · exact Store.le_refl _
      rintro i ⟨hi, hok⟩
      have i0 : (0 : Int) ≤ ((i : Nat) : Int) := Int.natCast_nonneg _
      refine And.intro (fun h => ?_) (fun h => ?_)
      · have hil : i < args.length := by
          have : ((i : Nat) : Int) < ((n - 1 : Nat) : Int) := of_decide_eq_true h
          omega
        obtain ⟨a, ha⟩ : ∃ a, args[i]? = some a := ⟨_, List.getElem?_eq_getElem hil⟩
        have haR : (args.map bs)[i]? = some (bs a) := by rw [List.getElem?_map, ha]; rfl
        obtain ⟨b2, o2, hp2, hok2, hrd⟩ := row_at hr4 haR
        have hal3 : a.length ≤ 1000000 := Nat.le_trans (hal a (List.mem_of_getElem? ha)) hs
        have hst := great_step ha
        refine ⟨i0, by show ((i : Nat) : Int) < ((n - 1 : Nat) : Int); omega, b2, o2, hp2, .inr ⟨bs a, trivial, hrd, ⟨_, rfl, rfl, rfl⟩, .inl ⟨_, _, _, number_spec S2 hL2 a hal3, fun S5 _ hS5 _ => ?_⟩⟩⟩
        by_cases hcan : Txt.canon a = true
        · refine offE (ntT hcan) ?_
          have h2 : i = 0 := by have : args.length = 1 := hal2; omega
          have hok' : ∀ a' ∈ args.take (i + 1), Txt.canon a' = true := by
            intro a' ha'
            rw [List.take_add_one, ha] at ha'
            rcases List.mem_append.1 ha' with h | h
            · exact hok a' h
            · have : a' = a := by simpa using h
              rw [this]; exact hcan
          have hmu : args.length - (i + 1) < args.length - i := by omega
          obtain ⟨x, rfl⟩ : ∃ x, args = [x] := by
            match args, hal2 with
            | [x], _ => exact ⟨x, rfl⟩
            | [], h => simp [cntOf] at h
            | _ :: _ :: _, h => simp [cntOf] at h
          subst h2
          obtain rfl : x = a := Option.some.inj ha
          refine ⟨by decide, by show ((0 : Nat) : Int) < ((1 : Nat) : Int); decide, .pointer (some ⟨bp, 2, none⟩), rfl, 4, _, none, rfl, rfl, by show 2 + 1 ≤ 3; decide, ?_⟩
          refine onB (fun h => ?_) (fun h => ?_)
          all_goals
            rw [h] at hst
            refine ⟨((1 : Nat) : Int), rfl, 1, ⟨⟨?_, rfl⟩, rfl, hS5⟩, ⟨hil, hok'⟩, hmu⟩
            have e : rB (greatR (List.take (0 + 1) [x])) = _ := congrArg rB hst
            repeat' first | exact trivial | exact rfl | exact e.symm | refine And.intro ?_ ?_
        · exact onE (ntF (show Txt.canon a = false by simpa using hcan)) ⟨rfl, (), (congrArg rPE (read_form hk (by simp) (List.mem_of_getElem? ha) (by simpa using hcan))).trans rfl, trivial⟩
      · have hil : i = args.length := by
          have : ¬ ((i : Nat) : Int) < ((n - 1 : Nat) : Int) := of_decide_eq_false h
          omega
        subst hil
        have hti : List.take args.length args = args := List.take_length
        rw [hti] at hok
        have hcan : args.all Txt.canon = true := List.all_eq_true.2 hok
        have hre : readW w args = if greatR (List.take args.length args) = true ∨ checkR (mkP 2 (satR (List.take args.length args))) ≠ 0 then ((0, 0, 0), 3) else (mkP 2 (satR (List.take args.length args)), 0) := by
          rw [hti]; exact read_end hk (by simp) hal2 hcan
        refine onB (fun hg => ?_) (fun hg => ?_)
        · exact onT ⟨rfl, (), (congrArg rPE (hre.trans (if_pos (.inl hg)))).trans rfl, trivial⟩
        · refine .inl ⟨4, _, none, rfl, ⟨_, rfl, rfl, rfl⟩, .inl ⟨_, _, _, wrong_spec S2 (mkP 2 (satR (List.take args.length args))), fun S5 e hS5 he => ?_⟩⟩
          obtain rfl : e = _ := he
          by_cases hch : checkR (mkP 2 (satR (List.take args.length args))) = 0
          · refine offE (by rw [hch]; rfl) ?_
            exact .inl ⟨4, _, none, rfl, rfl, (), (congrArg rPE (hre.trans (if_neg (by simp only [not_or]; exact ⟨by rw [hg]; simp, by rw [hch]; simp⟩)))).trans rfl, trivial⟩
          · exact onE (by simpa using hch) ⟨rfl, (), (congrArg rPE (hre.trans (if_pos (.inr hch)))).trans rfl, trivial⟩
    · exact onE (by show (!((1 : Int) == (args.length : Int))) = true; simp [cntOf] at hal2 ⊢; omega) ⟨rfl, (), (congrArg rPE (read_cnt hk (by simp) hal2)).trans rfl, trivial⟩
  · exact onT ⟨rfl, (), by simp only [readW, hk]; rfl, trivial⟩
end Go.Proofs.YtlecojgodkidkaaDoor
