/- law07: the reference's reading of a line. -/
import Derived.Test.YtlecojgodkidkaaDoorFh
namespace Go.Proofs.YtlecojgodkidkaaDoor
open Go Go.Vc
set_option maxRecDepth 100000

theorem refNum_canon {a : List UInt8} (h : Txt.canon a = true) : (refNum a = (Txt.valOf a, 0) ∧ inI64 (Txt.valOf a)) ∨ ((refNum a).2 = 3 ∧ (Txt.valOf a < -1099511627776 ∨ Txt.valOf a > 1099511627776)) := by
  have hc := Txt.cap_eq 1099511627776 (by decide) (Txt.magOf a) 0 (by omega)
  have e1 : capN (Txt.magOf a) (Txt.magOf a).length = ((Txt.capFrom 1099511627776 0 false (Txt.magOf a)).1 : Int) := by rw [capN, List.take_length]
  have e2 : capC (Txt.magOf a) (Txt.magOf a).length = if (Txt.capFrom 1099511627776 0 false (Txt.magOf a)).2 then 3 else 0 := by rw [capC, List.take_length]
  rw [refNum, if_pos h, e1, e2, hc, Txt.valOf]
  by_cases hv : Txt.valFrom 0 (Txt.magOf a) ≤ 1099511627776
  · rw [if_pos hv]
    refine .inl ⟨by simp, ?_⟩
    unfold inI64
    split <;> omega
  · rw [if_neg hv]
    refine .inr ⟨by simp, ?_⟩
    split <;> omega
def rvR (args : List (List UInt8)) : List Int := args.map fun a => (refNum a).1
def badR (args : List (List UInt8)) : Int := if args.any (fun a => (refNum a).2 != 0) then 3 else 0
theorem check_far {p : Pk} (h : (p.2.1 < -1099511627776 ∨ p.2.1 > 1099511627776) ∨ (p.2.2 < -1099511627776 ∨ p.2.2 > 1099511627776)) : checkR p ≠ 0 := by
  obtain ⟨k, a, b⟩ := p
  simp only at h
  unfold checkR
  simp only
  repeat' split
  all_goals omega
theorem bad_no {args : List (List UInt8)} (hc : args.all Txt.canon = true) (hg : badR args = 0) : rvR args = args.map Txt.valOf := by
  rw [rvR]
  refine List.map_congr_left fun a ha => ?_
  have h1 := List.all_eq_true.1 hc a ha
  have hg : args.any (fun a => (refNum a).2 != 0) = false := by
    unfold badR at hg
    split at hg
    · cases hg
    · rename_i h; simpa using h
  have h2 := List.any_eq_false.1 hg a ha
  rcases refNum_canon h1 with ⟨h, _⟩ | ⟨h, _⟩
  · rw [h]
  · rw [h] at h2; exact absurd rfl h2
theorem bad_yes {k : Int} {args : List (List UInt8)} (hk : k = 0 ∨ k = 1 ∨ k = 2) (hn : args.length = cntOf k) (hc : args.all Txt.canon = true) (hg : badR args ≠ 0) : checkR (mkP k (args.map Txt.valOf)) ≠ 0 := by
  have hg : args.any (fun a => (refNum a).2 != 0) = true := by
    unfold badR at hg
    split at hg
    · rename_i h; exact h
    · exact absurd rfl hg
  obtain ⟨a, ha, hb⟩ := List.any_eq_true.1 hg
  have h1 := List.all_eq_true.1 hc a ha
  have h2 : Txt.valOf a < -1099511627776 ∨ Txt.valOf a > 1099511627776 := by
    rcases refNum_canon h1 with ⟨h, _⟩ | ⟨_, h⟩
    · rw [h] at hb; cases hb
    · exact h
  rcases hk with rfl | rfl | rfl
  · match args, hn with
    | [x, y], _ =>
      simp only [List.mem_cons, List.not_mem_nil, or_false] at ha
      rcases ha with rfl | rfl
      · exact check_far (.inl h2)
      · exact check_far (.inr h2)
    | [], hn => simp [cntOf] at hn
    | [_], hn => simp [cntOf] at hn
    | _ :: _ :: _ :: _, hn => simp [cntOf] at hn
  · match args, hn with
    | [x], _ =>
      simp only [List.mem_cons, List.not_mem_nil, or_false] at ha
      subst ha
      exact check_far (.inl h2)
    | [], hn => simp [cntOf] at hn
    | _ :: _ :: _, hn => simp [cntOf] at hn
  · match args, hn with
    | [x], _ =>
      simp only [List.mem_cons, List.not_mem_nil, or_false] at ha
      subst ha
      exact check_far (.inr h2)
    | [], hn => simp [cntOf] at hn
    | _ :: _ :: _, hn => simp [cntOf] at hn
theorem refRead_end {k : Int} {w : List UInt8} {args : List (List UInt8)} (hw : kindOf w = k) (hk : k = 0 ∨ k = 1 ∨ k = 2) (hn : args.length = cntOf k) (hc : args.all Txt.canon = true) :
    readW w args = if badR args ≠ 0 ∨ checkR (mkP k (rvR args)) ≠ 0 then ((0, 0, 0), 3) else (mkP k (rvR args), 0) := by
  unfold readW
  rw [hw, if_neg (by omega), if_neg (by rw [hn]; simp), if_neg (by rw [hc]; simp)]
  by_cases hg : badR args = 0
  · rw [bad_no hc hg]
    by_cases h : checkR (mkP k (args.map Txt.valOf)) ≠ 0
    · rw [if_pos h, if_pos (.inr h)]
    · rw [if_neg h, if_neg (by simp only [not_or]; exact ⟨by rw [hg]; simp, h⟩)]
  · rw [if_pos (bad_yes hk hn hc hg), if_pos (.inl hg)]
theorem bad_step {args : List (List UInt8)} {i : Nat} {a : List UInt8} (h : args[i]? = some a) : badR (args.take (i + 1)) = if (refNum a).2 = 0 then badR (args.take i) else 3 := by
  rw [List.take_add_one, h]
  show badR (args.take i ++ [a]) = _
  unfold badR
  rw [List.any_append]
  by_cases h : (refNum a).2 = 0
  · simp [h]
  · have : ((refNum a).2 != 0) = true := by simpa using h
    simp [h]
theorem read_none {w : List UInt8} {args : List (List UInt8)} (h0 : ¬ (w = wStep ∧ args.length = 2)) (h1 : ¬ (w = wStop ∧ args.length = 1)) (h2 : ¬ (w = wCrash ∧ args.length = 1)) : readW w args = ((0, 0, 0), 5) := by
  unfold readW
  rcases kindOf_cases w with hk | hk | hk | hk
  · have : w = wStep := by
      unfold kindOf at hk
      split at hk
      · assumption
      · repeat (split at hk; cases hk)
        cases hk
    rw [hk, if_neg (by omega), if_pos (show args.length ≠ cntOf 0 from fun e => h0 ⟨this, e⟩)]
  · have : w = wStop := by
      unfold kindOf at hk
      split at hk
      · cases hk
      · split at hk
        · assumption
        · split at hk <;> cases hk
    rw [hk, if_neg (by omega), if_pos (show args.length ≠ cntOf 1 from fun e => h1 ⟨this, e⟩)]
  · have : w = wCrash := by
      unfold kindOf at hk
      split at hk
      · cases hk
      · split at hk
        · cases hk
        · split at hk
          · assumption
          · cases hk
    rw [hk, if_neg (by omega), if_pos (show args.length ≠ cntOf 2 from fun e => h2 ⟨this, e⟩)]
  · rw [hk, if_pos (by omega)]

set_option maxHeartbeats 1000000 in
theorem refRead_spec (S : Store) (s : List UInt8) (hs : s.length ≤ 1000000) : Pure Tryd.prog 32 S [.string (bs s)] (A := Unit) (fun _ => rPE (readR s)) (fun _ _ => True) := by
  refine pure_vc agrees Tryd.func32 rfl rfl (fun S S' q hle h => h) ?_
  refine ⟨⟨_, rfl, rfl, rfl⟩, .inl ⟨_, _, _, words_spec S s hs, fun S1 q hS1 hq => ?_⟩⟩
  obtain ⟨p, n, c⟩ := q
  obtain ⟨hn, hr⟩ := hq
  simp only at hn hr
  obtain ⟨w, args, hp⟩ : ∃ w args, Txt.pieces 32 s = w :: args := by
    cases h : Txt.pieces 32 s with
    | nil => exact absurd h (Txt.pieces_ne 32 s)
    | cons w args => exact ⟨w, args, rfl⟩
  have hwR : wordsR s = bs w :: args.map bs := by rw [wordsR, hp]; rfl
  have hRR : readR s = readW w args := by rw [readR, hp]
  have hal : ∀ a ∈ args, a.length ≤ s.length := fun a ha => Txt.pieces_len (c := 32) (by rw [hp]; simp [ha])
  have hcnt : args.length ≤ s.length := by
    have := Txt.pieces_count 32 s
    rw [hp] at this
    simpa using this
  rw [hwR] at hn hr
  rw [hRR]
  have hn' : n = args.length + 1 := by rw [hn]; simp
  obtain ⟨b0, o0, hp0, hok0, hrd0⟩ := row_at hr (i := 0) rfl
  have z0 : (0 : Int) < (n : Int) := by rw [hn']; omega
  have lenE : ∀ k : Nat, args.length = k → ((n : Int) == ((k + 1 : Nat) : Int)) = true := fun k e => by rw [hn', e]; simp
  have lenN : ∀ k : Nat, args.length ≠ k → ((n : Int) == ((k + 1 : Nat) : Int)) = false := fun k e => by rw [hn']; simp; omega
  refine ⟨by decide, z0, b0, o0, hp0, bs w, hok0, hrd0, ?_⟩
  by_cases hw0 : w = wStep
  · have hk : kindOf w = 0 := by simp [kindOf, hw0]
    refine onE (isE hw0) ?_
    by_cases hl : args.length = cntOf 0
    · refine onE (lenE 2 hl) ?_
      refine ⟨[], [], Nat, List.range' 8 75, fun i => [(6, rI (badR (args.take i))), (7, rI ((i + 1 : Nat) : Int))], fun i => [.box [.v (.int .i64 0), .v (.int .i64 0), .v (.int .i64 0)], .box [.v (.int .i64 0), .v (.int .i64 (mkP 0 (rvR (args.take i))).2.1), .v (.int .i64 (mkP 0 (rvR (args.take i))).2.2)]], fun _ => S1,
        fun i => i ≤ args.length ∧ ∀ a ∈ args.take i, Txt.canon a = true, fun i => args.length - i, ?_⟩
      refine And.intro (Exists.intro 0 (And.intro (And.intro (And.intro ?_ rfl) (And.intro rfl (Store.le_refl _))) ⟨Nat.zero_le _, by simp⟩)) ?_
      · repeat' first | exact trivial | exact rfl | refine And.intro ?_ ?_
      rintro i ⟨hi, hok⟩
      refine And.intro (fun h => ?_) (fun h => ?_)
      · have hil : i < args.length := by
          have : ((i + 1 : Nat) : Int) < (n : Int) := of_decide_eq_true h
          omega
        obtain ⟨a, ha⟩ : ∃ a, args[i]? = some a := ⟨_, List.getElem?_eq_getElem hil⟩
        have haR : (bs w :: args.map bs)[i + 1]? = some (bs a) := by rw [List.getElem?_cons_succ, List.getElem?_map, ha]; rfl
        obtain ⟨b2, o2, hp2, hok2, hrd⟩ := row_at hr haR
        have hal3 : a.length ≤ 1000000 := Nat.le_trans (hal a (List.mem_of_getElem? ha)) hs
        have hst := bad_step ha
        refine ⟨by omega, by show ((i + 1 : Nat) : Int) < (n : Int); omega, b2, o2, hp2, bs a, trivial, hrd, ⟨_, rfl, rfl, rfl⟩, .inl ⟨_, _, _, refNum_spec S1 a hal3, fun S5 _ hS5 _ => ?_⟩⟩
        by_cases hcan : Txt.canon a = true
        · have h5 : (refNum a).2 ≠ 5 := by
            rcases refNum_canon hcan with ⟨h, _⟩ | ⟨h, _⟩ <;> rw [h] <;> simp
          refine offE (by simpa using h5) ?_
          have hok' : ∀ a' ∈ args.take (i + 1), Txt.canon a' = true := by
            intro a' ha'
            rw [List.take_add_one, ha] at ha'
            rcases List.mem_append.1 ha' with h | h
            · exact hok a' h
            · have : a' = a := by simpa using h
              rw [this]; exact hcan
          have hmu : args.length - (i + 1) < args.length - i := by omega
          by_cases hz : (refNum a).2 = 0
          · rw [if_pos hz] at hst
            refine offE (by rw [hz]; rfl) ?_
            have h2 : i = 0 ∨ i = 1 := by have : args.length = 2 := hl; omega
            obtain ⟨x, y, rfl⟩ : ∃ x y, args = [x, y] := by
              match args, hl with
              | [x, y], _ => exact ⟨x, y, rfl⟩
              | [], h => simp [cntOf] at h
              | [_], h => simp [cntOf] at h
              | _ :: _ :: _ :: _, h => simp [cntOf] at h
            rcases h2 with rfl | rfl
            · obtain rfl : x = a := Option.some.inj ha
              refine onF (onF ?_)
              refine ⟨((2 : Nat) : Int), rfl, (0 + 1), ⟨⟨?_, rfl⟩, rfl, hS5⟩, ⟨hil, hok'⟩, hmu⟩
              have e : rI (badR (List.take (0 + 1) [x, y])) = _ := congrArg rI hst
              repeat' first | exact trivial | exact rfl | exact e.symm | refine And.intro ?_ ?_
            · obtain rfl : y = a := Option.some.inj ha
              refine onF (onT ?_)
              refine ⟨((3 : Nat) : Int), rfl, (1 + 1), ⟨⟨?_, rfl⟩, rfl, hS5⟩, ⟨hil, hok'⟩, hmu⟩
              have e : rI (badR (List.take (1 + 1) [x, y])) = _ := congrArg rI hst
              repeat' first | exact trivial | exact rfl | exact e.symm | refine And.intro ?_ ?_
          · rw [if_neg hz] at hst
            have h3 : (refNum a).2 = 3 := by
              rcases refNum_canon hcan with ⟨h, _⟩ | ⟨h, _⟩
              · rw [h] at hz; exact absurd rfl hz
              · exact h
            rw [← h3] at hst
            refine onE (by rw [h3]; rfl) ?_
            have h2 : i = 0 ∨ i = 1 := by have : args.length = 2 := hl; omega
            obtain ⟨x, y, rfl⟩ : ∃ x y, args = [x, y] := by
              match args, hl with
              | [x, y], _ => exact ⟨x, y, rfl⟩
              | [], h => simp [cntOf] at h
              | [_], h => simp [cntOf] at h
              | _ :: _ :: _ :: _, h => simp [cntOf] at h
            rcases h2 with rfl | rfl
            · obtain rfl : x = a := Option.some.inj ha
              refine onF (onF ?_)
              refine ⟨((2 : Nat) : Int), rfl, (0 + 1), ⟨⟨?_, rfl⟩, rfl, hS5⟩, ⟨hil, hok'⟩, hmu⟩
              have e : rI (badR (List.take (0 + 1) [x, y])) = _ := congrArg rI hst
              repeat' first | exact trivial | exact rfl | exact e.symm | refine And.intro ?_ ?_
            · obtain rfl : y = a := Option.some.inj ha
              refine onF (onT ?_)
              refine ⟨((3 : Nat) : Int), rfl, (1 + 1), ⟨⟨?_, rfl⟩, rfl, hS5⟩, ⟨hil, hok'⟩, hmu⟩
              have e : rI (badR (List.take (1 + 1) [x, y])) = _ := congrArg rI hst
              repeat' first | exact trivial | exact rfl | exact e.symm | refine And.intro ?_ ?_
        · have h5 : (refNum a).2 = 5 := by rw [num_bad a (by simpa using hcan)]
          exact onE (by rw [h5]; rfl) ⟨rfl, (), (congrArg rPE (read_form hk (by simp) (List.mem_of_getElem? ha) (by simpa using hcan))).trans rfl, trivial⟩
      · have hil : i = args.length := by
          have : ¬ ((i + 1 : Nat) : Int) < (n : Int) := of_decide_eq_false h
          omega
        subst hil
        have hti : List.take args.length args = args := List.take_length
        rw [hti] at hok
        have hcan : args.all Txt.canon = true := List.all_eq_true.2 hok
        have hre : readW w args = if badR (List.take args.length args) ≠ 0 ∨ checkR (mkP 0 (rvR (List.take args.length args))) ≠ 0 then ((0, 0, 0), 3) else (mkP 0 (rvR (List.take args.length args)), 0) := by
          rw [hti]; exact refRead_end hk (by simp) hl hcan
        by_cases hg : badR (List.take args.length args) = 0
        · refine offE (by rw [hg]; rfl) ⟨⟨_, rfl, rfl, rfl⟩, .inl ⟨_, _, _, check_spec S1 (mkP 0 (rvR (List.take args.length args))), fun S5 e hS5 he => ?_⟩⟩
          obtain rfl : e = _ := he
          by_cases hch : checkR (mkP 0 (rvR (List.take args.length args))) = 0
          · exact offE (by rw [hch]; rfl) ⟨rfl, (), (congrArg rPE (hre.trans (if_neg (by simp only [not_or]; exact ⟨by rw [hg]; simp, by rw [hch]; simp⟩)))).trans rfl, trivial⟩
          · exact onE (by simpa using hch) ⟨rfl, (), (congrArg rPE (hre.trans (if_pos (.inr hch)))).trans rfl, trivial⟩
        · exact onE (by simpa using hg) (onT ⟨rfl, (), (congrArg rPE (hre.trans (if_pos (.inl hg)))).trans rfl, trivial⟩)
    · refine offE (lenN 2 hl) ⟨by decide, z0, b0, o0, hp0, bs w, hok0, hrd0, ?_⟩
      refine offE (isN (by rw [hw0]; decide)) (onF ⟨by decide, z0, b0, o0, hp0, bs w, hok0, hrd0, ?_⟩)
      exact offE (isN (by rw [hw0]; decide)) (onF ⟨rfl, (), (congrArg rPE (read_cnt hk (by simp) hl)).trans rfl, trivial⟩)
  refine offE (isN hw0) (onF ⟨by decide, z0, b0, o0, hp0, bs w, hok0, hrd0, ?_⟩)
  by_cases hw1 : w = wStop
  · have hk : kindOf w = 1 := by rw [kindOf, if_neg hw0, if_pos hw1]
    refine onE (isE hw1) ?_
    by_cases hl : args.length = cntOf 1
    · refine onE (lenE 1 hl) ?_
      refine ⟨[], [], Nat, List.range' 8 75, fun i => [(6, rI (badR (args.take i))), (7, rI ((i + 1 : Nat) : Int))], fun i => [.box [.v (.int .i64 0), .v (.int .i64 0), .v (.int .i64 0)], .box [.v (.int .i64 1), .v (.int .i64 (mkP 1 (rvR (args.take i))).2.1), .v (.int .i64 (mkP 1 (rvR (args.take i))).2.2)]], fun _ => S1,
        fun i => i ≤ args.length ∧ ∀ a ∈ args.take i, Txt.canon a = true, fun i => args.length - i, ?_⟩
      refine And.intro (Exists.intro 0 (And.intro (And.intro (And.intro ?_ rfl) (And.intro rfl (Store.le_refl _))) ⟨Nat.zero_le _, by simp⟩)) ?_
      · repeat' first | exact trivial | exact rfl | refine And.intro ?_ ?_
      rintro i ⟨hi, hok⟩
      refine And.intro (fun h => ?_) (fun h => ?_)
      · have hil : i < args.length := by
          have : ((i + 1 : Nat) : Int) < (n : Int) := of_decide_eq_true h
          omega
        obtain ⟨a, ha⟩ : ∃ a, args[i]? = some a := ⟨_, List.getElem?_eq_getElem hil⟩
        have haR : (bs w :: args.map bs)[i + 1]? = some (bs a) := by rw [List.getElem?_cons_succ, List.getElem?_map, ha]; rfl
        obtain ⟨b2, o2, hp2, hok2, hrd⟩ := row_at hr haR
        have hal3 : a.length ≤ 1000000 := Nat.le_trans (hal a (List.mem_of_getElem? ha)) hs
        have hst := bad_step ha
        refine ⟨by omega, by show ((i + 1 : Nat) : Int) < (n : Int); omega, b2, o2, hp2, bs a, trivial, hrd, ⟨_, rfl, rfl, rfl⟩, .inl ⟨_, _, _, refNum_spec S1 a hal3, fun S5 _ hS5 _ => ?_⟩⟩
        by_cases hcan : Txt.canon a = true
        · have h5 : (refNum a).2 ≠ 5 := by
            rcases refNum_canon hcan with ⟨h, _⟩ | ⟨h, _⟩ <;> rw [h] <;> simp
          refine offE (by simpa using h5) ?_
          have hok' : ∀ a' ∈ args.take (i + 1), Txt.canon a' = true := by
            intro a' ha'
            rw [List.take_add_one, ha] at ha'
            rcases List.mem_append.1 ha' with h | h
            · exact hok a' h
            · have : a' = a := by simpa using h
              rw [this]; exact hcan
          have hmu : args.length - (i + 1) < args.length - i := by omega
          by_cases hz : (refNum a).2 = 0
          · rw [if_pos hz] at hst
            refine offE (by rw [hz]; rfl) ?_
            obtain ⟨x, rfl⟩ : ∃ x, args = [x] := by
              match args, hl with
              | [x], _ => exact ⟨x, rfl⟩
              | [], h => simp [cntOf] at h
              | _ :: _ :: _, h => simp [cntOf] at h
            obtain rfl : i = 0 := by simp at hil; omega
            obtain rfl : x = a := Option.some.inj ha
            refine onF (onF ?_)
            refine ⟨((2 : Nat) : Int), rfl, (0 + 1), ⟨⟨?_, rfl⟩, rfl, hS5⟩, ⟨hil, hok'⟩, hmu⟩
            have e : rI (badR (List.take (0 + 1) [x])) = _ := congrArg rI hst
            repeat' first | exact trivial | exact rfl | exact e.symm | refine And.intro ?_ ?_
          · rw [if_neg hz] at hst
            have h3 : (refNum a).2 = 3 := by
              rcases refNum_canon hcan with ⟨h, _⟩ | ⟨h, _⟩
              · rw [h] at hz; exact absurd rfl hz
              · exact h
            rw [← h3] at hst
            refine onE (by rw [h3]; rfl) ?_
            obtain ⟨x, rfl⟩ : ∃ x, args = [x] := by
              match args, hl with
              | [x], _ => exact ⟨x, rfl⟩
              | [], h => simp [cntOf] at h
              | _ :: _ :: _, h => simp [cntOf] at h
            obtain rfl : i = 0 := by simp at hil; omega
            obtain rfl : x = a := Option.some.inj ha
            refine onF (onF ?_)
            refine ⟨((2 : Nat) : Int), rfl, (0 + 1), ⟨⟨?_, rfl⟩, rfl, hS5⟩, ⟨hil, hok'⟩, hmu⟩
            have e : rI (badR (List.take (0 + 1) [x])) = _ := congrArg rI hst
            repeat' first | exact trivial | exact rfl | exact e.symm | refine And.intro ?_ ?_
        · have h5 : (refNum a).2 = 5 := by rw [num_bad a (by simpa using hcan)]
          exact onE (by rw [h5]; rfl) ⟨rfl, (), (congrArg rPE (read_form hk (by simp) (List.mem_of_getElem? ha) (by simpa using hcan))).trans rfl, trivial⟩
      · have hil : i = args.length := by
          have : ¬ ((i + 1 : Nat) : Int) < (n : Int) := of_decide_eq_false h
          omega
        subst hil
        have hti : List.take args.length args = args := List.take_length
        rw [hti] at hok
        have hcan : args.all Txt.canon = true := List.all_eq_true.2 hok
        have hre : readW w args = if badR (List.take args.length args) ≠ 0 ∨ checkR (mkP 1 (rvR (List.take args.length args))) ≠ 0 then ((0, 0, 0), 3) else (mkP 1 (rvR (List.take args.length args)), 0) := by
          rw [hti]; exact refRead_end hk (by simp) hl hcan
        by_cases hg : badR (List.take args.length args) = 0
        · refine offE (by rw [hg]; rfl) ⟨⟨_, rfl, rfl, rfl⟩, .inl ⟨_, _, _, check_spec S1 (mkP 1 (rvR (List.take args.length args))), fun S5 e hS5 he => ?_⟩⟩
          obtain rfl : e = _ := he
          by_cases hch : checkR (mkP 1 (rvR (List.take args.length args))) = 0
          · exact offE (by rw [hch]; rfl) ⟨rfl, (), (congrArg rPE (hre.trans (if_neg (by simp only [not_or]; exact ⟨by rw [hg]; simp, by rw [hch]; simp⟩)))).trans rfl, trivial⟩
          · exact onE (by simpa using hch) ⟨rfl, (), (congrArg rPE (hre.trans (if_pos (.inr hch)))).trans rfl, trivial⟩
        · exact onE (by simpa using hg) (onT ⟨rfl, (), (congrArg rPE (hre.trans (if_pos (.inl hg)))).trans rfl, trivial⟩)
    · refine offE (lenN 1 hl) ⟨by decide, z0, b0, o0, hp0, bs w, hok0, hrd0, ?_⟩
      exact offE (isN (by rw [hw1]; decide)) (onF ⟨rfl, (), (congrArg rPE (read_cnt hk (by simp) hl)).trans rfl, trivial⟩)
  refine offE (isN hw1) (onF ⟨by decide, z0, b0, o0, hp0, bs w, hok0, hrd0, ?_⟩)
  by_cases hw2 : w = wCrash
  · have hk : kindOf w = 2 := by rw [kindOf, if_neg hw0, if_neg hw1, if_pos hw2]
    refine onE (isE hw2) ?_
    by_cases hl : args.length = cntOf 2
    · refine onE (lenE 1 hl) ?_
      refine ⟨[], [], Nat, List.range' 8 75, fun i => [(6, rI (badR (args.take i))), (7, rI ((i + 1 : Nat) : Int))], fun i => [.box [.v (.int .i64 0), .v (.int .i64 0), .v (.int .i64 0)], .box [.v (.int .i64 2), .v (.int .i64 (mkP 2 (rvR (args.take i))).2.1), .v (.int .i64 (mkP 2 (rvR (args.take i))).2.2)]], fun _ => S1,
        fun i => i ≤ args.length ∧ ∀ a ∈ args.take i, Txt.canon a = true, fun i => args.length - i, ?_⟩
      refine And.intro (Exists.intro 0 (And.intro (And.intro (And.intro ?_ rfl) (And.intro rfl (Store.le_refl _))) ⟨Nat.zero_le _, by simp⟩)) ?_
      · repeat' first | exact trivial | exact rfl | refine And.intro ?_ ?_
      rintro i ⟨hi, hok⟩
      refine And.intro (fun h => ?_) (fun h => ?_)
      · have hil : i < args.length := by
          have : ((i + 1 : Nat) : Int) < (n : Int) := of_decide_eq_true h
          omega
        obtain ⟨a, ha⟩ : ∃ a, args[i]? = some a := ⟨_, List.getElem?_eq_getElem hil⟩
        have haR : (bs w :: args.map bs)[i + 1]? = some (bs a) := by rw [List.getElem?_cons_succ, List.getElem?_map, ha]; rfl
        obtain ⟨b2, o2, hp2, hok2, hrd⟩ := row_at hr haR
        have hal3 : a.length ≤ 1000000 := Nat.le_trans (hal a (List.mem_of_getElem? ha)) hs
        have hst := bad_step ha
        refine ⟨by omega, by show ((i + 1 : Nat) : Int) < (n : Int); omega, b2, o2, hp2, bs a, trivial, hrd, ⟨_, rfl, rfl, rfl⟩, .inl ⟨_, _, _, refNum_spec S1 a hal3, fun S5 _ hS5 _ => ?_⟩⟩
        by_cases hcan : Txt.canon a = true
        · have h5 : (refNum a).2 ≠ 5 := by
            rcases refNum_canon hcan with ⟨h, _⟩ | ⟨h, _⟩ <;> rw [h] <;> simp
          refine offE (by simpa using h5) ?_
          have hok' : ∀ a' ∈ args.take (i + 1), Txt.canon a' = true := by
            intro a' ha'
            rw [List.take_add_one, ha] at ha'
            rcases List.mem_append.1 ha' with h | h
            · exact hok a' h
            · have : a' = a := by simpa using h
              rw [this]; exact hcan
          have hmu : args.length - (i + 1) < args.length - i := by omega
          by_cases hz : (refNum a).2 = 0
          · rw [if_pos hz] at hst
            refine offE (by rw [hz]; rfl) ?_
            obtain ⟨x, rfl⟩ : ∃ x, args = [x] := by
              match args, hl with
              | [x], _ => exact ⟨x, rfl⟩
              | [], h => simp [cntOf] at h
              | _ :: _ :: _, h => simp [cntOf] at h
            obtain rfl : i = 0 := by simp at hil; omega
            obtain rfl : x = a := Option.some.inj ha
            refine onT (onT ?_)
            refine ⟨((2 : Nat) : Int), rfl, (0 + 1), ⟨⟨?_, rfl⟩, rfl, hS5⟩, ⟨hil, hok'⟩, hmu⟩
            have e : rI (badR (List.take (0 + 1) [x])) = _ := congrArg rI hst
            repeat' first | exact trivial | exact rfl | exact e.symm | refine And.intro ?_ ?_
          · rw [if_neg hz] at hst
            have h3 : (refNum a).2 = 3 := by
              rcases refNum_canon hcan with ⟨h, _⟩ | ⟨h, _⟩
              · rw [h] at hz; exact absurd rfl hz
              · exact h
            rw [← h3] at hst
            refine onE (by rw [h3]; rfl) ?_
            obtain ⟨x, rfl⟩ : ∃ x, args = [x] := by
              match args, hl with
              | [x], _ => exact ⟨x, rfl⟩
              | [], h => simp [cntOf] at h
              | _ :: _ :: _, h => simp [cntOf] at h
            obtain rfl : i = 0 := by simp at hil; omega
            obtain rfl : x = a := Option.some.inj ha
            refine onT (onT ?_)
            refine ⟨((2 : Nat) : Int), rfl, (0 + 1), ⟨⟨?_, rfl⟩, rfl, hS5⟩, ⟨hil, hok'⟩, hmu⟩
            have e : rI (badR (List.take (0 + 1) [x])) = _ := congrArg rI hst
            repeat' first | exact trivial | exact rfl | exact e.symm | refine And.intro ?_ ?_
        · have h5 : (refNum a).2 = 5 := by rw [num_bad a (by simpa using hcan)]
          exact onE (by rw [h5]; rfl) ⟨rfl, (), (congrArg rPE (read_form hk (by simp) (List.mem_of_getElem? ha) (by simpa using hcan))).trans rfl, trivial⟩
      · have hil : i = args.length := by
          have : ¬ ((i + 1 : Nat) : Int) < (n : Int) := of_decide_eq_false h
          omega
        subst hil
        have hti : List.take args.length args = args := List.take_length
        rw [hti] at hok
        have hcan : args.all Txt.canon = true := List.all_eq_true.2 hok
        have hre : readW w args = if badR (List.take args.length args) ≠ 0 ∨ checkR (mkP 2 (rvR (List.take args.length args))) ≠ 0 then ((0, 0, 0), 3) else (mkP 2 (rvR (List.take args.length args)), 0) := by
          rw [hti]; exact refRead_end hk (by simp) hl hcan
        by_cases hg : badR (List.take args.length args) = 0
        · refine offE (by rw [hg]; rfl) ⟨⟨_, rfl, rfl, rfl⟩, .inl ⟨_, _, _, check_spec S1 (mkP 2 (rvR (List.take args.length args))), fun S5 e hS5 he => ?_⟩⟩
          obtain rfl : e = _ := he
          by_cases hch : checkR (mkP 2 (rvR (List.take args.length args))) = 0
          · exact offE (by rw [hch]; rfl) ⟨rfl, (), (congrArg rPE (hre.trans (if_neg (by simp only [not_or]; exact ⟨by rw [hg]; simp, by rw [hch]; simp⟩)))).trans rfl, trivial⟩
          · exact onE (by simpa using hch) ⟨rfl, (), (congrArg rPE (hre.trans (if_pos (.inr hch)))).trans rfl, trivial⟩
        · exact onE (by simpa using hg) (onT ⟨rfl, (), (congrArg rPE (hre.trans (if_pos (.inl hg)))).trans rfl, trivial⟩)
    · exact offE (lenN 1 hl) ⟨rfl, (), (congrArg rPE (read_cnt hk (by simp) hl)).trans rfl, trivial⟩
  · exact offE (isN hw2) (onF ⟨rfl, (), (congrArg rPE (read_none (fun h => hw0 h.1) (fun h => hw1 h.1) (fun h => hw2 h.1))).trans rfl, trivial⟩)
end Go.Proofs.YtlecojgodkidkaaDoor
