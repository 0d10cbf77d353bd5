/- law58: the law Catches. -/
import Derived.Test.YtpfghndflegbaaaDoorFx
import Derived.Test.YtpfghndflegbaaaDoorBa
namespace Go.Proofs.YtpfghndflegbaaaDoor
open Go Go.Vc Go.Sort
set_option maxRecDepth 100000
/-- A round: the thread, the call, the answer. -/
abbrev Rd := Int × Cd × Ad
def histE : Nat → List Rd → List shE.T
  | _, [] => []
  | k, r :: l => (0, r.1, ((k + 1 : Nat) : Int), r.2.1, (0, 0)) :: (1, r.1, ((k + 1 : Nat) : Int), (ByteArray.empty, (none, 0, 0)), r.2.2) :: histE (k + 1) l
theorem hist_len : ∀ (l : List Rd) (k : Nat), (histE k l).length = 2 * l.length
  | [], _ => rfl
  | r :: l, k => by
    have := hist_len l (k + 1)
    simp only [histE, List.length_cons, this]; omega
theorem hist_snoc : ∀ (l : List Rd) (k : Nat) (r : Rd), histE k (l ++ [r]) = histE k l ++ [(0, r.1, ((k + l.length + 1 : Nat) : Int), r.2.1, (0, 0)), (1, r.1, ((k + l.length + 1 : Nat) : Int), (ByteArray.empty, (none, 0, 0)), r.2.2)]
  | [], _, _ => rfl
  | x :: l, k, r => by
    have h : k + 1 + l.length + 1 = k + (x :: l).length + 1 := by simp; omega
    simp only [List.cons_append, histE, hist_snoc l (k + 1) r, h]
theorem hist_take : ∀ (l : List Rd) (k i : Nat), (histE k l).take (2 * i) = histE k (l.take i)
  | [], _, _ => by simp [histE]
  | r :: l, k, 0 => rfl
  | r :: l, k, i + 1 => by
    have h : 2 * (i + 1) = (2 * i + 1) + 1 := by omega
    rw [h]
    simp only [histE, List.take_succ_cons, hist_take l (k + 1) i]
theorem hist_ans : ∀ (l : List Rd) (k i : Nat) (r : Rd), l[i]? = some r → (histE k l)[2 * i + 1]? = some (1, r.1, ((k + i + 1 : Nat) : Int), (ByteArray.empty, (none, 0, 0)), r.2.2)
  | [], _, _, _, h => by cases h
  | x :: l, k, 0, r, h => by
    obtain rfl := Option.some.inj h
    rfl
  | x :: l, k, i + 1, r, h => by
    have h2 : 2 * (i + 1) + 1 = (2 * i + 1) + 2 := by omega
    have h3 : k + 1 + i + 1 = k + (i + 1) + 1 := by omega
    rw [h2]
    have := hist_ans l (k + 1) i r h
    rw [h3] at this
    exact this
theorem hist_set : ∀ (l : List Rd) (k i : Nat) (r : Rd) (a : Ad), l[i]? = some r → (histE k l).set (2 * i + 1) (1, r.1, ((k + i + 1 : Nat) : Int), (ByteArray.empty, (none, 0, 0)), a) = histE k (l.set i (r.1, r.2.1, a))
  | [], _, _, _, _, h => by cases h
  | x :: l, k, 0, r, a, h => by
    obtain rfl := Option.some.inj h
    rfl
  | x :: l, k, i + 1, r, a, h => by
    have h2 : 2 * (i + 1) + 1 = (2 * i + 1) + 2 := by omega
    have h3 : k + 1 + i + 1 = k + (i + 1) + 1 := by omega
    rw [h2]
    have := hist_set l (k + 1) i r a h
    rw [h3] at this
    simp only [histE, List.set_cons_succ, this]
/-- Its form. -/
theorem hist_formJ : ∀ (l : List Rd) (k : Nat) (f : Int → Jd.Th), (∀ t, (f t).op = false ∧ (f t).last ≤ (k : Int)) → (∀ r ∈ l, 1 ≤ r.1 ∧ r.1 ≤ 8) → Jd.formJ f ((histE k l).map evOf) = 0
  | [], _, _, _, _ => rfl
  | r :: l, k, f, hf, hr => by
    obtain ⟨t, c, a⟩ := r
    have ht : 1 ≤ t ∧ t ≤ 8 := hr (t, c, a) List.mem_cons_self
    have hop := (hf t).1
    have hla := (hf t).2
    have e1 : Jd.evJ f (evOf (0, t, ((k + 1 : Nat) : Int), c, (0, 0))) = (0, Jd.upd f t ⟨true, false, ((k + 1 : Nat) : Int)⟩) := by
      rw [evJ_at, if_neg (by omega), if_neg (by omega), if_neg (by omega), hop, if_neg (by decide), if_neg (by omega), if_neg (by omega), if_neg (by omega), if_pos rfl]
    have hu : ∀ (g : Int → Jd.Th) (v : Jd.Th), Jd.upd g t v t = v := fun g v => if_pos rfl
    have e2 : Jd.evJ (Jd.upd f t ⟨true, false, ((k + 1 : Nat) : Int)⟩) (evOf (1, t, ((k + 1 : Nat) : Int), (ByteArray.empty, (none, 0, 0)), a)) = (0, Jd.upd (Jd.upd f t ⟨true, false, ((k + 1 : Nat) : Int)⟩) t ⟨false, false, ((k + 1 : Nat) : Int)⟩) := by
      obtain ⟨a1, a2⟩ := a
      rw [evJ_at, if_neg (by omega), if_neg (by omega), if_neg (by omega), hu]
      rw [if_neg (show ¬ true = decide ((1 : Int) = 0) by decide), if_neg (by omega), if_neg (fun q => q.2 rfl), if_neg (by omega), if_neg (by omega), if_pos rfl]
    show Jd.formJ f (evOf _ :: evOf _ :: (histE (k + 1) l).map evOf) = 0
    rw [Jd.formJ, e1, if_neg (fun q => q rfl), Jd.formJ, e2, if_neg (fun q => q rfl)]
    refine hist_formJ l (k + 1) _ (fun s => ?_) (fun r h => hr r (List.mem_cons_of_mem _ h))
    unfold Jd.upd
    dsimp only
    by_cases e : s = t
    · rw [if_pos e]; exact ⟨rfl, Int.le_refl _⟩
    · rw [if_neg e, if_neg e]
      have := hf s
      exact ⟨this.1, by omega⟩
theorem hist_form {l : List Rd} (h : ∀ r ∈ l, 1 ≤ r.1 ∧ r.1 ≤ 8) : formE (histE 0 l) = 0 := hist_formJ l 0 _ (fun _ => ⟨rfl, Int.le_refl _⟩) h
/-- Its calls. -/
def clsAt : Nat → List Rd → Cs
  | _, [] => []
  | i, r :: l => ⟨i, i + 1, r.2.1, some r.2.2⟩ :: clsAt (i + 2) l
theorem hist_recs (N : Nat) : ∀ (l : List Rd) (k i : Nat), (Jd.recs N i ((histE k l).map evOf)).map (·.cl) = clsAt i l
  | [], _, _ => rfl
  | r :: l, k, i => by
    show (Jd.recs N i (evOf _ :: evOf _ :: (histE (k + 1) l).map evOf)).map (·.cl) = _
    have h1 : Jd.ends (γ := Cd) (α := Ad) (evOf (1, r.1, ((k + 1 : Nat) : Int), (ByteArray.empty, (none, 0, 0)), r.2.2)) r.1 = true := by
      unfold Jd.ends evOf
      simp
    have g0 : ∀ (e : Jd.Ev Cd Ad) (m : List (Jd.Ev Cd Ad)) (j : Nat), e.kind = 0 → Jd.recs N j (e :: m) = Jd.rcOf N j e (Jd.endFrom e.thread (j + 1) m) :: Jd.recs N (j + 1) m := fun e m j h => by rw [Jd.recs, if_pos h]
    have g1 : ∀ (e : Jd.Ev Cd Ad) (m : List (Jd.Ev Cd Ad)) (j : Nat), ¬ e.kind = 0 → Jd.recs N j (e :: m) = Jd.recs N (j + 1) m := fun e m j h => by rw [Jd.recs, if_neg h]
    rw [g0 _ _ _ rfl, g1 _ _ _ (by show ¬ (1 : Int) = 0; decide), List.map_cons, hist_recs N l (k + 1) (i + 1 + 1)]
    rw [show (evOf (0, r.1, ((k + 1 : Nat) : Int), r.2.1, (0, 0))).thread = r.1 from rfl, Jd.endFrom, if_pos h1]
    rfl
theorem hist_cs (l : List Rd) : csJ (histE 0 l) = clsAt 0 l := hist_recs _ l 0 0
theorem cls_len : ∀ (l : List Rd) (i : Nat), (clsAt i l).length = l.length
  | [], _ => rfl
  | r :: l, i => by simp only [clsAt, List.length_cons, cls_len l (i + 2)]
theorem cls_get : ∀ (l : List Rd) (i j : Nat), (clsAt i l)[j]? = l[j]?.map fun r => ⟨i + 2 * j, i + 2 * j + 1, r.2.1, some r.2.2⟩
  | [], _, _ => rfl
  | r :: l, i, 0 => rfl
  | r :: l, i, j + 1 => by
    have h : i + 2 + 2 * j = i + 2 * (j + 1) := by omega
    simp only [clsAt, List.getElem?_cons_succ, cls_get l (i + 2) j, h]
theorem cls_seq (l : List Rd) (i : Nat) : Jd.Seq (clsAt i l) := by
  have hat : ∀ (j : Nat) (x : Jd.Cl Cd Ad), (clsAt i l)[j]? = some x → x.place = i + 2 * j ∧ x.over = i + 2 * j + 1 ∧ x.ans.isSome = true := by
    intro j x h
    rw [cls_get] at h
    cases hl : l[j]? with
    | none => rw [hl] at h; cases h
    | some r =>
      rw [hl] at h
      obtain rfl := Option.some.inj h
      exact ⟨rfl, rfl, rfl⟩
  constructor
  · intro x hx
    obtain ⟨j, hj⟩ := List.mem_iff_getElem?.1 hx
    obtain ⟨h1, h2, h3⟩ := hat j x hj
    exact ⟨h3, by omega⟩
  · intro j k x y hx hy hjk
    have h1 := hat j x hx
    have h2 := hat k y hy
    omega
theorem hist_least (D : Hd → List Int) (l : List Rd) : leastJ D (histE 0 l) = Jd.seqS (stepE D) 0 (clsAt 0 l) := by
  unfold leastJ
  rw [hist_cs]
  exact Jd.seq_all _ (cls_seq l 0) 0
/-- Are the answers right? -/
def RightR (D : Hd → List Int) : Int → List Rd → Prop
  | _, [] => True
  | st, r :: l => (stepE D st r.2.1).2 = r.2.2 ∧ RightR D (stepE D st r.2.1).1 l
def stAt (D : Hd → List Int) : Int → List Rd → Int
  | st, [] => st
  | st, r :: l => stAt D (stepE D st r.2.1).1 l
theorem seq_right (D : Hd → List Int) : ∀ (l : List Rd) (st : Int) (i : Nat), RightR D st l → Jd.seqS (stepE D) st (clsAt i l) = some ((List.range l.length).map fun j => i + 2 * j)
  | [], _, _, _ => rfl
  | r :: l, st, i, h => by
    have hf : Jd.fitS (γ := Cd) ⟨i, i + 1, r.2.1, some r.2.2⟩ (stepE D st r.2.1).2 = true := decide_eq_true h.1
    rw [clsAt, Jd.seqS, if_pos hf, seq_right D l _ (i + 2) h.2]
    simp only [Option.map_some, List.length_cons, List.range_succ_eq_map, List.map_cons, List.map_map]
    congr 2
    refine List.map_congr_left fun j _ => ?_
    simp only [Function.comp]; omega
theorem seq_wrong (D : Hd → List Int) (t : Int) (c : Cd) (a : Ad) (l2 : List Rd) : ∀ (l1 : List Rd) (st : Int) (i : Nat), (stepE D (stAt D st l1) c).2 ≠ a → Jd.seqS (stepE D) st (clsAt i (l1 ++ (t, c, a) :: l2)) = none
  | [], st, i, h => by
    rw [List.nil_append, clsAt, Jd.seqS, if_neg]
    exact fun q => h (of_decide_eq_true q)
  | r :: l1, st, i, h => by
    rw [List.cons_append, clsAt, Jd.seqS]
    split
    · rw [seq_wrong D t c a l2 l1 _ (i + 2) h]; rfl
    · rfl
theorem right_at (D : Hd → List Int) : ∀ (l : List Rd) (st : Int) (i : Nat) (r : Rd), RightR D st l → l[i]? = some r → (stepE D (stAt D st (l.take i)) r.2.1).2 = r.2.2
  | [], _, _, _, _, h => by cases h
  | x :: l, st, 0, r, hr, h => by
    obtain rfl := Option.some.inj h
    exact hr.1
  | x :: l, st, i + 1, r, hr, h => right_at D l _ i r hr.2 h
theorem right_snoc (D : Hd → List Int) : ∀ (l : List Rd) (st : Int) (r : Rd), RightR D st l → (stepE D (stAt D st l) r.2.1).2 = r.2.2 → RightR D st (l ++ [r])
  | [], _, _, _, h => ⟨h, trivial⟩
  | _ :: l, _, r, hr, h => ⟨hr.1, right_snoc D l _ r hr.2 h⟩
theorem st_snoc (D : Hd → List Int) : ∀ (l : List Rd) (st : Int) (r : Rd), stAt D st (l ++ [r]) = (stepE D (stAt D st l) r.2.1).1
  | [], _, _ => rfl
  | _ :: l, _, r => st_snoc D l _ r
theorem hist_wrong {l : List Rd} (h : ∀ r ∈ l, 1 ≤ r.1 ∧ r.1 ≤ 8) (h8 : l.length ≤ 8) : wrongJ (histE 0 l) = 0 := by
  unfold wrongJ
  rw [hist_form h, if_neg (fun q => q rfl), if_neg]
  rw [callsJ_eq, List.length_map, hist_cs, cls_len]
  omega
/-- The rounds as they were, one answer turned: no order, and the event is blamed. -/
theorem hist_caught (D : Hd → List Int) {l : List Rd} (hR : RightR D 0 l) {i : Nat} {r : Rd} (hi : l[i]? = some r) {a : Ad} (ha : a ≠ r.2.2) :
    leastJ D (histE 0 (l.set i (r.1, r.2.1, a))) = none ∧ blameJ D (histE 0 (l.set i (r.1, r.2.1, a))) = ((2 * i + 1 : Nat) : Int) := by
  have hil : i < l.length := (List.getElem?_eq_some_iff.1 hi).1
  have hne : (stepE D (stAt D 0 (l.take i)) r.2.1).2 ≠ a := by
    rw [right_at D l 0 i r hR hi]; exact fun q => ha q.symm
  have hsplit : l.set i (r.1, r.2.1, a) = l.take i ++ (r.1, r.2.1, a) :: l.drop (i + 1) := List.set_eq_take_append_cons_drop ▸ (if_pos hil)
  have hno : leastJ D (histE 0 (l.set i (r.1, r.2.1, a))) = none := by
    rw [hsplit, hist_least]
    exact seq_wrong D _ _ _ _ _ 0 0 hne
  refine ⟨hno, ?_⟩
  have hset := hist_set l 0 i r a hi
  rw [← hset]
  have hall : ∀ j, j ≤ (histE 0 l).length → leastJ D ((histE 0 l).take j) ≠ none := by
    intro j hj q
    have h2 := least_mono D q _ hj
    rw [List.take_length, hist_least, seq_right D l 0 0 hR] at h2
    cases h2
  have hlen := hist_len l 0
  have hb := find_first (P := fun n => (leastJ D (((histE 0 l).set (2 * i + 1) (1, r.1, ((0 + i + 1 : Nat) : Int), (ByteArray.empty, (none, 0, 0)), a)).take (n + 1))).isNone) (n := ((histE 0 l).set (2 * i + 1) (1, r.1, ((0 + i + 1 : Nat) : Int), (ByteArray.empty, (none, 0, 0)), a)).length) (j := 2 * i + 1)
    (by rw [List.length_set]; omega)
    (fun k hk => by
      rw [List.take_set, List.set_eq_of_length_le (by rw [List.length_take]; omega)]
      cases hq : leastJ D ((histE 0 l).take (k + 1)) with
      | none => exact absurd hq (hall _ (by omega))
      | some z => rfl)
    (by
      have h2 : 2 * i + 1 + 1 = 2 * (i + 1) := by omega
      have htk : (l.set i (r.1, r.2.1, a)).take (i + 1) = l.take i ++ [(r.1, r.2.1, a)] := by
        rw [List.take_add_one, List.getElem?_set_self hil, List.take_set, List.set_eq_of_length_le (by rw [List.length_take]; omega)]
        rfl
      rw [hset, h2, hist_take, htk, hist_least, seq_wrong D _ _ _ [] _ 0 0 hne]
      rfl)
  unfold blameJ
  rw [hb]
/-- What the store says of a row is all there is. -/
theorem row_uni {S : Store} {p : Option Addr} {xs ys : List Int} (h1 : RowRd S p shI xs) (h2 : RowRd S p shI ys) (hl : xs.length = ys.length) : xs = ys := by
  refine List.ext_getElem? fun i => ?_
  cases hx : xs[i]? with
  | none =>
    have := List.getElem?_eq_none_iff.1 hx
    exact (List.getElem?_eq_none (by omega)).symm
  | some x =>
    have hi := (List.getElem?_eq_some_iff.1 hx).1
    obtain ⟨y, hy⟩ : ∃ y, ys[i]? = some y := ⟨_, List.getElem?_eq_getElem (by omega)⟩
    obtain ⟨b, o, hp, -, hr⟩ := row_at h1 hx
    obtain ⟨b', o', hp', -, hr'⟩ := row_at h2 hy
    rw [hp] at hp'
    have hb : b = b' ∧ o = o' := by
      simp only [Option.some.injEq, Addr.mk.injEq, and_true] at hp'
      exact hp'
    obtain ⟨rfl, rfl⟩ := hb
    have e1 : S.c b (o + i * shI.n + 0) = some (.int .i64 x) := hr 0 _ rfl
    have e2 : S.c b (o + i * shI.n + 0) = some (.int .i64 y) := hr' 0 _ rfl
    rw [e1] at e2
    simp only [Option.some.injEq, Value.int.injEq, true_and] at e2
    rw [hy, e2]
/-- The numbers behind a handle, by the store. -/
noncomputable def numsOf (S : Store) (h : Hd) : List Int := open Classical in if hx : ∃ xs : List Int, xs.length = h.2.1 ∧ RowRd S h.1 shI xs then hx.choose else []
theorem nums_is {S : Store} {h : Hd} {xs : List Int} (hl : xs.length = h.2.1) (hr : RowRd S h.1 shI xs) : numsOf S h = xs := by
  have hx : ∃ xs : List Int, xs.length = h.2.1 ∧ RowRd S h.1 shI xs := ⟨xs, hl, hr⟩
  unfold numsOf
  rw [dif_pos hx]
  exact row_uni hx.choose_spec.2 hr (by rw [hx.choose_spec.1, hl])
set_option maxHeartbeats 8000000

/-- A round and its numbers. -/
abbrev Rx := Rd × List Int
def rds (L : List Rx) : List Rd := L.map (·.1)
def stX : Int → List Rx → Int
  | st, [] => st
  | st, q :: L => stX (doE st q.1.2.1.1 q.2).1 L
def rightX : Int → List Rx → Prop
  | _, [] => True
  | st, q :: L => (doE st q.1.2.1.1 q.2).2 = q.1.2.2 ∧ rightX (doE st q.1.2.1.1 q.2).1 L
theorem stX_snoc : ∀ (L : List Rx) (st : Int) (q : Rx), stX st (L ++ [q]) = (doE (stX st L) q.1.2.1.1 q.2).1
  | [], _, _ => rfl
  | _ :: L, _, q => stX_snoc L _ q
theorem rightX_snoc : ∀ (L : List Rx) (st : Int) (q : Rx), rightX st L → (doE (stX st L) q.1.2.1.1 q.2).2 = q.1.2.2 → rightX st (L ++ [q])
  | [], _, _, _, h => ⟨h, trivial⟩
  | _ :: L, _, q, hr, h => ⟨hr.1, rightX_snoc L _ q hr.2 h⟩
theorem right_of (D : Hd → List Int) : ∀ (L : List Rx) (st : Int), (∀ q ∈ L, D q.1.2.1.2 = q.2) → rightX st L → RightR D st (rds L)
  | [], _, _, _ => trivial
  | q :: L, st, hD, hr => by
    have hq : stepE D st q.1.2.1 = doE st q.1.2.1.1 q.2 := by
      unfold stepE
      rw [hD q List.mem_cons_self]
    show (stepE D st q.1.2.1).2 = _ ∧ RightR D (stepE D st q.1.2.1).1 (rds L)
    rw [hq]
    exact ⟨hr.1, right_of D L _ (fun x h => hD x (List.mem_cons_of_mem _ h)) hr.2⟩
/-- What the store knows of a round. -/
structure KnowX (S : Store) (q : Rx) : Prop where
  len : q.2.length = q.1.2.1.2.2.1
  row : RowRd S q.1.2.1.2.1 shI q.2
  ins : ∀ x ∈ q.2, inI64 x
  lo : 1 ≤ q.1.1
  hi : q.1.1 ≤ 8
theorem KnowX.le {S S' : Store} (h : S.le S') {q : Rx} (k : KnowX S q) : KnowX S' q := ⟨k.len, k.row.le h, k.ins, k.lo, k.hi⟩
theorem hist_events : ∀ (l : List Rd) (k : Nat) (e : shE.T), e ∈ histE k l → (∃ r ∈ l, e.2.2.2.1 = r.2.1) ∨ e.2.2.2.1.2 = (none, 0, 0)
  | [], _, _, h => by cases h
  | r :: l, k, e, h => by
    rcases List.mem_cons.1 h with rfl | h
    · exact .inl ⟨r, List.mem_cons_self, rfl⟩
    rcases List.mem_cons.1 h with rfl | h
    · exact .inr rfl
    rcases hist_events l (k + 1) e h with ⟨r', hr', he⟩ | he
    · exact .inl ⟨r', List.mem_cons_of_mem _ hr', he⟩
    · exact .inr he
theorem nums_nil (S : Store) : numsOf S (none, 0, 0) = [] := nums_is (h := (none, 0, 0)) rfl ⟨.inl rfl, fun x h => by cases h⟩
/-- What the store knows of the history. -/
theorem hist_lx {Sf S : Store} (hle : Sf.le S) (hT : Lw S) {L : List Rx} (hK : ∀ q ∈ L, KnowX Sf q) (h8 : L.length ≤ 8) {l : List Rd} (hl : l.length = L.length) (hsub : ∀ r ∈ l, ∃ q ∈ L, r.2.1 = q.1.2.1) {p : Hd} (hp : (histE 0 l).length = p.2.1) (hc : p.2.1 ≤ p.2.2) (hr : RowRd S p.1 shE (histE 0 l)) :
    Lx S (numsOf Sf) p (histE 0 l) := by
  refine ⟨hp, hc, hr, ?_, fun e he => ?_, hT⟩
  · rw [hist_len]; omega
  · rcases hist_events l 0 e he with ⟨r, hr1, hr2⟩ | h0
    · obtain ⟨q, hq, hq2⟩ := hsub r hr1
      have hk := hK q hq
      have hD := nums_is hk.len hk.row
      rw [hr2, hq2, hD]
      exact ⟨hk.len, hk.row.le hle, hk.ins⟩
    · rw [h0, nums_nil]
      exact ⟨rfl, ⟨.inl rfl, fun x h => by cases h⟩, fun x h => by cases h⟩
/-- What was new stays known. -/
theorem row_kept {Sl S' S3 : Store} {p : Option Addr} {xs : List Int} (hf : Fresh Sl p) (hk : ∀ b, (∀ i, Sl.c b i = none) ∧ Sl.o b = none → (∀ i, S3.c b i = S'.c b i) ∧ S3.o b = S'.o b) (h : RowRd S' p shI xs) : RowRd S3 p shI xs := by
  refine ⟨?_, h.2⟩
  rcases h.1 with h1 | ⟨b, o, hp, hr⟩
  · exact .inl h1
  · refine .inr ⟨b, o, hp, fun j x hx => ?_⟩
    have h2 := (hk b (hf ⟨b, o, none⟩ hp)).1
    rw [h2]
    exact hr j x hx
/-- The calls' places. -/
def callsX (n : Nat) : List Int := ((List.range n).map fun j => 0 + 2 * j).map fun (m : Nat) => (m : Int)
theorem callsX_snoc (n : Nat) : callsX (n + 1) = callsX n ++ [((2 * n : Nat) : Int)] := by
  unfold callsX
  rw [List.range_succ, List.map_append, List.map_append, List.map_cons, List.map_cons, List.map_nil, List.map_nil, Nat.zero_add]
theorem callsX_len (n : Nat) : (callsX n).length = n := by unfold callsX; simp
/-- The names of the calls. -/
theorem name_at {k : Int} (h0 : 0 ≤ k) (h3 : k < 4) : ∃ nm : ByteArray, (([.v (.string wWrite), .v (.string wRead), .v (.string wAdd), .v (.string wSwap)] : List C).drop (k.toNat * 1)).take 1 = [.v (.string nm)] := by
  have : k = 0 ∨ k = 1 ∨ k = 2 ∨ k = 3 := by omega
  rcases this with rfl | rfl | rfl | rfl
  · exact ⟨wWrite, rfl⟩
  · exact ⟨wRead, rfl⟩
  · exact ⟨wAdd, rfl⟩
  · exact ⟨wSwap, rfl⟩
theorem turned {v d : Int} (hd : -128 ≤ d ∧ d ≤ 127) (h0 : d ≠ 0) : IntKind.i64.wrap (v + d) ≠ v := by
  intro e
  have h := wrap_i64_in (v + d)
  rw [e] at h
  rw [wrap_i64_eq] at e
  omega
theorem law_catches (S : Store) (hL : Lw S) (p : Hd) (l : List shMove.T) (hl : l.length = p.2.1) (hr : RowRd S p.1 shMove l) (hi : ∀ y ∈ l, okMove y) (x1 : Int) (h1a : 0 ≤ x1) (h1b : x1 ≤ 255) (x2 : Int) (hx2 : -128 ≤ x2 ∧ x2 ≤ 127) :
    Pure Tryd.prog 7 S [slV p, .int .u8 x1, .int .i8 x2] rB (fun _ b => b = true) := by
  obtain ⟨p, n, c⟩ := p
  simp only at hl hr
  subst hl
  refine pure_vc agrees Tryd.func7 rfl rfl (fun S S' q hle h => h) ?_
  refine ⟨⟨_, rfl, rfl, rfl⟩, .inl ⟨_, _, _, awake_spec S hL, fun S1 _ hS1 _ => ?_⟩⟩
  have hL1 := hL.le hS1
  have hr1 := hr.le hS1
  refine onF ?_
  by_cases c1 : l.length > 8
  · exact onE (decide_eq_true (show ((l.length : Nat) : Int) > 8 by omega)) (onT (onT ⟨rfl, true, rfl, rfl⟩))
  refine offE (decide_eq_false (show ¬ ((l.length : Nat) : Int) > 8 by omega)) ?_
  by_cases c2 : l.length = 0
  · exact onE (beq_iff_eq.2 (show ((l.length : Nat) : Int) = 0 by omega)) (onT ⟨rfl, true, rfl, rfl⟩)
  refine offE (beq_eq_false_iff_ne.2 (show ¬ ((l.length : Nat) : Int) = 0 by omega)) ?_
  by_cases c3 : x2 = 0
  · exact onE (beq_iff_eq.2 c3) ⟨rfl, true, rfl, rfl⟩
  refine offE (beq_eq_false_iff_ne.2 c3) ?_
  refine ⟨⟨_, rfl, rfl, rfl⟩, .inl ⟨_, _, _, first_spec S1, fun S2 _ hS2 _ => ?_⟩⟩
  have hL2 := hL1.le hS2
  have hr2 := hr1.le hS2
  refine ⟨[], [(7, shE, 56), (8, shI, 3)], List Rx × Int × Nat × Store, [11, 12, 13, 14] ++ List.range' 40 62, fun a => [(9, rS (bs (Lib.itoa a.2.1))), (10, rI a.2.2.1)], fun a => [.row shE 56 (histE 0 (rds a.1)), .row shI 3 (callsX a.2.2.1)], fun a => a.2.2.2,
    fun a => a.1.length = a.2.2.1 ∧ stX 0 a.1 = a.2.1 ∧ S2.le a.2.2.2 ∧ a.2.2.1 ≤ l.length ∧ (∀ q ∈ a.1, KnowX a.2.2.2 q) ∧ rightX 0 a.1 ∧ inI64 a.2.1, fun a => l.length - a.2.2.1, ?_⟩
  refine And.intro (Exists.intro ([], 0, 0, S2) (And.intro (And.intro (And.intro ?_ rfl) (And.intro rfl (Store.le_refl _))) ⟨rfl, rfl, Store.le_refl _, Nat.zero_le _, fun q h => (by cases h), trivial, inI_zero⟩)) ?_
  · repeat' first | exact trivial | exact rfl | refine And.intro ?_ ?_
  rintro ⟨L, st, k, Sa⟩ ⟨hLk, hstx, hSa, hkl, hK, hX, hst⟩
  have hLk : L.length = k := hLk
  have hstx : stX 0 L = st := hstx
  have hSa : S2.le Sa := hSa
  have hkl : k ≤ l.length := hkl
  have hK : ∀ q ∈ L, KnowX Sa q := hK
  have hX : rightX 0 L := hX
  have hst : inI64 st := hst
  have hLa := hL2.le hSa
  have hra := hr2.le hSa
  have hHl : (histE 0 (rds L)).length = 2 * k := by rw [hist_len]; unfold rds; rw [List.length_map, hLk]
  have hCl : (callsX k).length = k := callsX_len k
  have i0 : (0 : Int) ≤ ((k : Nat) : Int) := Int.natCast_nonneg _
  refine And.intro (fun h => ?_) (fun h => ?_)
  · have hil : k < l.length := by
      have : ((k : Nat) : Int) < ((l.length : Nat) : Int) := of_decide_eq_true h
      omega
    obtain ⟨y, hy⟩ : ∃ y : Int × Int × Int × Int × Int, l[k]? = some y := ⟨_, List.getElem?_eq_getElem hil⟩
    obtain ⟨b, o, hp, -, hrd⟩ := row_at hra hy
    obtain ⟨-, ⟨t0, t1⟩, ⟨k0, k1⟩, ⟨a0, a1⟩, ⟨b0, b1⟩⟩ := hi y (List.mem_of_getElem? hy)
    have t0 : 0 ≤ y.2.1 := t0
    have t1 : y.2.1 ≤ 255 := t1
    have k0 : 0 ≤ y.2.2.1 := k0
    have k1 : y.2.2.1 ≤ 255 := k1
    have a0 : -128 ≤ y.2.2.2.1 := a0
    have a1 : y.2.2.2.1 ≤ 127 := a1
    have b0 : -128 ≤ y.2.2.2.2 := b0
    have b1 : y.2.2.2.2 ≤ 127 := b1
    have hil2 : ((k : Nat) : Int) < (l.length : Int) := by omega
    have kq0 : 0 ≤ y.2.2.1.tmod 4 := by rw [Int.tmod_eq_emod_of_nonneg k0]; omega
    have kq4 : y.2.2.1.tmod 4 < 4 := by rw [Int.tmod_eq_emod_of_nonneg k0]; omega
    have hth : 0 ≤ y.2.1.tmod 3 ∧ y.2.1.tmod 3 < 3 := by rw [Int.tmod_eq_emod_of_nonneg t0]; omega
    obtain ⟨nm, hnm⟩ := name_at kq0 kq4
    generalize hkq : y.2.2.1.tmod 4 = kq at *
    refine ⟨or7_11, [2, 3], oF7_11, by kernel_rfl, i0, hil2, b, o, hp, y.2.2.1, trivial, rd_field (f := 2) hrd rfl, by decide, kq, hkq, kq0, kq4, nm, hnm, i0, hil2, b, o, hp, y.2.2.2.1, trivial, rd_field (f := 3) hrd rfl, y.2.2.2.1, wrap_i64 (by omega) (by omega), i0, hil2, b, o, hp, y.2.2.2.2, trivial, rd_field (f := 4) hrd rfl, y.2.2.2.2, wrap_i64 (by omega) (by omega), ?_⟩
    generalize hthq : y.2.1.tmod 3 = th at hth
    have hargs : ∀ x ∈ [y.2.2.2.1, y.2.2.2.2], inI64 x := by
      intro x hx
      simp only [List.mem_cons, List.not_mem_nil, or_false] at hx
      rcases hx with rfl | rfl <;> exact ⟨by omega, by omega⟩
    have w1 : IntKind.i64.wrap (((k : Nat) : Int) + 1) = ((k + 1 : Nat) : Int) := wrap_i64 (by omega) (by omega)
    have hmu : l.length - (k + 1) < l.length - k := by omega
    have hbC : ((callsX k).length + 1) * 8 ≤ 140737488355328 := by omega
    have hbH : ((histE 0 (rds L)).length + 2) * 80 ≤ 140737488355328 := by omega
    refine And.intro ?_ (And.intro ?_ trivial)
    all_goals
      refine ⟨⟨_, rfl, rfl, rfl⟩, .inl fun pa ca S3 hS3 hr3 hpf3 => ⟨_, _, _, reg_spec S3 (hLa.le hS3) st hst nm (pa, 2, ca) [y.2.2.2.1, y.2.2.2.2] hargs rfl hr3, fun S4 _ hS4 _ => ?_⟩⟩
      obtain ⟨b4, o4, hp4, -, hrd4⟩ := row_at ((hra.le hS3).le hS4) hy
      refine ⟨i0, hil2, b4, o4, hp4, y.2.1, trivial, rd_field (f := 1) hrd4 rfl, by decide, th, hthq, th, wrap_i64 (by omega) (by omega), th + 1, wrap_i64 (by omega) (by omega), [(((histE 0 (rds L)).length : Nat) : Int)], ⟨rfl, rfl⟩, fun _ _ => trivial, hbC, ((k + 1 : Nat) : Int), w1, ((k + 1 : Nat) : Int), w1,
        [(0, th + 1, ((k + 1 : Nat) : Int), (nm, (pa, 2, ca)), (0, 0)), (1, th + 1, ((k + 1 : Nat) : Int), (ByteArray.empty, (none, 0, 0)), (doE st nm [y.2.2.2.1, y.2.2.2.2]).2)], ⟨rfl, rfl⟩, fun _ _ => ⟨trivial, trivial, trivial, ⟨trivial, trivial⟩, trivial, trivial⟩, hbH, ((k + 1 : Nat) : Int), w1,
        (L ++ [((th + 1, (nm, (pa, 2, ca)), (doE st nm [y.2.2.2.1, y.2.2.2.2]).2), [y.2.2.2.1, y.2.2.2.2])], (doE st nm [y.2.2.2.1, y.2.2.2.2]).1, k + 1, S4), ⟨⟨?_, rfl⟩, ?_, Store.le_refl _⟩, ?_, hmu⟩
      · repeat' first | exact trivial | exact rfl | refine And.intro ?_ ?_
      · have e1 : histE 0 (rds (L ++ [((th + 1, (nm, (pa, 2, ca)), (doE st nm [y.2.2.2.1, y.2.2.2.2]).2), [y.2.2.2.1, y.2.2.2.2])])) = histE 0 (rds L) ++ [(0, th + 1, ((k + 1 : Nat) : Int), (nm, (pa, 2, ca)), (0, 0)), (1, th + 1, ((k + 1 : Nat) : Int), (ByteArray.empty, (none, 0, 0)), (doE st nm [y.2.2.2.1, y.2.2.2.2]).2)] := by
          have hlr : 0 + (rds L).length + 1 = k + 1 := by unfold rds; rw [List.length_map, hLk, Nat.zero_add]
          unfold rds
          rw [List.map_append, List.map_cons, List.map_nil]
          have := hist_snoc (rds L) 0 (th + 1, (nm, (pa, 2, ca)), (doE st nm [y.2.2.2.1, y.2.2.2.2]).2)
          rw [hlr] at this
          exact this
        have e2 : callsX (k + 1) = callsX k ++ [(((histE 0 (rds L)).length : Nat) : Int)] := by rw [hHl]; exact callsX_snoc k
        show [_, _] = [_, _]
        rw [e1, e2]
      · refine ⟨?_, ?_, Store.le_trans hSa (Store.le_trans hS3 hS4), hil, fun q hq => ?_, ?_, doE_in hst nm hargs⟩
        · show (L ++ [_]).length = k + 1
          rw [List.length_append, hLk]; rfl
        · show stX 0 (L ++ [_]) = _
          rw [stX_snoc, hstx]
        · rcases List.mem_append.1 hq with hq | hq
          · exact (hK q hq).le (Store.le_trans hS3 hS4)
          · obtain rfl := List.mem_singleton.1 hq
            exact ⟨rfl, hr3.le hS4, hargs, by show 1 ≤ th + 1; omega, by show th + 1 ≤ 8; omega⟩
        · refine rightX_snoc L 0 _ hX ?_
          rw [hstx]
  · have hkk : k = l.length := by
      have : ¬ ((k : Nat) : Int) < ((l.length : Nat) : Int) := of_decide_eq_false h
      omega
    have hL8 : L.length ≤ 8 := by omega
    have hfew : ∀ r ∈ rds L, 1 ≤ r.1 ∧ r.1 ≤ 8 := by
      intro r hr
      obtain ⟨q, hq, rfl⟩ := List.mem_map.1 hr
      exact ⟨(hK q hq).lo, (hK q hq).hi⟩
    have hrl : (rds L).length = L.length := by unfold rds; rw [List.length_map]
    have hR : RightR (numsOf Sa) 0 (rds L) := right_of _ L 0 (fun q hq => nums_is (hK q hq).len (hK q hq).row) hX
    have hw : wrongJ (histE 0 (rds L)) = 0 := hist_wrong hfew (by omega)
    have hsub : ∀ r ∈ rds L, ∃ q ∈ L, r.2.1 = q.1.2.1 := by
      intro r hr
      obtain ⟨q, hq, rfl⟩ := List.mem_map.1 hr
      exact ⟨q, hq, rfl⟩
    have hle : leastJ (numsOf Sa) (histE 0 (rds L)) = some ((List.range (rds L).length).map fun j => 0 + 2 * j) := by rw [hist_least, seq_right _ _ 0 0 hR]
    refine ⟨⟨_, rfl, rfl, rfl⟩, .inr (.inr (.inr (.inr (.inr (.inr fun pb cb S5 hS5 hr5 hpf5 => ⟨_, _, _, check_spec S5 (numsOf Sa) (pb, _, cb) (histE 0 (rds L)) (hist_lx hS5 (hLa.le hS5) hK hL8 hrl hsub rfl (pform_cap hpf5.1) hr5), fun S6 x hS6 hx S7 hS7 hkeep => ?_⟩)))))⟩
    obtain ⟨⟨xq, xb⟩, xe⟩ := x
    obtain ⟨⟨hx1, hx2⟩, hxf⟩ := hx
    rw [hw] at hx1 hx2
    rw [if_pos rfl, hle] at hx2
    obtain ⟨hx3, hx4, hx5, hx6, hx7⟩ := hx2
    have hx1 : xe = 0 := hx1
    have hx3 : xb = true := hx3
    subst hx1 hx3
    have hrk : (rds L).length = k := hrl.trans hLk
    have hxr : RowRd S7 xq.1 shI (callsX k) := row_kept hxf hkeep (by rw [hrk] at hx6; exact hx6)
    have hxl : (callsX k).length = xq.2.1 := by
      have : xq.2.1 = ((List.range (rds L).length).map fun j => 0 + 2 * j).length := hx4
      rw [this, List.length_map, List.length_range, hrk, hCl]
    refine onF (offE (bne_eq_false_iff_eq.2 rfl) ⟨⟨_, rfl, rfl, rfl⟩, .inl fun pc cc S8 hS8 hr8 hpf8 => ⟨_, _, _, same_spec S8 xq (pc, _, cc) (callsX k) (callsX k) hxl rfl (hxr.le hS8) hr8 (by omega) (by omega), fun S9 b9 hS9 hb9 => ?_⟩⟩)
    have hb9 : b9 = decide (callsX k = callsX k) := hb9
    rw [decide_eq_true rfl] at hb9
    subst hb9
    have hl0 : (0 : Int) < (l.length : Int) := by omega
    obtain ⟨kk, hkk2, hkl2⟩ : ∃ kk : Nat, x1.tmod (l.length : Int) = (kk : Int) ∧ kk < l.length := by
      refine ⟨x1.toNat % l.length, ?_, Nat.mod_lt _ (by omega)⟩
      rw [Int.tmod_eq_emod_of_nonneg h1a, Int.natCast_emod, Int.toNat_of_nonneg h1a]
    obtain ⟨r, hkr⟩ : ∃ r, (rds L)[kk]? = some r := ⟨_, List.getElem?_eq_getElem (by omega)⟩
    obtain ⟨rt, rc, re, rv⟩ := r
    have hat := hist_ans (rds L) 0 kk (rt, rc, re, rv) hkr
    have hset := hist_set (rds L) 0 kk (rt, rc, re, rv) (re, IntKind.i64.wrap (rv + x2)) hkr
    have hne : (re, IntKind.i64.wrap (rv + x2)) ≠ ((rt, rc, re, rv) : Rd).2.2 := fun e => turned hx2 c3 (congrArg Prod.snd e)
    obtain ⟨hno, hbl⟩ := hist_caught (numsOf Sa) hR hkr hne
    have hmem : ∀ r ∈ (rds L).set kk (rt, rc, re, IntKind.i64.wrap (rv + x2)), ∃ r' ∈ rds L, r.1 = r'.1 ∧ r.2.1 = r'.2.1 := by
      intro r hr
      rcases List.mem_or_eq_of_mem_set hr with h | rfl
      · exact ⟨r, h, rfl, rfl⟩
      · exact ⟨_, List.mem_of_getElem? hkr, rfl, rfl⟩
    have hfew2 : ∀ r ∈ (rds L).set kk (rt, rc, re, IntKind.i64.wrap (rv + x2)), 1 ≤ r.1 ∧ r.1 ≤ 8 := by
      intro r hr
      obtain ⟨r', hr', h1, -⟩ := hmem r hr
      rw [h1]; exact hfew r' hr'
    have hsub2 : ∀ r ∈ (rds L).set kk (rt, rc, re, IntKind.i64.wrap (rv + x2)), ∃ q ∈ L, r.2.1 = q.1.2.1 := by
      intro r hr
      obtain ⟨r', hr', -, h2⟩ := hmem r hr
      rw [h2]; exact hsub r' hr'
    have hlen2 : ((rds L).set kk (rt, rc, re, IntKind.i64.wrap (rv + x2))).length = L.length := by rw [List.length_set, hrl]
    have hw2 : wrongJ (histE 0 ((rds L).set kk (rt, rc, re, IntKind.i64.wrap (rv + x2)))) = 0 := hist_wrong hfew2 (by omega)
    have hin : ((2 * kk + 1 : Nat) : Int) < (((histE 0 (rds L)).length : Nat) : Int) := by omega
    have hn0 : (0 : Int) ≤ ((2 * kk + 1 : Nat) : Int) := Int.natCast_nonneg _
    refine onF ⟨x1, wrap_i64 (by omega) (by omega), (by show ((l.length : Nat) : Int) ≠ 0; omega), (kk : Int), hkk2, ((2 * kk : Nat) : Int), wrap_i64 (by omega) (by omega), ((2 * kk + 1 : Nat) : Int), wrap_i64 (by omega) (by omega), hn0, hin, _, hat, x2, wrap_i64 (by omega) (by omega), IntKind.i64.wrap (rv + x2), rfl, hn0, hin, _, (1, rt, ((0 + kk + 1 : Nat) : Int), (ByteArray.empty, (none, 0, 0)), (re, IntKind.i64.wrap (rv + x2))), hat, ⟨trivial, trivial, trivial, ⟨trivial, trivial⟩, trivial, trivial⟩, rfl, by show 7 ≤ 7; decide, ?_⟩
    have hS79 : Sa.le S9 := Store.le_trans (Store.le_trans hS7 hS8) hS9
    refine ⟨⟨_, rfl, rfl, rfl⟩, .inl fun pd cd S10 hS10 hr10 hpf10 => ⟨_, _, _, check_spec S10 (numsOf Sa) (pd, _, cd) (histE 0 ((rds L).set kk (rt, rc, re, IntKind.i64.wrap (rv + x2)))) (hist_lx (Store.le_trans hS79 hS10) (hLa.le (Store.le_trans hS79 hS10)) hK hL8 hlen2 hsub2 (congrArg List.length hset.symm) (pform_cap hpf10.1) (hset ▸ hr10)), fun S11 x hS11 hx => ?_⟩⟩
    obtain ⟨⟨zq, zb⟩, ze⟩ := x
    obtain ⟨⟨hz1, hz2⟩, -⟩ := hx
    rw [hw2] at hz1 hz2
    rw [if_pos rfl, hno] at hz2
    obtain ⟨hz3, -⟩ := hz2
    have hz1 : ze = 0 := hz1
    have hz3 : zb = false := hz3
    subst hz1 hz3
    have hS711 := Store.le_trans (Store.le_trans hS79 hS10) hS11
    refine ⟨⟨_, rfl, rfl, rfl⟩, .inl ⟨_, _, _, blame_spec S11 (numsOf Sa) (pd, _, cd) (histE 0 ((rds L).set kk (rt, rc, re, IntKind.i64.wrap (rv + x2)))) (hist_lx hS711 (hLa.le hS711) hK hL8 hlen2 hsub2 (congrArg List.length hset.symm) (pform_cap hpf10.1) (hset ▸ hr10.le hS11)), fun S12 z hS12 hz => ?_⟩⟩
    obtain ⟨z1, z2⟩ := z
    rw [if_pos hw2, hbl] at hz
    have hz1 : z1 = ((2 * kk + 1 : Nat) : Int) := congrArg Prod.fst hz
    have hz2 : z2 = 0 := congrArg Prod.snd hz
    subst hz1 hz2
    exact onT (onE (beq_iff_eq.2 rfl) (onE (beq_iff_eq.2 rfl) ⟨rfl, true, rfl, rfl⟩))
end Go.Proofs.YtpfghndflegbaaaDoor
