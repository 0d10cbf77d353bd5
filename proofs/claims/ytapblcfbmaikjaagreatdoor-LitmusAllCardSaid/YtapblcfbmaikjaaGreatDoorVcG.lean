/- Verification conditions, seventh part: operations that act on memory are sound. -/
import Derived.Test.YtapblcfbmaikjaaGreatDoorVcF
namespace Go.Vc
open Go

variable {P : Program} {tt : Nat → Option TI} {ok : Nat → Bool} {w0 w w' : World} {B : Base} {ρ : List Value} {r : List Res} {S S' : Store} {t : List SV} {a : Act} {K : SK}

/-- What follows an operation: 'W' says which resources it may turn. -/
structure Went (W : Nat → Prop) (ρ : List Value) (r : List Res) (S : Store) (w : World) (ρ' : List Value) (r' : List Res) (S' : Store) (w' : World) : Prop where
  store : S.le S'
  handle : ∀ (i : Nat) h, ¬ W i → ρ[i]? = some h → ρ'[i]? = some h
  alive : ∀ (i : Nat) x, ¬ W i → r[i]? = some x → x.alive = true → ∃ y, r'[i]? = some y ∧ y.alive = true ∧ ∀ h b, x.foot h b ↔ y.foot h b
  keep : ∀ (i : Nat) x h b, ¬ W i → r[i]? = some x → x.alive = true → ρ[i]? = some h → x.foot h b → w'.heap[b]? = w.heap[b]?

def Post (w0 : World) (B : Base) (W : Nat → Prop) (ρ : List Value) (r : List Res) (S : Store) (w : World) (K : SK) (a' : Act) (w' : World) : Prop :=
  ∃ ρ' t' r' S', Gam w0 B ρ' t' r' S' a' w' ∧ Went W ρ r S w ρ' r' S' w' ∧ K t' r' S'

/-- The operation, from this state: whatever follows is met. -/
def OpOk (P : Program) (w0 : World) (B : Base) (W : Nat → Prop) (ρ : List Value) (r : List Res) (S : Store) (a : Act) (w : World) (o : Oper) (K : SK) : Prop :=
  ∀ Q, o.wp P a w (Post w0 B W ρ r S w K) Q

theorem defers_put {d : Option Tmp} {v : Value} (h : a.defers = []) : (a.put d v).defers = [] := by cases d <;> exact h

theorem rels_app_slots {l : List Value} (h : rels (SV.rel ρ) t a.tmps.toList) : rels (SV.rel (ρ ++ l)) t a.tmps.toList := rels_mono (fun x y h => SV.rel_app x y h) h

/-- A new block. -/
theorem ok_add (hg : Gam w0 B ρ t r S a w) {o : Oper} {h : Value} {ob : Obj} {x : Res} {sv : SV} (W : Nat → Prop)
    (hrun : (execOp a.eval o).run P w = .ok (.value h) (w.alloc ob)) {g : Value} (hb : blk g = some w.heap.size ∨ blk g = none) (hx : x.holds (ρ ++ [g]) g (w.alloc ob)) (hsv : sv.rel (ρ ++ [g]) h)
    (hK : K (putL t o.dst sv) (r ++ [x]) S) (hx1 : x.single = true := by rfl) : OpOk P w0 B W ρ r S a w o K := by
  intro Q
  unfold Oper.wp
  rw [hrun, Oper.upon_value]
  have hlen := hg.st.len
  refine ⟨ρ ++ [g], _, _, S, ⟨rels_put (rels_app_slots hg.tmps) hsv, defers_put hg.defers, hg.st.add ob x g hb hx hx1⟩, ⟨Store.le_refl S, fun i h _ hi => get_app hi, fun i y _ hi ha => ⟨y, get_app hi, ha, fun _ _ => Iff.rfl⟩, ?_⟩, hK⟩
  intro i y h b _ hi ha hh hb
  exact heap_alloc_old w ob (hg.st.own i y h b hi ha hh hb).1

theorem newVar_run (ty : Nat) (v : Value) (w : World) : (newVar ty v).run P w = .ok ⟨w.heap.size, 0, none⟩ (w.alloc (.cells v.cells ty)) := by
  simp [newVar, newRow]

theorem ptr_new (b : Nat) (o : Nat) : (SV.c (.ptr ρ.length o)).rel (ρ ++ [.pointer (some ⟨b, 0, none⟩)]) (.pointer (some ⟨b, o, none⟩)) :=
  ⟨b, by simp, rfl⟩

theorem ok_alloc (hA : Agrees P tt) (hg : Gam w0 B ρ t r S a w) {o : Oper} {ty : Nat} (ho : o.op = .alloc ty) (W : Nat → Prop) (h : vcE P tt ok t r S o.dst (.alloc ty) K) : OpOk P w0 B W ρ r S a w o K := by
  simp only [vcE] at h
  split at h
  · rename_i ti hti
    obtain ⟨i, hi, _, _, vs, hv1, hv2, hv3, hv4⟩ := (hA _ _ hti).info
    have hcells : (mkVal ti.sh.agg vs).cells = vs.toArray := by
      cases hagg : ti.sh.agg with
      | true => rfl
      | false =>
        have h1 := (hA _ _ hti).one hagg
        match vs, hv2 with
        | [x], _ => exact cells_one (hv3 x (by simp))
        | [], h => simp [h1] at h
        | _ :: _ :: _, h => simp [h1] at h
    split at h
    · split at h
      · rename_i us hus
        have h1 := h w.heap.size
        simp only [put_eq, snocK_eq] at h1
        have hvu : vs = us := by rw [hv1] at hus; exact Option.some.inj hus
        subst hvu
        refine ok_add hg W (g := .pointer (some ⟨w.heap.size, 0, none⟩)) (h := .pointer (some ⟨w.heap.size, 0, none⟩)) (ob := .cells vs.toArray ty) (sv := .c (.v (.pointer (some ⟨w.heap.size, 0, none⟩)))) ?_ (.inl rfl) ?_ ?_ h1
        · have hz : (zeroValue ty).run P w = .ok (mkVal ti.sh.agg vs) w := by simp [zeroValue, typeInfo, hi, hv4]
          simp only [execOp, ho, Instr.alloc, Sem.run_bind, hz, Result.andThen, newVar_run, Sem.run_pure, hcells]
        · exact ⟨rfl, rfl, hv3, ty, [], fun t e => ⟨Option.some.inj e, rfl⟩, by rw [List.append_nil]; exact heap_alloc_new w _⟩
        · exact ⟨rfl, rfl⟩
      · exact h.elim
    simp only [lenK_eq, put_eq, snocK_eq] at h
    refine ok_add hg W (g := .pointer (some ⟨w.heap.size, 0, none⟩)) (h := .pointer (some ⟨w.heap.size, 0, none⟩)) (ob := .cells vs.toArray ty) (sv := .c (.ptr r.length 0)) ?_ (.inl rfl) ?_ ?_ h
    · have hz : (zeroValue ty).run P w = .ok (mkVal ti.sh.agg vs) w := by simp [zeroValue, typeInfo, hi, hv4]
      simp only [execOp, ho, Instr.alloc, Sem.run_bind, hz, Result.andThen, newVar_run, Sem.run_pure, hcells]
    · exact ⟨w.heap.size, ty, vs.toArray, rfl, heap_alloc_new w _, rels_mono C.rel_app (by simpa using toVals_rel (ρ := ρ) hv1 hv3)⟩
    · rw [← hg.st.len]; exact ptr_new _ _
  · exact h.elim

theorem ok_box (hg : Gam w0 B ρ t r S a w) {o : Oper} {ty : Nat} {x : Operand} (ho : o.op = .box ty x) (W : Nat → Prop) (h : vcE P tt ok t r S o.dst (.box ty x) K) : OpOk P w0 B W ρ r S a w o K := by
  simp only [vcE] at h
  split at h
  · rename_i ti cs hti hcs
    split at h
    · rename_i hsz
      simp only [lenK_eq, put_eq, snocK_eq] at h
      obtain ⟨vs, hv1, hv2⟩ := cellsOf_cells hcs (ev_rel hg.tmps x)
      refine ok_add hg W (g := .pointer (some ⟨w.heap.size, 0, none⟩)) (h := .pointer (some ⟨w.heap.size, 0, none⟩)) (ob := .cells vs.toArray ty) (sv := .c (.ptr r.length 0)) ?_ (.inl rfl) ?_ ?_ h
      · simp only [execOp, ho, Instr.box, Sem.run_bind, Result.andThen, newVar_run, Sem.run_pure, hv1]
      · exact ⟨w.heap.size, ty, vs.toArray, rfl, heap_alloc_new w _, rels_mono C.rel_app (by simpa using hv2)⟩
      · rw [← hg.st.len]; exact ptr_new _ _
    · exact h.elim
  · exact h.elim

theorem range_zero (z : List Value) (n : Nat) : ((Array.range (n * z.length)).map fun i => z.toArray[i % z.toArray.size]!) = (List.replicate n z).flatten.toArray := by
  apply Array.ext'
  apply List.ext_getElem?
  intro i
  simp only [Array.toList_map, Array.toList_range, List.getElem?_map]
  by_cases hi : i < n * z.length
  · have hz : 0 < z.length := Nat.pos_of_ne_zero (fun e => by simp [e] at hi)
    rw [List.getElem?_range hi, Option.map_some]
    have hm : i % z.length < z.length := Nat.mod_lt _ hz
    have key : ∀ (n i : Nat), i < n * z.length → (List.replicate n z).flatten[i]? = z[i % z.length]? := by
      intro n
      induction n with
      | zero => intro i hi; simp at hi
      | succ n ih =>
        intro i hi
        rw [List.replicate_succ, List.flatten_cons]
        by_cases hil : i < z.length
        · rw [List.getElem?_append_left hil, Nat.mod_eq_of_lt hil]
        · rw [List.getElem?_append_right (by omega), ih (i - z.length) (by rw [Nat.succ_mul] at hi; omega)]
          congr 1
          exact (Nat.mod_eq_sub_mod (by omega)).symm
    rw [key n i hi]
    simp [hm]
  · rw [List.getElem?_eq_none (by simpa using hi)]
    rw [Option.map_none, List.getElem?_eq_none]
    simp
    omega

theorem rels_one {cs : List C} {vs : List Value} (h : rels (C.rel ρ) cs vs) : ∀ v ∈ vs, v.oneCell' = true := rels_all (fun _ _ h => C.rel_one h) h

theorem dec_cs : ∀ (s : Shape) (l : List C) (x : s.T) (rest : List C), s.dec l = some (x, rest) → l = s.cs x ++ rest
  | .int k, l, x, rest, h => by
    simp only [Shape.dec] at h
    split at h
    · split at h
      · rename_i hk; subst hk; simp only [Option.some.injEq, Prod.mk.injEq] at h; obtain ⟨rfl, rfl⟩ := h; rfl
      · cases h
    · cases h
  | .bool, l, x, rest, h | .str, l, x, rest, h | .slice, l, x, rest, h | .map, l, x, rest, h | .any, l, x, rest, h => by
    simp only [Shape.dec] at h
    split at h
    · simp only [Option.some.injEq, Prod.mk.injEq] at h; obtain ⟨rfl, rfl⟩ := h; rfl
    · cases h
  | .unit, l, x, rest, h => by simp only [Shape.dec, Option.some.injEq, Prod.mk.injEq] at h; obtain ⟨_, rfl⟩ := h; rfl
  | .pair a b, l, x, rest, h => by
    simp only [Shape.dec] at h
    split at h
    · rename_i y l1 h1
      split at h
      · rename_i z l2 h2
        simp only [Option.some.injEq, Prod.mk.injEq] at h
        obtain ⟨rfl, rfl⟩ := h
        rw [dec_cs a l y l1 h1, dec_cs b l1 z l2 h2]
        simp [Shape.cs]
      · cases h
    · cases h
  | .st a, l, x, rest, h => dec_cs a l x rest h

theorem decs_cs (s : Shape) : ∀ (n : Nat) (l : List C) (xs : List s.T), s.decs n l = some xs → l = xs.flatMap s.cs ∧ xs.length = n
  | 0, [], xs, h => by simp [Shape.decs] at h; subst h; exact ⟨rfl, rfl⟩
  | 0, _ :: _, xs, h => by simp [Shape.decs] at h
  | n + 1, l, xs, h => by
    simp only [Shape.decs] at h
    split at h
    · rename_i x l1 h1
      split at h
      · rename_i ys h2
        simp only [Option.some.injEq] at h
        subst h
        obtain ⟨h3, h4⟩ := decs_cs s n l1 ys h2
        exact ⟨by rw [dec_cs s l x l1 h1, h3]; simp, by simp [h4]⟩
      · cases h
    · cases h

theorem rels_encs {sh : Shape} : ∀ (ys : List sh.T) (vs : List Value), rels (C.rel ρ) (ys.flatMap sh.cs) vs → vs = sh.encs ys := by
  intro ys
  induction ys with
  | nil => intro vs h; cases vs with
    | nil => rfl
    | cons _ _ => exact h.elim
  | cons y ys ih =>
    intro vs h
    rw [List.flatMap_cons] at h
    have hl := cs_length sh y
    have h4 := rels_take sh.n h
    have h5 := rels_drop sh.n h
    rw [List.take_append_of_le_length (by omega), List.take_of_length_le (by omega)] at h4
    rw [List.drop_append_of_le_length (by omega), List.drop_eq_nil_of_le (by omega), List.nil_append] at h5
    have h6 := ih _ h5
    have h7 := rels_cs h4
    rw [← List.take_append_drop sh.n vs, h7, h6]
    simp [Shape.encs]

theorem encs_length {sh : Shape} (ys : List sh.T) : (sh.encs ys).length = ys.length * sh.n := by
  induction ys with
  | nil => simp [Shape.encs]
  | cons y ys ih => simp only [Shape.encs, List.flatMap_cons, List.length_append, enc_length, List.length_cons, Nat.succ_mul] at ih ⊢; omega

theorem encs_append {sh : Shape} (xs ys : List sh.T) : sh.encs (xs ++ ys) = sh.encs xs ++ sh.encs ys := by simp [Shape.encs]

theorem encs_split {sh : Shape} (xs : List sh.T) (k : Nat) (hk : k ≤ xs.length) : sh.encs (xs.take k) = (sh.encs xs).take (k * sh.n) ∧ sh.encs (xs.drop k) = (sh.encs xs).drop (k * sh.n) := by
  have h := encs_append (sh := sh) (xs.take k) (xs.drop k)
  rw [List.take_append_drop] at h
  have hl : (sh.encs (xs.take k)).length = k * sh.n := by rw [encs_length, List.length_take, Nat.min_eq_left hk]
  constructor
  · rw [h]; exact (List.take_left' hl).symm
  · rw [h]; exact (List.drop_left' hl).symm

theorem ok_buildSlice (hA : Agrees P tt) (hg : Gam w0 B ρ t r S a w) {o : Oper} {ty n : Nat} {parts : Array (Nat × Operand)} (ho : o.op = .buildSlice ty n parts) (W : Nat → Prop) (h : buildSliceK tt t r S o.dst ty n parts K) : OpOk P w0 B W ρ r S a w o K := by
  simp only [buildSliceK] at h
  split at h
  · rename_i ti hti
    have hkind := (hA _ _ hti).kind
    split at h
    · rename_i e hk
      rw [hk] at hkind
      simp only [Kind.fits] at hkind
      split at h
      · rename_i ei hei
        split at h
        · rename_i hsz
          obtain ⟨i, hi, hisz, _, vs, hv1, hv2, hv3, hv4⟩ := (hA _ _ hei).info
          have hcells : (mkVal ei.sh.agg vs).cells = vs.toArray := by
            cases hagg : ei.sh.agg with
            | true => rfl
            | false =>
              have h1 := (hA _ _ hei).one hagg
              match vs, hv2 with
              | [x], _ => exact cells_one (hv3 x (by simp))
              | [], h => simp [h1] at h
              | _ :: _ :: _, h => simp [h1] at h
          have hpl : ∀ (f : Nat) off fty fi, ((List.range n).map fun i => (i * ei.sz, e))[f]? = some (off, fty) → tt fty = some fi → (fun i => some (i * ei.sz, ei.sz)) f = some (off, fi.sz) := by
            intro f off fty fi hf hfi
            rw [List.getElem?_map] at hf
            by_cases hfn : f < n
            · rw [List.getElem?_range hfn] at hf
              simp only [Option.map_some, Option.some.injEq, Prod.mk.injEq] at hf
              obtain ⟨rfl, rfl⟩ := hf
              rw [hei] at hfi
              simp only [Option.some.injEq] at hfi
              subst hfi
              rfl
            · rw [List.getElem?_eq_none (by simpa using hfn)] at hf; simp at hf
          have hz0 : rels (C.rel ρ) (List.replicate n ei.zero).flatten (List.replicate n vs).flatten := by
            clear h hpl hsz ho
            induction n with
            | zero => trivial
            | succ n ih => simp only [List.replicate_succ, List.flatten_cons]; exact rels_append (toVals_rel hv1 hv3) ih
          obtain ⟨cs', vs', g1, g2, g4, g3⟩ := fill_sound (P := P) hA hpl hg.tmps parts.toList _ (List.replicate n vs).flatten h hz0
          have hrun : (execOp a.eval o).run P w = .ok (.value (.slice (some ⟨w.heap.size, 0, none⟩) n n)) (w.alloc (.cells vs'.toArray e)) := by
            have hparts : (parts.map fun (i, x) => (i, a.eval x)).toList = parts.toList.map fun p => (p.1, a.eval p.2) := by simp
            have hnle : ¬ (n * ei.sz > 2 ^ 24) := by omega
            by_cases h0 : n * ei.sz = 0
            · have hnil : (List.replicate n vs).flatten = [] := List.eq_nil_of_length_eq_zero (by rw [← hv2] at h0; simpa using h0)
              rw [hnil] at g3
              have harr : ((Array.range (n * ei.sz)).map fun i => (#[] : Array Value)[i % (#[] : Array Value).size]!) = ([] : List Value).toArray := by rw [h0]; simp
              simp only [execOp, ho, Instr.buildSlice, Sem.run_bind, run_underlying hkind, Result.andThen, run_sizeOf (hA _ _ hei), if_neg hnle, if_pos h0, harr, hparts, g3, newRow, newObj, Sem.run, Sem.run_pure]
              rfl
            · have hzero : (zeroValue e).run P w = .ok (mkVal ei.sh.agg vs) w := by simp [zeroValue, typeInfo, hi, hv4]
              have harr := range_zero vs n
              rw [hv2] at harr
              simp only [execOp, ho, Instr.buildSlice, Sem.run_bind, run_underlying hkind, Result.andThen, run_sizeOf (hA _ _ hei), if_neg hnle, if_neg h0, hzero, hcells, harr, hparts, g3, newRow, newObj, Sem.run, Sem.run_pure]
              rfl
          dsimp only at g2
          split at g2
          · rename_i xs hxs
            simp only [lenK_eq, put_eq, snocK_eq] at g2
            obtain ⟨hcs, hxl⟩ := decs_cs _ _ _ _ hxs
            rw [hcs] at g1
            have hvs := rels_encs _ _ g1
            refine ok_add hg W (g := .slice (some ⟨w.heap.size, 0, none⟩) n n) (h := .slice (some ⟨w.heap.size, 0, none⟩) n n) (ob := .cells vs'.toArray e) (sv := .c (.ref r.length)) hrun (.inl rfl) ?_ ?_ g2
            · refine ⟨⟨encs_length xs, .inr ⟨w.heap.size, n, vs'.toArray, by rw [hxl], Nat.zero_le _, heap_alloc_new w _, by omega, by simp only [maxLen]; omega, ?_, ?_⟩⟩, ?_⟩
              · rw [List.size_toArray, hvs, encs_length, hxl]
              · rw [List.toList_toArray, List.take_of_length_le (by rw [hvs, encs_length]; exact Nat.le_refl _), hvs]
              · intro x hx
                refine ok_of_enc _ x fun v hv => rels_one g1 v ?_
                rw [hvs]
                exact List.mem_flatMap.2 ⟨x, hx, hv⟩
            · rw [← hg.st.len]; exact ⟨by simp, rfl⟩
          · simp only [lenK_eq, put_eq, snocK_eq] at g2
            refine ok_add hg W (g := .pointer (some ⟨w.heap.size, 0, none⟩)) (h := .slice (some ⟨w.heap.size, 0, none⟩) n n) (ob := .cells vs'.toArray e) (sv := .c (.sl r.length 0 n n)) hrun (.inl rfl) ?_ ?_ g2
            · exact ⟨w.heap.size, e, vs'.toArray, rfl, heap_alloc_new w _, rels_mono C.rel_app (by simpa using g1)⟩
            · rw [← hg.st.len]; exact ⟨w.heap.size, by simp, rfl⟩
        · exact h.elim
      · exact h.elim
    · exact h.elim
  · exact h.elim


theorem flat_rep {vs : List Value} : ∀ (n c : Nat), n ≤ c → ((List.replicate c vs).flatten).take (n * vs.length) = (List.replicate n vs).flatten := by
  intro n c h
  obtain ⟨k, rfl⟩ : ∃ k, c = n + k := ⟨c - n, by omega⟩
  rw [← List.replicate_append_replicate, List.flatten_append]
  have : (List.replicate n vs).flatten.length = n * vs.length := by simp
  rw [List.take_append_of_le_length (by omega), List.take_of_length_le (by omega)]
theorem encs_rep {sh : Shape} (z : sh.T) : ∀ n, sh.encs (List.replicate n z) = (List.replicate n (sh.enc z)).flatten
  | 0 => rfl
  | n + 1 => by rw [List.replicate_succ, List.replicate_succ, List.flatten_cons, ← encs_rep z n]; rfl

theorem ok_makeSlice (hA : Agrees P tt) (hg : Gam w0 B ρ t r S a w) {o : Oper} {ty : Nat} {ln cp : Operand} (ho : o.op = .makeSlice ty ln cp) (W : Nat → Prop) (h : makeSliceK tt t r S o.dst ty ln cp K) : OpOk P w0 B W ρ r S a w o K := by
  simp only [makeSliceK] at h
  split at h
  · rename_i ti kl n kc c hti hln hcp
    have e1 : a.eval ln = .int kl n := by have := ev_rel hg.tmps ln; rw [hln] at this; exact this.1
    have e2 : a.eval cp = .int kc c := by have := ev_rel hg.tmps cp; rw [hcp] at this; exact this.1
    have hkind := (hA _ _ hti).kind
    split at h
    · rename_i e hk
      rw [hk] at hkind
      simp only [Kind.fits] at hkind
      split at h
      · rename_i ei hei
        split at h
        · rename_i z hz
          obtain ⟨i, hi, hisz, hib, vs, hv1, hv2, hv3, hv4⟩ := (hA _ _ hei).info
          obtain ⟨hcs, -⟩ := decs_cs _ _ _ _ hz
          have hrel := toVals_rel (ρ := ρ) hv1 hv3
          rw [hcs] at hrel
          have hvs : vs = ei.sh.enc z := by have := rels_encs _ _ hrel; simpa [Shape.encs] using this
          have hok : ei.sh.ok z := ok_of_enc _ z fun v hv => hv3 v (by rw [hvs]; exact hv)
          have hn : ei.sh.n = ei.sz := by rw [← hv2, hvs]; have := encs_length [z]; simpa [Shape.encs] using this.symm
          have hcells : (mkVal ei.sh.agg vs).cells = vs.toArray := by
            cases hagg : ei.sh.agg with
            | true => rfl
            | false =>
              have h1 := (hA _ _ hei).one hagg
              match vs, hv2 with
              | [x], _ => exact cells_one (hv3 x (by simp))
              | [], h => simp [h1] at h
              | _ :: _ :: _, h => simp [h1] at h
          obtain ⟨h0, hnc, hb, hc, h⟩ := h
          simp only [lenK_eq, put_eq, snocK_eq] at h
          have hmk := run_make (P := P) w ty e i (mkVal ei.sh.agg vs) hkind hi hv4 kl kc n c h0 hnc (by rw [hib]; omega) (by omega)
          have hmc : madeCells (mkVal ei.sh.agg vs).cells (c.toNat * i.size) = (List.replicate c.toNat vs).flatten.toArray := by
            rw [hcells, hisz, ← range_zero vs c.toNat, hv2]; rfl
          rw [hmc] at hmk
          have hrun : (execOp a.eval o).run P w = .ok (.value (.slice (some ⟨w.heap.size, 0, none⟩) n.toNat c.toNat)) (w.alloc (.cells (List.replicate c.toNat vs).flatten.toArray e)) := by
            simp only [execOp, ho, e1, e2, Sem.run_bind, hmk, Result.andThen, Sem.run_pure]
          refine ok_add hg W (g := .slice (some ⟨w.heap.size, 0, none⟩) n.toNat c.toNat) (h := .slice (some ⟨w.heap.size, 0, none⟩) n.toNat c.toNat) (ob := .cells (List.replicate c.toNat vs).flatten.toArray e) (sv := .c (.ref r.length)) hrun (.inl rfl) ?_ ?_ h
          · refine ⟨⟨encs_length _, .inr ⟨w.heap.size, c.toNat, _, by rw [List.length_replicate], Nat.zero_le _, heap_alloc_new w _, by rw [List.length_replicate]; omega, by simp only [maxLen]; omega, ?_, ?_⟩⟩, ?_⟩
            · rw [List.size_toArray, hn, ← hv2]; simp
            · rw [List.toList_toArray, List.length_replicate, hn, ← hv2, flat_rep _ _ (by omega), encs_rep, hvs]
            · intro x hx
              rw [List.eq_of_mem_replicate hx]; exact hok
          · rw [← hg.st.len]; exact ⟨by simp, rfl⟩
        · exact h.elim
      · exact h.elim
    · exact h.elim
  · exact h.elim

theorem ok_makeMap (hg : Gam w0 B ρ t r S a w) {o : Oper} {ty : Nat} (ho : o.op = .makeMap ty none) (W : Nat → Prop) (h : vcE P tt ok t r S o.dst (.makeMap ty none) K) : OpOk P w0 B W ρ r S a w o K := by
  simp only [vcE] at h
  split at h
  · rename_i ti hti
    split at h
    · rename_i kt et hk
      split at h
      · rename_i ki ei hki hei
        simp only [lenK_eq, put_eq, snocK_eq] at h
        refine ok_add hg W (g := .map (some w.heap.size)) (h := .map (some w.heap.size)) (ob := .map #[] 0) (sv := .c (.ref r.length)) ?_ (.inl rfl) ?_ ?_ h
        · simp only [execOp, ho, Instr.makeMap, Option.map_none, newObj, Sem.run_bind, Sem.run, Result.andThen, Sem.run_pure]
          rfl
        · exact ⟨w.heap.size, #[], 0, rfl, heap_alloc_new w _, rfl, by simp, by simp, by simp⟩
        · rw [← hg.st.len]; exact ⟨by simp, rfl⟩
      · exact h.elim
    · exact h.elim
  · exact h.elim

/-- The block of one resource is written. -/
theorem ok_write (hg : Gam w0 B ρ t r S a w) {o : Oper} {i : Nat} {x y : Res} {h : Value} {b : Nat} {ob : Obj} (hi : r[i]? = some x) (hxa : x.alive = true) (hh : ρ[i]? = some h) (hb : blk h = some b)
    (hrun : (execOp a.eval o).run P w = .ok .skip { w with heap := w.heap.setIfInBounds b ob }) (hy : y.holds ρ h { w with heap := w.heap.setIfInBounds b ob })
    (hK : K (putL t o.dst (.tup [])) (r.set i y) S) (W : Nat → Prop) (hW : W i) (hx1 : x.single = true := by rfl) (hy1 : y.single = true := by rfl) : OpOk P w0 B W ρ r S a w o K := by
  intro Q
  unfold Oper.wp
  rw [hrun, Oper.upon_skip]
  have hother : ∀ c, c ≠ b → ({ w with heap := w.heap.setIfInBounds b ob } : World).heap[c]? = w.heap[c]? := fun c hc => Array.getElem?_setIfInBounds_ne (Ne.symm hc)
  refine ⟨ρ, _, _, S, ⟨rels_put hg.tmps (show (SV.tup []).rel ρ undef from ⟨[], rfl, trivial⟩), defers_put hg.defers, hg.st.write hi hxa hh ((foot_single hx1).2 hb) (fun _ hc => (foot_single hx1).2 ((foot_single hy1).1 hc)) hother (by simp) rfl rfl rfl hy⟩, ⟨Store.le_refl S, fun _ _ _ h => h, ?_, ?_⟩, hK⟩
  · intro j z hj hz hza
    have hji : i ≠ j := fun e => hj (by rw [← e]; exact hW)
    exact ⟨z, by rw [List.getElem?_set_ne hji]; exact hz, hza, fun _ _ => Iff.rfl⟩
  · intro j z g c hj hz hza hgz hc
    refine hother c fun e => ?_
    subst e
    have := hg.st.disj j i z x g h c hz hi hza hxa hgz hh hc ((foot_single hx1).2 hb)
    exact hj (by rw [this]; exact hW)

/-- The block of one resource is written, in whatever way. -/
theorem ok_writeG (hg : Gam w0 B ρ t r S a w) {o : Oper} {i : Nat} {x y : Res} {h : Value} {b : Nat} {w' : World} {v : Value} {sv : SV} (hi : r[i]? = some x) (hxa : x.alive = true) (hh : ρ[i]? = some h) (hb : blk h = some b)
    (hrun : (execOp a.eval o).run P w = .ok (.value v) w') (hother : ∀ c, c ≠ b → w'.heap[c]? = w.heap[c]?) (hsz : w'.heap.size = w.heap.size) (hos : w'.os = w.os) (htape : w'.tape = w.tape) (hout : w'.output = w.output)
    (hy : y.holds ρ h w') (hsv : sv.rel ρ v) (hK : K (putL t o.dst sv) (r.set i y) S) (W : Nat → Prop) (hW : W i) (hx1 : x.single = true := by rfl) (hy1 : y.single = true := by rfl) : OpOk P w0 B W ρ r S a w o K := by
  intro Q
  unfold Oper.wp
  rw [hrun, Oper.upon_value]
  refine ⟨ρ, _, _, S, ⟨rels_put hg.tmps hsv, defers_put hg.defers, hg.st.write hi hxa hh ((foot_single hx1).2 hb) (fun _ hc => (foot_single hx1).2 ((foot_single hy1).1 hc)) hother hsz hos htape hout hy⟩, ⟨Store.le_refl S, fun _ _ _ h => h, ?_, ?_⟩, hK⟩
  · intro j z hj hz hza
    have hji : i ≠ j := fun e => hj (by rw [← e]; exact hW)
    exact ⟨z, by rw [List.getElem?_set_ne hji]; exact hz, hza, fun _ _ => Iff.rfl⟩
  · intro j z g c hj hz hza hgz hc
    refine hother c fun e => ?_
    subst e
    have := hg.st.disj j i z x g h c hz hi hza hxa hgz hh hc ((foot_single hx1).2 hb)
    exact hj (by rw [this]; exact hW)

theorem setRow_eq {b : Nat} {cur : Array Value} {T : TypeId} (h : w.heap[b]? = some (.cells cur T (0, 0))) (new : Array Value) : w.setRow b new = { w with heap := w.heap.setIfInBounds b (.cells new T (0, 0)) } := by
  obtain ⟨hl, he⟩ := Array.getElem?_eq_some_iff.1 h
  simp only [World.setRow]
  congr 1
  apply Array.ext'
  apply List.ext_getElem?
  intro i
  by_cases hib : b = i
  · subst hib
    simp [hl, he]
  · simp [hib]

theorem take_lay {α : Type} {L vs : List α} {p N : Nat} (h : p + vs.length ≤ N) (hN : N ≤ L.length) : (L.take p ++ vs ++ L.drop (p + vs.length)).take N = (L.take N).take p ++ vs ++ (L.take N).drop (p + vs.length) := by
  apply List.ext_getElem?
  intro i
  simp only [List.getElem?_take, List.getElem?_append, List.length_append, List.length_take, List.getElem?_drop]
  by_cases h1 : i < p
  · rw [if_pos (by omega), if_pos (by omega), if_pos (by omega), if_pos (by omega), if_pos (by omega), if_pos (by omega)]
    simp [h1, show i < N by omega]
  · by_cases h2 : i < p + vs.length
    · rw [if_pos (by omega), if_pos (by omega), if_neg (by omega), if_pos (by omega), if_neg (by omega)]
      congr 1; omega
    · by_cases h3 : i < N
      · rw [if_pos h3, if_neg (by omega), if_neg (by omega), if_pos (by omega)]
        congr 1; omega
      · rw [if_neg h3, if_neg (by omega), if_neg (by omega)]

theorem encs_set {sh : Shape} : ∀ (xs : List sh.T) (k : Nat) (u y : sh.T), xs[k]? = some u → ∃ A D, sh.encs xs = A ++ sh.enc u ++ D ∧ A.length = k * sh.n ∧ sh.encs (xs.set k y) = A ++ sh.enc y ++ D
  | x :: xs, 0, u, y, h => by
    simp at h; subst h
    exact ⟨[], sh.encs xs, by simp [Shape.encs], by simp, by simp [Shape.encs]⟩
  | x :: xs, k + 1, u, y, h => by
    obtain ⟨A, D, h1, h2, h3⟩ := encs_set xs k u y (by simpa using h)
    refine ⟨sh.enc x ++ A, D, ?_, by simp [h2, enc_length, Nat.succ_mul]; omega, ?_⟩
    · have : sh.encs (x :: xs) = sh.enc x ++ sh.encs xs := by simp [Shape.encs]
      rw [this, h1]; simp
    · have : sh.encs ((x :: xs).set (k + 1) y) = sh.enc x ++ sh.encs (xs.set k y) := by simp [Shape.encs]
      rw [this, h3]; simp


theorem run_storeAt {ty : Nat} {ti : TI} (hf : Fits P ty ti) {b o : Nat} {cur : Array Value} {T : TypeId} (hb : w.heap[b]? = some (.cells cur T (0, 0))) {v : Value} {vs : List Value} (hv : v.cells = vs.toArray) (hsz : ti.sz = vs.length) (hle : o + vs.length ≤ cur.size) (h1 : ∀ v ∈ vs, v.oneCell' = true) :
    (Instr.storeAt ty (.pointer (some ⟨b, o, none⟩)) v).run P w = .ok () { w with heap := w.heap.setIfInBounds b (.cells (cur.toList.take o ++ vs ++ cur.toList.drop (o + vs.length)).toArray T (0, 0)) } := by
  have h := run_storeCells_at P b o T vs 0 cur w hb (by simpa using hle) h1
  simp only [Nat.add_zero] at h
  rw [setRow_eq hb] at h
  have hs : ¬ vs.toArray.size ≠ ti.sz := by simp [hsz]
  simp only [Instr.storeAt, Instr.sureAddr, Sem.run_bind, Sem.run_pure, Result.andThen, storeVar, run_sizeOf hf, if_neg hs, hv, h]

theorem toVals_same {ρ : List Value} : ∀ {cs : List C} {us vs : List Value}, toVals cs = some us → rels (C.rel ρ) cs vs → vs = us
  | [], us, vs, h, hr => by
    simp [toVals] at h; subst h
    cases vs with
    | nil => rfl
    | cons v vs => exact hr.elim
  | .v x :: cs, us, vs, h, hr => by
    simp only [toVals] at h
    split at h
    · rename_i ys hys
      simp only [Option.some.injEq] at h
      subst h
      cases vs with
      | nil => exact hr.elim
      | cons v vs => rw [hr.1.1, toVals_same hys hr.2]
    · cases h
  | .junk :: _, _, _, h, _ | .ptr _ _ :: _, _, _, h, _ | .sl _ _ _ _ :: _, _, _, h, _ | .ref _ :: _, _, _, h, _ | .elt _ _ _ _ :: _, _, _, h, _ | .seg _ _ _ _ :: _, _, _, h, _ | .clo _ _ :: _, _, _, h, _ => by simp [toVals] at h
theorem ok_store (hA : Agrees P tt) (hg : Gam w0 B ρ t r S a w) {o : Oper} {ty : Nat} {d x : Operand} (ho : o.op = .store ty d x) (W : Nat → Prop) (hW : ∀ i, ok i = true → W i) (h : storeK tt ok t r S o.dst ty d x K) : OpOk P w0 B W ρ r S a w o K := by
  have hd := ev_rel hg.tmps d
  simp only [storeK] at h
  split at h
  · rename_i ti i j ys hti hev hys
    obtain ⟨vs, hv1, hv2⟩ := cellsOf_cells hys (ev_rel hg.tmps x)
    have hlen := rels_length hv2
    rw [hev] at hd
    obtain ⟨b, h1, h2⟩ := hd
    split at h
    · rename_i hsz
      obtain ⟨hsz, hoki⟩ := hsz
      split at h
      · rename_i cs hr
        have hr' := nthR_some hr (by simp)
        split at h
        · rename_i hle
          simp only [forceL_eq, put_eq, setR_eq] at h
          obtain ⟨g, hg', b', T, xs, rfl, hb, hrel⟩ := hg.st.res i _ hr'
          rw [h1] at hg'
          simp only [Option.some.injEq, Value.pointer.injEq, Addr.mk.injEq] at hg'
          obtain ⟨rfl, -⟩ := hg'
          have hcl := rels_length hrel
          refine ok_write hg hr' rfl h1 rfl (ob := .cells (xs.toList.take j ++ vs ++ xs.toList.drop (j + vs.length)).toArray T (0, 0)) ?_ ?_ h W (hW i hoki)
          · have hst := run_storeAt (P := P) (w := w) (o := j) (hA _ _ hti) hb hv1 (by rw [hsz, hlen]) (by have h7 : xs.toList.length = xs.size := Array.length_toList; omega) (rels_one hv2)
            simp only [execOp, ho, h2, Sem.run_bind, hst, Result.andThen, Sem.run_pure]
          · have hbl := (Array.getElem?_eq_some_iff.1 hb).1
            refine ⟨b, T, (xs.toList.take j ++ vs ++ xs.toList.drop (j + vs.length)).toArray, rfl, by simp [hbl], ?_⟩
            simp only [putCells]
            rw [hlen]
            exact rels_append (rels_append (rels_take _ hrel) hv2) (rels_drop _ hrel)
        · exact h.elim
      · exact h.elim
    · exact h.elim
  · rename_i ti i k sz j ys hti hev hys
    obtain ⟨vs, hv1, hv2⟩ := cellsOf_cells hys (ev_rel hg.tmps x)
    have hlen := rels_length hv2
    rw [hev] at hd
    obtain ⟨b, n, m, h1, h2⟩ := hd
    split at h
    · rename_i hsz
      obtain ⟨hsz, hoki⟩ := hsz
      split at h
      · rename_i sh e xs hr
        have hr' := nthR_some hr (by simp)
        split at h
        · rename_i hsh
          subst hsh
          obtain ⟨u, y, hu, hyok, hycs, hle, h⟩ := h
          simp only [put_eq, setR_eq] at h
          obtain ⟨g, hg', how, hok⟩ := hg.st.res i _ hr'
          rw [h1] at hg'
          simp only [Option.some.injEq] at hg'
          subst hg'
          obtain ⟨hl, how2⟩ := how
          rcases how2 with how2 | ⟨b', cap, cur, hv, _, hb, hnc, hcm, hcs, htake⟩
          · cases how2.1
          simp only [Value.slice.injEq, Option.some.injEq, Addr.mk.injEq, and_true] at hv
          obtain ⟨rfl, rfl, rfl⟩ := hv
          have hkl : k < xs.length := (List.getElem?_eq_some_iff.1 hu).1
          have hkn : k * sh.n + sh.n ≤ xs.length * sh.n := by rw [← Nat.succ_mul]; exact Nat.mul_le_mul_right _ hkl
          have hcap : xs.length * sh.n ≤ m * sh.n := Nat.mul_le_mul_right _ hnc
          refine ok_write hg hr' rfl h1 rfl (ob := .cells (cur.toList.take (k * sh.n + j) ++ vs ++ cur.toList.drop (k * sh.n + j + vs.length)).toArray e (0, 0)) ?_ ?_ h W (hW i hoki)
          · have hst := run_storeAt (P := P) (w := w) (o := k * sh.n + j) (hA _ _ hti) hb hv1 (by rw [hsz, hlen]) (by omega) (rels_one hv2)
            simp only [execOp, ho, h2, Sem.run_bind, hst, Result.andThen, Sem.run_pure]
          · have hbl := (Array.getElem?_eq_some_iff.1 hb).1
            have hvs : (sh.enc u).take j ++ vs ++ (sh.enc u).drop (j + vs.length) = sh.enc y := by
              have hur : rels (C.rel ρ) (sh.cs u) (sh.enc u) := cs_rel sh u (hok u (List.mem_of_getElem? hu))
              have : rels (C.rel ρ) (sh.cs y) ((sh.enc u).take j ++ vs ++ (sh.enc u).drop (j + vs.length)) := by
                rw [hycs, putCells, hlen]
                exact rels_append (rels_append (rels_take _ hur) hv2) (rels_drop _ hur)
              exact rels_cs this
            refine ⟨⟨?_, .inr ⟨b, m, (cur.toList.take (k * sh.n + j) ++ vs ++ cur.toList.drop (k * sh.n + j + vs.length)).toArray, ?_, Nat.zero_le _, by simp [hbl], ?_, hcm, ?_, ?_⟩⟩, ?_⟩
            · simp [Shape.encs, List.length_flatMap, enc_length, List.map_const', List.sum_replicate_nat]
            · simp
            · simpa using hnc
            · simp; omega
            · obtain ⟨A, D, e1, e2, e3⟩ := encs_set xs k u y hu
              have hul := enc_length sh u
              simp only [List.length_set]
              rw [take_lay (by omega) (by simp; omega), htake, e1, e3, ← hvs]
              have t1 : (A ++ sh.enc u ++ D).take (k * sh.n + j) = A ++ (sh.enc u).take j := by
                rw [List.append_assoc, List.take_append, List.take_of_length_le (by omega), List.take_append_of_le_length (by omega)]
                congr 2; omega
              have t2 : (A ++ sh.enc u ++ D).drop (k * sh.n + j + vs.length) = (sh.enc u).drop (j + vs.length) ++ D := by
                rw [List.append_assoc, List.drop_append, List.drop_eq_nil_of_le (by omega), List.nil_append, List.drop_append_of_le_length (by omega)]
                congr 2; omega
              rw [t1, t2]
              simp
            · intro z hz
              rcases List.mem_or_eq_of_mem_set hz with hz | rfl
              · exact hok z hz
              · exact hyok
        · exact h.elim
      · exact h.elim
    · exact h.elim
  · rename_i ti b j ys hti hev hys
    obtain ⟨vs, hv1, hv2⟩ := cellsOf_cells hys (ev_rel hg.tmps x)
    have hlen := rels_length hv2
    rw [hev] at hd
    obtain ⟨h2, -⟩ := hd
    split at h
    · rename_i us hus
      have hvu : vs = us := toVals_same hus hv2
      subst hvu
      split at h
      · rename_i hsz
        obtain ⟨i, xs, q, hoki, hr, hle, h⟩ := h
        have hr' := nthR_some hr (by simp)
        simp only [put_eq, setR_eq] at h
        obtain ⟨g, hg', -, rfl, hone, T, rest, hT, hb⟩ := hg.st.res i _ hr'
        have hb : w.heap[b]? = some (.cells (xs ++ rest).toArray T (0, 0)) := hb
        have hlay : (xs ++ rest).take j ++ vs ++ (xs ++ rest).drop (j + vs.length) = (xs.take j ++ vs ++ xs.drop (j + vs.length)) ++ rest := by
          rw [List.take_append_of_le_length (by omega), List.drop_append_of_le_length hle, List.append_assoc _ _ rest]
        refine ok_write hg hr' rfl hg' rfl (ob := .cells ((xs.take j ++ vs ++ xs.drop (j + vs.length)) ++ rest).toArray T (0, 0)) ?_ ?_ h W (hW i hoki)
        · have hst := run_storeAt (P := P) (w := w) (o := j) (hA _ _ hti) hb hv1 (by rw [hsz, hlen]) (by simp; omega) (rels_one hv2)
          rw [hlay] at hst
          simp only [execOp, ho, h2, Sem.run_bind, hst, Result.andThen, Sem.run_pure]
        · have hbl := (Array.getElem?_eq_some_iff.1 hb).1
          refine ⟨rfl, rfl, ?_, T, rest, hT, ?_⟩
          · intro v hv
            rcases List.mem_append.1 hv with hv | hv
            · rcases List.mem_append.1 hv with hv | hv
              · exact hone v (List.mem_of_mem_take hv)
              · exact rels_one hv2 v hv
            · exact hone v (List.mem_of_mem_drop hv)
          · show ({ w with heap := w.heap.setIfInBounds b _ } : World).heap[b]? = _
            simp [hbl]
      · exact h.elim
    · exact h.elim
  · exact h.elim

end Go.Vc
