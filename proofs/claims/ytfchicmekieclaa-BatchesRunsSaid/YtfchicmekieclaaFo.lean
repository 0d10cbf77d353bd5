/- law54: operations that commute, and operations that do not: plain laws. -/
import Derived.Test.YtfchicmekieclaaFl
import Derived.Test.YtfchicmekieclaaBa
namespace Go.Proofs.Ytfchicmekieclaa
open Go Go.Vc
set_option maxRecDepth 100000

theorem inI64_iff (x : Int) : inI64 x ↔ -9223372036854775808 ≤ x ∧ x ≤ 9223372036854775807 := by
  have h1 : IntKind.i64.min = -9223372036854775808 := by decide
  have h2 : IntKind.i64.max = 9223372036854775807 := by decide
  unfold inI64
  rw [h1, h2]
theorem inI64_wrap (x : Int) : inI64 (IntKind.i64.wrap x) := (inI64_iff _).2 (wrap_i64_in x)

theorem eff_in {k v n : Int} (hv : inI64 v) (hn : inI64 n) : inI64 (eff k v n) := by
  unfold eff
  repeat' split
  all_goals first | exact inI64_wrap _ | assumption

/-- What 'idle' says: dead, or without effect on values in range. -/
theorem idle_eff {o : O} (h : idle o = true) (hl : live o.1 = true) {v : Int} (hv : inI64 v) : eff o.1 v o.2.2 = v := by
  rw [inI64_iff] at hv
  unfold idle at h
  rcases live_cases hl with h0 | h0 | h0 | h0 <;> rw [h0] at h ⊢ <;> simp [eff] at h ⊢
  · rw [h, Int.add_zero]; exact wrap_i64 hv.1 hv.2
  · rw [h]; omega
  · rw [h]; omega
  · simp [live] at h

/-- Two operations on one key, live and not idle: what 'commute' says. -/
theorem com2_eff {a b : O} (ha : live a.1 = true) (hb : live b.1 = true) (hle : a.1 ≤ b.1) (h : com2 a b = true) (v : Int) : eff b.1 (eff a.1 v a.2.2) b.2.2 = eff a.1 (eff b.1 v b.2.2) a.2.2 := by
  obtain ⟨ka, ya, na⟩ := a
  obtain ⟨kb, yb, nb⟩ := b
  simp only at ha hb hle h ⊢
  rcases live_cases ha with rfl | rfl | rfl | rfl <;> rcases live_cases hb with rfl | rfl | rfl | rfl <;> simp [com2] at h hle <;> simp [eff]
  · rw [wrap_wrap_add, wrap_wrap_add]; congr 1; omega
  all_goals first | (subst h; rfl) | ((repeat' split) <;> omega)

theorem commute_eff {a b : O} (h : commute a b = true) (hk : a.2.1 = b.2.1) (ha : live a.1 = true) (hb : live b.1 = true) (hin : opIn a) (hin' : opIn b) {v : Int} (hv : inI64 v) : eff b.1 (eff a.1 v a.2.2) b.2.2 = eff a.1 (eff b.1 v b.2.2) a.2.2 := by
  by_cases hia : idle a = true
  · rw [idle_eff hia ha hv, idle_eff hia ha (eff_in hv hin'.2.2)]
  by_cases hib : idle b = true
  · rw [idle_eff hib hb hv, idle_eff hib hb (eff_in hv hin.2.2)]
  have hne : (a.2.1 != b.2.1) = false := by simpa using hk
  have hia' : idle a = false := by simpa using hia
  have hib' : idle b = false := by simpa using hib
  unfold commute at h
  rw [hne, hia', hib'] at h
  simp only [cond_false] at h
  by_cases hgt : a.1 > b.1
  · rw [decide_eq_true hgt, cond_true] at h
    exact (com2_eff hb ha (by omega) h v).symm
  · rw [decide_eq_false hgt, cond_false] at h
    exact com2_eff ha hb (by omega) h v

/-- The values that a map answers are in range. -/
def FIn (f : Int → Option Int) : Prop := ∀ k x, f k = some x → inI64 x
theorem FIn.get {f : Int → Option Int} (h : FIn f) (k : Int) : inI64 ((f k).getD 0) := by
  cases hf : f k with
  | none => exact (inI64_iff _).2 (by simp)
  | some x => exact h k x hf
theorem FIn.app1 {f : Int → Option Int} (h : FIn f) {o : O} (ho : opIn o) : FIn (app1 f o) := by
  intro k x hx
  unfold Proofs.Ytfchicmekieclaa.app1 at hx
  cases hl : live o.1 with
  | false => rw [hl] at hx; exact h k x hx
  | true =>
    rw [hl, cond_true] at hx
    split at hx
    · simp only [Option.some.injEq] at hx
      rw [← hx]
      exact eff_in (h.get _) ho.2.2
    · exact h k x hx
theorem FIn.app {f : Int → Option Int} (h : FIn f) : ∀ {l : List O}, (∀ o ∈ l, opIn o) → FIn (app f l) := by
  intro l
  induction l generalizing f with
  | nil => intro _; exact h
  | cons o l ih => intro hl; exact ih (h.app1 (hl o (by simp))) fun x hx => hl x (by simp [hx])

theorem app_swap {f : Int → Option Int} (hf : FIn f) {a b : O} (ha : opIn a) (hb : opIn b) (h : commute a b = true) : app1 (app1 f a) b = app1 (app1 f b) a := by
  funext k
  cases hla : live a.1 with
  | false => rw [app1_dead hla, app1_dead hla]
  | true =>
    cases hlb : live b.1 with
    | false => rw [app1_dead hlb, app1_dead hlb]
    | true =>
      simp only [app1, hla, hlb, cond_true]
      by_cases hk : a.2.1 = b.2.1
      · by_cases hkk : k = b.2.1
        · simp only [hk, hkk, if_true, Option.getD_some]
          rw [commute_eff h hk hla hlb ha hb (hf.get _)]
        · simp [hk, hkk]
      · by_cases h1 : k = b.2.1
        · have h2 : ¬ b.2.1 = a.2.1 := fun e => hk e.symm
          have h3 : ¬ k = a.2.1 := fun e => hk (e.symm.trans h1)
          simp [h1, h2]
        · by_cases h2 : k = a.2.1
          · simp [h2, hk]
          · simp [h1, h2]

theorem commute_symm (a b : O) : commute a b = commute b a := by
  unfold commute
  by_cases hk : a.2.1 = b.2.1
  · have h1 : (a.2.1 != b.2.1) = false := by simpa using hk
    have h2 : (b.2.1 != a.2.1) = false := by simpa using hk.symm
    rw [h1, h2]
    cases idle a <;> cases idle b <;> simp only [cond_true, cond_false]
    by_cases hgt : a.1 > b.1
    · rw [decide_eq_true hgt, decide_eq_false (show ¬ b.1 > a.1 by omega)]
      rfl
    · by_cases hlt : b.1 > a.1
      · rw [decide_eq_false hgt, decide_eq_true hlt]
        rfl
      · have he : a.1 = b.1 := by omega
        rw [decide_eq_false hgt, decide_eq_false hlt]
        simp only [cond_false, com2, he, beq_self_eq_true, cond_true]
        cases (b.1 != 3)
        · simp only [cond_false]
          by_cases hn : a.2.2 = b.2.2
          · rw [hn]
          · have h3 : (a.2.2 == b.2.2) = false := by simpa using hn
            have h4 : (b.2.2 == a.2.2) = false := by simpa using fun e => hn e.symm
            rw [h3, h4]
        · rfl
  · have h1 : (a.2.1 != b.2.1) = true := by simpa using hk
    have h2 : (b.2.1 != a.2.1) = true := by simpa using fun e => hk e.symm
    rw [h1, h2]
    rfl

theorem wrap_ne {n a : Int} (ha : inI64 a) (h0 : a ≠ 0) : IntKind.i64.wrap (n + a) ≠ n := by
  rw [inI64_iff] at ha
  rw [wrap_i64_eq]
  split <;> omega

/-- Values that tell two operations apart which do not commute. -/
def ns (a b : Int) : List Int := [a, b, IntKind.i64.wrap (a - 1), IntKind.i64.wrap (b - 1), IntKind.i64.wrap (a + 1), IntKind.i64.wrap (b + 1), -9223372036854775808, 9223372036854775807, 0]
def ksOf (a b : Int) : List Int := [0, a, b, IntKind.i64.wrap (0 - a), IntKind.i64.wrap (0 - b)]

theorem add_most {A N : Int} (hA : inI64 A) (hN : inI64 N) (h0 : A ≠ 0) :
    ∃ w, (w = N ∨ w = IntKind.i64.wrap (N - A) ∨ w = N - 1) ∧ eff 1 (eff 0 w A) N ≠ eff 0 (eff 1 w N) A := by
  have hne := wrap_ne (n := N) hA h0
  have hA' := (inI64_iff A).1 hA
  have hN' := (inI64_iff N).1 hN
  simp only [eff, if_true]
  simp only [show (1 : Int) ≠ 0 by decide, if_false]
  by_cases c2 : IntKind.i64.wrap (N + A) < N
  · refine ⟨N, .inl rfl, ?_⟩
    rw [if_pos (by omega : N > IntKind.i64.wrap (N + A)), if_neg (by omega : ¬ N > N)]
    omega
  by_cases c1 : IntKind.i64.wrap (N - A) ≤ N
  · refine ⟨IntKind.i64.wrap (N - A), .inr (.inl rfl), ?_⟩
    have e1 : IntKind.i64.wrap (IntKind.i64.wrap (N - A) + A) = N := by
      rw [wrap_wrap_add, Int.sub_add_cancel]; exact wrap_i64 hN'.1 hN'.2
    rw [e1, if_neg (by omega : ¬ N > N)]
    by_cases c3 : N > IntKind.i64.wrap (N - A)
    · rw [if_pos c3]; exact fun e => hne e.symm
    · rw [if_neg c3]
      have : IntKind.i64.wrap (N - A) = N := by omega
      rw [this]; exact fun e => hne e.symm
  · refine ⟨N - 1, .inr (.inr rfl), ?_⟩
    have e1 : IntKind.i64.wrap (N - 1 + A) = IntKind.i64.wrap (N + A) - 1 := by
      have hr := wrap_i64_in (N + A)
      rw [wrap_i64_eq] at *
      rw [wrap_i64_eq] at *
      omega
    rw [e1, if_pos (by omega : N > N - 1)]
    split <;> omega

theorem add_least {A N : Int} (hA : inI64 A) (hN : inI64 N) (h0 : A ≠ 0) :
    ∃ w, (w = N ∨ w = IntKind.i64.wrap (N - A) ∨ w = N + 1) ∧ eff 2 (eff 0 w A) N ≠ eff 0 (eff 2 w N) A := by
  have hne := wrap_ne (n := N) hA h0
  have hA' := (inI64_iff A).1 hA
  have hN' := (inI64_iff N).1 hN
  simp only [eff, if_true]
  simp only [show (2 : Int) ≠ 0 by decide, show (2 : Int) ≠ 1 by decide, if_false]
  by_cases c2 : IntKind.i64.wrap (N + A) > N
  · refine ⟨N, .inl rfl, ?_⟩
    rw [if_pos (by omega : N < IntKind.i64.wrap (N + A)), if_neg (by omega : ¬ N < N)]
    omega
  by_cases c1 : IntKind.i64.wrap (N - A) ≥ N
  · refine ⟨IntKind.i64.wrap (N - A), .inr (.inl rfl), ?_⟩
    have e1 : IntKind.i64.wrap (IntKind.i64.wrap (N - A) + A) = N := by
      rw [wrap_wrap_add, Int.sub_add_cancel]; exact wrap_i64 hN'.1 hN'.2
    rw [e1, if_neg (by omega : ¬ N < N)]
    by_cases c3 : N < IntKind.i64.wrap (N - A)
    · rw [if_pos c3]; exact fun e => hne e.symm
    · rw [if_neg c3]
      have : IntKind.i64.wrap (N - A) = N := by omega
      rw [this]; exact fun e => hne e.symm
  · refine ⟨N + 1, .inr (.inr rfl), ?_⟩
    have e1 : IntKind.i64.wrap (N + 1 + A) = IntKind.i64.wrap (N + A) + 1 := by
      have hr := wrap_i64_in (N + A)
      rw [wrap_i64_eq] at *
      rw [wrap_i64_eq] at *
      omega
    rw [e1, if_pos (by omega : N < N + 1)]
    split <;> omega

/-- A value that the law tries. -/
def CanW (a b w : Int) : Prop := ∃ n ∈ ns a b, ∃ k ∈ ksOf a b, IntKind.i64.wrap (n - k) = w
theorem CanW.symm {a b w : Int} (h : CanW a b w) : CanW b a w := by
  obtain ⟨n, hn, k, hk, e⟩ := h
  refine ⟨n, ?_, k, ?_, e⟩
  · simp only [ns, List.mem_cons, List.not_mem_nil, or_false] at hn ⊢; omega
  · simp only [ksOf, List.mem_cons, List.not_mem_nil, or_false] at hk ⊢; omega
theorem canW_self {a b : Int} (ha : inI64 a) : CanW a b a := by
  rw [inI64_iff] at ha
  exact ⟨a, by simp [ns], 0, by simp [ksOf], by rw [Int.sub_zero]; exact wrap_i64 ha.1 ha.2⟩
theorem canW_minus {a b : Int} : CanW a b (IntKind.i64.wrap (a - b)) := ⟨a, by simp [ns], b, by simp [ksOf], rfl⟩
theorem canW_pred {a b : Int} (ha : inI64 a) (h : a ≠ -9223372036854775808) : CanW a b (a - 1) := by
  rw [inI64_iff] at ha
  refine ⟨IntKind.i64.wrap (a - 1), by simp [ns], 0, by simp [ksOf], ?_⟩
  rw [wrap_i64 (x := a - 1) (by omega) (by omega), Int.sub_zero]
  exact wrap_i64 (by omega) (by omega)
theorem canW_succ {a b : Int} (ha : inI64 a) (h : a ≠ 9223372036854775807) : CanW a b (a + 1) := by
  rw [inI64_iff] at ha
  refine ⟨IntKind.i64.wrap (a + 1), by simp [ns], 0, by simp [ksOf], ?_⟩
  rw [wrap_i64 (x := a + 1) (by omega) (by omega), Int.sub_zero]
  exact wrap_i64 (by omega) (by omega)

theorem differ2 {a b : O} (ha : opIn a) (hb : opIn b) (hla : live a.1 = true) (hlb : live b.1 = true) (hia : idle a = false) (hib : idle b = false) (hle : a.1 ≤ b.1) (h : com2 a b = false) :
    ∃ w, CanW a.2.2 b.2.2 w ∧ eff b.1 (eff a.1 w a.2.2) b.2.2 ≠ eff a.1 (eff b.1 w b.2.2) a.2.2 := by
  obtain ⟨ka, ya, na⟩ := a
  obtain ⟨kb, yb, nb⟩ := b
  have hna : inI64 na := ha.2.2
  have hnb : inI64 nb := hb.2.2
  simp only at hla hlb hle ⊢
  rcases live_cases hla with rfl | rfl | rfl | rfl <;> rcases live_cases hlb with rfl | rfl | rfl | rfl <;> simp [com2] at h hle <;> simp [idle, live] at hia hib
  · obtain ⟨w, hw, hd⟩ := add_most hna hnb hia
    refine ⟨w, ?_, hd⟩
    rcases hw with rfl | rfl | rfl
    · exact (canW_self hnb).symm
    · exact canW_minus.symm
    · exact (canW_pred hnb hib).symm
  · obtain ⟨w, hw, hd⟩ := add_least hna hnb hia
    refine ⟨w, ?_, hd⟩
    rcases hw with rfl | rfl | rfl
    · exact (canW_self hnb).symm
    · exact canW_minus.symm
    · exact (canW_succ hnb hib).symm
  · refine ⟨na, canW_self hna, ?_⟩
    simp only [eff, if_true, show (3 : Int) ≠ 0 by decide, show (3 : Int) ≠ 1 by decide, show (3 : Int) ≠ 2 by decide, if_false]
    exact fun e => wrap_ne hna hia e.symm
  all_goals
    refine ⟨na, canW_self hna, ?_⟩
    simp [eff]
    try (repeat' split)
    all_goals omega

theorem differ {a b : O} (ha : opIn a) (hb : opIn b) (h : commute a b = false) :
    a.2.1 = b.2.1 ∧ live a.1 = true ∧ live b.1 = true ∧ ∃ w, CanW a.2.2 b.2.2 w ∧ eff b.1 (eff a.1 w a.2.2) b.2.2 ≠ eff a.1 (eff b.1 w b.2.2) a.2.2 := by
  have hidle : ∀ o : O, idle o = false → live o.1 = true := by
    intro o ho
    unfold idle at ho
    by_cases h0 : o.1 = 0
    · rw [h0]; rfl
    by_cases h1 : o.1 = 1
    · rw [h1]; rfl
    by_cases h2 : o.1 = 2
    · rw [h2]; rfl
    rw [if_neg h0, if_neg h1, if_neg h2] at ho
    simpa using ho
  unfold commute at h
  by_cases hk : a.2.1 = b.2.1
  · have hne : (a.2.1 != b.2.1) = false := by simpa using hk
    rw [hne] at h
    cases hia : idle a with
    | true => rw [hia] at h; simp at h
    | false =>
      cases hib : idle b with
      | true => rw [hia, hib] at h; simp at h
      | false =>
        rw [hia, hib] at h
        simp only [cond_false] at h
        refine ⟨hk, hidle a hia, hidle b hib, ?_⟩
        by_cases hgt : a.1 > b.1
        · rw [decide_eq_true hgt, cond_true] at h
          obtain ⟨w, h1, h2⟩ := differ2 hb ha (hidle b hib) (hidle a hia) hib hia (by omega) h
          exact ⟨w, h1.symm, fun e => h2 e.symm⟩
        · rw [decide_eq_false hgt, cond_false] at h
          exact differ2 ha hb (hidle a hia) (hidle b hib) hia hib (by omega) h
  · have hne : (a.2.1 != b.2.1) = true := by simpa using hk
    rw [hne] at h
    simp at h
end Go.Proofs.Ytfchicmekieclaa
