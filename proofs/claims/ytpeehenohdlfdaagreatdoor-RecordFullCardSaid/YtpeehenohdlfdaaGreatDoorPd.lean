/- law57: the plain law of full histories: crashes, and calls until no event goes in. -/
import Derived.Test.YtpeehenohdlfdaaGreatDoorPc
namespace Go.Proofs.YtpeehenohdlfdaaGreatDoor.Rc
set_option maxRecDepth 100000
theorem openF_crash (t : Int) (m : List Ev) : ∀ (n i : Nat), openF t (List.replicate n crash ++ m) i (-1) = openF t m (i + n) (-1)
  | 0, i => rfl
  | n + 1, i => by
    show openF t (List.replicate n crash ++ m) (i + 1) (stepO t i crash (-1)) = _
    have : stepO t i crash (-1) = -1 := by
      unfold stepO
      rw [if_neg (fun q => by cases q.1), if_neg (fun q => by cases q.1)]
      exact if_pos rfl
    rw [this, openF_crash t m n (i + 1)]
    congr 1; omega
theorem lastR_crash (t : Int) (m : List Ev) : ∀ n : Nat, lastR (List.replicate n crash ++ m) t = lastR m t
  | 0 => rfl
  | n + 1 => by
    have : lastR (List.replicate (n + 1) crash ++ m) t = lastR (List.replicate n crash ++ m) t := by
      unfold lastR
      rw [List.replicate_succ, List.cons_append, List.foldl_cons]
      rw [if_neg (fun q => by cases q.1)]
    rw [this, lastR_crash t m n]
def callE (i : Nat) : Ev := ⟨0, 1 + ((i % 8 : Nat) : Int), ((i : Nat) : Int), [97], [], 0, 0⟩
def callsL (n j : Nat) : List Ev := (List.range j).map fun k => callE (n + k)
def fullL (n j : Nat) : List Ev := List.replicate n crash ++ callsL n (min j (1024 - n))
theorem calls_len (n j : Nat) : (callsL n j).length = j := by simp [callsL]
theorem calls_succ (n j : Nat) : callsL n (j + 1) = callsL n j ++ [callE (n + j)] := by simp [callsL, List.range_succ]
theorem full_len {n : Nat} (h : n ≤ 1024) (j : Nat) : (fullL n j).length = n + min j (1024 - n) := by simp [fullL, calls_len]
theorem full_zero (n : Nat) : fullL n 0 = List.replicate n crash := by simp [fullL, callsL]
theorem crash_step {i : Nat} (h : i < 1024) : crashR (List.replicate i crash) = List.replicate (i + 1) crash := by
  unfold crashR
  rw [if_neg (by rw [List.length_replicate]; omega), List.replicate_succ']
theorem full_free : ∀ b < 6, ∀ j < 6, b + j < 6 → openF (callE (1018 + b + j)).t (callsL (1018 + b) j) (1018 + b) (-1) = -1 ∧ lastR (callsL (1018 + b) j) (callE (1018 + b + j)).t < (callE (1018 + b + j)).n := by decide +kernel
theorem full_open : ∀ b < 6, 0 ≤ openF (callE (1018 + b)).t (callsL (1018 + b) (6 - b)) (1018 + b) (-1) := by decide +kernel
theorem full_t (i : Nat) : ¬ ((callE i).t < 1 ∨ 8 < (callE i).t) := by show ¬ (1 + ((i % 8 : Nat) : Int) < 1 ∨ 8 < 1 + ((i % 8 : Nat) : Int)); omega
theorem full_call {b j : Nat} (hb : b < 6) (hj : b + j < 6) : callR (fullL (1018 + b) j) (callE (1018 + b + j)).t (callE (1018 + b + j)).n [97] [] = (fullL (1018 + b) (j + 1), 0) := by
  obtain ⟨h1, h2⟩ := full_free b hb j (by omega) hj
  have hl : (fullL (1018 + b) j).length = 1018 + b + j := by rw [full_len (by omega)]; omega
  have e1 : openR (fullL (1018 + b) j) (callE (1018 + b + j)).t = -1 := by
    unfold openR fullL
    rw [Nat.min_eq_left (by omega), openF_crash, Nat.zero_add, h1]
  have e2 : lastR (fullL (1018 + b) j) (callE (1018 + b + j)).t = lastR (callsL (1018 + b) j) (callE (1018 + b + j)).t := by
    unfold fullL
    rw [Nat.min_eq_left (by omega), lastR_crash]
  unfold callR
  rw [if_neg (full_t _), if_neg (by rw [e1]; omega), if_neg (by rw [e2]; omega), if_neg (by decide), if_neg (by decide), if_neg (by omega)]
  unfold fullL
  rw [Nat.min_eq_left (by omega), Nat.min_eq_left (by omega), calls_succ, List.append_assoc]
  rfl
theorem full_stay {n j : Nat} (h : 1024 ≤ n + j) (hn : n ≤ 1024) : fullL n (j + 1) = fullL n j := by
  unfold fullL
  rw [Nat.min_eq_right (by omega), Nat.min_eq_right (by omega)]
theorem full_no {n j : Nat} (h : 1024 ≤ n + j) (hn : n ≤ 1024) (t k : Int) (nm : Bs) (as : List Int) : (callR (fullL n j) t k nm as).1 = fullL n (j + 1) ∧ (callR (fullL n j) t k nm as).2 ≠ 0 := by
  rw [full_stay h hn]
  have hl : (fullL n j).length = 1024 := by rw [full_len hn]; omega
  rcases call_cases (fullL n j) t k nm as with q | q
  · exact q
  · exfalso
    unfold callR at q
    rw [if_pos (show 1024 ≤ (fullL n j).length by omega)] at q
    split at q
    · cases congrArg Prod.snd q
    split at q
    · cases congrArg Prod.snd q
    split at q
    · cases congrArg Prod.snd q
    split at q
    · cases congrArg Prod.snd q
    split at q
    · cases congrArg Prod.snd q
    · cases congrArg Prod.snd q
theorem full_last {b : Nat} (hb : b < 6) : 0 ≤ openR (fullL (1018 + b) (12 - b)) (callE (1018 + b)).t := by
  unfold openR fullL
  rw [Nat.min_eq_right (by omega), show 1024 - (1018 + b) = 6 - b by omega, openF_crash, Nat.zero_add]
  exact full_open b hb
theorem full_end {b : Nat} (hb : b < 6) : (fullL (1018 + b) (12 - b)).length = 1024 := by rw [full_len (by omega)]; omega
theorem full_once (n j : Nat) (t : Int) (i : Nat) : twiceR (fullL n j) t i = false := by
  unfold twiceR
  rw [List.any_eq_false]
  intro e he
  have he := List.mem_of_mem_drop he
  unfold fullL at he
  rcases List.mem_append.1 he with he | he
  · have := (List.mem_replicate.1 he).2
    subst this
    intro q
    exact absurd (of_decide_eq_true q).1 (by show ¬ (3 : Int) = 2; decide)
  · unfold callsL at he
    obtain ⟨k, -, rfl⟩ := List.mem_map.1 he
    intro q
    exact absurd (of_decide_eq_true q).1 (by show ¬ (0 : Int) = 2; decide)
theorem full_answer {b : Nat} (hb : b < 6) (er va : Int) : (answerR (fullL (1018 + b) (12 - b)) (callE (1018 + b)).t er va).2 = 9 := by
  have h1 := full_last hb
  have h2 := full_end hb
  unfold answerR
  rw [if_neg (full_t _), if_neg (by omega), if_pos (by omega)]
theorem full_commit {b : Nat} (hb : b < 6) : (commitR (fullL (1018 + b) (12 - b)) (callE (1018 + b)).t).2 = 9 := by
  have h1 := full_last hb
  have h2 := full_end hb
  unfold commitR
  rw [if_neg (full_t _), if_neg (by omega), full_once, if_neg (by decide), if_pos (by omega)]
theorem full_crash {b : Nat} (hb : b < 6) : crashR (fullL (1018 + b) (12 - b)) = fullL (1018 + b) (12 - b) := by
  unfold crashR
  rw [if_pos (by rw [full_end hb]; exact Nat.le_refl _)]
end Go.Proofs.YtpeehenohdlfdaaGreatDoor.Rc
