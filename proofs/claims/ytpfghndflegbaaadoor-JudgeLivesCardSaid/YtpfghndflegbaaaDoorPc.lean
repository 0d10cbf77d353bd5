/- law58: plain laws of Form and of the calls of a history. -/
import Derived.Test.YtpfghndflegbaaaDoorPb
namespace Go.Proofs.YtpfghndflegbaaaDoor.Jd
set_option maxRecDepth 100000

variable {γ α : Type}

/-- An event. -/
structure Ev (γ α : Type) where
  kind : Int
  thread : Int
  number : Int
  call : γ
  ans : α

/-- The judge's state of a thread: open, committed, last. -/
structure Th where
  op : Bool
  com : Bool
  last : Int
/-- The reference's: open (its number), last, committed. -/
structure Tr where
  op : Int
  last : Int
  com : Bool
def upd {β : Type} (f : Int → β) (t : Int) (v : β) : Int → β := fun s => if s = t then v else f s
/-- One event of the judge's: the error, and the threads behind it. -/
def evJ (f : Int → Th) (e : Ev γ α) : Int × (Int → Th) :=
  if e.kind < 0 ∨ e.kind > 3 then (2, f)
  else if e.kind = 3 then (0, fun t => ⟨false, false, (f t).last⟩)
  else if e.thread < 1 ∨ e.thread > 8 then (3, f)
  else if (f e.thread).op = decide (e.kind = 0) then (13, f)
  else if e.kind = 0 ∧ e.number ≤ (f e.thread).last then (12, f)
  else if e.kind ≠ 0 ∧ e.number ≠ (f e.thread).last then (14, f)
  else if e.kind = 2 ∧ (f e.thread).com = true then (11, f)
  else if e.kind = 0 then (0, upd f e.thread ⟨true, false, e.number⟩)
  else if e.kind = 1 then (0, upd f e.thread ⟨false, (f e.thread).com, (f e.thread).last⟩)
  else (0, upd f e.thread ⟨(f e.thread).op, true, (f e.thread).last⟩)
/-- One event of the reference's. -/
def evR (f : Int → Tr) (e : Ev γ α) : Int × (Int → Tr) :=
  if e.kind < 0 ∨ e.kind > 3 then (2, f)
  else if e.kind = 3 then (0, fun t => ⟨0, (f t).last, (f t).com⟩)
  else if e.thread < 1 ∨ e.thread > 8 then (3, f)
  else if decide (e.kind = 0) = decide ((f e.thread).op ≠ 0) then (13, f)
  else if e.kind = 0 then if e.number ≤ (f e.thread).last then (12, f) else (0, upd f e.thread ⟨e.number, e.number, false⟩)
  else if e.number ≠ (f e.thread).op then (14, f)
  else if e.kind = 1 then (0, upd f e.thread ⟨0, (f e.thread).last, (f e.thread).com⟩)
  else if (f e.thread).com = true then (11, f)
  else (0, upd f e.thread ⟨(f e.thread).op, (f e.thread).last, true⟩)
def formJ : (Int → Th) → List (Ev γ α) → Int
  | _, [] => 0
  | f, e :: l => if (evJ f e).1 ≠ 0 then (evJ f e).1 else formJ (evJ f e).2 l
def formR : (Int → Tr) → List (Ev γ α) → Int
  | _, [] => 0
  | f, e :: l => if (evR f e).1 ≠ 0 then (evR f e).1 else formR (evR f e).2 l
def th0 : Int → Th := fun _ => ⟨false, false, 0⟩
def tr0 : Int → Tr := fun _ => ⟨0, 0, false⟩
/-- The two states say the same. -/
def Same (f : Int → Th) (g : Int → Tr) : Prop := ∀ t, (f t).last = (g t).last ∧ 0 ≤ (g t).last ∧ ((f t).op = true → (g t).op = (g t).last ∧ 0 < (g t).last ∧ (f t).com = (g t).com) ∧ ((f t).op = false → (g t).op = 0)
theorem same_upd {f : Int → Th} {g : Int → Tr} (h : Same f g) (t : Int) {a : Th} {b : Tr} (hab : a.last = b.last ∧ 0 ≤ b.last ∧ (a.op = true → b.op = b.last ∧ 0 < b.last ∧ a.com = b.com) ∧ (a.op = false → b.op = 0)) : Same (upd f t a) (upd g t b) := by
  intro s
  unfold upd
  by_cases e : s = t
  · rw [if_pos e, if_pos e]; exact hab
  · rw [if_neg e, if_neg e]; exact h s
theorem ev_same {f : Int → Th} {g : Int → Tr} (h : Same f g) (e : Ev γ α) : (evJ f e).1 = (evR g e).1 ∧ ((evJ f e).1 = 0 → Same (evJ f e).2 (evR g e).2) := by
  obtain ⟨h1, h2, h3, h4⟩ := h e.thread
  by_cases c1 : e.kind < 0 ∨ e.kind > 3
  ·
    have hJ : evJ f e = (2, f) := by unfold evJ; rw [if_pos c1]
    have hR : evR g e = (2, g) := by unfold evR; rw [if_pos c1]
    rw [hJ, hR]; exact ⟨rfl, fun _ => h⟩
  by_cases c2 : e.kind = 3
  ·
    have hJ : evJ f e = (0, fun t => ⟨false, false, (f t).last⟩) := by unfold evJ; rw [if_neg c1, if_pos c2]
    have hR : evR g e = (0, fun t => ⟨0, (g t).last, (g t).com⟩) := by unfold evR; rw [if_neg c1, if_pos c2]
    rw [hJ, hR]; exact ⟨rfl, fun _ t => ⟨(h t).1, (h t).2.1, (fun e => by cases e), fun _ => rfl⟩⟩
  by_cases c3 : e.thread < 1 ∨ e.thread > 8
  ·
    have hJ : evJ f e = (3, f) := by unfold evJ; rw [if_neg c1, if_neg c2, if_pos c3]
    have hR : evR g e = (3, g) := by unfold evR; rw [if_neg c1, if_neg c2, if_pos c3]
    rw [hJ, hR]; exact ⟨rfl, fun _ => h⟩
  cases ho : (f e.thread).op with
  | true =>
    obtain ⟨p1, p2, p3⟩ := h3 ho
    have hne : decide ((g e.thread).op ≠ 0) = true := decide_eq_true (by omega)
    by_cases c4 : e.kind = 0
    ·
      have hJ : evJ f e = (13, f) := by unfold evJ; rw [if_neg c1, if_neg c2, if_neg c3, ho, if_pos (by simp [c4])]
      have hR : evR g e = (13, g) := by unfold evR; rw [if_neg c1, if_neg c2, if_neg c3, hne, if_pos (by simp [c4])]
      rw [hJ, hR]; exact ⟨rfl, fun _ => h⟩
    by_cases c5 : e.number = (g e.thread).last
    · by_cases c6 : e.kind = 1
      ·
        have hJ : evJ f e = (0, upd f e.thread ⟨false, (f e.thread).com, (f e.thread).last⟩) := by unfold evJ; rw [if_neg c1, if_neg c2, if_neg c3, ho, if_neg (by simp [c4]), if_neg (fun q => c4 q.1), if_neg (fun q => q.2 (c5.trans h1.symm)), if_neg (fun q => by omega), if_neg c4, if_pos c6]
        have hR : evR g e = (0, upd g e.thread ⟨0, (g e.thread).last, (g e.thread).com⟩) := by unfold evR; rw [if_neg c1, if_neg c2, if_neg c3, hne, if_neg (by simp [c4]), if_neg c4, if_neg (fun q => q (c5.trans p1.symm)), if_pos c6]
        rw [hJ, hR]; exact ⟨rfl, fun _ => same_upd h _ ⟨h1, h2, (fun e => by cases e), fun _ => rfl⟩⟩
      have c7 : e.kind = 2 := by omega
      by_cases c8 : (g e.thread).com = true
      ·
        have hJ : evJ f e = (11, f) := by unfold evJ; rw [if_neg c1, if_neg c2, if_neg c3, ho, if_neg (by simp [c4]), if_neg (fun q => c4 q.1), if_neg (fun q => q.2 (c5.trans h1.symm)), if_pos ⟨c7, p3.trans c8⟩]
        have hR : evR g e = (11, g) := by unfold evR; rw [if_neg c1, if_neg c2, if_neg c3, hne, if_neg (by simp [c4]), if_neg c4, if_neg (fun q => q (c5.trans p1.symm)), if_neg c6, if_pos c8]
        rw [hJ, hR]; exact ⟨rfl, fun _ => h⟩
      ·
        have hJ : evJ f e = (0, upd f e.thread ⟨(f e.thread).op, true, (f e.thread).last⟩) := by unfold evJ; rw [if_neg c1, if_neg c2, if_neg c3, if_neg (by rw [ho]; simp [c4]), if_neg (fun q => c4 q.1), if_neg (fun q => q.2 (c5.trans h1.symm)), if_neg (fun q => c8 (p3.symm.trans q.2)), if_neg c4, if_neg c6]
        have hR : evR g e = (0, upd g e.thread ⟨(g e.thread).op, (g e.thread).last, true⟩) := by unfold evR; rw [if_neg c1, if_neg c2, if_neg c3, hne, if_neg (by simp [c4]), if_neg c4, if_neg (fun q => q (c5.trans p1.symm)), if_neg c6, if_neg c8]
        rw [hJ, hR]; exact ⟨rfl, fun _ => same_upd h _ ⟨h1, h2, fun _ => ⟨p1, p2, rfl⟩, fun q => by rw [ho] at q; cases q⟩⟩
    ·
      have hJ : evJ f e = (14, f) := by unfold evJ; rw [if_neg c1, if_neg c2, if_neg c3, ho, if_neg (by simp [c4]), if_neg (fun q => c4 q.1), if_pos ⟨c4, fun q => c5 (q.trans h1)⟩]
      have hR : evR g e = (14, g) := by unfold evR; rw [if_neg c1, if_neg c2, if_neg c3, hne, if_neg (by simp [c4]), if_neg c4, if_pos (fun q => c5 (q.trans p1))]
      rw [hJ, hR]; exact ⟨rfl, fun _ => h⟩
  | false =>
    have p1 := h4 ho
    have hne : decide ((g e.thread).op ≠ 0) = false := decide_eq_false (by omega)
    by_cases c4 : e.kind = 0
    · by_cases c5 : e.number ≤ (g e.thread).last
      ·
        have hJ : evJ f e = (12, f) := by unfold evJ; rw [if_neg c1, if_neg c2, if_neg c3, ho, if_neg (by simp [c4]), if_pos ⟨c4, by omega⟩]
        have hR : evR g e = (12, g) := by unfold evR; rw [if_neg c1, if_neg c2, if_neg c3, hne, if_neg (by simp [c4]), if_pos c4, if_pos c5]
        rw [hJ, hR]; exact ⟨rfl, fun _ => h⟩
      ·
        have hJ : evJ f e = (0, upd f e.thread ⟨true, false, e.number⟩) := by unfold evJ; rw [if_neg c1, if_neg c2, if_neg c3, ho, if_neg (by simp [c4]), if_neg (fun q => c5 (by omega)), if_neg (fun q => q.1 c4), if_neg (fun q => by omega), if_pos c4]
        have hR : evR g e = (0, upd g e.thread ⟨e.number, e.number, false⟩) := by unfold evR; rw [if_neg c1, if_neg c2, if_neg c3, hne, if_neg (by simp [c4]), if_pos c4, if_neg c5]
        rw [hJ, hR]; exact ⟨rfl, fun _ => same_upd h _ ⟨rfl, by show 0 ≤ e.number; omega, fun _ => ⟨rfl, by show 0 < e.number; omega, rfl⟩, fun q => by cases q⟩⟩
    ·
      have hJ : evJ f e = (13, f) := by unfold evJ; rw [if_neg c1, if_neg c2, if_neg c3, ho, if_pos (by simp [c4])]
      have hR : evR g e = (13, g) := by unfold evR; rw [if_neg c1, if_neg c2, if_neg c3, hne, if_pos (by simp [c4])]
      rw [hJ, hR]; exact ⟨rfl, fun _ => h⟩
theorem form_same : ∀ (l : List (Ev γ α)) (f : Int → Th) (g : Int → Tr), Same f g → formJ f l = formR g l
  | [], _, _, _ => rfl
  | e :: l, f, g, h => by
    obtain ⟨h1, h2⟩ := ev_same h e
    rw [formJ, formR, ← h1]
    by_cases hz : (evJ f e).1 = 0
    · rw [if_neg (by rw [hz]; simp), if_neg (by rw [hz]; simp)]
      exact form_same l _ _ (h2 hz)
    · rw [if_pos hz, if_pos hz]
theorem same0 : Same th0 tr0 := fun _ => ⟨rfl, Int.le_refl _, (fun e => by cases e), fun _ => rfl⟩
end Go.Proofs.YtpfghndflegbaaaDoor.Jd
