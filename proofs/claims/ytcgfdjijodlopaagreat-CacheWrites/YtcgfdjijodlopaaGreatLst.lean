/- A part of proofs about the given program. No condition. -/
import Derived.Test.YtcgfdjijodlopaaGreatModel
set_option linter.all false
/- Lists: what is found behind a change. -/
namespace Mes

section find
variable {α : Type} (p : α → Bool)

theorem find_modify_findIdx {l : List α} {i : Nat} {g : α → α} (hg : ∀ x, p x = true → p (g x) = true) (h : l.findIdx? p = some i) : (l.modify i g).find? p = (l.find? p).map g := by
  induction l generalizing i with
  | nil => simp at h
  | cons a l ih =>
    rw [List.findIdx?_cons] at h
    cases hp : p a with
    | true => simp [hp] at h; subst h; simp [hp, hg]
    | false =>
      simp only [hp, Bool.false_eq_true, if_false, Option.map_eq_some_iff] at h
      obtain ⟨j, hj, rfl⟩ := h
      simp [hp, ih hj]

theorem find_modify_other {q : α → Bool} {l : List α} {i : Nat} {g : α → α} (hg : ∀ x, p x = true → q x = false ∧ q (g x) = false) (h : l.findIdx? p = some i) : (l.modify i g).find? q = l.find? q := by
  induction l generalizing i with
  | nil => simp at h
  | cons a l ih =>
    rw [List.findIdx?_cons] at h
    cases hp : p a with
    | true => simp [hp] at h; subst h; simp [hg a hp]
    | false =>
      simp only [hp, Bool.false_eq_true, if_false, Option.map_eq_some_iff] at h
      obtain ⟨j, hj, rfl⟩ := h
      simp [List.find?_cons, ih hj]

theorem find_erase_other {q : α → Bool} {l : List α} {i : Nat} (hg : ∀ x, p x = true → q x = false) (h : l.findIdx? p = some i) : (l.eraseIdx i).find? q = l.find? q := by
  induction l generalizing i with
  | nil => simp at h
  | cons a l ih =>
    rw [List.findIdx?_cons] at h
    cases hp : p a with
    | true => simp [hp] at h; subst h; simp [hg a hp]
    | false =>
      simp only [hp, Bool.false_eq_true, if_false, Option.map_eq_some_iff] at h
      obtain ⟨j, hj, rfl⟩ := h
      simp [List.find?_cons, ih hj]

theorem find_isSome_findIdx {l : List α} : (l.find? p).isSome = (l.findIdx? p).isSome := by
  induction l with
  | nil => rfl
  | cons a l ih =>
    rw [List.findIdx?_cons, List.find?_cons]
    cases p a with
    | true => rfl
    | false => simp [ih]
end find

/-- lists whose members have different keys -/
def Uniq {α : Type} (k : α → Int) (l : List α) : Prop := (l.map k).Nodup

section uniq
variable {α : Type} {k : α → Int}
theorem Uniq.nil : Uniq k ([] : List α) := List.nodup_nil
theorem find_key_none {l : List α} {n : Int} : l.find? (fun x => k x == n) = none ↔ n ∉ l.map k := by
  simp [List.find?_eq_none]
theorem Uniq.snoc {l : List α} {x : α} (h : Uniq k l) (hn : l.find? (fun y => k y == k x) = none) : Uniq k (l ++ [x]) := by
  unfold Uniq at *
  rw [List.map_append, List.nodup_append]
  refine ⟨h, by simp, ?_⟩
  intro a ha b hb hab
  simp at hb; subst hb; subst hab
  exact find_key_none.1 hn ha
theorem Uniq.modify {l : List α} (h : Uniq k l) {i : Nat} {g : α → α} (hg : ∀ x, k (g x) = k x) : Uniq k (l.modify i g) := by
  unfold Uniq at *
  have : (l.modify i g).map k = l.map k := by
    clear h
    induction l generalizing i with
    | nil => cases i <;> rfl
    | cons a l ih =>
      cases i with
      | zero => simp [hg]
      | succ i => simp [ih]
  rw [this]; exact h
theorem Uniq.erase {l : List α} (h : Uniq k l) (i : Nat) : Uniq k (l.eraseIdx i) := by
  unfold Uniq at *
  have : ((l.eraseIdx i).map k).Sublist (l.map k) := (List.eraseIdx_sublist l i).map k
  exact this.nodup h
/-- the one that was found is gone -/
theorem Uniq.find_erase {l : List α} (h : Uniq k l) {n : Int} {i : Nat} (hi : l.findIdx? (fun x => k x == n) = some i) : (l.eraseIdx i).find? (fun x => k x == n) = none := by
  induction l generalizing i with
  | nil => simp at hi
  | cons a l ih =>
    unfold Uniq at h
    rw [List.map_cons, List.nodup_cons] at h
    rw [List.findIdx?_cons] at hi
    by_cases hp : (k a == n) = true
    · simp only [hp, if_true, Option.some.injEq] at hi; subst hi
      have : k a = n := by simpa using hp
      rw [List.eraseIdx_zero, List.tail_cons, find_key_none, ← this]; exact h.1
    · simp only [hp, Bool.false_eq_true, if_false, Option.map_eq_some_iff] at hi
      obtain ⟨j, hj, rfl⟩ := hi
      simp only [List.eraseIdx_cons_succ, List.find?_cons, hp]
      exact ih h.2 hj
end uniq

/-! ### misses -/
theorem missOf_line {f : List Miss} {line : Int} {m : Miss} (h : missOf f line = some m) : m.line = line := by
  have := List.find?_some h; simpa using this
theorem missAt_isSome {f : List Miss} {line : Int} : (missAt f line).isSome = (missOf f line).isSome := (find_isSome_findIdx _).symm
theorem missOf_upd {f : List Miss} {line l : Int} {g : Miss → Miss} (hg : ∀ x, (g x).line = x.line) : missOf (updMiss f line g) l = if l = line then (missOf f l).map g else missOf f l := by
  cases h : missAt f line with
  | none =>
    rw [show updMiss f line g = f by unfold updMiss; rw [h]]
    have : missOf f line = none := by have := missAt_isSome (f := f) (line := line); rw [h] at this; simpa using this.symm
    split
    · rename_i e; subst e; simp [this]
    · rfl
  | some i =>
    rw [show updMiss f line g = f.modify i g by unfold updMiss; rw [h]]
    split
    · rename_i e; subst e
      exact find_modify_findIdx (fun m : Miss => m.line == l) (g := g) (by intro x hx; rw [hg]; exact hx) h
    · rename_i e
      exact find_modify_other (fun m : Miss => m.line == line) (q := fun m : Miss => m.line == l) (g := g) (fun x hx => by
          have hx' : x.line = line := by simpa using hx
          rw [hg, hx']; simpa using fun h => e h.symm) h
theorem missOf_snoc {f : List Miss} {m : Miss} {l : Int} : missOf (f ++ [m]) l = (missOf f l).or (if m.line = l then some m else none) := by
  simp only [missOf, List.find?_append, List.find?_singleton, beq_iff_eq]
theorem updMiss_length {f : List Miss} {line : Int} {g : Miss → Miss} : (updMiss f line g).length = f.length := by
  unfold updMiss; split <;> simp
theorem updMiss_uniq {f : List Miss} (h : Uniq Miss.line f) {line : Int} {g : Miss → Miss} (hg : ∀ x, (g x).line = x.line) : Uniq Miss.line (updMiss f line g) := by
  unfold updMiss; split
  · exact h
  · exact h.modify hg

/-! ### the buffer -/
theorem wbAt_isSome {b : List WB} {line : Int} : (wbAt b line).isSome = (wbOf b line).isSome := (find_isSome_findIdx _).symm
theorem wbOf_line {b : List WB} {line : Int} {e : WB} (h : wbOf b line = some e) : e.line = line := by
  have := List.find?_some h; simpa using this
theorem wbOf_kill {b : List WB} {line l : Int} : wbOf (wbKill b line) l = if l = line then (wbOf b l).map (fun e => { e with live := false }) else wbOf b l := by
  cases h : wbAt b line with
  | none =>
    rw [show wbKill b line = b by unfold wbKill; rw [h]]
    have : wbOf b line = none := by have := wbAt_isSome (b := b) (line := line); rw [h] at this; simpa using this.symm
    split
    · rename_i e; subst e; simp [this]
    · rfl
  | some i =>
    rw [show wbKill b line = b.modify i (fun e => { e with live := false }) by unfold wbKill; rw [h]]
    split
    · rename_i e; subst e
      exact find_modify_findIdx (fun m : WB => m.line == l) (by intro x hx; exact hx) h
    · rename_i e
      exact find_modify_other (fun m : WB => m.line == line) (q := fun m : WB => m.line == l) (g := fun e => { e with live := false }) (fun x hx => by
          have hx' : x.line = line := by simpa using hx
          simpa [hx'] using fun h => e h.symm) h
theorem wbKill_length {b : List WB} {line : Int} : (wbKill b line).length = b.length := by
  unfold wbKill; split <;> simp
theorem wbKill_uniq {b : List WB} (h : Uniq WB.line b) {line : Int} : Uniq WB.line (wbKill b line) := by
  unfold wbKill; split
  · exact h
  · exact h.modify (fun _ => rfl)
theorem wbOf_snoc {b : List WB} {e : WB} {l : Int} : wbOf (b ++ [e]) l = (wbOf b l).or (if e.line = l then some e else none) := by
  simp only [wbOf, List.find?_append, List.find?_singleton, beq_iff_eq]

end Mes
