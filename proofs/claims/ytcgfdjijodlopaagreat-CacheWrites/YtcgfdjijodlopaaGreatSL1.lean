/- A part of proofs about the given program. No condition. -/
import Derived.WalkKit
import Derived.WalkSpells
import Derived.Orders
set_option linter.all false
/- Memory in parts, registers as far as they are known: one state of a walk, without a world. -/
namespace Go.SL
open Go.RowKit

/-- A part of memory. -/
abbrev Frag := Nat → Option Obj
def Disj (r s : Frag) : Prop := ∀ b, r b = none ∨ s b = none
theorem Disj.symm {r s : Frag} (h : Disj r s) : Disj s r := fun b => (h b).symm

structure Sat (w : World) (L : List Frag) : Prop where
  sub : ∀ r ∈ L, ∀ b o, r b = some o → w.heap[b]? = some o
  dis : L.Pairwise Disj

structure Keep (w w' : World) : Prop where
  os : w'.os = w.os
  tape : w'.tape = w.tape
  output : w'.output = w.output
  size : w.heap.size ≤ w'.heap.size

theorem Keep.refl (w : World) : Keep w w := ⟨rfl, rfl, rfl, Nat.le_refl _⟩
theorem Keep.trans {a b c : World} (h : Keep a b) (k : Keep b c) : Keep a c := ⟨k.os.trans h.os, k.tape.trans h.tape, k.output.trans h.output, Nat.le_trans h.size k.size⟩
theorem Keep.alloc (w : World) (o : Obj) : Keep w (w.alloc o) := ⟨rfl, rfl, rfl, by simp⟩
theorem Keep.setCell (w : World) (a : Addr) (v : Value) : Keep w (w.setCell a v) := ⟨rfl, rfl, rfl, by simp⟩
theorem Keep.drawn (w : World) (n : Nat) : Keep w { w with drawn := n } := ⟨rfl, rfl, rfl, Nat.le_refl _⟩

def blk (b : Nat) (T : TypeId) (cs : Array Value) : Frag := fun x => if x = b then some (.cells cs T (0, 0)) else none
def obj (b : Nat) (o : Obj) : Frag := fun x => if x = b then some o else none
theorem blk_same (b : Nat) (T : TypeId) (cs : Array Value) : blk b T cs b = some (.cells cs T (0, 0)) := by simp [blk]
theorem obj_same (b : Nat) (o : Obj) : obj b o b = some o := by simp [obj]

theorem Sat.perm {w : World} {L L' : List Frag} (h : Sat w L) (hp : L.Perm L') : Sat w L' :=
  ⟨fun r hr => h.sub r (hp.mem_iff.2 hr), (hp.pairwise_iff (fun {_ _} hd => Disj.symm hd)).1 h.dis⟩
theorem Sat.of_sublist {w : World} {L L' : List Frag} (h : Sat w L) (hs : L'.Sublist L) : Sat w L' :=
  ⟨fun r hr => h.sub r (hs.subset hr), List.Pairwise.sublist hs h.dis⟩
theorem Sat.nil (w : World) : Sat w [] := ⟨fun _ h => (by cases h), List.Pairwise.nil⟩
theorem Sat.lt {w : World} {L : List Frag} (h : Sat w L) {r : Frag} (hr : r ∈ L) {b : Nat} {o : Obj} (hb : r b = some o) : b < w.heap.size := by
  have := h.sub r hr b o hb
  rcases Nat.lt_or_ge b w.heap.size with hlt | hge
  · exact hlt
  · rw [Array.getElem?_eq_none hge] at this; cases this
theorem Sat.left {w : World} {L F : List Frag} (h : Sat w (L ++ F)) : Sat w L := h.of_sublist (List.sublist_append_left L F)
theorem Sat.drawn {w : World} {L : List Frag} (h : Sat w L) (n : Nat) : Sat { w with drawn := n } L := ⟨h.sub, h.dis⟩

theorem Sat.alloc {w : World} {L : List Frag} (h : Sat w L) (o : Obj) : Sat (w.alloc o) (obj w.heap.size o :: L) := by
  refine ⟨fun r hr b x hb => ?_, List.pairwise_cons.2 ⟨fun r hr b => ?_, h.dis⟩⟩
  · rcases List.mem_cons.1 hr with rfl | hr
    · unfold obj at hb
      split at hb
      · rename_i e; subst e; injection hb with hb; subst hb; exact heap_alloc_new w _
      · cases hb
    · have hl := h.lt hr hb
      rw [Below.heap_alloc w o b hl]; exact h.sub r hr b x hb
  · by_cases hbw : b = w.heap.size
    · right
      cases hrb : r b with
      | none => rfl
      | some x => have := h.lt hr hrb; omega
    · left; simp [obj, hbw]
theorem Sat.allocCells {w : World} {L : List Frag} (h : Sat w L) (cs : Array Value) (T : TypeId) : Sat (w.alloc (.cells cs T)) (blk w.heap.size T cs :: L) := h.alloc _

theorem Sat.set {w : World} {L : List Frag} {b : Nat} {T : TypeId} {cs : Array Value} (h : Sat w (blk b T cs :: L)) (i : Nat) (v : Value) :
    Sat (w.setCell ⟨b, i, none⟩ v) (blk b T (cs.setIfInBounds i v) :: L) := by
  have hb : w.heap[b]? = some (.cells cs T (0, 0)) := h.sub _ (List.mem_cons_self ..) b _ (blk_same b T cs)
  refine ⟨fun r hr x o ho => ?_, ?_⟩
  · rcases List.mem_cons.1 hr with rfl | hr'
    · unfold blk at ho
      split at ho
      · rename_i e; subst e; injection ho with ho; subst ho
        exact heap_setCell_same w x i cs T v hb
      · cases ho
    · have hx : x ≠ b := by
        rintro rfl
        have := (List.pairwise_cons.1 h.dis).1 r hr' x
        rw [blk_same, ho] at this
        rcases this with e | e <;> cases e
      rw [heap_setCell_other w _ x v hx]
      exact h.sub r (List.mem_cons_of_mem _ hr') x o ho
  · refine List.pairwise_cons.2 ⟨fun r hr x => ?_, (List.pairwise_cons.1 h.dis).2⟩
    have := (List.pairwise_cons.1 h.dis).1 r hr x
    by_cases hx : x = b
    · subst hx; right; rw [blk_same] at this; rcases this with e | e
      · cases e
      · exact e
    · left; simp [blk, hx]

/-- a block of whatever kind is another one -/
theorem Sat.setObj {w w' : World} {L : List Frag} {b : Nat} {o o' : Obj} (h : Sat w (obj b o :: L)) (hw : w'.heap[b]? = some o') (hk : ∀ x, x ≠ b → w'.heap[x]? = w.heap[x]?) : Sat w' (obj b o' :: L) := by
  refine ⟨fun r hr x q hq => ?_, ?_⟩
  · rcases List.mem_cons.1 hr with rfl | hr'
    · unfold obj at hq
      split at hq
      · rename_i e; subst e; injection hq with hq; subst hq; exact hw
      · cases hq
    · have hx : x ≠ b := by
        rintro rfl
        have := (List.pairwise_cons.1 h.dis).1 r hr' x
        rw [obj_same, hq] at this
        rcases this with e | e <;> cases e
      rw [hk x hx]
      exact h.sub r (List.mem_cons_of_mem _ hr') x q hq
  · refine List.pairwise_cons.2 ⟨fun r hr x => ?_, (List.pairwise_cons.1 h.dis).2⟩
    have := (List.pairwise_cons.1 h.dis).1 r hr x
    by_cases hx : x = b
    · subst hx; right; rw [obj_same] at this; rcases this with e | e
      · cases e
      · exact e
    · left; simp [obj, hx]

/-! ### parts that are made of parts -/
def un : List Frag → Frag
  | [] => fun _ => none
  | r :: l => fun b => (r b).or (un l b)
theorem un_mem {l : List Frag} {b : Nat} {o : Obj} (h : un l b = some o) : ∃ r ∈ l, r b = some o := by
  induction l with
  | nil => cases h
  | cons r l ih =>
    unfold un at h
    cases hr : r b with
    | none => rw [hr] at h; obtain ⟨x, hx, hxb⟩ := ih (by simpa using h); exact ⟨x, List.mem_cons_of_mem _ hx, hxb⟩
    | some q => rw [hr] at h; exact ⟨r, List.mem_cons_self .., by rw [hr]; simpa using h⟩
theorem un_none {l : List Frag} {b : Nat} : un l b = none ↔ ∀ r ∈ l, r b = none := by
  induction l with
  | nil => simp [un]
  | cons r l ih => simp [un, ih, Option.or_eq_none_iff]
theorem un_of {l : List Frag} (hd : l.Pairwise Disj) {r : Frag} (hr : r ∈ l) {b : Nat} {o : Obj} (h : r b = some o) : un l b = some o := by
  induction l with
  | nil => cases hr
  | cons x l ih =>
    unfold un
    rcases List.mem_cons.1 hr with rfl | hr
    · rw [h]; rfl
    · have := (List.pairwise_cons.1 hd).1 r hr b
      rw [h] at this
      have hx : x b = none := by rcases this with e | e; exact e; cases e
      rw [hx, ih (List.pairwise_cons.1 hd).2 hr]; rfl
theorem Sat.fold {w : World} {l F : List Frag} (h : Sat w (l ++ F)) : Sat w (un l :: F) := by
  refine ⟨fun r hr b o hb => ?_, List.pairwise_cons.2 ⟨fun r hr b => ?_, (List.pairwise_append.1 h.dis).2.1⟩⟩
  · rcases List.mem_cons.1 hr with rfl | hr
    · obtain ⟨x, hx, hxb⟩ := un_mem hb
      exact h.sub x (List.mem_append_left _ hx) b o hxb
    · exact h.sub r (List.mem_append_right _ hr) b o hb
  · cases hrb : r b with
    | none => exact .inr rfl
    | some o =>
      left
      rw [un_none]
      intro x hx
      have := (List.pairwise_append.1 h.dis).2.2 x hx r hr b
      rw [hrb] at this
      rcases this with e | e
      · exact e
      · cases e
theorem Sat.unfold {w : World} {l F : List Frag} (hd : l.Pairwise Disj) (h : Sat w (un l :: F)) : Sat w (l ++ F) := by
  refine ⟨fun r hr b o hb => ?_, List.pairwise_append.2 ⟨hd, (List.pairwise_cons.1 h.dis).2, fun x hx r hr b => ?_⟩⟩
  · rcases List.mem_append.1 hr with hr | hr
    · exact h.sub _ (List.mem_cons_self ..) b o (un_of hd hr hb)
    · exact h.sub r (List.mem_cons_of_mem _ hr) b o hb
  · have := (List.pairwise_cons.1 h.dis).1 r hr b
    rcases this with e | e
    · exact .inl (un_none.1 e x hx)
    · exact .inr e

/-! ### registers -/
abbrev Regs := List (Nat × Value)
def rget : Regs → Nat → Option Value
  | [], _ => none
  | (k, v) :: l, i => bif Nat.beq k i then some v else rget l i
def rev (ρ : Regs) : Operand → Option Value
  | .tmp t => rget ρ t
  | .const v => some v
  | .global g => some (.pointer (some ⟨g, 0, none⟩))
  | .func f => some (.func (.func f) #[] #[])
def dpush (d : Option Nat) (v : Value) (ρ : Regs) : Regs := match d with | some d => (d, v) :: ρ | none => ρ
def dok (n : Nat) (d : Option Nat) : Bool := match d with | some d => Nat.blt d n | none => true

structure Rep (n : Nat) (a : Act) (ρ : Regs) : Prop where
  size : a.tmps.size = n
  get : ∀ i v, rget ρ i = some v → a.tmps[i]? = some v
  defers : a.defers = []

theorem rget_cons (k : Nat) (v : Value) (l : Regs) (i : Nat) : rget ((k, v) :: l) i = if k = i then some v else rget l i := by
  show (bif Nat.beq k i then some v else rget l i) = _
  by_cases h : k = i
  · subst h; simp
  · have : Nat.beq k i = false := Bool.eq_false_iff.2 (fun e => h (Nat.eq_of_beq_eq_true e))
    simp [this, h]

theorem Rep.eval {n : Nat} {a : Act} {ρ : Regs} (h : Rep n a ρ) {x : Operand} {v : Value} (hx : rev ρ x = some v) : a.eval x = v := by
  cases x with
  | tmp t => have := h.get t v hx; simp [Act.eval, this]
  | const c => injection hx with hx
  | global g => injection hx with hx
  | func f => injection hx with hx
theorem Rep.put {n : Nat} {a : Act} {ρ : Regs} (h : Rep n a ρ) {d : Option Nat} (hd : dok n d = true) (v : Value) : Rep n (a.put d v) (dpush d v ρ) := by
  cases d with
  | none => exact h
  | some d =>
    have hdn : d < a.tmps.size := by rw [h.size]; simp [dok, Nat.blt] at hd; omega
    refine ⟨by simp [Act.put, h.size], fun i u hi => ?_, h.defers⟩
    simp only [dpush, rget_cons] at hi
    simp only [Act.put, Array.getElem?_setIfInBounds]
    split at hi
    · rename_i e; subst e; simp [hdn]; simpa using hi
    · rename_i e; rw [if_neg e]; exact h.get i u hi
theorem Rep.weak {n : Nat} {a : Act} {ρ ρ' : Regs} (h : Rep n a ρ) (hw : ∀ i v, rget ρ' i = some v → rget ρ i = some v) : Rep n a ρ' := ⟨h.size, fun i v hi => h.get i v (hw i v hi), h.defers⟩

/-! ### judgements -/
variable (P : Program) (n : Nat)

abbrev Post := Exit → Regs → List Frag → Prop
def lift (w0 : World) (Q : Post) : Exit → Act → World → Prop := fun e a w => ∃ ρ L, Rep n a ρ ∧ Sat w L ∧ Keep w0 w ∧ Q e ρ L
def TL (ops : Array Oper) (Q : Post) (l : List Oper) (ρ : Regs) (L : List Frag) : Prop := ∀ a w, Rep n a ρ → Sat w L → wpList P ops (lift n w Q) l a w
def TC (Q : Post) (c : Code) (ρ : Regs) (L : List Frag) : Prop := ∀ a w, Rep n a ρ → Sat w L → c.wp P (lift n w Q) a w
/-- A function's contract. -/
def Fn (f : Nat) (args : List Value) (pre : List Frag) (post : Value → List Frag → Prop) : Prop :=
  ∀ w F, Sat w (pre ++ F) → Calls P f args.toArray w fun e w' => ∃ v L', e = .returned v ∧ post v L' ∧ Sat w' (L' ++ F) ∧ Keep w w'
end Go.SL
