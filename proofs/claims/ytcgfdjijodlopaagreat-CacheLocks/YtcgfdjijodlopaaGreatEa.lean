/- A part of proofs about the given program. No condition. -/
import Derived.WalkKit
import Derived.WalkSpells
import Derived.Orders
import Derived.Scope
import Derived.ScopeJumps
import Derived.Deep.LoopGhost
import Derived.Deep.AppendSrc
import Derived.Laws.MakeOwn
import Derived.Calls
set_option linter.all false
section
/- Memory in parts, registers as far as they are known: one state of a walk, without a world. -/
namespace Go.SL
open Go.RowKit

/-- A part of memory. -/
abbrev Frag := Nat → Option Obj
def Disj (r s : Frag) : Prop := ∀ b, r b = none ∨ s b = none
theorem Disj.symm {r s : Frag} (h : Disj r s) : Disj s r := fun b => (h b).symm

structure Sat (w : World) (L : List Frag) : Prop where
  sub : ∀ r ∈ L, ∀ b o, r b = some o → w.heap[b]? = some o
  dis : L.Pairwise Disj

structure Keep (w w' : World) : Prop where
  os : w'.os = w.os
  tape : w'.tape = w.tape
  output : w'.output = w.output
  size : w.heap.size ≤ w'.heap.size

theorem Keep.refl (w : World) : Keep w w := ⟨rfl, rfl, rfl, Nat.le_refl _⟩
theorem Keep.trans {a b c : World} (h : Keep a b) (k : Keep b c) : Keep a c := ⟨k.os.trans h.os, k.tape.trans h.tape, k.output.trans h.output, Nat.le_trans h.size k.size⟩
theorem Keep.alloc (w : World) (o : Obj) : Keep w (w.alloc o) := ⟨rfl, rfl, rfl, by simp⟩
theorem Keep.setCell (w : World) (a : Addr) (v : Value) : Keep w (w.setCell a v) := ⟨rfl, rfl, rfl, by simp⟩
theorem Keep.drawn (w : World) (n : Nat) : Keep w { w with drawn := n } := ⟨rfl, rfl, rfl, Nat.le_refl _⟩

def blk (b : Nat) (T : TypeId) (cs : Array Value) : Frag := fun x => if x = b then some (.cells cs T (0, 0)) else none
def obj (b : Nat) (o : Obj) : Frag := fun x => if x = b then some o else none
theorem blk_same (b : Nat) (T : TypeId) (cs : Array Value) : blk b T cs b = some (.cells cs T (0, 0)) := by simp [blk]
theorem obj_same (b : Nat) (o : Obj) : obj b o b = some o := by simp [obj]

theorem Sat.perm {w : World} {L L' : List Frag} (h : Sat w L) (hp : L.Perm L') : Sat w L' :=
  ⟨fun r hr => h.sub r (hp.mem_iff.2 hr), (hp.pairwise_iff (fun {_ _} hd => Disj.symm hd)).1 h.dis⟩
theorem Sat.of_sublist {w : World} {L L' : List Frag} (h : Sat w L) (hs : L'.Sublist L) : Sat w L' :=
  ⟨fun r hr => h.sub r (hs.subset hr), List.Pairwise.sublist hs h.dis⟩
theorem Sat.nil (w : World) : Sat w [] := ⟨fun _ h => (by cases h), List.Pairwise.nil⟩
theorem Sat.lt {w : World} {L : List Frag} (h : Sat w L) {r : Frag} (hr : r ∈ L) {b : Nat} {o : Obj} (hb : r b = some o) : b < w.heap.size := by
  have := h.sub r hr b o hb
  rcases Nat.lt_or_ge b w.heap.size with hlt | hge
  · exact hlt
  · rw [Array.getElem?_eq_none hge] at this; cases this
theorem Sat.left {w : World} {L F : List Frag} (h : Sat w (L ++ F)) : Sat w L := h.of_sublist (List.sublist_append_left L F)
theorem Sat.drawn {w : World} {L : List Frag} (h : Sat w L) (n : Nat) : Sat { w with drawn := n } L := ⟨h.sub, h.dis⟩

theorem Sat.alloc {w : World} {L : List Frag} (h : Sat w L) (o : Obj) : Sat (w.alloc o) (obj w.heap.size o :: L) := by
  refine ⟨fun r hr b x hb => ?_, List.pairwise_cons.2 ⟨fun r hr b => ?_, h.dis⟩⟩
  · rcases List.mem_cons.1 hr with rfl | hr
    · unfold obj at hb
      split at hb
      · rename_i e; subst e; injection hb with hb; subst hb; exact heap_alloc_new w _
      · cases hb
    · have hl := h.lt hr hb
      rw [Below.heap_alloc w o b hl]; exact h.sub r hr b x hb
  · by_cases hbw : b = w.heap.size
    · right
      cases hrb : r b with
      | none => rfl
      | some x => have := h.lt hr hrb; omega
    · left; simp [obj, hbw]
theorem Sat.allocCells {w : World} {L : List Frag} (h : Sat w L) (cs : Array Value) (T : TypeId) : Sat (w.alloc (.cells cs T)) (blk w.heap.size T cs :: L) := h.alloc _

theorem Sat.set {w : World} {L : List Frag} {b : Nat} {T : TypeId} {cs : Array Value} (h : Sat w (blk b T cs :: L)) (i : Nat) (v : Value) :
    Sat (w.setCell ⟨b, i, none⟩ v) (blk b T (cs.setIfInBounds i v) :: L) := by
  have hb : w.heap[b]? = some (.cells cs T (0, 0)) := h.sub _ (List.mem_cons_self ..) b _ (blk_same b T cs)
  refine ⟨fun r hr x o ho => ?_, ?_⟩
  · rcases List.mem_cons.1 hr with rfl | hr'
    · unfold blk at ho
      split at ho
      · rename_i e; subst e; injection ho with ho; subst ho
        exact heap_setCell_same w x i cs T v hb
      · cases ho
    · have hx : x ≠ b := by
        rintro rfl
        have := (List.pairwise_cons.1 h.dis).1 r hr' x
        rw [blk_same, ho] at this
        rcases this with e | e <;> cases e
      rw [heap_setCell_other w _ x v hx]
      exact h.sub r (List.mem_cons_of_mem _ hr') x o ho
  · refine List.pairwise_cons.2 ⟨fun r hr x => ?_, (List.pairwise_cons.1 h.dis).2⟩
    have := (List.pairwise_cons.1 h.dis).1 r hr x
    by_cases hx : x = b
    · subst hx; right; rw [blk_same] at this; rcases this with e | e
      · cases e
      · exact e
    · left; simp [blk, hx]

/-- a block of whatever kind is another one -/
theorem Sat.setObj {w w' : World} {L : List Frag} {b : Nat} {o o' : Obj} (h : Sat w (obj b o :: L)) (hw : w'.heap[b]? = some o') (hk : ∀ x, x ≠ b → w'.heap[x]? = w.heap[x]?) : Sat w' (obj b o' :: L) := by
  refine ⟨fun r hr x q hq => ?_, ?_⟩
  · rcases List.mem_cons.1 hr with rfl | hr'
    · unfold obj at hq
      split at hq
      · rename_i e; subst e; injection hq with hq; subst hq; exact hw
      · cases hq
    · have hx : x ≠ b := by
        rintro rfl
        have := (List.pairwise_cons.1 h.dis).1 r hr' x
        rw [obj_same, hq] at this
        rcases this with e | e <;> cases e
      rw [hk x hx]
      exact h.sub r (List.mem_cons_of_mem _ hr') x q hq
  · refine List.pairwise_cons.2 ⟨fun r hr x => ?_, (List.pairwise_cons.1 h.dis).2⟩
    have := (List.pairwise_cons.1 h.dis).1 r hr x
    by_cases hx : x = b
    · subst hx; right; rw [obj_same] at this; rcases this with e | e
      · cases e
      · exact e
    · left; simp [obj, hx]

/-! ### parts that are made of parts -/
def un : List Frag → Frag
  | [] => fun _ => none
  | r :: l => fun b => (r b).or (un l b)
theorem un_mem {l : List Frag} {b : Nat} {o : Obj} (h : un l b = some o) : ∃ r ∈ l, r b = some o := by
  induction l with
  | nil => cases h
  | cons r l ih =>
    unfold un at h
    cases hr : r b with
    | none => rw [hr] at h; obtain ⟨x, hx, hxb⟩ := ih (by simpa using h); exact ⟨x, List.mem_cons_of_mem _ hx, hxb⟩
    | some q => rw [hr] at h; exact ⟨r, List.mem_cons_self .., by rw [hr]; simpa using h⟩
theorem un_none {l : List Frag} {b : Nat} : un l b = none ↔ ∀ r ∈ l, r b = none := by
  induction l with
  | nil => simp [un]
  | cons r l ih => simp [un, ih, Option.or_eq_none_iff]
theorem un_of {l : List Frag} (hd : l.Pairwise Disj) {r : Frag} (hr : r ∈ l) {b : Nat} {o : Obj} (h : r b = some o) : un l b = some o := by
  induction l with
  | nil => cases hr
  | cons x l ih =>
    unfold un
    rcases List.mem_cons.1 hr with rfl | hr
    · rw [h]; rfl
    · have := (List.pairwise_cons.1 hd).1 r hr b
      rw [h] at this
      have hx : x b = none := by rcases this with e | e; exact e; cases e
      rw [hx, ih (List.pairwise_cons.1 hd).2 hr]; rfl
theorem Sat.fold {w : World} {l F : List Frag} (h : Sat w (l ++ F)) : Sat w (un l :: F) := by
  refine ⟨fun r hr b o hb => ?_, List.pairwise_cons.2 ⟨fun r hr b => ?_, (List.pairwise_append.1 h.dis).2.1⟩⟩
  · rcases List.mem_cons.1 hr with rfl | hr
    · obtain ⟨x, hx, hxb⟩ := un_mem hb
      exact h.sub x (List.mem_append_left _ hx) b o hxb
    · exact h.sub r (List.mem_append_right _ hr) b o hb
  · cases hrb : r b with
    | none => exact .inr rfl
    | some o =>
      left
      rw [un_none]
      intro x hx
      have := (List.pairwise_append.1 h.dis).2.2 x hx r hr b
      rw [hrb] at this
      rcases this with e | e
      · exact e
      · cases e
theorem Sat.unfold {w : World} {l F : List Frag} (hd : l.Pairwise Disj) (h : Sat w (un l :: F)) : Sat w (l ++ F) := by
  refine ⟨fun r hr b o hb => ?_, List.pairwise_append.2 ⟨hd, (List.pairwise_cons.1 h.dis).2, fun x hx r hr b => ?_⟩⟩
  · rcases List.mem_append.1 hr with hr | hr
    · exact h.sub _ (List.mem_cons_self ..) b o (un_of hd hr hb)
    · exact h.sub r (List.mem_cons_of_mem _ hr) b o hb
  · have := (List.pairwise_cons.1 h.dis).1 r hr b
    rcases this with e | e
    · exact .inl (un_none.1 e x hx)
    · exact .inr e

/-! ### registers -/
abbrev Regs := List (Nat × Value)
def rget : Regs → Nat → Option Value
  | [], _ => none
  | (k, v) :: l, i => bif Nat.beq k i then some v else rget l i
def rev (ρ : Regs) : Operand → Option Value
  | .tmp t => rget ρ t
  | .const v => some v
  | .global g => some (.pointer (some ⟨g, 0, none⟩))
  | .func f => some (.func (.func f) #[] #[])
def dpush (d : Option Nat) (v : Value) (ρ : Regs) : Regs := match d with | some d => (d, v) :: ρ | none => ρ
def dok (n : Nat) (d : Option Nat) : Bool := match d with | some d => Nat.blt d n | none => true

structure Rep (n : Nat) (a : Act) (ρ : Regs) : Prop where
  size : a.tmps.size = n
  get : ∀ i v, rget ρ i = some v → a.tmps[i]? = some v
  defers : a.defers = []

theorem rget_cons (k : Nat) (v : Value) (l : Regs) (i : Nat) : rget ((k, v) :: l) i = if k = i then some v else rget l i := by
  show (bif Nat.beq k i then some v else rget l i) = _
  by_cases h : k = i
  · subst h; simp
  · have : Nat.beq k i = false := Bool.eq_false_iff.2 (fun e => h (Nat.eq_of_beq_eq_true e))
    simp [this, h]

theorem Rep.eval {n : Nat} {a : Act} {ρ : Regs} (h : Rep n a ρ) {x : Operand} {v : Value} (hx : rev ρ x = some v) : a.eval x = v := by
  cases x with
  | tmp t => have := h.get t v hx; simp [Act.eval, this]
  | const c => injection hx with hx
  | global g => injection hx with hx
  | func f => injection hx with hx
theorem Rep.put {n : Nat} {a : Act} {ρ : Regs} (h : Rep n a ρ) {d : Option Nat} (hd : dok n d = true) (v : Value) : Rep n (a.put d v) (dpush d v ρ) := by
  cases d with
  | none => exact h
  | some d =>
    have hdn : d < a.tmps.size := by rw [h.size]; simp [dok, Nat.blt] at hd; omega
    refine ⟨by simp [Act.put, h.size], fun i u hi => ?_, h.defers⟩
    simp only [dpush, rget_cons] at hi
    simp only [Act.put, Array.getElem?_setIfInBounds]
    split at hi
    · rename_i e; subst e; simp [hdn]; simpa using hi
    · rename_i e; rw [if_neg e]; exact h.get i u hi
theorem Rep.weak {n : Nat} {a : Act} {ρ ρ' : Regs} (h : Rep n a ρ) (hw : ∀ i v, rget ρ' i = some v → rget ρ i = some v) : Rep n a ρ' := ⟨h.size, fun i v hi => h.get i v (hw i v hi), h.defers⟩

/-! ### judgements -/
variable (P : Program) (n : Nat)

abbrev Post := Exit → Regs → List Frag → Prop
def lift (w0 : World) (Q : Post) : Exit → Act → World → Prop := fun e a w => ∃ ρ L, Rep n a ρ ∧ Sat w L ∧ Keep w0 w ∧ Q e ρ L
def TL (ops : Array Oper) (Q : Post) (l : List Oper) (ρ : Regs) (L : List Frag) : Prop := ∀ a w, Rep n a ρ → Sat w L → wpList P ops (lift n w Q) l a w
def TC (Q : Post) (c : Code) (ρ : Regs) (L : List Frag) : Prop := ∀ a w, Rep n a ρ → Sat w L → c.wp P (lift n w Q) a w
/-- A function's contract. -/
def Fn (f : Nat) (args : List Value) (pre : List Frag) (post : Value → List Frag → Prop) : Prop :=
  ∀ w F, Sat w (pre ++ F) → Calls P f args.toArray w fun e w' => ∃ v L', e = .returned v ∧ post v L' ∧ Sat w' (L' ++ F) ∧ Keep w w'
end Go.SL
end
section
/- The rules. -/
namespace Go.SL
open Go.RowKit
variable {P : Program} {n : Nat}

theorem lift_keep {w0 w1 : World} (hk : Keep w0 w1) {Q : Post} {e : Exit} {a : Act} {w : World} (h : lift n w1 Q e a w) : lift n w0 Q e a w := by
  obtain ⟨ρ, L, h1, h2, h3, h4⟩ := h
  exact ⟨ρ, L, h1, h2, hk.trans h3, h4⟩
theorem lift_mono {w0 : World} {Q Q' : Post} (h : ∀ e ρ L, Q e ρ L → Q' e ρ L) {e : Exit} {a : Act} {w : World} (hl : lift n w0 Q e a w) : lift n w0 Q' e a w := by
  obtain ⟨ρ, L, h1, h2, h3, h4⟩ := hl
  exact ⟨ρ, L, h1, h2, h3, h _ _ _ h4⟩

theorem wpList_mono {ops : Array Oper} {Q Q' : Exit → Act → World → Prop} (h : ∀ e a w, Q e a w → Q' e a w) : ∀ (l : List Oper) (a : Act) (w : World), wpList P ops Q l a w → wpList P ops Q' l a w
  | [], a, w, hh => h _ _ _ hh
  | o :: l, a, w, hh => by
    unfold wpList at hh ⊢
    split
    · rename_i hw
      rw [if_pos hw] at hh
      rcases hh with hh | ⟨h1, a', w', h2⟩
      · left
        unfold Oper.wp at hh ⊢
        generalize (execOp a.eval o).run P w = r at *
        cases r with
        | ok nx w' =>
          cases nx <;> simp only [Oper.upon] at hh ⊢
          case value v => exact wpList_mono h l _ _ hh
          case skip => exact wpList_mono h l _ _ hh
          case defer d => exact wpList_mono h l _ _ hh
          case enter f args =>
            refine hh.mono fun e w'' he => ?_
            cases e with
            | returned v => exact wpList_mono h l _ _ he
            | panicked c => exact h _ _ _ he
            | outgrown => obtain ⟨a', w', hq⟩ := he; exact ⟨a', w', h _ _ _ hq⟩
          case row row args => exact hh.mono fun v w'' hv => wpList_mono h l _ _ hv
        | halt x w' =>
          cases x <;> simp only [Oper.upon] at hh ⊢
          exact h _ _ _ hh
      · exact .inr ⟨h1, a', w', h _ _ _ h2⟩
    · rename_i hw
      rw [if_neg hw] at hh
      exact wpList_mono h l _ _ hh

/-! ### an operation's outcome -/
def Wants (n : Nat) (ops : Array Oper) (ρ : Regs) (o : Oper) (b : Bool) : Prop := ∀ a, Rep n a ρ → Region.wanted o (yielded ops a.tmps) = b
theorem Wants.un {ops : Array Oper} {ρ : Regs} {o : Oper} (h : o.guard = none) : Wants n ops ρ o true := fun a _ => by simp [Region.wanted, h]
theorem Wants.of {ops : Array Oper} {ρ : Regs} {o : Oper} {j : Nat} {want b : Bool} {t : Nat} (hg : o.guard = some (j, want)) (hj : (ops[j]?).bind (·.dst) = some t) (hv : rget ρ t = some (.bool b)) :
    Wants n ops ρ o (b == want) := fun a ha => by
  have h1 := ha.get t _ hv
  have hy : yielded ops a.tmps j = some b := by unfold yielded; rw [hj]; simp [h1]
  simp only [Region.wanted, hg, hy]
  cases b <;> cases want <;> rfl
theorem Wants.yes {ops : Array Oper} {ρ : Regs} {o : Oper} {j : Nat} {want b : Bool} {t : Nat} (hg : o.guard = some (j, want)) (hj : (ops[j]?).bind (·.dst) = some t) (hv : rget ρ t = some (.bool b)) (hb : b = want) :
    Wants n ops ρ o true := by have := Wants.of (n := n) hg hj hv; rw [hb] at this; simpa using this
theorem Wants.no {ops : Array Oper} {ρ : Regs} {o : Oper} {j : Nat} {want b : Bool} {t : Nat} (hg : o.guard = some (j, want)) (hj : (ops[j]?).bind (·.dst) = some t) (hv : rget ρ t = some (.bool b)) (hb : b = !want) :
    Wants n ops ρ o false := by have := Wants.of (n := n) hg hj hv; rw [hb] at this; cases want <;> simpa using this

/-- it only reads: the value -/
def LD (P : Program) (ρ : Regs) (L : List Frag) (o : Oper) (v : Value) : Prop := ∀ n a w, Rep n a ρ → Sat w L → (execOp a.eval o).run P w = .ok (.value v) w
/-- it lays a new block -/
def NB (P : Program) (ρ : Regs) (L : List Frag) (o : Oper) (T : TypeId) (z : Array Value) (v : Nat → Value) : Prop :=
  ∀ n a w, Rep n a ρ → Sat w L → (execOp a.eval o).run P w = .ok (.value (v w.heap.size)) (w.alloc (.cells z T))
/-- it changes memory -/
def EF (P : Program) (ρ : Regs) (L : List Frag) (o : Oper) (v : Value) (L' : List Frag) : Prop :=
  ∀ n a w, Rep n a ρ → Sat w L → ∃ w', ((execOp a.eval o).run P w = .ok (.value v) w' ∨ ((execOp a.eval o).run P w = .ok .skip w' ∧ v = undef)) ∧ Sat w' L' ∧ Keep w w'
/-- it changes memory, in ways that are left open -/
def EX (P : Program) (ρ : Regs) (L : List Frag) (o : Oper) (R : Value → List Frag → Prop) : Prop :=
  ∀ n a w, Rep n a ρ → Sat w L → ∃ v L' w', (execOp a.eval o).run P w = .ok (.value v) w' ∧ R v L' ∧ Sat w' L' ∧ Keep w w'
/-- it calls a function -/
def CL (P : Program) (ρ : Regs) (o : Oper) (f : Nat) (args : List Value) : Prop := ∀ n a w, Rep n a ρ → (execOp a.eval o).run P w = .ok (.enter f args.toArray) w

section
variable {ops : Array Oper} {Q : Post} {l : List Oper} {o : Oper} {ρ : Regs} {L : List Frag}

theorem TL.nil (h : Q .normal ρ L) : TL P n ops Q [] ρ L := fun _ w hr hs => ⟨ρ, L, hr, hs, Keep.refl w, h⟩

theorem TL.cons (hw : Wants n ops ρ o true) (h : ∀ a w, Rep n a ρ → Sat w L → o.wp P a w (wpList P ops (lift n w Q) l) (lift n w Q)) : TL P n ops Q (o :: l) ρ L := fun a w hr hs => by
  unfold wpList; rw [if_pos (hw a hr)]; exact .inl (h a w hr hs)

theorem TL.ld {v : Value} (h : LD P ρ L o v) (hw : Wants n ops ρ o true) (hd : dok n o.dst = true) (k : TL P n ops Q l (dpush o.dst v ρ) L) : TL P n ops Q (o :: l) ρ L :=
  TL.cons hw fun a w hr hs => by unfold Oper.wp; rw [h n a w hr hs]; exact k _ _ (hr.put hd v) hs
theorem TL.nb {T : TypeId} {z : Array Value} {v : Nat → Value} (h : NB P ρ L o T z v) (hw : Wants n ops ρ o true) (hd : dok n o.dst = true) (k : ∀ b, TL P n ops Q l (dpush o.dst (v b) ρ) (blk b T z :: L)) : TL P n ops Q (o :: l) ρ L :=
  TL.cons hw fun a w hr hs => by
    unfold Oper.wp; rw [h n a w hr hs]
    exact wpList_mono (fun _ _ _ => lift_keep (Keep.alloc w _)) _ _ _ (k _ _ _ (hr.put hd _) (hs.allocCells z T))
theorem TL.ef {v : Value} {L' : List Frag} (h : EF P ρ L o v L') (hw : Wants n ops ρ o true) (hd : dok n o.dst = true) (k : TL P n ops Q l (dpush o.dst v ρ) L') : TL P n ops Q (o :: l) ρ L :=
  TL.cons hw fun a w hr hs => by
    obtain ⟨w', h1, h2, h3⟩ := h n a w hr hs
    have hk := wpList_mono (fun _ _ _ => lift_keep h3) _ _ _ (k _ _ (hr.put hd v) h2)
    unfold Oper.wp
    rcases h1 with h1 | ⟨h1, rfl⟩ <;> rw [h1] <;> exact hk
theorem TL.ex {R : Value → List Frag → Prop} (h : EX P ρ L o R) (hw : Wants n ops ρ o true) (hd : dok n o.dst = true) (k : ∀ v L', R v L' → TL P n ops Q l (dpush o.dst v ρ) L') : TL P n ops Q (o :: l) ρ L :=
  TL.cons hw fun a w hr hs => by
    obtain ⟨v, L', w', h1, h2, h3, h4⟩ := h n a w hr hs
    unfold Oper.wp; rw [h1]
    exact wpList_mono (fun _ _ _ => lift_keep h4) _ _ _ (k v L' h2 _ _ (hr.put hd v) h3)
theorem TL.cl {f : Nat} {args : List Value} {pre F : List Frag} {post : Value → List Frag → Prop} (hc : CL P ρ o f args) (hf : Fn P f args pre post) (hL : L.Perm (pre ++ F)) (hw : Wants n ops ρ o true) (hd : dok n o.dst = true)
    (k : ∀ v L', post v L' → TL P n ops Q l (dpush o.dst v ρ) (L' ++ F)) : TL P n ops Q (o :: l) ρ L :=
  TL.cons hw fun a w hr hs => by
    unfold Oper.wp; rw [hc n a w hr]
    refine (hf w F (hs.perm hL)).mono fun e w' ⟨v, L', he, hp, hs', hk⟩ => ?_
    subst he
    exact wpList_mono (fun _ _ _ => lift_keep hk) _ _ _ (k v L' hp _ _ (hr.put hd v) hs')
theorem TL.skip (hw : Wants n ops ρ o false) (hd : dok n o.dst = true) (k : TL P n ops Q l (dpush o.dst undef ρ) L) : TL P n ops Q (o :: l) ρ L := fun a w hr hs => by
  unfold wpList; rw [if_neg (by rw [hw a hr]; simp)]; exact k _ _ (hr.put hd undef) hs
/-- the guard isn't known: both ways -/
theorem TL.split {j : Nat} {want b : Bool} {t : Nat} (hg : o.guard = some (j, want)) (hj : (ops[j]?).bind (·.dst) = some t) (hv : rget ρ t = some (.bool b)) (hd : dok n o.dst = true)
    (h1 : b = want → TL P n ops Q (o :: l) ρ L) (h2 : b = (!want) → TL P n ops Q l (dpush o.dst undef ρ) L) : TL P n ops Q (o :: l) ρ L := by
  by_cases h : b = want
  · exact h1 h
  · have hb : b = !want := by cases b <;> cases want <;> simp_all
    exact TL.skip (Wants.no hg hj hv hb) hd (h2 hb)
theorem TL.perm {L' : List Frag} (hp : L.Perm L') (k : TL P n ops Q l ρ L') : TL P n ops Q l ρ L := fun a w hr hs => k a w hr (hs.perm hp)
theorem TL.sub {L' : List Frag} (hp : L'.Sublist L) (k : TL P n ops Q l ρ L') : TL P n ops Q l ρ L := fun a w hr hs => k a w hr (hs.of_sublist hp)
end

/-! ### control -/
section
variable {Q : Post} {ρ : Regs} {L : List Frag}
theorem Code_mono {c : Code} {Q Q' : Exit → Act → World → Prop} {a : Act} {w : World} (hq : ∀ e a w, Q e a w → Q' e a w) (h : c.wp P Q a w) : c.wp P Q' a w := Code.wp_mono hq h

def Post.seq (K : Regs → List Frag → Prop) (Q : Post) : Post := fun e ρ L => match e with | .normal => K ρ L | e => Q e ρ L
theorem TC.seq {x y : Code} (h : TC P n (Post.seq (TC P n Q y) Q) x ρ L) : TC P n Q (.seq x y) ρ L := fun a w hr hs =>
  wp_seq (Code_mono (fun e a' w' hl => by
    obtain ⟨ρ', L', h1, h2, h3, h4⟩ := hl
    cases e with
    | normal => exact Code_mono (fun _ _ _ => lift_keep h3) (h4 a' w' h1 h2)
    | _ => exact ⟨ρ', L', h1, h2, h3, h4⟩) (h a w hr hs))
theorem TC.region {id : Nat} {l : List Oper} (h : TL P n l.toArray Q l ρ L) : TC P n Q (.region id l.toArray false) ρ L := fun a w hr hs => wp_region_lit (h a w hr hs)
theorem TC.cond {c : Operand} {x y : Code} {b : Bool} (hc : rev ρ c = some (.bool b)) (h1 : b = true → TC P n Q x ρ L) (h2 : b = false → TC P n Q y ρ L) : TC P n Q (.cond c x y) ρ L := fun a w hr hs =>
  wp_cond_split (hr.eval hc) (fun hb => h1 hb a w hr hs) (fun hb => h2 hb a w hr hs)
theorem TC.condT {c : Operand} {x y : Code} {b : Bool} (hc : rev ρ c = some (.bool b)) (hb : b = true) (h1 : TC P n Q x ρ L) : TC P n Q (.cond c x y) ρ L := TC.cond hc (fun _ => h1) (fun h => by rw [hb] at h; cases h)
theorem TC.condF {c : Operand} {x y : Code} {b : Bool} (hc : rev ρ c = some (.bool b)) (hb : b = false) (h1 : TC P n Q y ρ L) : TC P n Q (.cond c x y) ρ L := TC.cond hc (fun h => by rw [hb] at h; cases h) (fun _ => h1)
theorem TC.skip (h : Q .normal ρ L) : TC P n Q .skip ρ L := fun _ w hr hs => wp_skip ⟨ρ, L, hr, hs, Keep.refl w, h⟩
theorem TC.ret (h : Q .ret ρ L) : TC P n Q .ret ρ L := fun _ w hr hs => wp_ret ⟨ρ, L, hr, hs, Keep.refl w, h⟩
theorem TC.exit {id : Nat} (h : Q (.exit id) ρ L) : TC P n Q (.exit id) ρ L := fun _ w hr hs => wp_exit ⟨ρ, L, hr, hs, Keep.refl w, h⟩
theorem TC.label {id : Nat} (h : Q .normal ρ L) : TC P n Q (.label id) ρ L := fun _ w hr hs => wp_label ⟨ρ, L, hr, hs, Keep.refl w, h⟩
theorem TC.goto {id : Nat} (h : Q (.goto id) ρ L) : TC P n Q (.goto id) ρ L := fun _ w hr hs => wp_goto ⟨ρ, L, hr, hs, Keep.refl w, h⟩
def Post.block (id : Nat) (Q : Post) : Post := fun e ρ L => match e with | .exit k => if k = id then Q .normal ρ L else Q (.exit k) ρ L | e => Q e ρ L
theorem TC.block {id : Nat} {c : Code} (h : TC P n (Post.block id Q) c ρ L) : TC P n Q (.block id c) ρ L := fun a w hr hs =>
  wp_block (Code_mono (fun e a' w' hl => by
    obtain ⟨ρ', L', h1, h2, h3, h4⟩ := hl
    cases e with
    | exit k =>
      simp only [Exit.inBlock]
      simp only [Post.block] at h4
      split
      · rename_i hk; rw [if_pos hk] at h4; exact ⟨ρ', L', h1, h2, h3, h4⟩
      · rename_i hk; rw [if_neg hk] at h4; exact ⟨ρ', L', h1, h2, h3, h4⟩
    | _ => exact ⟨ρ', L', h1, h2, h3, h4⟩) (h a w hr hs))
def Post.noGoto (Q : Post) : Post := fun e ρ L => match e with | .goto _ => False | e => Q e ρ L
theorem TC.scope {c : Code} (h : TC P n (Post.noGoto Q) c ρ L) : TC P n Q (.scope c) ρ L := fun a w hr hs =>
  wp_scope_straight (Code_mono (fun e a' w' hl => by
    obtain ⟨ρ', L', h1, h2, h3, h4⟩ := hl
    cases e with
    | goto l => exact h4
    | _ => exact ⟨ρ', L', h1, h2, h3, h4⟩) (h a w hr hs))
theorem TC.weak {c : Code} {ρ' : Regs} (hw : ∀ i v, rget ρ' i = some v → rget ρ i = some v) (h : TC P n Q c ρ' L) : TC P n Q c ρ L := fun a w hr hs => h a w (hr.weak hw) hs
theorem TC.perm {c : Code} {L' : List Frag} (hp : L.Perm L') (k : TC P n Q c ρ L') : TC P n Q c ρ L := fun a w hr hs => k a w hr (hs.perm hp)
theorem TC.sub {c : Code} {L' : List Frag} (hp : L'.Sublist L) (k : TC P n Q c ρ L') : TC P n Q c ρ L := fun a w hr hs => k a w hr (hs.of_sublist hp)
theorem TC.fold {c : Code} {l F : List Frag} (k : l.Pairwise Disj → TC P n Q c ρ (un l :: F)) : TC P n Q c ρ (l ++ F) := fun a w hr hs => k (List.pairwise_append.1 hs.dis).1 a w hr hs.fold
theorem TC.unfold {c : Code} {l F : List Frag} (hd : l.Pairwise Disj) (k : TC P n Q c ρ (l ++ F)) : TC P n Q c ρ (un l :: F) := fun a w hr hs => k a w hr (hs.unfold hd)
theorem TC.mono {c : Code} {Q' : Post} (h : ∀ e ρ L, Q e ρ L → Q' e ρ L) (k : TC P n Q c ρ L) : TC P n Q' c ρ L := fun a w hr hs => Code_mono (fun _ _ _ => lift_mono h) (k a w hr hs)
/-- parts that are told apart -/
theorem TC.dis {c : Code} (k : L.Pairwise Disj → TC P n Q c ρ L) : TC P n Q c ρ L := fun a w hr hs => k hs.dis a w hr hs

/-- a loop: what is known at its head, of some thing that gets less -/
theorem TC.loop {α : Type} {c : Code} (ρI : α → Regs) (LI : α → List Frag) (I : α → Prop) (μ : α → Nat) (x0 : α) (hI : I x0)
    (hρ : ∀ i v, rget (ρI x0) i = some v → rget ρ i = some v) (hL : L.Perm (LI x0))
    (round : ∀ x, I x → TC P n (Post.seq (fun ρ' L' => ∃ y, I y ∧ μ y < μ x ∧ (∀ i v, rget (ρI y) i = some v → rget ρ' i = some v) ∧ L'.Perm (LI y)) Q) c (ρI x) (LI x)) : TC P n Q (.loop c) ρ L := fun a w hr hs => by
  refine wp_loop_ghost (fun k a' w' => ∃ x, I x ∧ μ x = k ∧ Rep n a' (ρI x) ∧ Sat w' (LI x) ∧ Keep w w') (μ x0) ⟨x0, hI, rfl, hr.weak hρ, hs.perm hL, Keep.refl w⟩ ?_
  rintro k a' w' ⟨x, h1, rfl, h3, h4, h5⟩
  refine Code_mono (fun e a'' w'' hl => ?_) (round x h1 a' w' h3 h4)
  obtain ⟨ρ', L', g1, g2, g3, g4⟩ := hl
  cases e with
  | normal =>
    obtain ⟨y, y1, y2, y3, y4⟩ := g4
    exact ⟨μ y, y2, y, y1, rfl, g1.weak y3, g2.perm y4, h5.trans g3⟩
  | _ => exact ⟨ρ', L', g1, g2, h5.trans g3, g4⟩
end

/-! ### a whole function -/
structure Body (P : Program) (f : Nat) (fn : Func) (c : Code) : Prop where
  at_ : P.funcs[f]? = some fn
  body : fn.body = some c

/-- what a function hands back: registers, or cells -/
def resv (P : Program) (ρ : Regs) (L : List Frag) : ResultVar → Value → Prop
  | .tmp t, v => rget ρ t = some v
  | .cell p ty, v => ∃ a, rget ρ p = some (.pointer (some a)) ∧ ∀ w, Sat w L → (loadVar ty a).run P w = .ok v w
end Go.SL
end
section
/- What each operation does. -/
namespace Go.SL
open Go.RowKit
variable {P : Program}

/-! ### types -/
class FieldAt (P : Program) (s f : Nat) (off : outParam Nat) : Prop where
  run : ∀ (a : Addr) (w : World), (Instr.fieldAt s (.pointer (some a)) f).run P w = .ok (.pointer (some (a.add off))) w
theorem FieldAt.of {s f off k : Nat} {fs : Array Field} {fd : Field} (hu : P.underlying s = some (.struct fs)) (hf : fs[f]? = some fd) (ho : fd.offset = off) (hi : (P.info? fd.type).map (·.size) = some (k + 1)) : FieldAt P s f off := ⟨fun a w => by
  cases hq : P.info? fd.type with
  | none => simp [hq] at hi
  | some i =>
    have hk : i.size = k + 1 := by simpa [hq] using hi
    simp [Instr.fieldAt, run_underlying hu, hf, Instr.sureAddr, fieldPlace, sizeOf, typeInfo, hq, hk, ho]⟩
theorem FieldAt.of' {s f off k : Nat} {fs : Array Field} {fd : Field} (hu : P.underlying s = some (.struct fs)) (hf : fs[f]? = some fd) (ho : fd.offset = off) (hi : ∀ w, (sizeOf fd.type).run P w = .ok (k + 1) w) : FieldAt P s f off := ⟨fun a w => by
  simp [Instr.fieldAt, run_underlying hu, hf, Instr.sureAddr, fieldPlace, hi, ho]⟩
/-- one cell -/
class One (P : Program) (t : Nat) : Prop where
  agg : ∀ w, (isAgg t).run P w = .ok false w
  size : ∀ w, (sizeOf t).run P w = .ok 1 w
theorem One.of {t : Nat} {d : TypeDesc} (hu : P.underlying t = some d) (hd : (match d with | .struct _ | .array _ _ => true | _ => false) = false) (hi : (P.info? t).map (·.size) = some 1) : One P t := ⟨fun w => by
  unfold isAgg; rw [Sem.run_bind, run_underlying hu w]; cases d <;> simp_all, fun w => by
  cases hq : P.info? t with
  | none => simp [hq] at hi
  | some i => have : i.size = 1 := by simpa [hq] using hi
              simp [sizeOf, typeInfo, hq, this]⟩
/-- a struct, or an array, of so many cells -/
class Agg (P : Program) (t : Nat) (k : outParam Nat) : Prop where
  agg : ∀ w, (isAgg t).run P w = .ok true w
  size : ∀ w, (sizeOf t).run P w = .ok k w
theorem Agg.of {t k : Nat} {d : TypeDesc} (hu : P.underlying t = some d) (hd : (match d with | .struct _ | .array _ _ => true | _ => false) = true) (hi : (P.info? t).map (·.size) = some k) : Agg P t k := ⟨fun w => by
  unfold isAgg; rw [Sem.run_bind, run_underlying hu w]; cases d <;> simp_all, fun w => by
  cases hq : P.info? t with
  | none => simp [hq] at hi
  | some i => have : i.size = k := by simpa [hq] using hi
              simp [sizeOf, typeInfo, hq, this]⟩
class ZeroV (P : Program) (t : Nat) (z : outParam (Array Value)) : Prop where
  run : ∀ w, ∃ v, (zeroValue t).run P w = .ok v w ∧ v.cells = z
theorem ZeroV.of {t : Nat} {z : Array Value} (hi : (P.info? t).bind (fun i => i.zero.map Value.cells) = some z) : ZeroV P t z := ⟨fun w => by
  cases hq : P.info? t with
  | none => simp [hq] at hi
  | some i =>
    cases hz : i.zero with
    | none => simp [hq, hz] at hi
    | some v => exact ⟨v, by simp [zeroValue, typeInfo, hq, hz], by simpa [hq, hz] using hi⟩⟩
/-- a slice type, and how many cells its elements have -/
class SliceT (P : Program) (t : Nat) (e k : outParam Nat) : Prop where
  und : P.underlying t = some (.slice e)
  size : ∀ w, (sizeOf e).run P w = .ok k w
theorem SliceT.of {t e k : Nat} (hu : P.underlying t = some (.slice e)) (hi : (P.info? e).map (·.size) = some k) : SliceT P t e k := ⟨hu, fun w => by
  cases hq : P.info? e with
  | none => simp [hq] at hi
  | some i => have : i.size = k := by simpa [hq] using hi
              simp [sizeOf, typeInfo, hq, this]⟩
class ArrT (P : Program) (t : Nat) (len e k : outParam Nat) : Prop where
  und : P.underlying t = some (.array len e)
  size : ∀ w, (sizeOf e).run P w = .ok k w
theorem Addr.add_none (b o k : Nat) : (⟨b, o, none⟩ : Addr).add k = ⟨b, o + k, none⟩ := by
  unfold Addr.add; split
  · rename_i h; subst h; rfl
  · rfl

theorem wrap_in {i : Int} (h : -9223372036854775808 ≤ i ∧ i ≤ 9223372036854775807) : IntKind.wrap .i64 i = i := by simp [IntKind.wrap, IntKind.bits, IntKind.signed]; omega
/-! ### registers alone -/
section
variable {ρ : Regs} {L : List Frag} {d : Option Tmp} {t : TypeId} {p : String} {af : Array Edge} {g : Option (Nat × Bool)}

theorem LD.move {x : Operand} {v : Value} (h : rev ρ x = some v) : LD P ρ L ⟨d, .move x, t, p, af, g⟩ v := fun n a w hr _ => by simp [execOp, hr.eval h]
theorem LD.assign {x : Operand} {v : Value} (h : rev ρ x = some v) : LD P ρ L ⟨d, .assign x, t, p, af, g⟩ v := fun n a w hr _ => by simp [execOp, hr.eval h]
theorem LD.pickT {c x y : Operand} {b : Bool} {v : Value} (hc : rev ρ c = some (.bool b)) (hb : b = true) (h : rev ρ x = some v) : LD P ρ L ⟨d, .pick c x y, t, p, af, g⟩ v := fun n a w hr _ => by
  simp [execOp, hr.eval hc, hr.eval h, asBool, hb]
theorem LD.pickF {c x y : Operand} {b : Bool} {v : Value} (hc : rev ρ c = some (.bool b)) (hb : b = false) (h : rev ρ y = some v) : LD P ρ L ⟨d, .pick c x y, t, p, af, g⟩ v := fun n a w hr _ => by
  simp [execOp, hr.eval hc, hr.eval h, asBool, hb]
theorem LD.nilCheck {x : Operand} {q : Addr} (h : rev ρ x = some (.pointer (some q))) : LD P ρ L ⟨d, .nilCheck x, t, p, af, g⟩ (.pointer (some q)) := fun n a w hr _ => by simp [execOp, hr.eval h]
theorem LD.fieldAddr {s f off b o : Nat} [hf : FieldAt P s f off] {x : Operand} (h : rev ρ x = some (.pointer (some ⟨b, o, none⟩))) :
    LD P ρ L ⟨d, .fieldAddr s x f, t, p, af, g⟩ (.pointer (some ⟨b, o + off, none⟩)) := fun n a w hr _ => by
  simp only [execOp, hr.eval h, Sem.run_bind, hf.run, Addr.add_none]; rfl
theorem LD.not {ty : TypeId} {x : Operand} {b : Bool} (h : rev ρ x = some (.bool b)) : LD P ρ L ⟨d, .unOp .not ty x, t, p, af, g⟩ (.bool (!b)) := fun n a w hr _ => by simp [execOp, hr.eval h, Op.unary]
theorem LD.neg {ty : TypeId} {x : Operand} {i : Int} (h : rev ρ x = some (.int .i64 i)) (hi : -9223372036854775807 ≤ i ∧ i ≤ 9223372036854775807) : LD P ρ L ⟨d, .unOp .neg ty x, t, p, af, g⟩ (.int .i64 (-i)) := fun n a w hr _ => by
  have e : IntKind.wrap .i64 (-i) = -i := by simp [IntKind.wrap, IntKind.bits, IntKind.signed]; omega
  simp [execOp, hr.eval h, Op.unary, Op.intArith, e]
theorem LD.extract {x : Operand} {vs : Array Value} {i : Nat} {v : Value} (h : rev ρ x = some (.tuple vs)) (hv : vs[i]? = some v) : LD P ρ L ⟨d, .extract x i, t, p, af, g⟩ v := fun n a w hr _ => by
  simp [execOp, hr.eval h, Instr.extract, hv]
theorem LD.bin {op : BinOp} {x y : Operand} {tx ty : TypeId} {vx vy v : Value} (hx : rev ρ x = some vx) (hy : rev ρ y = some vy) (hg : ∀ (x y : Operand) (w : World), (eqGuard op tx x y vx vy).run P w = .ok () w)
    (h : ∀ w, (binOp op tx vx vy).run P w = .ok v w) : LD P ρ L ⟨d, .binOp op tx x y ty, t, p, af, g⟩ v := fun n a w hr _ => by
  simp [execOp, hr.eval hx, hr.eval hy, hg, h]
theorem eqGuard_int (op : BinOp) (tx : TypeId) (x y : Operand) (j k : IntKind) (a b : Int) (w : World) : (eqGuard op tx x y (.int j a) (.int k b)).run P w = .ok () w := by
  unfold eqGuard; cases op <;> simp
theorem eqGuard_ptr (op : BinOp) (tx : TypeId) (x y : Operand) (a b : Option Addr) (w : World) : (eqGuard op tx x y (.pointer a) (.pointer b)).run P w = .ok () w := by
  unfold eqGuard; cases op <;> simp
theorem eqGuard_bool (op : BinOp) (tx : TypeId) (x y : Operand) (a b : Bool) (w : World) : (eqGuard op tx x y (.bool a) (.bool b)).run P w = .ok () w := by
  unfold eqGuard; cases op <;> simp
section ints
variable {x y : Operand} {tx ty : TypeId} {k : IntKind} {a b : Int} (hx : rev ρ x = some (.int k a)) (hy : rev ρ y = some (.int k b))
include hx hy
theorem LD.lss : LD P ρ L ⟨d, .binOp .lss tx x y ty, t, p, af, g⟩ (.bool (decide (a < b))) := LD.bin hx hy (fun _ _ _ => eqGuard_int ..) fun w => by simp [binOp, Op.intCmp]
theorem LD.leq : LD P ρ L ⟨d, .binOp .leq tx x y ty, t, p, af, g⟩ (.bool (decide (a ≤ b))) := LD.bin hx hy (fun _ _ _ => eqGuard_int ..) fun w => by simp [binOp, Op.intCmp]
theorem LD.gtr : LD P ρ L ⟨d, .binOp .gtr tx x y ty, t, p, af, g⟩ (.bool (decide (b < a))) := LD.bin hx hy (fun _ _ _ => eqGuard_int ..) fun w => by simp [binOp, Op.intCmp]
theorem LD.geq : LD P ρ L ⟨d, .binOp .geq tx x y ty, t, p, af, g⟩ (.bool (decide (b ≤ a))) := LD.bin hx hy (fun _ _ _ => eqGuard_int ..) fun w => by simp [binOp, Op.intCmp]
theorem LD.eql : LD P ρ L ⟨d, .binOp .eql tx x y ty, t, p, af, g⟩ (.bool (decide (a = b))) := LD.bin hx hy (fun _ _ _ => eqGuard_int ..) fun w => by
  have : (a == b) = decide (a = b) := rfl
  simp only [binOp, Op.intCmp]; simp [this]
theorem LD.neq : LD P ρ L ⟨d, .binOp .neq tx x y ty, t, p, af, g⟩ (.bool (!decide (a = b))) := LD.bin hx hy (fun _ _ _ => eqGuard_int ..) fun w => by
  have : (a != b) = !decide (a = b) := rfl
  simp only [binOp, Op.intCmp]; simp [this]
end ints
section arith
variable {x y : Operand} {tx ty : TypeId} {a b : Int} (hx : rev ρ x = some (.int .i64 a)) (hy : rev ρ y = some (.int .i64 b))
include hx hy
theorem LD.add (h : -9223372036854775808 ≤ a + b ∧ a + b ≤ 9223372036854775807) : LD P ρ L ⟨d, .binOp .add tx x y ty, t, p, af, g⟩ (.int .i64 (a + b)) := LD.bin hx hy (fun _ _ _ => eqGuard_int ..) fun w => by
  have e : IntKind.wrap .i64 (a + b) = a + b := by simp [IntKind.wrap, IntKind.bits, IntKind.signed]; omega
  simp [binOp, Op.intArith, e]
theorem LD.addw : LD P ρ L ⟨d, .binOp .add tx x y ty, t, p, af, g⟩ (.int .i64 (IntKind.wrap .i64 (a + b))) := LD.bin hx hy (fun _ _ _ => eqGuard_int ..) fun w => by simp [binOp, Op.intArith]
theorem LD.sub (h : -9223372036854775808 ≤ a - b ∧ a - b ≤ 9223372036854775807) : LD P ρ L ⟨d, .binOp .sub tx x y ty, t, p, af, g⟩ (.int .i64 (a - b)) := LD.bin hx hy (fun _ _ _ => eqGuard_int ..) fun w => by
  have e : IntKind.wrap .i64 (a - b) = a - b := by simp [IntKind.wrap, IntKind.bits, IntKind.signed]; omega
  simp [binOp, Op.intArith, e]
theorem LD.mul (h : -9223372036854775808 ≤ a * b ∧ a * b ≤ 9223372036854775807) : LD P ρ L ⟨d, .binOp .mul tx x y ty, t, p, af, g⟩ (.int .i64 (a * b)) := LD.bin hx hy (fun _ _ _ => eqGuard_int ..) fun w => by
  have e : IntKind.wrap .i64 (a * b) = a * b := by
    generalize a * b = z at h; simp [IntKind.wrap, IntKind.bits, IntKind.signed]; omega
  simp [binOp, Op.intArith, e]
theorem LD.rem (h : 0 ≤ a) (hb : 0 < b) : LD P ρ L ⟨d, .binOp .rem tx x y ty, t, p, af, g⟩ (.int .i64 (a % b)) := LD.bin hx hy (fun _ _ _ => eqGuard_int ..) fun w => by
  have e : a.tmod b = a % b := Int.tmod_eq_emod_of_nonneg h
  have hb' : ¬ b = 0 := by omega
  simp [binOp, Op.intDiv, e, hb']
theorem LD.quo (h : 0 ≤ a) (hb : 0 < b) (hu : a ≤ 9223372036854775807) : LD P ρ L ⟨d, .binOp .quo tx x y ty, t, p, af, g⟩ (.int .i64 (a / b)) := LD.bin hx hy (fun _ _ _ => eqGuard_int ..) fun w => by
  have e : a.tdiv b = a / b := Int.tdiv_eq_ediv_of_nonneg h
  have hb' : ¬ b = 0 := by omega
  have h1 : 0 ≤ a / b := Int.ediv_nonneg h (by omega)
  have h2 : a / b ≤ a := Int.ediv_le_self b h
  have e2 : IntKind.wrap .i64 (a / b) = a / b := by generalize a / b = z at h1 h2; simp [IntKind.wrap, IntKind.bits, IntKind.signed]; omega
  simp [binOp, Op.intDiv, e, hb', e2]
end arith
theorem eqi_nil {t e : TypeId} (hu : P.underlying t = some (.pointer e)) (a b : Option Addr) (hn : a = none ∨ b = none) (d : Nat) (w : World) : (Op.equalIn (d + 1) t (.pointer a) (.pointer b)).run P w = .ok (decide (a = b)) w := by
  rcases hn with rfl | rfl
  · cases b <;> simp [Op.equalIn, run_underlying hu]
  · cases a <;> simp [Op.equalIn, run_underlying hu]
theorem LD.ptrEql {x y : Operand} {tx ty : TypeId} {e : TypeId} {a b : Option Addr} (hx : rev ρ x = some (.pointer a)) (hy : rev ρ y = some (.pointer b)) (hu : P.underlying tx = some (.pointer e))
    (hn : a = none ∨ b = none) : LD P ρ L ⟨d, .binOp .eql tx x y ty, t, p, af, g⟩ (.bool (decide (a = b))) := LD.bin hx hy (fun _ _ _ => eqGuard_ptr ..) fun w => by
  have h := eqi_nil hu a b hn 9999 w
  simp only [binOp]
  simp only [Op.equal, Op.maxDepth, Sem.run_bind, h, Result.andThen_ok]; rfl
theorem LD.ptrNeq {x y : Operand} {tx ty : TypeId} {e : TypeId} {a b : Option Addr} (hx : rev ρ x = some (.pointer a)) (hy : rev ρ y = some (.pointer b)) (hu : P.underlying tx = some (.pointer e))
    (hn : a = none ∨ b = none) : LD P ρ L ⟨d, .binOp .neq tx x y ty, t, p, af, g⟩ (.bool (!decide (a = b))) := LD.bin hx hy (fun _ _ _ => eqGuard_ptr ..) fun w => by
  have h := eqi_nil hu a b hn 9999 w
  simp only [binOp]
  simp only [Op.equal, Op.maxDepth, Sem.run_bind, h, Result.andThen_ok]; rfl

/-! ### memory that is read -/
theorem mem_heap {w : World} (hs : Sat w L) {r : Frag} (hr : r ∈ L) {b : Nat} {o : Obj} (h : r b = some o) : w.heap[b]? = some o := hs.sub r hr b o h
theorem LD.load1f {ty : TypeId} [h1 : One P ty] {x : Operand} {b o : Nat} {r : Frag} {cs : Array Value} {T : TypeId} {fr : Nat × Nat} {v : Value} (hx : rev ρ x = some (.pointer (some ⟨b, o, none⟩)))
    (hr : r ∈ L) (hb : r b = some (.cells cs T fr)) (hc : cs[o]? = some v) : LD P ρ L ⟨d, .load ty x, t, p, af, g⟩ v := fun n a w ha hs => by
  have hw := mem_heap hs hr hb
  have hl : (loadVar ty ⟨b, o, none⟩).run P w = .ok v w := by
    simp only [loadVar, Sem.run_bind, h1.agg, Result.andThen_ok]
    have : w.cell? ⟨b, o, none⟩ = some v := by rw [cell_of_row w b o cs T fr hw, hc]
    simp [load, Sem.run, this]
  simp [execOp, ha.eval hx, Instr.loadAt, Instr.sureAddr, hl]
theorem LD.load1 {ty : TypeId} [One P ty] {x : Operand} {b o : Nat} {cs : Array Value} {T : TypeId} {v : Value} (hx : rev ρ x = some (.pointer (some ⟨b, o, none⟩)))
    (hr : blk b T cs ∈ L) (hc : cs[o]? = some v) : LD P ρ L ⟨d, .load ty x, t, p, af, g⟩ v := LD.load1f hx hr (blk_same b T cs) hc
theorem run_loadAgg {ty : TypeId} {k : Nat} [h1 : Agg P ty k] {w : World} {b o : Nat} {cs : Array Value} {T : TypeId} {fr : Nat × Nat} (hw : w.heap[b]? = some (.cells cs T fr)) {vs : Array Value}
    (hk : o + k ≤ cs.size) (hv : cs.extract o (o + k) = vs) : (loadVar ty ⟨b, o, none⟩).run P w = .ok (.agg vs) w := by
  have hsz : vs.size = k := by rw [← hv]; simp; omega
  have hl : (loadCells ⟨b, o, none⟩ vs.toList.length).run P w = .ok vs.toList.toArray w :=
    run_loadCells_list (P := P) w ⟨b, o, none⟩ vs.toList (fun j v hj => by
      rw [Addr.add_none, cell_of_row w b (o + j) cs T fr hw]
      have hj' : vs[j]? = some v := by simpa using hj
      have hlt : j < vs.size := (Array.getElem?_eq_some_iff.1 hj').1
      rw [← hv, Array.getElem?_extract] at hj'
      split at hj'
      · exact hj'
      · cases hj')
  simp only [Array.length_toList, Array.toArray_toList, hsz] at hl
  simp only [loadVar, Sem.run_bind, h1.agg, Result.andThen_ok, if_true, h1.size, hl]
  rfl
theorem LD.loadAf {ty : TypeId} {k : Nat} [h1 : Agg P ty k] {x : Operand} {b o : Nat} {r : Frag} {cs vs : Array Value} {T : TypeId} {fr : Nat × Nat} (hx : rev ρ x = some (.pointer (some ⟨b, o, none⟩)))
    (hr : r ∈ L) (hb : r b = some (.cells cs T fr)) (hk : o + k ≤ cs.size) (hv : cs.extract o (o + k) = vs) : LD P ρ L ⟨d, .load ty x, t, p, af, g⟩ (.agg vs) := fun n a w ha hs => by
  have hl := run_loadAgg (P := P) (ty := ty) (mem_heap hs hr hb) hk hv
  simp [execOp, ha.eval hx, Instr.loadAt, Instr.sureAddr, hl]
theorem LD.loadA {ty : TypeId} {k : Nat} [Agg P ty k] {x : Operand} {b o : Nat} {cs vs : Array Value} {T : TypeId} (hx : rev ρ x = some (.pointer (some ⟨b, o, none⟩)))
    (hr : blk b T cs ∈ L) (hk : o + k ≤ cs.size) (hv : cs.extract o (o + k) = vs) : LD P ρ L ⟨d, .load ty x, t, p, af, g⟩ (.agg vs) := LD.loadAf hx hr (blk_same b T cs) hk hv

/-! ### new blocks -/
theorem NB.box {ty : TypeId} {x : Operand} {v : Value} (h : rev ρ x = some v) : NB P ρ L ⟨d, .box ty x, t, p, af, g⟩ ty v.cells (fun b => .pointer (some ⟨b, 0, none⟩)) := fun n a w hr _ => by
  simp [execOp, hr.eval h, Instr.box, newVar, newRow]
theorem NB.alloc {ty : TypeId} {z : Array Value} [hz : ZeroV P ty z] : NB P ρ L ⟨d, .alloc ty, t, p, af, g⟩ ty z (fun b => .pointer (some ⟨b, 0, none⟩)) := fun n a w hr _ => by
  obtain ⟨v, h1, h2⟩ := hz.run w
  simp [execOp, Instr.alloc, h1, newVar, newRow, h2]

/-! ### stores -/
theorem perm_get {α : Type} : ∀ {L : List α} {i : Nat} {x : α}, L[i]? = some x → L.Perm (x :: L.eraseIdx i)
  | [], _, _, h => by simp at h
  | y :: l, 0, x, h => by simp at h; subst h; exact .refl _
  | y :: l, i + 1, x, h => by
    have := perm_get (L := l) (i := i) (x := x) (by simpa using h)
    exact (this.cons y).trans (.swap ..)
theorem perm_set {α : Type} : ∀ {L : List α} {i : Nat} (x : α), i < L.length → (L.set i x).Perm (x :: L.eraseIdx i)
  | [], _, _, h => by simp at h
  | y :: l, 0, x, _ => .refl _
  | y :: l, i + 1, x, h => by
    have := perm_set (L := l) (i := i) x (by simpa using h)
    exact (this.cons y).trans (.swap ..)
theorem Sat.setAt {w : World} (hs : Sat w L) {i b : Nat} {T : TypeId} {cs : Array Value} (hi : L[i]? = some (blk b T cs)) (o : Nat) (v : Value) : Sat (w.setCell ⟨b, o, none⟩ v) (L.set i (blk b T (cs.setIfInBounds o v))) :=
  ((hs.perm (perm_get hi)).set o v).perm (perm_set _ (List.getElem?_eq_some_iff.1 hi).1).symm
theorem EF.store1 {ty : TypeId} [h1 : One P ty] {x y : Operand} {b o i : Nat} {T : TypeId} {cs : Array Value} {v : Value} (hx : rev ρ x = some (.pointer (some ⟨b, o, none⟩))) (hy : rev ρ y = some v) (hv : v.oneCell' = true)
    (hi : L[i]? = some (blk b T cs)) (ho : o < cs.size) : EF P ρ L ⟨d, .store ty x y, t, p, af, g⟩ undef (L.set i (blk b T (cs.setIfInBounds o v))) := fun n a w ha hs => by
  refine ⟨w.setCell ⟨b, o, none⟩ v, .inr ⟨?_, rfl⟩, hs.setAt hi o v, Keep.setCell w _ v⟩
  have hw : w.heap[b]? = some (.cells cs T (0, 0)) := mem_heap hs (List.mem_of_getElem? hi) (blk_same b T cs)
  have hcell : w.cell? ⟨b, o, none⟩ = some cs[o] := by rw [cell_of_row w b o cs T _ hw]; exact Array.getElem?_eq_getElem ho
  have hf := frozen_of_row w b o cs T hw
  have hcells : v.cells = #[v] := by cases v <;> first | rfl | cases hv
  have hst : (store (Addr.add ⟨b, o, none⟩ 0) v).run P w = .ok () (w.setCell ⟨b, o, none⟩ v) := by
    rw [Addr.add_none, run_store P w _ v _ hv, Nat.add_zero, hcell]; simp [hf]
  simp [execOp, ha.eval hx, ha.eval hy, Instr.storeAt, Instr.sureAddr, storeVar, h1.size, hcells, storeCells, hst]
/-- cells over cells -/
def splice (cs : Array Value) (o : Nat) (vs : Array Value) : Array Value := (cs.toList.take o ++ vs.toList ++ cs.toList.drop (o + vs.size)).toArray
theorem Keep.setRow (w : World) (b : Nat) (cs : Array Value) : Keep w (w.setRow b cs) := by
  exact ⟨rfl, rfl, rfl, by simp [World.setRow]⟩
theorem Sat.rowAt {w : World} (hs : Sat w L) {i b : Nat} {T : TypeId} {cs : Array Value} (hi : L[i]? = some (blk b T cs)) (vs : Array Value) : Sat (w.setRow b vs) (L.set i (blk b T vs)) := by
  have hw : w.heap[b]? = some (.cells cs T (0, 0)) := mem_heap hs (List.mem_of_getElem? hi) (blk_same b T cs)
  have h1 := hs.perm (perm_get hi)
  have h2 : Sat (w.setRow b vs) (obj b (.cells vs T (0, 0)) :: L.eraseIdx i) := Sat.setObj (o := .cells cs T (0, 0)) h1 (setRow_heap w b cs vs T _ hw) (fun x hx => setRow_other w b x vs hx)
  exact Sat.perm h2 (perm_set _ (List.getElem?_eq_some_iff.1 hi).1).symm
theorem EF.storeA {ty : TypeId} {k : Nat} [h1 : Agg P ty k] {x y : Operand} {b o i : Nat} {T : TypeId} {cs vs : Array Value} (hx : rev ρ x = some (.pointer (some ⟨b, o, none⟩))) (hy : rev ρ y = some (.agg vs))
    (hi : L[i]? = some (blk b T cs)) (hk : vs.size = k) (ho : o + k ≤ cs.size) (hv : vs.all (·.oneCell') = true) : EF P ρ L ⟨d, .store ty x y, t, p, af, g⟩ undef (L.set i (blk b T (splice cs o vs))) := fun n a w ha hs => by
  refine ⟨w.setRow b (splice cs o vs), .inr ⟨?_, rfl⟩, hs.rowAt hi _, Keep.setRow w _ _⟩
  have hw : w.heap[b]? = some (.cells cs T (0, 0)) := mem_heap hs (List.mem_of_getElem? hi) (blk_same b T cs)
  have hst := run_storeCells_at (P := P) b o T vs.toList 0 cs w hw (by simp; omega) (fun v hv' => (Array.all_eq_true_iff_forall_mem.1 hv) v (by simpa using hv'))
  simp only [Nat.add_zero, Array.length_toList] at hst
  simp [execOp, ha.eval hx, ha.eval hy, Instr.storeAt, Instr.sureAddr, storeVar, h1.size, Value.cells, hk, hst, splice]
end
end Go.SL
end
section
/- A region whose order is drawn: what the text's order shows is so in every order. -/
namespace Go.SL
open Go.RowKit
variable {P : Program}

/-- The walk of a region in the text's order, as something that can be turned round. R is read throughout, W ahead of the first change alone. K: 0 for what reads R, or lays a block; 1 for what reads W; 2 for what changes, or calls. -/
inductive Der (P : Program) (ops : Array Oper) (R W : List Frag) (K : Nat → Nat) (Q : Act → List Frag → Prop) : List Nat → Act → Bool → List Frag → Prop
  | nil {a : Act} {ph : Bool} {L L' : List Frag} (hp : (bif ph then L else W ++ L).Perm L') (h : Q a L') : Der P ops R W K Q [] a ph L
  | ld {i : Nat} {l : List Nat} {o : Oper} {a : Act} {ph : Bool} {L : List Frag} {v : Value} (hi : ops[i]? = some o) (hK : K i ≤ 2) (hw : Region.wanted o (yielded ops a.tmps) = true)
      (h : ∀ w, Sat w R → (execOp a.eval o).run P w = .ok (.value v) w) (k : Der P ops R W K Q l (a.put o.dst v) ph L) : Der P ops R W K Q (i :: l) a ph L
  | rd {i : Nat} {l : List Nat} {o : Oper} {a : Act} {L : List Frag} {v : Value} (hi : ops[i]? = some o) (hK : K i = 1) (hw : Region.wanted o (yielded ops a.tmps) = true)
      (h : ∀ w, Sat w (R ++ W) → (execOp a.eval o).run P w = .ok (.value v) w) (k : Der P ops R W K Q l (a.put o.dst v) false L) : Der P ops R W K Q (i :: l) a false L
  | no {i : Nat} {l : List Nat} {o : Oper} {a : Act} {ph : Bool} {L : List Frag} (hi : ops[i]? = some o) (hw : Region.wanted o (yielded ops a.tmps) = false)
      (k : Der P ops R W K Q l (a.put o.dst undef) ph L) : Der P ops R W K Q (i :: l) a ph L
  | nb {i : Nat} {l : List Nat} {o : Oper} {a : Act} {ph : Bool} {L : List Frag} {T : TypeId} {z : Array Value} {v : Nat → Value} (hi : ops[i]? = some o) (hK : K i = 3 ∨ K i = 4) (hw : Region.wanted o (yielded ops a.tmps) = true)
      (h : ∀ w, (execOp a.eval o).run P w = .ok (.value (v w.heap.size)) (w.alloc (.cells z T))) (k : ∀ b, Der P ops R W K Q l (a.put o.dst (v b)) ph (blk b T z :: L)) : Der P ops R W K Q (i :: l) a ph L
  | ef {i : Nat} {l : List Nat} {o : Oper} {a : Act} {ph : Bool} {L : List Frag} {E : Value → List Frag → Prop} (hi : ops[i]? = some o) (hK : K i = 2) (hw : Region.wanted o (yielded ops a.tmps) = true)
      (h : ∀ w F, Sat w (R ++ (bif ph then L else W ++ L) ++ F) → ∃ v L' w', ((execOp a.eval o).run P w = .ok (.value v) w' ∨ ((execOp a.eval o).run P w = .ok .skip w' ∧ v = undef)) ∧ E v L' ∧ Sat w' (R ++ L' ++ F) ∧ Keep w w')
      (k : ∀ v L', E v L' → Der P ops R W K Q l (a.put o.dst v) true L') : Der P ops R W K Q (i :: l) a ph L
  | cl {i : Nat} {l : List Nat} {o : Oper} {a : Act} {ph : Bool} {L : List Frag} {E : Value → List Frag → Prop} {f : Nat} {args : Array Value} (hi : ops[i]? = some o) (hK : K i = 2) (hw : Region.wanted o (yielded ops a.tmps) = true)
      (h : ∀ w, (execOp a.eval o).run P w = .ok (.enter f args) w)
      (hc : ∀ w F, Sat w (R ++ (bif ph then L else W ++ L) ++ F) → Calls P f args w fun e w' => ∃ v L', e = .returned v ∧ E v L' ∧ Sat w' (R ++ L' ++ F) ∧ Keep w w')
      (k : ∀ v L', E v L' → Der P ops R W K Q l (a.put o.dst v) true L') : Der P ops R W K Q (i :: l) a ph L

section
variable {ops : Array Oper} {R W : List Frag} {K : Nat → Nat} {Q : Act → List Frag → Prop}

/-- nothing that is known of a state hangs on the order of its parts -/
theorem Der.perm {l : List Nat} {a : Act} {ph : Bool} {L L' : List Frag} (h : Der P ops R W K Q l a ph L) (hp : L.Perm L') : Der P ops R W K Q l a ph L' := by
  have hb : ∀ {ph : Bool} {L L' : List Frag}, L.Perm L' → (bif ph then L else W ++ L).Perm (bif ph then L' else W ++ L') := fun {ph} {L} {L'} hp => by
    cases ph
    · exact hp.append_left W
    · exact hp
  induction h generalizing L' with
  | nil h1 h2 => exact .nil ((hb hp).symm.trans h1) h2
  | ld hi hK hw h k ih => exact .ld hi hK hw h (ih hp)
  | rd hi hK hw h k ih => exact .rd hi hK hw h (ih hp)
  | no hi hw k ih => exact .no hi hw (ih hp)
  | nb hi hK hw h k ih => exact .nb hi hK hw h (fun b => ih b (hp.cons _))
  | ef hi hK hw h k ih => exact .ef hi hK hw (fun w F hs => h w F (hs.perm (((hb hp).symm.append_left R).append_right F))) k
  | cl hi hK hw h hc k ih => exact .cl hi hK hw h (fun w F hs => hc w F (hs.perm (((hb hp).symm.append_left R).append_right F))) k

theorem Der.tail {i : Nat} {l l' : List Nat} (hl : ∀ {a : Act} {ph : Bool} {L : List Frag}, Der P ops R W K Q l a ph L → Der P ops R W K Q l' a ph L) {a : Act} {ph : Bool} {L : List Frag} (h : Der P ops R W K Q (i :: l) a ph L) : Der P ops R W K Q (i :: l') a ph L := by
  cases h with
  | ld hi hK hw h k => exact .ld hi hK hw h (hl k)
  | rd hi hK hw h k => exact .rd hi hK hw h (hl k)
  | no hi hw k => exact .no hi hw (hl k)
  | nb hi hK hw h k => exact .nb hi hK hw h (fun b => hl (k b))
  | ef hi hK hw h k => exact .ef hi hK hw h (fun v L' he => hl (k v L' he))
  | cl hi hK hw h hc k => exact .cl hi hK hw h hc (fun v L' he => hl (k v L' he))

/-- x stands ahead of y: may y come first? Kinds: 0 reads R, 1 reads W, 2 changes or calls, 3 lays a block, 4 lays a block whatever the registers hold. -/
def turns (ops : Array Oper) (K : Nat → Nat) (x y : Nat) : Bool :=
  match ops[x]?, ops[y]? with
  | some ox, some oy => ox.apart ops oy && oy.apart ops ox && (K x == 0 || (K x == 1 && K y != 2) || (K x == 2 && K y == 4) || (K x == 3 && (K y == 3 || K y == 4)) || (K x == 4 && (K y == 3 || K y == 4)))
  | _, _ => false

/-- it lays a block, whatever the registers hold -/
def Lays (P : Program) (o : Oper) : Prop := ∃ (T : TypeId) (z : Array Value) (v : Nat → Value), ∀ (a : Act) (w : World), (execOp a.eval o).run P w = .ok (.value (v w.heap.size)) (w.alloc (.cells z T))

theorem alloc_inj {w : World} {o o' : Obj} (h : w.alloc o = w.alloc o') : o = o' := by
  have h1 := heap_alloc_new w o
  have h2 := heap_alloc_new w o'
  rw [h] at h1; rw [h1] at h2; exact Option.some.inj h2
theorem sized (w : World) (n : Nat) : ∃ w' : World, w'.heap.size = n := ⟨{ w with heap := Array.replicate n (.cells #[] 0) }, by simp⟩
theorem lays_same {c : Sem Next} (w0 : World) {T T' : TypeId} {z z' : Array Value} {v v' : Nat → Value} (h : ∀ w : World, c.run P w = .ok (.value (v w.heap.size)) (w.alloc (.cells z T)))
    (h' : ∀ w : World, c.run P w = .ok (.value (v' w.heap.size)) (w.alloc (.cells z' T'))) : T = T' ∧ z = z' ∧ ∀ b, v b = v' b := by
  have e := (h w0).symm.trans (h' w0)
  injection e with e1 e2
  have := alloc_inj e2
  injection this with e3 e4
  refine ⟨e4, e3, fun b => ?_⟩
  obtain ⟨w, rfl⟩ := sized w0 b
  have e := (h w).symm.trans (h' w)
  injection e with e1 e2
  injection e1

theorem Der.inv_no {j : Nat} {o : Oper} {l : List Nat} {a : Act} {ph : Bool} {L : List Frag} (hj : ops[j]? = some o) (hw : Region.wanted o (yielded ops a.tmps) = false) (h : Der P ops R W K Q (j :: l) a ph L) : Der P ops R W K Q l (a.put o.dst undef) ph L := by
  cases h with
  | no hi _ k => rw [hj] at hi; injection hi with hi; subst hi; exact k
  | ld hi _ hw' | rd hi _ hw' | nb hi _ hw' | ef hi _ hw' | cl hi _ hw' => rw [hj] at hi; injection hi with hi; subst hi; rw [hw] at hw'; cases hw'
theorem Der.inv_nb {j : Nat} {o : Oper} {l : List Nat} {a : Act} {ph : Bool} {L : List Frag} (hj : ops[j]? = some o) (hw : Region.wanted o (yielded ops a.tmps) = true) (hK : K j = 3 ∨ K j = 4) (h : Der P ops R W K Q (j :: l) a ph L) :
    ∃ (T : TypeId) (z : Array Value) (v : Nat → Value), (∀ w, (execOp a.eval o).run P w = .ok (.value (v w.heap.size)) (w.alloc (.cells z T))) ∧ ∀ b, Der P ops R W K Q l (a.put o.dst (v b)) ph (blk b T z :: L) := by
  cases h with
  | no hi hw' => rw [hj] at hi; injection hi with hi; subst hi; rw [hw] at hw'; cases hw'
  | nb hi _ _ h k => rw [hj] at hi; injection hi with hi; subst hi; exact ⟨_, _, _, h, k⟩
  | ld hi hK' | rd hi hK' | ef hi hK' | cl hi hK' => exfalso; omega

/-- two steps are turned round -/
theorem Der.turn (w0 : World) (hsel : ∀ (j : Nat) (o : Oper) cs b, ops[j]? = some o → o.op ≠ .select cs b) (hal : ∀ j o, ops[j]? = some o → K j = 4 → Lays P o) {i j : Nat} {l : List Nat} {a : Act} {ph : Bool} {L : List Frag} (ht : turns ops K i j = true)
    (h : Der P ops R W K Q (i :: j :: l) a ph L) : Der P ops R W K Q (j :: i :: l) a ph L := by
  unfold turns at ht
  split at ht
  case h_2 => cases ht
  rename_i oi oj hi hj
  simp only [Bool.and_eq_true] at ht
  obtain ⟨⟨hap, -⟩, hk⟩ := ht
  obtain ⟨h1, h2, h3⟩ := Oper.apart_spec hap
  have eJ : ∀ (a : Act) v, execOp (a.put oi.dst v).eval oj = execOp a.eval oj := fun a v => execOp_put oj (fun cs b => hsel j oj cs b hj) a oi.dst v h1
  have eI : ∀ (a : Act) v, execOp (a.put oj.dst v).eval oi = execOp a.eval oi := fun a v => execOp_put oi (fun cs b => hsel i oi cs b hi) a oj.dst v h3
  have wJ : ∀ (a : Act) v, Region.wanted oj (yielded ops (a.put oi.dst v).tmps) = Region.wanted oj (yielded ops a.tmps) := fun a v => wanted_put oj a oi.dst v h1
  have wI : ∀ (a : Act) v, Region.wanted oi (yielded ops (a.put oj.dst v).tmps) = Region.wanted oi (yielded ops a.tmps) := fun a v => wanted_put oi a oj.dst v h3
  have pc : ∀ (a : Act) v u, (a.put oi.dst v).put oj.dst u = (a.put oj.dst u).put oi.dst v := fun a v u => Act.put_comm a v u h2
  -- what only reads R, or is not wanted: anything may come ahead of it
  have quiet : ∀ (ph : Bool) (v : Value), (∀ (a' : Act) (ph' : Bool) (L' : List Frag), (∃ u, a' = a.put oj.dst u) → (ph' = true ∨ ph' = ph) → Der P ops R W K Q l (a'.put oi.dst v) ph' L' → Der P ops R W K Q (i :: l) a' ph' L') →
      Der P ops R W K Q (j :: l) (a.put oi.dst v) ph L → Der P ops R W K Q (j :: i :: l) a ph L := fun ph v hq hd => by
    cases hd with
    | ld hi' hK hw h k => rw [hj] at hi'; injection hi' with hi'; subst hi'; rw [eJ] at h; rw [wJ] at hw; rw [pc] at k; exact .ld hj hK hw h (hq _ _ _ ⟨_, rfl⟩ (.inr rfl) k)
    | rd hi' hK hw h k => rw [hj] at hi'; injection hi' with hi'; subst hi'; rw [eJ] at h; rw [wJ] at hw; rw [pc] at k; exact .rd hj hK hw h (hq _ _ _ ⟨_, rfl⟩ (.inr rfl) k)
    | no hi' hw k => rw [hj] at hi'; injection hi' with hi'; subst hi'; rw [wJ] at hw; rw [pc] at k; exact .no hj hw (hq _ _ _ ⟨_, rfl⟩ (.inr rfl) k)
    | nb hi' hK hw h k => rw [hj] at hi'; injection hi' with hi'; subst hi'; rw [eJ] at h; rw [wJ] at hw; exact .nb hj hK hw h (fun b => hq _ _ _ ⟨_, rfl⟩ (.inr rfl) (by have := k b; rwa [pc] at this))
    | ef hi' hK hw h k => rw [hj] at hi'; injection hi' with hi'; subst hi'; rw [eJ] at h; rw [wJ] at hw; exact .ef hj hK hw h (fun v' L' he => hq _ _ _ ⟨_, rfl⟩ (.inl rfl) (by have := k v' L' he; rwa [pc] at this))
    | cl hi' hK hw h hc k => rw [hj] at hi'; injection hi' with hi'; subst hi'; rw [eJ] at h; rw [wJ] at hw; exact .cl hj hK hw h hc (fun v' L' he => hq _ _ _ ⟨_, rfl⟩ (.inl rfl) (by have := k v' L' he; rwa [pc] at this))
  cases h with
  | ld hi' hK hw h k =>
    rw [hi] at hi'; injection hi' with hi'; subst hi'
    exact quiet ph _ (fun a' ph' L' ⟨u, hu⟩ _ hd => .ld hi hK (by rw [hu, wI]; exact hw) (by rw [hu, eI]; exact h) hd) k
  | no hi' hw k =>
    rw [hi] at hi'; injection hi' with hi'; subst hi'
    exact quiet ph _ (fun a' ph' L' ⟨u, hu⟩ _ hd => .no hi (by rw [hu, wI]; exact hw) hd) k
  | rd hi' hK hw h k =>
    rw [hi] at hi'; injection hi' with hi'; subst hi'
    have hj2 : K j ≠ 2 := by rw [hK] at hk; intro e; rw [e] at hk; simp at hk
    have step : ∀ (u : Value) (L' : List Frag), Der P ops R W K Q l ((a.put oj.dst u).put oi.dst _) false L' → Der P ops R W K Q (i :: l) (a.put oj.dst u) false L' := fun u L' hd => .rd hi hK (by rw [wI]; exact hw) (by rw [eI]; exact h) hd
    cases k with
    | ld hi' hK hw h k => rw [hj] at hi'; injection hi' with hi'; subst hi'; rw [eJ] at h; rw [wJ] at hw; rw [pc] at k; exact .ld hj hK hw h (step _ _ k)
    | rd hi' hK hw h k => rw [hj] at hi'; injection hi' with hi'; subst hi'; rw [eJ] at h; rw [wJ] at hw; rw [pc] at k; exact .rd hj hK hw h (step _ _ k)
    | no hi' hw k => rw [hj] at hi'; injection hi' with hi'; subst hi'; rw [wJ] at hw; rw [pc] at k; exact .no hj hw (step _ _ k)
    | nb hi' hK hw h k => rw [hj] at hi'; injection hi' with hi'; subst hi'; rw [eJ] at h; rw [wJ] at hw; exact .nb hj hK hw h (fun b => step _ _ (by have := k b; rwa [pc] at this))
    | ef hi' hK hw h k => exact absurd hK hj2
    | cl hi' hK hw h hc k => exact absurd hK hj2
  | nb hi' hK hw h k =>
    rw [hi] at hi'; injection hi' with hi'; subst hi'
    have hj34 : K j = 3 ∨ K j = 4 := by rcases hK with e | e <;> rw [e] at hk <;> simpa using hk
    cases hwj : Region.wanted oj (yielded ops a.tmps) with
    | false => exact .no hj hwj (.nb hi hK (by rw [wI]; exact hw) (by rw [eI]; exact h) fun b => by have := (k b).inv_no hj (by rw [wJ]; exact hwj); rwa [pc] at this)
    | true =>
      obtain ⟨T, z, v, hr, hd⟩ := (k 0).inv_nb hj (by rw [wJ]; exact hwj) hj34
      rw [eJ] at hr
      refine .nb hj hj34 hwj hr fun c => .nb hi hK (by rw [wI]; exact hw) (by rw [eI]; exact h) fun b => ?_
      obtain ⟨T', z', v', hr', hd'⟩ := (k b).inv_nb hj (by rw [wJ]; exact hwj) hj34
      rw [eJ] at hr'
      obtain ⟨rfl, rfl, e⟩ := lays_same w0 hr hr'
      have := hd' c
      rw [pc, ← e c] at this
      exact this.perm (.swap ..)
  | ef hi' hK hw h k =>
    rw [hi] at hi'; injection hi' with hi'; subst hi'
    have hj4 : K j = 4 := by rw [hK] at hk; simpa using hk
    rename_i E
    cases hwj : Region.wanted oj (yielded ops a.tmps) with
    | false => exact .no hj hwj (.ef hi hK (by rw [wI]; exact hw) (by rw [eI]; exact h) fun v L' he => by have := (k v L' he).inv_no hj (by rw [wJ]; exact hwj); rwa [pc] at this)
    | true =>
      obtain ⟨T, z, v, hr⟩ := hal j oj hj hj4
      refine .nb hj (.inr hj4) hwj (hr a) fun b => ?_
      refine .ef (E := fun u L'' => ∃ L', E u L' ∧ L'' = blk b T z :: L') hi hK (by rw [wI]; exact hw) (fun w F hs => ?_) ?_
      rotate_left
      · rintro u L'' ⟨L', he, rfl⟩
        obtain ⟨T', z', v', hr', hd'⟩ := (k u L' he).inv_nb hj (by rw [wJ]; exact hwj) (.inr hj4)
        obtain ⟨rfl, rfl, e⟩ := lays_same w0 (hr _) hr'
        have := hd' b
        rwa [pc, ← e b] at this
      · rw [eI]
        obtain ⟨u, L', w', g1, g2, g3, g4⟩ := h w (blk b T z :: F) (hs.perm (by
          cases ph
          · show (R ++ (W ++ blk b T z :: L) ++ F).Perm (R ++ (W ++ L) ++ blk b T z :: F)
            simp only [List.append_assoc]
            refine List.Perm.append_left R (List.Perm.append_left W ?_)
            exact (List.perm_middle (l₁ := L) (l₂ := F)).symm
          · show (R ++ (blk b T z :: L) ++ F).Perm (R ++ L ++ blk b T z :: F)
            simp only [List.append_assoc]
            exact List.Perm.append_left R (List.perm_middle (l₁ := L) (l₂ := F)).symm))
        refine ⟨u, _, w', g1, ⟨L', g2, rfl⟩, g3.perm ?_, g4⟩
        simp only [List.append_assoc]
        exact List.Perm.append_left R (List.perm_middle (l₁ := L') (l₂ := F))
  | cl hi' hK hw h hc k =>
    rw [hi] at hi'; injection hi' with hi'; subst hi'
    have hj4 : K j = 4 := by rw [hK] at hk; simpa using hk
    rename_i E _ _
    cases hwj : Region.wanted oj (yielded ops a.tmps) with
    | false => exact .no hj hwj (.cl hi hK (by rw [wI]; exact hw) (by rw [eI]; exact h) hc fun v L' he => by have := (k v L' he).inv_no hj (by rw [wJ]; exact hwj); rwa [pc] at this)
    | true =>
      obtain ⟨T, z, v, hr⟩ := hal j oj hj hj4
      refine .nb hj (.inr hj4) hwj (hr a) fun b => ?_
      refine .cl (E := fun u L'' => ∃ L', E u L' ∧ L'' = blk b T z :: L') hi hK (by rw [wI]; exact hw) (by rw [eI]; exact h) (fun w F hs => ?_) ?_
      rotate_left
      · rintro u L'' ⟨L', he, rfl⟩
        obtain ⟨T', z', v', hr', hd'⟩ := (k u L' he).inv_nb hj (by rw [wJ]; exact hwj) (.inr hj4)
        obtain ⟨rfl, rfl, e⟩ := lays_same w0 (hr _) hr'
        have := hd' b
        rwa [pc, ← e b] at this
      · refine (hc w (blk b T z :: F) (hs.perm ?_)).mono fun e w' ⟨u, L', g1, g2, g3, g4⟩ => ⟨u, _, g1, ⟨L', g2, rfl⟩, g3.perm ?_, g4⟩
        · cases ph
          · show (R ++ (W ++ blk b T z :: L) ++ F).Perm (R ++ (W ++ L) ++ blk b T z :: F)
            simp only [List.append_assoc]
            refine List.Perm.append_left R (List.Perm.append_left W ?_)
            exact (List.perm_middle (l₁ := L) (l₂ := F)).symm
          · show (R ++ (blk b T z :: L) ++ F).Perm (R ++ L ++ blk b T z :: F)
            simp only [List.append_assoc]
            exact List.Perm.append_left R (List.perm_middle (l₁ := L) (l₂ := F)).symm
        · simp only [List.append_assoc]
          exact List.Perm.append_left R (List.perm_middle (l₁ := L') (l₂ := F))
end
end Go.SL
end
section
namespace Go.SL
open Go.RowKit
variable {P : Program}

/-- y waits for x -/
inductive Waits (ops : Array Oper) : Nat → Nat → Prop
  | one {y : Nat} {o : Oper} {e : Edge} (hy : ops[y]? = some o) (he : e ∈ o.after) (hb : Region.binds .any e = true) : Waits ops y e.on
  | more {y x : Nat} {o : Oper} {e : Edge} (hy : ops[y]? = some o) (he : e ∈ o.after) (hb : Region.binds .any e = true) (h : Waits ops e.on x) : Waits ops y x

def mget : List (Nat × Nat) → Nat → Nat
  | [], _ => 0
  | (k, m) :: l, i => bif Nat.beq k i then m else mget l i
def mask (M : List (Nat × Nat)) (o : Oper) : Nat := o.after.toList.foldl (fun acc e => bif Region.binds .any e then acc ||| (1 <<< e.on) ||| mget M e.on else acc) 0
def masks (ops : Array Oper) : List Nat → List (Nat × Nat) → List (Nat × Nat)
  | [], M => M
  | i :: c, M => masks ops c ((i, match ops[i]? with | some o => mask M o | none => 0) :: M)
def good (ops : Array Oper) (M : List (Nat × Nat)) : Prop := ∀ i x, (mget M i).testBit x = true → Waits ops i x

theorem mask_good {ops : Array Oper} {M : List (Nat × Nat)} (hM : good ops M) {y : Nat} {o : Oper} (hy : ops[y]? = some o) {x : Nat} (h : (mask M o).testBit x = true) : Waits ops y x := by
  unfold mask at h
  suffices hs : ∀ (l : List Edge) (acc : Nat), (∀ e ∈ l, e ∈ o.after) → (acc.testBit x = true → Waits ops y x) → (l.foldl (fun acc e => bif Region.binds .any e then acc ||| (1 <<< e.on) ||| mget M e.on else acc) acc).testBit x = true → Waits ops y x from
    hs _ 0 (fun e he => by simpa using he) (by simp) h
  intro l
  induction l with
  | nil => intro acc _ ha h; exact ha h
  | cons e l ih =>
    intro acc hl ha h
    refine ih _ (fun e' he' => hl e' (List.mem_cons_of_mem _ he')) ?_ h
    intro hb
    cases hbd : Region.binds .any e with
    | false => simp [hbd] at hb; exact ha hb
    | true =>
      simp only [hbd, cond_true, Nat.testBit_or, Bool.or_eq_true] at hb
      have hin := hl e (List.mem_cons_self ..)
      rcases hb with (hb | hb) | hb
      · exact ha hb
      · rw [Nat.one_shiftLeft, Nat.testBit_two_pow] at hb
        have : e.on = x := by simpa using hb
        subst this; exact .one hy hin hbd
      · exact .more hy hin hbd (hM _ _ hb)
theorem masks_good {ops : Array Oper} : ∀ (c : List Nat) (M : List (Nat × Nat)), good ops M → good ops (masks ops c M)
  | [], _, h => h
  | i :: c, M, h => masks_good c _ fun y x hx => by
    simp only [mget] at hx
    cases hb : Nat.beq i y with
    | false => rw [hb] at hx; exact h y x hx
    | true =>
      rw [hb] at hx
      have : i = y := Nat.eq_of_beq_eq_true hb
      subst this
      cases ho : ops[i]? with
      | none => simp [ho] at hx
      | some o => simp only [ho, cond_true] at hx; exact mask_good h ho hx

/-- the numbers that o waits for, itself -/
def dmask (o : Oper) : Nat := o.after.toList.foldl (fun acc e => bif Region.binds .any e then acc ||| (1 <<< e.on) else acc) 0
def bits (l : List Nat) : Nat := l.foldl (fun acc y => acc ||| (1 <<< y)) 0
def pairsOk (ops : Array Oper) (K : Nat → Nat) (M : List (Nat × Nat)) : List Nat → Bool
  | [] => true
  | x :: l => l.all (fun y => (mget M y).testBit x || turns ops K x y) && (match ops[x]? with | some o => Nat.beq (Nat.land (bits (x :: l)) (dmask o)) 0 && Nat.blt (dmask o) (1 <<< ops.size) | none => false) && !(bits l).testBit x && pairsOk ops K M l
def kof (ks : List Nat) (i : Nat) : Nat := ks.getD i 0
def chk (ops : Array Oper) (ks c : List Nat) : Bool := Region.noSelect ops && pairsOk ops (kof ks) (masks ops c []) c && Nat.beq (bits c) (1 <<< ops.size - 1) && Nat.beq c.length ops.size

theorem foldl_or_bit {α : Type} (f : α → Nat) (x : Nat) : ∀ (l : List α) (acc : Nat), (l.foldl (fun acc e => acc ||| f e) acc).testBit x = true ↔ acc.testBit x = true ∨ ∃ e ∈ l, (f e).testBit x = true
  | [], acc => by simp
  | e :: l, acc => by
    rw [List.foldl_cons, foldl_or_bit f x l]
    simp only [Nat.testBit_or, Bool.or_eq_true, List.mem_cons, exists_eq_or_imp, or_assoc]
theorem bits_spec {l : List Nat} {x : Nat} : (bits l).testBit x = true ↔ x ∈ l := by
  unfold bits
  rw [foldl_or_bit (fun y => 1 <<< y) x l 0]
  constructor
  · rintro (h | ⟨e, he, h⟩)
    · simp at h
    · rw [Nat.one_shiftLeft, Nat.testBit_two_pow] at h
      have : e = x := by simpa using h
      exact this ▸ he
  · intro h; exact .inr ⟨x, h, by rw [Nat.one_shiftLeft, Nat.testBit_two_pow]; simp⟩
theorem dmask_spec {o : Oper} {e : Edge} (he : e ∈ o.after) (hb : Region.binds .any e = true) : (dmask o).testBit e.on = true := by
  unfold dmask
  have : (fun (acc : Nat) (e : Edge) => bif Region.binds .any e then acc ||| (1 <<< e.on) else acc) = fun acc e => acc ||| (bif Region.binds .any e then 1 <<< e.on else 0) := by
    funext acc e; cases Region.binds .any e <;> simp
  rw [this, foldl_or_bit]
  exact .inr ⟨e, by simpa using he, by rw [hb]; simp [Nat.one_shiftLeft]⟩
/-- what stands behind x is nothing that x waits for; all that it waits for is there -/
def Later (ops : Array Oper) (x y : Nat) : Prop := ∀ o, ops[x]? = some o → ∀ e ∈ o.after, Region.binds .any e = true → e.on ≠ y
theorem pairsOk_spec {ops : Array Oper} {K : Nat → Nat} {M : List (Nat × Nat)} (hM : good ops M) : ∀ {l : List Nat}, pairsOk ops K M l = true →
    l.Pairwise (fun x y => (Waits ops y x ∨ turns ops K x y = true) ∧ Later ops x y) ∧ l.Nodup ∧ (∀ x ∈ l, Later ops x x) ∧ (∀ x ∈ l, ∀ o, ops[x]? = some o → ∀ e ∈ o.after, Region.binds .any e = true → e.on < ops.size)
  | [], _ => ⟨.nil, .nil, fun _ h => (by cases h), fun _ h => (by cases h)⟩
  | x :: l, h => by
    simp only [pairsOk, Bool.and_eq_true, List.all_eq_true, Bool.or_eq_true] at h
    obtain ⟨⟨⟨h1, h2⟩, h4⟩, h3⟩ := h
    obtain ⟨i1, i4, i2, i3⟩ := pairsOk_spec hM h3
    have key : (∀ y ∈ x :: l, Later ops x y) ∧ ∀ o, ops[x]? = some o → ∀ e ∈ o.after, Region.binds .any e = true → e.on < ops.size := by
      cases ho : ops[x]? with
      | none => simp [ho] at h2
      | some o =>
        simp only [ho, Bool.and_eq_true] at h2
        have hz : Nat.land (bits (x :: l)) (dmask o) = 0 := Nat.eq_of_beq_eq_true h2.1
        have hlt : dmask o < 1 <<< ops.size := by have := h2.2; simp [Nat.blt] at this; omega
        refine ⟨fun y hy o' ho' e he hb hey => ?_, fun o' ho' e he hb => ?_⟩
        · rw [ho] at ho'; injection ho' with ho'; subst ho'
          have hd := dmask_spec he hb
          rw [hey] at hd
          have hy' := bits_spec.2 hy
          have : (Nat.land (bits (x :: l)) (dmask o)).testBit y = true := by
            show (bits (x :: l) &&& dmask o).testBit y = true
            rw [Nat.testBit_and, hd, hy']; rfl
          rw [hz] at this; simp at this
        · injection ho' with ho'; subst ho'
          have hd := dmask_spec he hb
          rcases Nat.lt_or_ge e.on ops.size with h | h
          · exact h
          · rw [Nat.one_shiftLeft] at hlt
            rw [Nat.testBit_lt_two_pow (Nat.lt_of_lt_of_le hlt (Nat.pow_le_pow_right (by omega) h))] at hd; cases hd
    refine ⟨List.pairwise_cons.2 ⟨fun y hy => ⟨(h1 y hy).imp (hM y x) id, key.1 y (List.mem_cons_of_mem _ hy)⟩, i1⟩, List.nodup_cons.2 ⟨fun hx => ?_, i4⟩, fun y hy => ?_, fun y hy => ?_⟩
    · rw [bits_spec.2 hx] at h4; cases h4
    · rcases List.mem_cons.1 hy with rfl | hy
      · exact key.1 y (List.mem_cons_self ..)
      · exact i2 y hy
    · rcases List.mem_cons.1 hy with rfl | hy
      · exact key.2
      · exact i3 y hy

section
variable {ops : Array Oper} {R W : List Frag} {K : Nat → Nat} {Q : Act → List Frag → Prop}
theorem Der.front (w0 : World) (hsel : ∀ (j : Nat) (o : Oper) cs b, ops[j]? = some o → o.op ≠ .select cs b) (hal : ∀ j o, ops[j]? = some o → K j = 4 → Lays P o) {i : Nat} : ∀ {l1 l2 : List Nat} {a : Act} {ph : Bool} {L : List Frag},
    (∀ x ∈ l1, turns ops K x i = true) → Der P ops R W K Q (l1 ++ i :: l2) a ph L → Der P ops R W K Q (i :: (l1 ++ l2)) a ph L
  | [], _, _, _, _, _, h => h
  | x :: l1, l2, _, _, _, ht, h => Der.turn w0 hsel hal (ht x (List.mem_cons_self ..)) (Der.tail (l' := i :: (l1 ++ l2)) (fun hd => Der.front w0 hsel hal (fun y hy => ht y (List.mem_cons_of_mem _ hy)) hd) h)

theorem Waits.listed {listed : Array Bool} (hcl : ∀ y o, ops[y]? = some o → listed.getD y true = true → ∀ e ∈ o.after, Region.binds .any e = true → listed.getD e.on false = true) {y x : Nat} (hw : Waits ops y x) :
    (∀ o, ops[y]? = some o → ∀ e ∈ o.after, Region.binds .any e = true → listed.getD e.on false = true) → listed.getD x false = true := by
  induction hw with
  | one hy he hb => intro h; exact h _ hy _ he hb
  | more hy he hb _ ih =>
    intro h
    have h1 := h _ hy _ he hb
    refine ih fun o ho => hcl _ o ho ?_
    rcases Nat.lt_or_ge (Edge.on _) listed.size with hl | hl
    · rw [Array.getD_eq_getD_getElem?] at h1 ⊢; rw [Array.getElem?_eq_getElem hl] at h1 ⊢; exact h1
    · rw [Array.getD_eq_getD_getElem?, Array.getElem?_eq_none hl]; rfl

/-- the walk's steps are carried out, in whatever order -/
theorem Der.run {n : Nat} {Q : Post} {md : Region.Mode} (hmd : md = .any) {w0 : World} (hsel : ∀ (j : Nat) (o : Oper) cs b, ops[j]? = some o → o.op ≠ .select cs b) (hal : ∀ j o, ops[j]? = some o → K j = 4 → Lays P o) :
    ∀ (fuel : Nat) (l : List Nat) (listed : Array Bool) (a : Act) (ph : Bool) (L : List Frag) (w : World), l.length = fuel → listed.size = ops.size →
      (∀ i, i ∈ l ↔ listed.getD i true = false) → l.Nodup → l.Pairwise (fun x y => (Waits ops y x ∨ turns ops K x y = true) ∧ Later ops x y) → (∀ x ∈ l, Later ops x x) → (∀ x ∈ l, ∀ o, ops[x]? = some o → ∀ e ∈ o.after, Region.binds .any e = true → e.on < ops.size) →
      (∀ y o, ops[y]? = some o → listed.getD y true = true → ∀ e ∈ o.after, Region.binds .any e = true → listed.getD e.on false = true) →
      Der P ops R W K (fun a' L' => ∃ ρ', Rep n a' ρ' ∧ Q .normal ρ' (R ++ L')) l a ph L → Sat w (R ++ bif ph then L else W ++ L) → Keep w0 w → wpAny P md ops (lift n w0 Q) fuel listed a w := by
  subst hmd
  have fin : ∀ {a : Act} {ph : Bool} {L : List Frag} {w : World}, Der P ops R W K (fun a' L' => ∃ ρ', Rep n a' ρ' ∧ Q .normal ρ' (R ++ L')) [] a ph L → Sat w (R ++ bif ph then L else W ++ L) → Keep w0 w → lift n w0 Q .normal a w := by
    intro a ph L w hd hs hk
    cases hd with
    | nil hp h =>
      obtain ⟨ρ', h1, h2⟩ := h
      exact ⟨ρ', _, h1, hs.perm (hp.append_left R), hk, h2⟩
  have noneReady : ∀ {l : List Nat} {listed : Array Bool}, (∀ i, i ∈ l ↔ listed.getD i true = false) → l = [] → Region.ready .any ops listed = [] := by
    intro l listed hl he
    subst he
    rw [List.eq_nil_iff_forall_not_mem]
    intro j hj
    have := (hl j).2 (mem_ready.1 hj).1
    cases this
  intro fuel
  induction fuel with
  | zero =>
    intro l listed a ph L w hlen _ hl _ _ _ _ _ hd hs hk
    have : l = [] := List.eq_nil_of_length_eq_zero hlen
    subst this
    exact ⟨noneReady hl rfl, fin hd hs hk⟩
  | succ fuel ih =>
    intro l listed a ph L w hlen hsz hl hnd hpw hself hrng hcl hd hs hk
    refine ⟨fun hr => ?_, fun i hi => ?_⟩
    · -- the first of what is left waits for nothing that is left
      exfalso
      cases l with
      | nil => simp at hlen
      | cons x l =>
        have hx := (hl x).1 (List.mem_cons_self ..)
        have hxs : x < ops.size := by
          rcases Nat.lt_or_ge x listed.size with h | h
          · omega
          · rw [Array.getD_eq_getD_getElem?, Array.getElem?_eq_none h] at hx; cases hx
        have : x ∈ Region.ready .any ops listed := mem_ready.2 ⟨hx, ops[x], Array.getElem?_eq_getElem hxs, fun e he hb => by
          have hlt := hrng x (List.mem_cons_self ..) _ (Array.getElem?_eq_getElem hxs) e he hb
          cases hq : listed.getD e.on false with
          | true => rfl
          | false =>
            have hq' : listed.getD e.on true = false := by
              rw [Array.getD_eq_getD_getElem?, Array.getElem?_eq_getElem (by omega)] at hq ⊢; exact hq
            have hm := (hl e.on).2 hq'
            rcases List.mem_cons.1 hm with h | h
            · exact absurd h (hself x (List.mem_cons_self ..) _ (Array.getElem?_eq_getElem hxs) e he hb)
            · exact absurd rfl (((List.pairwise_cons.1 hpw).1 e.on h).2 _ (Array.getElem?_eq_getElem hxs) e he hb)⟩
        rw [hr] at this; cases this
    · obtain ⟨hun, oi, hoi, hall⟩ := mem_ready.1 hi
      obtain ⟨l1, l2, rfl⟩ := List.append_of_mem ((hl i).2 hun)
      have hturn : ∀ x ∈ l1, turns ops K x i = true := fun x hx => by
        rcases ((List.pairwise_append.1 hpw).2.2 x hx i (List.mem_cons_self ..)).1 with h | h
        · exfalso
          have h1 := h.listed hcl (fun o ho => by rw [hoi] at ho; injection ho with ho; subst ho; exact hall)
          have h2 := (hl x).1 (List.mem_append_left _ hx)
          rcases Nat.lt_or_ge x listed.size with hlt | hge
          · rw [Array.getD_eq_getD_getElem?, Array.getElem?_eq_getElem hlt] at h1 h2; simp at h1 h2; rw [h1] at h2; cases h2
          · rw [Array.getD_eq_getD_getElem?, Array.getElem?_eq_none hge] at h1; cases h1
        · exact h
      have hd' := Der.front w hsel hal hturn hd
      have hlt : i < ops.size := (Array.getElem?_eq_some_iff.1 hoi).1
      have hgd : ∀ j b, (listed.setIfInBounds i true).getD j b = if j = i then true else listed.getD j b := fun j b => by
        rw [Array.getD_eq_getD_getElem?, Array.getElem?_setIfInBounds, Array.getD_eq_getD_getElem?]
        by_cases hji : j = i
        · subst hji; simp [hsz, hlt]
        · simp [hji, Ne.symm hji]
      have hsubl : (l1 ++ l2).Sublist (l1 ++ i :: l2) := List.Sublist.append_left (List.sublist_cons_self ..) _
      have rest : ∀ (a' : Act) (w' : World) (ph' : Bool) (L' : List Frag), Der P ops R W K (fun a' L' => ∃ ρ', Rep n a' ρ' ∧ Q .normal ρ' (R ++ L')) (l1 ++ l2) a' ph' L' → Sat w' (R ++ bif ph' then L' else W ++ L') → Keep w0 w' →
          wpAny P .any ops (lift n w0 Q) fuel (listed.setIfInBounds i true) a' w' := fun a' w' ph' L' hd hs hk => by
        refine ih (l1 ++ l2) _ a' ph' L' w' (by simp at hlen ⊢; omega) (by simp [hsz]) (fun j => ?_) ?_ ?_ (fun x hx => hself x (hsubl.subset hx)) (fun x hx => hrng x (hsubl.subset hx)) ?_ hd hs hk
        · rw [hgd]
          have hni : i ∉ l1 ++ l2 := by
            have := List.nodup_append.1 hnd
            intro hm
            rcases List.mem_append.1 hm with hm | hm
            · exact this.2.2 i hm i (List.mem_cons_self ..) rfl
            · exact (List.nodup_cons.1 this.2.1).1 hm
          by_cases hji : j = i
          · subst hji; simp [hni]
          · rw [if_neg hji, ← hl j]; simp [hji]
        · exact hnd.sublist hsubl
        · exact hpw.sublist hsubl
        · intro y o ho hy e he hb
          rw [hgd] at hy ⊢
          by_cases hei : e.on = i
          · rw [if_pos hei]
          · rw [if_neg hei]
            by_cases hyi : y = i
            · subst hyi; rw [hoi] at ho; injection ho with ho; subst ho; exact hall e he hb
            · rw [if_neg hyi] at hy; exact hcl y o ho hy e he hb
      unfold wpOp
      simp only [hoi]
      cases hd' with
      | ld hi' hK hw h k =>
        rw [hoi] at hi'; injection hi' with hi'; subst hi'
        rw [if_pos hw]; left; unfold Oper.wp; rw [h w hs.left]; exact rest _ _ _ _ k hs hk
      | rd hi' hK hw h k =>
        rw [hoi] at hi'; injection hi' with hi'; subst hi'
        have hs' : Sat w ((R ++ W) ++ L) := by rw [List.append_assoc]; exact hs
        rw [if_pos hw]; left; unfold Oper.wp; rw [h w hs'.left]; exact rest _ _ _ _ k hs hk
      | no hi' hw k =>
        rw [hoi] at hi'; injection hi' with hi'; subst hi'
        rw [if_neg (by rw [hw]; simp)]; exact rest _ _ _ _ k hs hk
      | nb hi' hK hw h k =>
        rw [hoi] at hi'; injection hi' with hi'; subst hi'
        rw [if_pos hw]; left; unfold Oper.wp; rw [h w]
        refine rest _ _ ph _ (k w.heap.size) ((hs.allocCells _ _).perm ?_) (hk.trans (Keep.alloc w _))
        cases ph
        · show (_ :: (R ++ (W ++ L))).Perm (R ++ (W ++ _ :: L))
          rw [← List.append_assoc, ← List.append_assoc]
          exact (List.perm_middle).symm
        · exact (List.perm_middle).symm
      | ef hi' hK hw h k =>
        rw [hoi] at hi'; injection hi' with hi'; subst hi'
        obtain ⟨v, L', w', g1, g2, g3, g4⟩ := h w [] (by simpa using hs)
        have := rest _ w' true L' (k v L' g2) (by simpa using g3) (hk.trans g4)
        rw [if_pos hw]; left; unfold Oper.wp
        rcases g1 with g1 | ⟨g1, rfl⟩ <;> rw [g1] <;> exact this
      | cl hi' hK hw h hc k =>
        rw [hoi] at hi'; injection hi' with hi'; subst hi'
        rw [if_pos hw]; left; unfold Oper.wp; rw [h w]
        refine (hc w [] (by simpa using hs)).mono fun e w' ⟨v, L', he, g2, g3, g4⟩ => ?_
        subst he
        exact rest _ w' true L' (k v L' g2) (by simpa using g3) (hk.trans g4)
/-- the walk of a drawn region, at what is known of the registers -/
def TD (P : Program) (n : Nat) (ops : Array Oper) (R W : List Frag) (K : Nat → Nat) (Q : Post) (l : List Nat) (ρ : Regs) (ph : Bool) (L : List Frag) : Prop :=
  ∀ a, Rep n a ρ → Der P ops R W K (fun a' L' => ∃ ρ', Rep n a' ρ' ∧ Q .normal ρ' (R ++ L')) l a ph L

theorem all_of_bits {c : List Nat} {n : Nat} (h1 : bits c = 1 <<< n - 1) : ∀ i, i ∈ c ↔ i < n := fun i => by
  rw [← bits_spec, h1, Nat.one_shiftLeft, Nat.testBit_two_pow_sub_one]; simp

theorem TC.draw {n : Nat} {Q : Post} {id : Nat} {ρ : Regs} {L : List Frag} (ks c : List Nat) (hm : P.follows .mixedOrders = true) (hchk : chk ops ks c = true) (hal : ∀ j o, ops[j]? = some o → kof ks j = 4 → Lays P o) (hL : L.Perm (R ++ W))
    (h : TD P n ops R W (kof ks) Q c ρ false []) : TC P n Q (.region id ops true) ρ L := fun a w hr hs => by
  simp only [chk, Bool.and_eq_true] at hchk
  obtain ⟨⟨⟨h1, h2⟩, h3⟩, h4⟩ := hchk
  have hn := all_of_bits (Nat.eq_of_beq_eq_true h3)
  obtain ⟨p1, p4, p2, p3⟩ := pairsOk_spec (masks_good c [] (fun i x hx => by simp [mget] at hx)) h2
  refine wp_region_any hm (Der.run rfl (Region.noSelect_spec h1) hal ops.size c _ a false [] _ (Nat.eq_of_beq_eq_true h4) (by simp) (fun i => ?_) p4 p1 p2 p3 ?_ (h a hr) ?_ (Keep.drawn w _))
  · rw [hn, Array.getD_eq_getD_getElem?]
    by_cases hi : i < ops.size
    · simp [hi]
    · simp [hi]
  · intro y o ho hy
    have hlt := (Array.getElem?_eq_some_iff.1 ho).1
    rw [Array.getD_eq_getD_getElem?] at hy
    simp [hlt] at hy
  · have := (hs.perm hL).drawn (w.drawn + 1)
    simpa using this
end
end Go.SL
end
section
/- The rules of a drawn region's walk, at the registers as far as they are known. -/
namespace Go.SL
open Go.RowKit
variable {P : Program} {n : Nat}
section
variable {ops : Array Oper} {R W : List Frag} {K : Nat → Nat} {Q : Post} {i : Nat} {l : List Nat} {o : Oper} {ρ : Regs} {ph : Bool} {L : List Frag}

theorem TD.nil (h : Q .normal ρ (R ++ (bif ph then L else W ++ L))) : TD P n ops R W K Q [] ρ ph L := fun _ hr => .nil (.refl _) ⟨ρ, hr, h⟩
theorem TD.ld {v : Value} (hi : ops[i]? = some o) (hK : Nat.ble (K i) 2 = true) (h : LD P ρ R o v) (hw : Wants n ops ρ o true) (hd : dok n o.dst = true) (k : TD P n ops R W K Q l (dpush o.dst v ρ) ph L) : TD P n ops R W K Q (i :: l) ρ ph L := fun a hr =>
  .ld hi (Nat.le_of_ble_eq_true hK) (hw a hr) (fun w hs => h n a w hr hs) (k _ (hr.put hd v))
theorem TD.rd {v : Value} (hi : ops[i]? = some o) (hK : K i = 1) (h : LD P ρ (R ++ W) o v) (hw : Wants n ops ρ o true) (hd : dok n o.dst = true) (k : TD P n ops R W K Q l (dpush o.dst v ρ) false L) : TD P n ops R W K Q (i :: l) ρ false L := fun a hr =>
  .rd hi hK (hw a hr) (fun w hs => h n a w hr hs) (k _ (hr.put hd v))
theorem TD.no (hi : ops[i]? = some o) (hw : Wants n ops ρ o false) (hd : dok n o.dst = true) (k : TD P n ops R W K Q l (dpush o.dst undef ρ) ph L) : TD P n ops R W K Q (i :: l) ρ ph L := fun a hr =>
  .no hi (hw a hr) (k _ (hr.put hd undef))
theorem TD.nb {T : TypeId} {z : Array Value} {v : Nat → Value} (hi : ops[i]? = some o) (hK : (Nat.beq (K i) 3 || Nat.beq (K i) 4) = true) (h : NB P ρ [] o T z v) (hw : Wants n ops ρ o true) (hd : dok n o.dst = true)
    (k : ∀ b, TD P n ops R W K Q l (dpush o.dst (v b) ρ) ph (blk b T z :: L)) : TD P n ops R W K Q (i :: l) ρ ph L := fun a hr =>
  .nb hi (by
    rcases Bool.or_eq_true_iff.1 hK with h | h
    · exact .inl (Nat.eq_of_beq_eq_true h)
    · exact .inr (Nat.eq_of_beq_eq_true h)) (hw a hr) (fun w => h n a w hr (Sat.nil w)) (fun b => k b _ (hr.put hd _))
/-- what changes: a part A of the memory -/
theorem TD.ef {v : Value} {A A' F : List Frag} (hi : ops[i]? = some o) (hK : K i = 2) (hL : (bif ph then L else W ++ L).Perm (A ++ F)) (hw : Wants n ops ρ o true) (hd : dok n o.dst = true)
    (hA : ∀ {G : List Frag}, EF P ρ (A ++ G) o v (A' ++ G)) (k : TD P n ops R W K Q l (dpush o.dst v ρ) true (A' ++ F)) : TD P n ops R W K Q (i :: l) ρ ph L := fun a hr =>
  .ef (E := fun u L' => u = v ∧ L' = A' ++ F) hi hK (hw a hr) (fun w G hs => by
    have hp : (R ++ (bif ph then L else W ++ L) ++ G).Perm (A ++ (R ++ F ++ G)) := by
      refine ((hL.append_left R).append_right G).trans ?_
      simp only [List.append_assoc]
      exact List.perm_append_comm_assoc ..
    obtain ⟨w', h1, h2, h3⟩ := hA n a w hr (hs.perm hp)
    refine ⟨v, _, w', h1, ⟨rfl, rfl⟩, h2.perm ?_, h3⟩
    simp only [List.append_assoc]
    exact List.perm_append_comm_assoc ..) (fun u L' ⟨h1, h2⟩ => by subst h2; subst h1; exact k _ (hr.put hd _))
theorem TD.cl {f : Nat} {args : List Value} {pre F : List Frag} {post : Value → List Frag → Prop} (hi : ops[i]? = some o) (hK : K i = 2) (hc : CL P ρ o f args) (hf : Fn P f args pre post)
    (hL : (R ++ (bif ph then L else W ++ L)).Perm (pre ++ F)) (hw : Wants n ops ρ o true) (hd : dok n o.dst = true)
    (k : ∀ v L', post v L' → ∃ L'', (L' ++ F).Perm (R ++ L'') ∧ TD P n ops R W K Q l (dpush o.dst v ρ) true L'') : TD P n ops R W K Q (i :: l) ρ ph L := fun a hr =>
  .cl (E := fun v L'' => ∃ L', post v L' ∧ (L' ++ F).Perm (R ++ L'') ∧ TD P n ops R W K Q l (dpush o.dst v ρ) true L'') hi hK (hw a hr) (fun w => hc n a w hr) (fun w G hs => by
    have hs' : Sat w (pre ++ (F ++ G)) := hs.perm (by rw [← List.append_assoc]; exact hL.append_right G)
    refine (hf w (F ++ G) hs').mono fun e w' ⟨v, L', he, hp, hs2, hk⟩ => ?_
    obtain ⟨L'', h1, h2⟩ := k v L' hp
    exact ⟨v, L'', he, ⟨L', hp, h1, h2⟩, hs2.perm (by rw [← List.append_assoc]; exact h1.append_right G), hk⟩) (fun v L'' ⟨L', _, _, h⟩ => h _ (hr.put hd v))
/-- the guard isn't known: both ways -/
theorem TD.split {j : Nat} {want b : Bool} {t : Nat} (hi : ops[i]? = some o) (hg : o.guard = some (j, want)) (hj : (ops[j]?).bind (·.dst) = some t) (hv : rget ρ t = some (.bool b)) (hd : dok n o.dst = true)
    (h1 : b = want → TD P n ops R W K Q (i :: l) ρ ph L) (h2 : b = (!want) → TD P n ops R W K Q l (dpush o.dst undef ρ) ph L) : TD P n ops R W K Q (i :: l) ρ ph L := by
  by_cases h : b = want
  · exact h1 h
  · have hb : b = !want := by cases b <;> cases want <;> simp_all
    exact TD.no hi (Wants.no hg hj hv hb) hd (h2 hb)
end
end Go.SL
end
section
/- Slices, calls, whole functions. -/
namespace Go.SL
open Go.RowKit
variable {P : Program}
section
variable {ρ : Regs} {L : List Frag} {d : Option Tmp} {t : TypeId} {p : String} {af : Array Edge} {g : Option (Nat × Bool)}

/-! ### slices: registers alone -/
theorem LD.lenS {x : Operand} {ts : Array TypeId} {T e n c : Nat} {q : Option Addr} (h : rev ρ x = some (.slice q n c)) (ht : ts[0]? = some T) (hu : P.underlying T = some (.slice e)) :
    LD P ρ L ⟨d, .call ⟨.builtin .len, #[x], ts⟩, t, p, af, g⟩ (.int .i64 n) := fun m a w hr _ => by
  simp [execOp, resolve, invoke, builtin, Builtin.len_, hr.eval h, ht, run_underlying hu, goInt]
theorem LD.capS {x : Operand} {ts : Array TypeId} {T e n c : Nat} {q : Option Addr} (h : rev ρ x = some (.slice q n c)) (ht : ts[0]? = some T) (hu : P.underlying T = some (.slice e)) :
    LD P ρ L ⟨d, .call ⟨.builtin .cap, #[x], ts⟩, t, p, af, g⟩ (.int .i64 c) := fun m a w hr _ => by
  simp [execOp, resolve, invoke, builtin, Builtin.cap_, hr.eval h, ht, run_underlying hu, goInt]
theorem LD.indexAddr {T e k n c b o : Nat} [hs : SliceT P T e k] {x y : Operand} {q : Option Addr} {i : Int} {ik : IntKind} (hx : rev ρ x = some (.slice q n c)) (hy : rev ρ y = some (.int ik i)) (hq : q = some ⟨b, o, none⟩) (hi : 0 ≤ i ∧ i < n) :
    LD P ρ L ⟨d, .indexAddr T x y, t, p, af, g⟩ (.pointer (some ⟨b, o + i.toNat * k, none⟩)) := fun m a w hr _ => by
  subst hq
  simp [execOp, Instr.indexAt, hr.eval hx, hr.eval hy, asIntOf, run_underlying hs.und, hi, hs.size, Addr.add_none]
theorem LD.sliceS {T e k n c : Nat} [hs : SliceT P T e k] {x : Operand} {lo hi : Option Operand} {q : Option Addr} {l h : Int} (hx : rev ρ x = some (.slice q n c))
    (hl : match lo with | none => l = 0 | some y => rev ρ y = some (.int .i64 l)) (hh : match hi with | none => h = n | some y => rev ρ y = some (.int .i64 h)) (h1 : 0 ≤ l ∧ l ≤ h ∧ h ≤ c) (hn : hi = none → l ≤ n) :
    LD P ρ L ⟨d, .slice T x lo hi none, t, p, af, g⟩ (.slice (if (c : Int) = l then q else q.map (·.add (l.toNat * k))) (h.toNat - l.toNat) (c - l.toNat)) := fun m a w hr _ => by
  have key : ∀ (lv hv : Option Value), lv = lo.map a.eval → hv = hi.map a.eval → (Instr.sliceBounds true n c lv hv none).run P w = .ok (l.toNat, h.toNat, c) w := by
    rintro _ _ rfl rfl
    unfold Instr.sliceBounds
    cases hi with
    | none =>
      subst hh
      cases lo with
      | none => subst hl; simp
      | some y => simp [hr.eval hl, Instr.sliceBound, asIntOf, h1.1, hn rfl]
    | some z =>
      have hz : 0 ≤ h ∧ h ≤ c := ⟨by omega, h1.2.2⟩
      cases lo with
      | none => subst hl; simp [hr.eval hh, Instr.sliceBound, asIntOf, hz]
      | some y =>
        simp [hr.eval hl, hr.eval hh, Instr.sliceBound, asIntOf, hz, h1.1]
        intro hm; omega
  have hc : (c = l.toNat) ↔ ((c : Int) = l) := by omega
  have k2 := key _ _ rfl rfl
  simp only [execOp, Instr.sliceAt, Option.map_none, hr.eval hx, Sem.run_bind, run_underlying hs.und, Result.andThen_ok, Instr.slice, k2, hs.size, hc]
  rfl

/-! ### structs and arrays that are built -/
class StructT (P : Program) (t : Nat) (ps : outParam (Array (Nat × Nat))) : Prop where
  run : ∀ w, ∃ fs : Array Field, (underlying t).run P w = .ok (.struct fs) w ∧ (fs.mapM fun f => (do pure (f.offset, ← sizeOf f.type) : Sem (Nat × Nat))).run P w = .ok ps w
theorem LD.buildS {T : TypeId} {z cs : Array Value} {ps : Array (Nat × Nat)} [hz : ZeroV P T z] [hT : StructT P T ps] {parts : Array (Nat × Operand)} {vs : List (Nat × Value)}
    (hv : ∀ n a, Rep n a ρ → (parts.map fun (i, x) => (i, a.eval x)).toList = vs) (hf : Instr.fill (ps[·]?) z vs = some cs) : LD P ρ L ⟨d, .build T parts, t, p, af, g⟩ (.agg cs) := fun m a w hr _ => by
  obtain ⟨v, h1, h2⟩ := hz.run w
  obtain ⟨fs, h3, h4⟩ := hT.run w
  have hv' := hv m a hr
  simp only [execOp, Instr.build, Sem.run_bind, h1, Result.andThen_ok, h2, h3, h4, hv', hf]
  rfl
theorem LD.buildA {T len e k : Nat} {z cs : Array Value} [hz : ZeroV P T z] [hT : ArrT P T len e k] {parts : Array (Nat × Operand)} {vs : List (Nat × Value)}
    (hv : ∀ n a, Rep n a ρ → (parts.map fun (i, x) => (i, a.eval x)).toList = vs) (hf : Instr.fill (fun i => some (i * k, k)) z vs = some cs) : LD P ρ L ⟨d, .build T parts, t, p, af, g⟩ (.agg cs) := fun m a w hr _ => by
  obtain ⟨v, h1, h2⟩ := hz.run w
  have hv' := hv m a hr
  simp only [execOp, Instr.build, Sem.run_bind, h1, Result.andThen_ok, h2, run_underlying hT.und, hT.size, hv', hf]
  rfl
/-- the parts' values -/
def revs (ρ : Regs) : List (Nat × Operand) → Option (List (Nat × Value))
  | [] => some []
  | (i, x) :: l => match rev ρ x, revs ρ l with | some v, some vs => some ((i, v) :: vs) | _, _ => none
theorem revs_eval {n : Nat} {a : Act} (hr : Rep n a ρ) : ∀ {l : List (Nat × Operand)} {vs : List (Nat × Value)}, revs ρ l = some vs → l.map (fun q => (q.1, a.eval q.2)) = vs
  | [], vs, h => by simp [revs] at h; simp [h]
  | (i, x) :: l, vs, h => by
    unfold revs at h
    cases hx : rev ρ x with
    | none => simp [hx] at h
    | some v =>
      cases hl : revs ρ l with
      | none => simp [hx, hl] at h
      | some us =>
        simp [hx, hl] at h
        subst h
        simp [hr.eval hx, revs_eval hr hl]
theorem parts_of {parts : List (Nat × Operand)} {vs : List (Nat × Value)} (h : revs ρ parts = some vs) : ∀ n a, Rep n a ρ → (parts.toArray.map fun (i, x) => (i, a.eval x)).toList = vs := fun n a hr => by
  have := revs_eval hr h
  simpa using this
/-- cells, over and over -/
def rep : Nat → List Value → List Value
  | 0, _ => []
  | n + 1, z => z ++ rep n z
theorem NB.buildSlice {T e k len : Nat} {z cs : Array Value} [hT : SliceT P T e k] [hz : ZeroV P e z] {parts : Array (Nat × Operand)} {vs : List (Nat × Value)}
    (hv : ∀ n a, Rep n a ρ → (parts.map fun (i, x) => (i, a.eval x)).toList = vs) (hk : 0 < len * k ∧ len * k ≤ 16777216) (hf : Instr.fill (fun i => some (i * k, k)) ((Array.range (len * k)).map (z[· % z.size]!)) vs = some cs) :
    NB P ρ L ⟨d, .buildSlice T len parts, t, p, af, g⟩ e cs (fun b => .slice (some ⟨b, 0, none⟩) len len) := fun m a w hr _ => by
  obtain ⟨v, h1, h2⟩ := hz.run w
  have hv' := hv m a hr
  have g1 : ¬ (len * k > 2 ^ 24) := by omega
  have g2 : ¬ (len * k = 0) := by omega
  simp only [execOp, Instr.buildSlice, Sem.run_bind, run_underlying hT.und, Result.andThen_ok, hT.size, Sem.run_ite, if_neg g1, if_neg g2, h1, Sem.run_pure, h2, hv', hf, newRow]
  rfl

/-! ### calls -/
class FnAt (P : Program) (f : Nat) : Prop where
  run : ∀ (args : Array Value) (w : World), (callFunc f args).run P w = .ok (.enter f args) w
def revl (ρ : Regs) : List Operand → Option (List Value)
  | [] => some []
  | x :: l => match rev ρ x, revl ρ l with | some v, some vs => some (v :: vs) | _, _ => none
theorem revl_eval {n : Nat} {a : Act} (hr : Rep n a ρ) : ∀ {l : List Operand} {vs : List Value}, revl ρ l = some vs → l.map a.eval = vs
  | [], vs, h => by simp [revl] at h; simp [h]
  | x :: l, vs, h => by
    unfold revl at h
    cases hx : rev ρ x with
    | none => simp [hx] at h
    | some v =>
      cases hl : revl ρ l with
      | none => simp [hx, hl] at h
      | some us =>
        simp [hx, hl] at h
        subst h
        simp [hr.eval hx, revl_eval hr hl]
theorem CL.func {f : Nat} [hf : FnAt P f] {xs : List Operand} {vs : List Value} {ts : Array TypeId} (h : revl ρ xs = some vs) : CL P ρ ⟨d, .call ⟨.value (.func f), xs.toArray, ts⟩, t, p, af, g⟩ f vs := fun n a w hr => by
  have := revl_eval hr h
  simp [execOp, resolve, Act.eval, Deferred.ofValue, invoke, this, hf.run]
theorem CL.clos {f : Nat} [hf : FnAt P f] {c : Operand} {first cap : List Value} {xs : List Operand} {vs : List Value} {ts : Array TypeId} (hc : rev ρ c = some (.func (.func f) first.toArray cap.toArray)) (h : revl ρ xs = some vs) :
    CL P ρ ⟨d, .call ⟨.value c, xs.toArray, ts⟩, t, p, af, g⟩ f (first ++ vs ++ cap) := fun n a w hr => by
  have := revl_eval hr h
  simp [execOp, resolve, hr.eval hc, Deferred.ofValue, invoke, this, hf.run]
end
end Go.SL
end
section
/- Slices that belong to somebody; append. -/
namespace Go.SL
open Go.RowKit
variable {P : Program}

def nof : Frag := fun _ => none
theorem Sat.nof {w : World} {L : List Frag} (h : Sat w L) : Sat w (nof :: L) :=
  ⟨fun r hr b o hb => by
    rcases List.mem_cons.1 hr with rfl | hr
    · cases hb
    · exact h.sub r hr b o hb, List.pairwise_cons.2 ⟨fun _ _ _ => .inl rfl, h.dis⟩⟩
theorem Sat.drop {w : World} {r : Frag} {L : List Frag} (h : Sat w (r :: L)) : Sat w L := h.of_sublist (List.sublist_cons_self ..)

/-- what a slice leads to, where it is only read -/
structure Rd (r : Frag) (q : Option Addr) (k : Nat) (es : List (List Value)) : Prop where
  len : ∀ e ∈ es, e.length = k
  one : ∀ e ∈ es, ∀ v ∈ e, v.oneCell' = true
  at_ : es = [] ∨ ∃ b o cs T fr, q = some ⟨b, o, none⟩ ∧ r b = some (.cells cs T fr) ∧ ∀ j v, es.flatten[j]? = some v → cs[o + j]? = some v

/-- a slice that belongs to somebody -/
def IsSl (T k : Nat) (es : List (List Value)) (v : Value) (r : Frag) : Prop :=
  (∀ e ∈ es, e.length = k) ∧ (∀ e ∈ es, ∀ v ∈ e, v.oneCell' = true) ∧
  ((es = [] ∧ v = .slice none 0 0 ∧ r = nof) ∨ ∃ b c rest, v = .slice (some ⟨b, 0, none⟩) es.length c ∧ r = blk b T (es.flatten ++ rest).toArray ∧ es.length ≤ c ∧ rest.length = (c - es.length) * k)

theorem flatten_len {k : Nat} : ∀ {es : List (List Value)}, (∀ e ∈ es, e.length = k) → es.flatten.length = es.length * k
  | [], _ => by simp
  | e :: es, h => by
    rw [List.flatten_cons, List.length_append, h e (List.mem_cons_self ..), flatten_len (fun x hx => h x (List.mem_cons_of_mem _ hx)), List.length_cons, Nat.succ_mul]; omega
theorem flatten_one {es : List (List Value)} (h : ∀ e ∈ es, ∀ v ∈ e, v.oneCell' = true) : ∀ v ∈ es.flatten, v.oneCell' = true := fun v hv => by
  obtain ⟨e, he, hve⟩ := List.mem_flatten.1 hv
  exact h e he v hve
theorem flatten_get {k : Nat} : ∀ {es : List (List Value)} {i j : Nat} {e : List Value} {v : Value}, (∀ e ∈ es, e.length = k) → es[i]? = some e → e[j]? = some v → es.flatten[i * k + j]? = some v
  | [], i, j, e, v, _, h, _ => by simp at h
  | x :: es, 0, j, e, v, hl, h, hj => by
    simp at h; subst h
    have : j < x.length := (List.getElem?_eq_some_iff.1 hj).1
    simp [List.flatten_cons, List.getElem?_append_left this, hj]
  | x :: es, i + 1, j, e, v, hl, h, hj => by
    have hx := hl x (List.mem_cons_self ..)
    rw [List.flatten_cons, List.getElem?_append_right (by rw [hx, Nat.succ_mul]; omega)]
    have : (i + 1) * k + j - x.length = i * k + j := by rw [hx, Nat.succ_mul]; omega
    rw [this]
    exact flatten_get (fun y hy => hl y (List.mem_cons_of_mem _ hy)) (by simpa using h) hj

theorem IsSl.rd {T k : Nat} {es : List (List Value)} {v : Value} {r : Frag} (h : IsSl T k es v r) : ∃ q c, v = .slice q es.length c ∧ Rd r q k es := by
  obtain ⟨h1, h2, h3⟩ := h
  rcases h3 with ⟨rfl, rfl, rfl⟩ | ⟨b, c, rest, rfl, rfl, _, _⟩
  · exact ⟨none, 0, rfl, h1, h2, .inl rfl⟩
  · refine ⟨_, c, rfl, h1, h2, .inr ⟨b, 0, _, T, _, rfl, blk_same .., fun j v hj => ?_⟩⟩
    have : j < es.flatten.length := (List.getElem?_eq_some_iff.1 hj).1
    simp [List.getElem?_append_left this, hj]
theorem IsSl.nil (T k : Nat) : IsSl T k [] (.slice none 0 0) nof := ⟨fun _ h => (by cases h), fun _ h => (by cases h), .inl ⟨rfl, rfl, rfl⟩⟩

class ElemT (P : Program) (e : Nat) (k bytes : outParam Nat) (z : outParam Value) : Prop where
  info : ∃ i, P.info? e = some i ∧ i.size = k ∧ i.bytes = bytes ∧ i.zero = some z
  zlen : z.cells.size = k

theorem Rd.firstCells {w : World} {r : Frag} {q : Option Addr} {k c : Nat} {es : List (List Value)} (h : Rd r q k es) (hs : ∀ b o, r b = some o → w.heap[b]? = some o) :
    (Builtin.firstCells k es.length (.slice q es.length c)).run P w = .ok es.flatten.toArray w := by
  cases q with
  | none =>
    rcases h.at_ with rfl | ⟨b, o, cs, T, fr, hq, _⟩
    · simp [Builtin.firstCells]
    · cases hq
  | some a =>
    rcases h.at_ with rfl | ⟨b, o, cs, T, fr, hq, hr, hc⟩
    · simp [Builtin.firstCells, loadCells, loadCellsFrom]
    · injection hq with hq; subst hq
      have := run_loadCells_list (P := P) w ⟨b, o, none⟩ es.flatten (fun j v hv => by
        rw [Addr.add_none, cell_of_row w b (o + j) cs T fr (hs b _ hr)]; exact hc j v hv)
      rw [flatten_len h.len] at this
      exact this
theorem Rd.src {w : World} {r : Frag} {q : Option Addr} {k c tx e' : Nat} {es : List (List Value)} (h : Rd r q k es) (hs : ∀ b o, r b = some o → w.heap[b]? = some o) (hk : P.underlying tx = some (.slice e')) :
    Src P k tx (.slice q es.length c) es.length es.flatten w :=
  ⟨.inl ⟨e', hk⟩, fun _ => rfl, h.firstCells hs, h.firstCells (w := w.drew) hs, flatten_len h.len, flatten_one h.one⟩

theorem zeroCells_size (z : Array Value) (n : Nat) : (Builtin.zeroCells z n).size = n * z.size := by simp [Builtin.zeroCells]

section
variable {ρ : Regs} {L : List Frag} {d : Option Tmp} {t : TypeId} {p : String} {af : Array Edge} {g : Option (Nat × Bool)}
theorem EX.append {T e k bytes : Nat} {z : Value} [hS : SliceT P T e k] [hE : ElemT P e k bytes z] {x y : Operand} {v : Value} {q2 : Option Addr} {c2 : Nat} {es es2 : List (List Value)} {rs r2 : Frag} {ts : Array TypeId}
    (hx : rev ρ x = some v) (hy : rev ρ y = some (.slice q2 es2.length c2)) (ht : ts = #[T, T]) (h1 : IsSl e k es v rs) (h2 : Rd r2 q2 k es2) (hr2 : r2 ∈ rs :: L) (hb : 2 * (es.length + es2.length) * bytes ≤ 281474976710656) (hb2 : es.length + es2.length ≤ 281474976710656) :
    EX P ρ (rs :: L) ⟨d, .call ⟨.builtin .append, #[x, y], ts⟩, t, p, af, g⟩ (fun v' L' => ∃ r', L' = r' :: L ∧ IsSl e k (es ++ es2) v' r') := fun n a w hr hs => by
  subst ht
  obtain ⟨i, i1, i2, i3, i4⟩ := hE.info
  have hlen : ∀ x ∈ es ++ es2, x.length = k := fun x hx => by
    rcases List.mem_append.1 hx with hx | hx
    · exact h1.1 x hx
    · exact h2.len x hx
  have hone : ∀ x ∈ es ++ es2, ∀ v ∈ x, v.oneCell' = true := fun x hx => by
    rcases List.mem_append.1 hx with hx | hx
    · exact h1.2.1 x hx
    · exact h2.one x hx
  have hsrc : Src P i.size T (.slice q2 es2.length c2) es2.length es2.flatten w := by
    rw [i2]; exact h2.src (hs.sub r2 hr2) hS.und
  obtain ⟨q, c, hv, hrd⟩ := h1.rd
  have grow : es.length + es2.length > c → ∃ v' L' w', (Builtin.append_ #[T, T] t #[v, .slice q2 es2.length c2]).run P w = .ok v' w' ∧ (∃ r', L' = r' :: L ∧ IsSl e k (es ++ es2) v' r') ∧ Sat w' L' ∧ Keep w w' := fun hg => by
    subst hv
    have hn := nextslicecap_le hg
    have := run_append_grow_src w T T t e i z hS.und i1 i4 q es.length c es.flatten (by rw [i2]; exact hrd.firstCells (w := w.drew) (hs.sub rs (List.mem_cons_self ..))) _ es2.length es2.flatten hsrc hg (by omega)
      (Nat.le_trans (Nat.mul_le_mul_right _ hn) (by rw [i3]; exact hb))
    have hcap := grownCap_ge w (es.length + es2.length) c e
    refine ⟨_, _, _, this, ⟨blk w.heap.size e _, rfl, hlen, hone, .inr ⟨w.heap.size, grownCap w (es.length + es2.length) c e, (Builtin.zeroCells z.cells (grownCap w (es.length + es2.length) c e - (es.length + es2.length))).toList, by simp, ?_, by simpa using hcap, ?_⟩⟩, (hs.drawn (w.drawn + 1)).drop.allocCells _ e, ⟨rfl, rfl, rfl, by simp⟩⟩
    · congr 1; simp [List.append_assoc]
    · simp [zeroCells_size, hE.zlen]
  have fin : (∃ v' L' w', (Builtin.append_ #[T, T] t #[v, .slice q2 es2.length c2]).run P w = .ok v' w' ∧ (∃ r', L' = r' :: L ∧ IsSl e k (es ++ es2) v' r') ∧ Sat w' L' ∧ Keep w w') → ∃ v' L' w', (execOp a.eval ⟨d, .call ⟨.builtin .append, #[x, y], #[T, T]⟩, t, p, af, g⟩).run P w = .ok (.value v') w' ∧ (∃ r', L' = r' :: L ∧ IsSl e k (es ++ es2) v' r') ∧ Sat w' L' ∧ Keep w w' := by
    rintro ⟨v', L', w', g1, g2⟩
    exact ⟨v', L', w', by simp [execOp, resolve, invoke, builtin, hr.eval hx, hr.eval hy, g1], g2⟩
  apply fin
  obtain ⟨-, -, h3⟩ := h1
  rcases h3 with ⟨rfl, rfl, rfl⟩ | ⟨b, c', rest, hv', rfl, hle, hrest⟩
  · injection hv with e1 e2 e3
    subst e1; subst e3
    rcases Nat.eq_zero_or_pos es2.length with h0 | h0
    · have : es2 = [] := List.eq_nil_of_length_eq_zero h0
      subst this
      refine ⟨.slice none 0 0, _, w, ?_, ⟨nof, rfl, by simpa using IsSl.nil e k⟩, hs, Keep.refl w⟩
      have := hsrc.cells
      simp only [List.length_nil, List.flatten_nil] at this
      simp [Builtin.append_, run_underlying hS.und, sizeOf, typeInfo, i1, Builtin.lenOf, this]
    · exact grow (by simpa using h0)
  · subst hv
    injection hv' with e1 e2 e3
    subst e1; subst e3
    rcases Nat.lt_or_ge c (es.length + es2.length) with hg | hroom
    · exact grow hg
    · have hb' : w.heap[b]? = some (.cells (es.flatten ++ rest).toArray e (0, 0)) := hs.sub _ (List.mem_cons_self ..) b _ (blk_same ..)
      have hfl := flatten_len (k := k) (es := es) (fun x hx => hlen x (List.mem_append_left _ hx))
      have hfl2 := flatten_len h2.len
      have hsz : es.length * k + es2.flatten.length ≤ (es.flatten ++ rest).length := by
        rw [List.length_append, hfl, hfl2, hrest]
        have : es2.length * k ≤ (c - es.length) * k := Nat.mul_le_mul_right k (by omega)
        omega
      have hst := run_storeCells_at (P := P) b (es.length * k) e es2.flatten 0 _ w hb' (by simpa using hsz) (flatten_one h2.one)
      have e3 : (es.flatten ++ rest).take (es.length * k) ++ es2.flatten ++ (es.flatten ++ rest).drop (es.length * k + es2.flatten.length) = (es ++ es2).flatten ++ rest.drop es2.flatten.length := by
        rw [← hfl, List.take_left, List.drop_append, List.flatten_append, List.drop_of_length_le (by omega), List.nil_append]
        congr 2; omega
      simp only [Nat.add_zero] at hst
      rw [e3] at hst
      refine ⟨.slice (some ⟨b, 0, none⟩) (es.length + es2.length) c, _, w.setRow b ((es ++ es2).flatten ++ rest.drop es2.flatten.length).toArray, ?_, ⟨blk b e ((es ++ es2).flatten ++ rest.drop es2.flatten.length).toArray, rfl, hlen, hone, .inr ⟨b, c, rest.drop es2.flatten.length, by simp, rfl, by simpa using hroom, ?_⟩⟩, hs.rowAt (i := 0) rfl _, Keep.setRow w _ _⟩
      rotate_left
      · rw [List.length_drop, hrest, hfl2, List.length_append, ← Nat.sub_mul]; congr 1; omega
      · have hadd : (⟨b, 0, none⟩ : Addr).add (es.length * k) = ⟨b, es.length * k, none⟩ := by rw [Addr.add_none]; simp
        have hcells := hsrc.cells
        rw [i2] at hcells
        rw [← hadd] at hst
        simp [Builtin.append_, run_underlying hS.und, sizeOf, typeInfo, i1, i2, Builtin.lenOf, hroom, hcells, hst]
end
end Go.SL
end
section
/- Whole functions: in, and out. -/
namespace Go.SL
open Go.RowKit
variable {P : Program} {n : Nat}

def argRegs : Nat → List Value → Regs
  | _, [] => []
  | k, v :: l => (k, v) :: argRegs (k + 1) l
theorem argRegs_get : ∀ (l : List Value) (k i : Nat) (v : Value), rget (argRegs k l) i = some v → k ≤ i ∧ l[i - k]? = some v
  | [], _, _, _, h => by cases h
  | x :: l, k, i, v, h => by
    simp only [argRegs, rget_cons] at h
    split at h
    · rename_i e; subst e; injection h with h; subst h; simp
    · obtain ⟨h1, h2⟩ := argRegs_get l (k + 1) i v h
      refine ⟨by omega, ?_⟩
      have : i - k = (i - (k + 1)) + 1 := by omega
      rw [this]; simpa using h2
theorem Rep.args {args : List Value} (h : args.length ≤ n) : Rep n { tmps := args.toArray ++ Array.replicate (n - args.toArray.size) undef, defers := [] } (argRegs 0 args) := by
  refine ⟨by simp; omega, fun i v hi => ?_, rfl⟩
  obtain ⟨_, h2⟩ := argRegs_get args 0 i v hi
  have hlt : i < args.length := by
    have := (List.getElem?_eq_some_iff.1 h2).1; simpa using this
  rw [Array.getElem?_append_left (by simpa using hlt)]
  simpa using h2

/-- what a variable in memory holds -/
def LV (P : Program) (L : List Frag) (ty : TypeId) (A : Addr) (v : Value) : Prop := ∀ w, Sat w L → (loadVar ty A).run P w = .ok v w
theorem LV.one {L : List Frag} {ty : TypeId} [h1 : One P ty] {b o : Nat} {r : Frag} {cs : Array Value} {T : TypeId} {fr : Nat × Nat} {v : Value} (hr : r ∈ L) (hb : r b = some (.cells cs T fr)) (hc : cs[o]? = some v) : LV P L ty ⟨b, o, none⟩ v := fun w hs => by
  have hw := mem_heap hs hr hb
  simp only [loadVar, Sem.run_bind, h1.agg, Result.andThen_ok]
  have : w.cell? ⟨b, o, none⟩ = some v := by rw [cell_of_row w b o cs T fr hw, hc]
  simp [load, Sem.run, this]
theorem LV.agg {L : List Frag} {ty : TypeId} {k : Nat} [h1 : Agg P ty k] {b o : Nat} {r : Frag} {cs vs : Array Value} {T : TypeId} {fr : Nat × Nat} (hr : r ∈ L) (hb : r b = some (.cells cs T fr)) (hk : o + k ≤ cs.size) (hv : cs.extract o (o + k) = vs) :
    LV P L ty ⟨b, o, none⟩ (.agg vs) := fun _ hs => run_loadAgg (mem_heap hs hr hb) hk hv

def Res (P : Program) (ρ : Regs) (L : List Frag) : List ResultVar → List Value → Prop
  | [], vs => vs = []
  | .tmp t :: l, vs => ∃ v us, vs = v :: us ∧ rget ρ t = some v ∧ Res P ρ L l us
  | .cell a ty :: l, vs => ∃ v us A, vs = v :: us ∧ rget ρ a = some (.pointer (some A)) ∧ LV P L ty A v ∧ Res P ρ L l us
def pack : List Value → Value
  | [v] => v
  | vs => .tuple vs.toArray
theorem Res.run {a : Act} {ρ : Regs} {L : List Frag} {w : World} (hr : Rep n a ρ) (hs : Sat w L) : ∀ {l : List ResultVar} {vs : List Value}, Res P ρ L l vs →
    (l.mapM (m := Sem) fun | .tmp t => pure (a.tmps.getD t undef) | .cell x t => do loadVar t (← asAddr (a.tmps.getD x undef))).run P w = .ok vs w
  | [], vs, h => by subst h; simp
  | .tmp t :: l, vs, h => by
    obtain ⟨v, us, rfl, h1, h2⟩ := h
    have := hr.get t v h1
    have ih := Res.run hr hs h2
    rw [List.mapM_cons]
    simp only [Sem.run_bind, Sem.run_pure, Result.andThen_ok]
    rw [ih]
    simp [this]
  | .cell x ty :: l, vs, h => by
    obtain ⟨v, us, A, rfl, h1, h3, h2⟩ := h
    have := hr.get x _ h1
    have ih := Res.run hr hs h2
    have e : (asAddr (a.tmps.getD x undef) : Sem Addr) = pure A := by simp [Array.getD_eq_getD_getElem?, this, asAddr]
    rw [List.mapM_cons]
    simp only [e, Sem.run_bind, Sem.run_pure, Result.andThen_ok, h3 w hs]
    rw [ih]
    simp

/-- what lies so, lies so too -/
def Ent (L L' : List Frag) : Prop := ∀ w F, Sat w (L ++ F) → Sat w (L' ++ F)
theorem Ent.refl (L : List Frag) : Ent L L := fun _ _ h => h
theorem Ent.fold (l : List Frag) : Ent l [un l] := fun _ _ h => h.fold
theorem Ent.app {L L' M M' : List Frag} (h : Ent L L') (k : Ent M M') : Ent (L ++ M) (L' ++ M') := fun w F hs => by
  have h1 := h w (M ++ F) (by rwa [List.append_assoc] at hs)
  have h2 := k w (L' ++ F) (h1.perm (by rw [← List.append_assoc, ← List.append_assoc]; exact List.perm_append_comm.append_right F))
  exact h2.perm (by rw [← List.append_assoc]; exact List.perm_append_comm.append_right F)
/-- at the end of a body -/
def Out (P : Program) (rs : List ResultVar) (post : Value → List Frag → Prop) (F : List Frag) : Post := fun e ρ L =>
  match e with
  | .normal | .ret => ∃ vs X L0 L', Res P ρ L rs vs ∧ post (pack vs) L' ∧ L.Perm (X ++ (L0 ++ F)) ∧ Ent L0 L'
  | _ => False

theorem Fn.body {f : Nat} {fn : Func} {c : Code} {args : List Value} {pre : List Frag} {post : Value → List Frag → Prop} {rs : List ResultVar} (hf : P.funcs[f]? = some fn) (hb : fn.body = some c) (hn : fn.ntmps = n) (hrs : fn.results = rs.toArray) (ha : args.length ≤ n)
    (h : ∀ F, TC P n (Out P rs post F) c (argRegs 0 args) (pre ++ F)) : Fn P f args pre post := fun w F hs => by
  refine calls_of_wp hf hb (Code_mono (fun e a w' hl => ?_) (h F _ w (by rw [hn]; exact Rep.args ha) hs))
  obtain ⟨ρ, L, h1, h2, h3, h4⟩ := hl
  have key : ∀ vs X L0 L', Res P ρ L rs vs → post (pack vs) L' → L.Perm (X ++ (L0 ++ F)) → Ent L0 L' → a.defers = [] ∧ ∃ v, (results fn a.tmps).run P w' = .ok v w' ∧ (∃ v' L', Ending.returned v = .returned v' ∧ post v' L' ∧ Sat w' (L' ++ F) ∧ Keep w w') := by
    intro vs X L0 L' g1 g2 g3 g4
    refine ⟨h1.defers, pack vs, ?_, pack vs, L', rfl, g2, g4 w' F ((h2.perm g3).of_sublist (List.sublist_append_right X _)), h3⟩
    have := g1.run h1 h2
    unfold results
    rw [hrs, List.mapM_toArray]
    simp only [Sem.run_bind, Sem.run_map]
    erw [this]
    rcases vs with _ | ⟨v, _ | ⟨u, l⟩⟩ <;> simp [pack]
  cases e with
  | normal => obtain ⟨vs, X, L0, L', g1, g2, g3, g4⟩ := h4; exact key vs X L0 L' g1 g2 g3 g4
  | ret => obtain ⟨vs, X, L0, L', g1, g2, g3, g4⟩ := h4; exact key vs X L0 L' g1 g2 g3 g4
  | _ => exact h4.elim
end Go.SL
end
section
/- Rules as a printed walk uses them. -/
namespace Go.SL
open Go.RowKit
variable {P : Program} {n : Nat}

/-- a function that changes nothing -/
def FnP (P : Program) (f : Nat) (args : List Value) (φ : Value → Prop) : Prop := Fn P f args [] (fun v L' => φ v ∧ L' = [])
/-- a function that reads one part, and changes nothing -/
def FnR (P : Program) (f : Nat) (args : List Value) (r : Frag) (φ : Value → Prop) : Prop := Fn P f args [r] (fun v L' => φ v ∧ L' = [r])
/-- a function that changes one part -/
def FnW (P : Program) (f : Nat) (args : List Value) (r : Frag) (φ : Value → Frag → Prop) : Prop := Fn P f args [r] (fun v L' => ∃ r', φ v r' ∧ L' = [r'])
/-- a function that lays one part -/
def FnN (P : Program) (f : Nat) (args : List Value) (φ : Value → Frag → Prop) : Prop := Fn P f args [] (fun v L' => ∃ r', φ v r' ∧ L' = [r'])

section
variable {ops : Array Oper} {Q : Post} {l : List Oper} {o : Oper} {ρ : Regs} {L : List Frag}
theorem TL.nilS {y : Code} {Q : Post} (k : TC P n Q y ρ L) : TL P n ops (Post.seq (TC P n Q y) Q) [] ρ L := TL.nil k
theorem TC.skipS {y : Code} {Q : Post} (k : TC P n Q y ρ L) : TC P n (Post.seq (TC P n Q y) Q) .skip ρ L := TC.skip k
theorem TL.cp {f : Nat} {args : List Value} {φ : Value → Prop} (hc : CL P ρ o f args) (hf : FnP P f args φ) (hw : Wants n ops ρ o true) (hd : dok n o.dst = true) (k : ∀ v, φ v → TL P n ops Q l (dpush o.dst v ρ) L) : TL P n ops Q (o :: l) ρ L :=
  TL.cl hc hf (F := L) (.refl _) hw hd fun v L' ⟨h1, h2⟩ => by subst h2; exact k v h1
theorem TL.cr {f : Nat} {args : List Value} {r : Frag} {φ : Value → Prop} (hc : CL P ρ o f args) (hf : FnR P f args r φ) (hr : r ∈ L) (hw : Wants n ops ρ o true) (hd : dok n o.dst = true) (k : ∀ v, φ v → TL P n ops Q l (dpush o.dst v ρ) L) : TL P n ops Q (o :: l) ρ L := by
  obtain ⟨i, hi, rfl⟩ := List.mem_iff_getElem.1 hr
  have hp := perm_get (List.getElem?_eq_getElem hi)
  exact TL.cl hc hf (F := L.eraseIdx i) hp hw hd fun v L' ⟨h1, h2⟩ => by subst h2; exact TL.perm hp.symm (k v h1)
theorem TL.cw {f : Nat} {args : List Value} {r : Frag} {i : Nat} {φ : Value → Frag → Prop} (hc : CL P ρ o f args) (hf : FnW P f args r φ) (hi : L[i]? = some r) (hw : Wants n ops ρ o true) (hd : dok n o.dst = true) (k : ∀ v r', φ v r' → TL P n ops Q l (dpush o.dst v ρ) (L.set i r')) : TL P n ops Q (o :: l) ρ L :=
  TL.cl hc hf (F := L.eraseIdx i) (perm_get hi) hw hd fun v L' ⟨r', h1, h2⟩ => by subst h2; exact TL.perm (perm_set r' (List.getElem?_eq_some_iff.1 hi).1).symm (k v r' h1)
theorem TL.cn {f : Nat} {args : List Value} {φ : Value → Frag → Prop} (hc : CL P ρ o f args) (hf : FnN P f args φ) (hw : Wants n ops ρ o true) (hd : dok n o.dst = true) (k : ∀ v r', φ v r' → TL P n ops Q l (dpush o.dst v ρ) (r' :: L)) : TL P n ops Q (o :: l) ρ L :=
  TL.cl hc hf (F := L) (.refl _) hw hd fun v L' ⟨r', h1, h2⟩ => by subst h2; exact k v r' h1
end
section
variable {ops : Array Oper} {R : List Frag} {K : Nat → Nat} {Q : Post} {i : Nat} {l : List Nat} {o : Oper} {ρ : Regs} {ph : Bool}
/-- all that is there is read alone -/
theorem TC.drawR {id : Nat} {L : List Frag} (ks c : List Nat) (hm : P.follows .mixedOrders = true) (hchk : chk ops ks c = true) (hal : ∀ j o, ops[j]? = some o → kof ks j = 4 → Lays P o)
    (h : TD P n ops L [] (kof ks) Q c ρ false []) : TC P n Q (.region id ops true) ρ L := TC.draw ks c hm hchk hal (by simp) h
theorem TC.draw0 {id : Nat} {L : List Frag} (ks c : List Nat) (hm : P.follows .mixedOrders = true) (hchk : chk ops ks c = true) (h4 : Nat.beq (ks.foldl max 0) 3 = true ∨ Nat.blt (ks.foldl max 0) 3 = true)
    (h : TD P n ops L [] (kof ks) Q c ρ false []) : TC P n Q (.region id ops true) ρ L := TC.drawR ks c hm hchk (fun j o _ hk => by
  exfalso
  have hmax : ∀ (l : List Nat) (a : Nat), a ≤ l.foldl max a ∧ ∀ x ∈ l, x ≤ l.foldl max a := by
    intro l
    induction l with
    | nil => intro a; exact ⟨Nat.le_refl _, fun _ h => (by cases h)⟩
    | cons y l ih =>
      intro a
      have := ih (max a y)
      refine ⟨by simp only [List.foldl_cons]; omega, fun x hx => ?_⟩
      simp only [List.foldl_cons]
      rcases List.mem_cons.1 hx with rfl | hx
      · omega
      · exact this.2 x hx
  have hj : kof ks j ∈ ks := by
    unfold kof at hk ⊢
    rw [List.getD_eq_getElem?_getD] at hk ⊢
    cases hg : ks[j]? with
    | none => simp [hg] at hk
    | some x => simp; exact List.mem_of_getElem? hg
  have := (hmax ks 0).2 _ hj
  rcases h4 with h4 | h4
  · have := Nat.eq_of_beq_eq_true h4; omega
  · simp [Nat.blt] at h4; omega) h
theorem TD.nilS {y : Code} {Q : Post} {L : List Frag} (k : TC P n Q y ρ (R ++ L)) : TD P n ops R [] K (Post.seq (TC P n Q y) Q) [] ρ ph L := TD.nil (by cases ph <;> exact k)
theorem TD.cp {f : Nat} {args : List Value} {φ : Value → Prop} {L : List Frag} (hi : ops[i]? = some o) (hK : K i = 2) (hc : CL P ρ o f args) (hf : FnP P f args φ) (hw : Wants n ops ρ o true) (hd : dok n o.dst = true)
    (k : ∀ v, φ v → TD P n ops R [] K Q l (dpush o.dst v ρ) true L) : TD P n ops R [] K Q (i :: l) ρ ph L :=
  TD.cl hi hK hc hf (F := R ++ L) (by cases ph <;> exact .refl _) hw hd fun v L' ⟨h1, h2⟩ => by subst h2; exact ⟨L, .refl _, k v h1⟩
theorem TD.cr {f : Nat} {args : List Value} {r : Frag} {φ : Value → Prop} {L : List Frag} (hi : ops[i]? = some o) (hK : K i = 2) (hc : CL P ρ o f args) (hf : FnR P f args r φ) (hr : r ∈ R ++ L) (hw : Wants n ops ρ o true) (hd : dok n o.dst = true)
    (k : ∀ v, φ v → TD P n ops R [] K Q l (dpush o.dst v ρ) true L) : TD P n ops R [] K Q (i :: l) ρ ph L := by
  obtain ⟨j, hj, e⟩ := List.mem_iff_getElem.1 hr
  have hp := perm_get (List.getElem?_eq_getElem hj)
  rw [e] at hp
  exact TD.cl hi hK hc hf (F := (R ++ L).eraseIdx j) (by cases ph <;> exact hp) hw hd fun v L' ⟨h1, h2⟩ => by subst h2; exact ⟨L, hp.symm, k v h1⟩
theorem TD.cn {f : Nat} {args : List Value} {φ : Value → Frag → Prop} {L : List Frag} (hi : ops[i]? = some o) (hK : K i = 2) (hc : CL P ρ o f args) (hf : FnN P f args φ) (hw : Wants n ops ρ o true) (hd : dok n o.dst = true)
    (k : ∀ v r', φ v r' → TD P n ops R [] K Q l (dpush o.dst v ρ) true (r' :: L)) : TD P n ops R [] K Q (i :: l) ρ ph L :=
  TD.cl hi hK hc hf (F := R ++ L) (by cases ph <;> exact .refl _) hw hd fun v L' ⟨r', h1, h2⟩ => by subst h2; exact ⟨r' :: L, (List.perm_middle (a := r') (l₁ := R) (l₂ := L)).symm, k v r' h1⟩
end
/-- the end, with what is handed back -/
theorem Out.intro {rs : List ResultVar} {post : Value → List Frag → Prop} {F : List Frag} {ρ : Regs} {L : List Frag} {vs : List Value} {X L' : List Frag} (h1 : Res P ρ L rs vs) (h2 : post (pack vs) L') (h3 : L.Perm (X ++ (L' ++ F))) : Out P rs post F .ret ρ L := ⟨vs, X, L', L', h1, h2, h3, .refl _⟩
theorem Out.introE {rs : List ResultVar} {post : Value → List Frag → Prop} {F : List Frag} {ρ : Regs} {L : List Frag} {vs : List Value} {X L0 L' : List Frag} (h1 : Res P ρ L rs vs) (h2 : post (pack vs) L') (h3 : L.Perm (X ++ (L0 ++ F))) (h4 : Ent L0 L') : Out P rs post F .ret ρ L := ⟨vs, X, L0, L', h1, h2, h3, h4⟩
theorem Res.t {ρ : Regs} {L : List Frag} {t : Nat} {l : List ResultVar} {v : Value} {us : List Value} (h : rget ρ t = some v) (k : Res P ρ L l us) : Res P ρ L (.tmp t :: l) (v :: us) := ⟨v, us, rfl, h, k⟩
theorem Res.c {ρ : Regs} {L : List Frag} {t ty : Nat} {l : List ResultVar} {v : Value} {us : List Value} {A : Addr} (h : rget ρ t = some (.pointer (some A))) (hl : LV P L ty A v) (k : Res P ρ L l us) : Res P ρ L (.cell t ty :: l) (v :: us) := ⟨v, us, A, rfl, h, hl, k⟩
theorem Res.z {ρ : Regs} {L : List Frag} : Res P ρ L [] [] := rfl

/-! ### short names, for printed walks -/
section
variable {L : List Frag} {r : Frag}
theorem m0 {L : List Frag} : r ∈ r :: L := .head _
theorem m1 {x1 : Frag} : r ∈ x1 :: r :: L := .tail _ m0
theorem m2 {x1 x2 : Frag} : r ∈ x1 :: x2 :: r :: L := .tail _ m1
theorem m3 {x1 x2 x3 : Frag} : r ∈ x1 :: x2 :: x3 :: r :: L := .tail _ m2
theorem m4 {x1 x2 x3 x4 : Frag} : r ∈ x1 :: x2 :: x3 :: x4 :: r :: L := .tail _ m3
theorem m5 {x1 x2 x3 x4 x5 : Frag} : r ∈ x1 :: x2 :: x3 :: x4 :: x5 :: r :: L := .tail _ m4
theorem m6 {x1 x2 x3 x4 x5 x6 : Frag} : r ∈ x1 :: x2 :: x3 :: x4 :: x5 :: x6 :: r :: L := .tail _ m5
theorem m7 {x1 x2 x3 x4 x5 x6 x7 : Frag} : r ∈ x1 :: x2 :: x3 :: x4 :: x5 :: x6 :: x7 :: r :: L := .tail _ m6
theorem m8 {x1 x2 x3 x4 x5 x6 x7 x8 : Frag} : r ∈ x1 :: x2 :: x3 :: x4 :: x5 :: x6 :: x7 :: x8 :: r :: L := .tail _ m7
theorem m9 {x1 x2 x3 x4 x5 x6 x7 x8 x9 : Frag} : r ∈ x1 :: x2 :: x3 :: x4 :: x5 :: x6 :: x7 :: x8 :: x9 :: r :: L := .tail _ m8
end
section
variable {ops : Array Oper} {Q : Post} {l : List Oper} {o : Oper} {ρ : Regs} {L : List Frag}
theorem TL.q {v : Value} (h : LD P ρ L o v) (hg : o.guard = none) (hd : dok n o.dst = true) (k : TL P n ops Q l (dpush o.dst v ρ) L) : TL P n ops Q (o :: l) ρ L := .ld h (.un hg) hd k
theorem TL.e {v : Value} {L' : List Frag} (h : EF P ρ L o v L') (hg : o.guard = none) (hd : dok n o.dst = true) (k : TL P n ops Q l (dpush o.dst v ρ) L') : TL P n ops Q (o :: l) ρ L := .ef h (.un hg) hd k
theorem TL.y {v : Value} {j t : Nat} {want b : Bool} (h : LD P ρ L o v) (hb : b = want) (hg : o.guard = some (j, want)) (hj : (ops[j]?).bind (·.dst) = some t) (hv : rget ρ t = some (.bool b)) (hd : dok n o.dst = true) (k : TL P n ops Q l (dpush o.dst v ρ) L) : TL P n ops Q (o :: l) ρ L := .ld h (.yes hg hj hv hb) hd k
theorem TL.s {j t : Nat} {want b : Bool} (hb : b = !want) (hg : o.guard = some (j, want)) (hj : (ops[j]?).bind (·.dst) = some t) (hv : rget ρ t = some (.bool b)) (hd : dok n o.dst = true) (k : TL P n ops Q l (dpush o.dst undef ρ) L) : TL P n ops Q (o :: l) ρ L := .skip (.no hg hj hv hb) hd k
end
section
variable {ops : Array Oper} {R W : List Frag} {K : Nat → Nat} {Q : Post} {i : Nat} {l : List Nat} {o : Oper} {ρ : Regs} {ph : Bool} {L : List Frag}
theorem TD.q {v : Value} (hi : ops[i]? = some o) (hK : Nat.ble (K i) 2 = true) (h : LD P ρ R o v) (hg : o.guard = none) (hd : dok n o.dst = true) (k : TD P n ops R W K Q l (dpush o.dst v ρ) ph L) : TD P n ops R W K Q (i :: l) ρ ph L := .ld hi hK h (.un hg) hd k
theorem TD.y {v : Value} {j t : Nat} {want b : Bool} (hi : ops[i]? = some o) (hK : Nat.ble (K i) 2 = true) (h : LD P ρ R o v) (hb : b = want) (hg : o.guard = some (j, want)) (hj : (ops[j]?).bind (·.dst) = some t) (hv : rget ρ t = some (.bool b)) (hd : dok n o.dst = true) (k : TD P n ops R W K Q l (dpush o.dst v ρ) ph L) : TD P n ops R W K Q (i :: l) ρ ph L := .ld hi hK h (.yes hg hj hv hb) hd k
theorem TD.s {j t : Nat} {want b : Bool} (hi : ops[i]? = some o) (hb : b = !want) (hg : o.guard = some (j, want)) (hj : (ops[j]?).bind (·.dst) = some t) (hv : rget ρ t = some (.bool b)) (hd : dok n o.dst = true) (k : TD P n ops R W K Q l (dpush o.dst undef ρ) ph L) : TD P n ops R W K Q (i :: l) ρ ph L := .no hi (.no hg hj hv hb) hd k
end

/-! ### bits -/
section
variable {ρ : Regs} {L : List Frag} {d : Option Tmp} {t : TypeId} {p : String} {af : Array Edge} {g : Option (Nat × Bool)}
theorem LD.shr {x y : Operand} {tx ty : TypeId} {k : IntKind} {a b : Int} (hx : rev ρ x = some (.int .i64 a)) (hy : rev ρ y = some (.int k b)) (hb : 0 ≤ b ∧ b ≤ 63) : LD P ρ L ⟨d, .binOp .shr tx x y ty, t, p, af, g⟩ (.int .i64 (a / 2 ^ b.toNat)) :=
  LD.bin hx hy (fun _ _ _ => eqGuard_int ..) fun w => by
    have h1 : ¬ b < 0 := by omega
    have h2 : min b.toNat 64 = b.toNat := by omega
    have h3 : (0 : Int) ≤ 2 ^ b.toNat := Int.le_of_lt (Int.pow_pos (by omega))
    have e : binOp .shr tx (.int .i64 a) (.int k b) = Op.shift .shr .i64 a k b := by simp [binOp]
    rw [e]
    simp only [Op.shift, if_neg h1, IntKind.bits, h2, Int.fdiv_eq_ediv_of_nonneg a h3]
    rfl
theorem LD.and {x y : Operand} {tx ty : TypeId} {a b : Int} (hx : rev ρ x = some (.int .i64 a)) (hy : rev ρ y = some (.int .i64 b)) (ha : 0 ≤ a ∧ a ≤ 9223372036854775807) (hb : 0 ≤ b ∧ b ≤ 9223372036854775807) :
    LD P ρ L ⟨d, .binOp .and tx x y ty, t, p, af, g⟩ (.int .i64 ((a.toNat &&& b.toNat : Nat) : Int)) :=
  LD.bin hx hy (fun _ _ _ => eqGuard_int ..) fun w => by
    obtain ⟨m, rfl⟩ := Int.eq_ofNat_of_zero_le ha.1
    obtain ⟨k, rfl⟩ := Int.eq_ofNat_of_zero_le hb.1
    have hm : m % 18446744073709551616 = m := Nat.mod_eq_of_lt (by omega)
    have hk : k % 18446744073709551616 = k := Nat.mod_eq_of_lt (by omega)
    have e : (BitVec.ofInt 64 (m : Int) &&& BitVec.ofInt 64 (k : Int)).toNat = m &&& k := by
      rw [BitVec.toNat_and]; simp [hm, hk]
    have hle : m &&& k ≤ m := Nat.and_le_left
    have hw : IntKind.wrap .i64 ((m &&& k : Nat) : Int) = ((m &&& k : Nat) : Int) := wrap_in (by omega)
    have e2 : binOp .and tx (.int .i64 (m : Int)) (.int .i64 (k : Int)) = Op.intBits .and .i64 m k := by simp [binOp]
    rw [e2]
    have e3 : Op.intBits .and .i64 m k = pure (.int .i64 (IntKind.wrap .i64 ((BitVec.ofInt 64 (m : Int) &&& BitVec.ofInt 64 (k : Int)).toNat : Int))) := rfl
    rw [e3, e, hw]; rfl
end
theorem and_half (a b : Nat) : (a &&& b) / 2 = (a / 2) &&& (b / 2) := Nat.eq_of_testBit_eq fun i => by simp [Nat.testBit_div_two, Nat.testBit_and]
theorem pow_and : ∀ x : Nat, 1 ≤ x → ((x &&& (x - 1) = 0) ↔ ∃ k, x = 2 ^ k) := by
  intro x
  induction x using Nat.strongRecOn with
  | _ x ih =>
    intro h
    rcases Nat.lt_or_ge x 2 with h2 | h2
    · have : x = 1 := by omega
      subst this; simp; exact ⟨0, rfl⟩
    · have hh := and_half x (x - 1)
      have hb : (x &&& (x - 1)) % 2 = 0 := by
        have : (x &&& (x - 1)).testBit 0 = false := by
          rw [Nat.testBit_and, Nat.testBit_zero, Nat.testBit_zero]
          rcases Nat.mod_two_eq_zero_or_one x with e | e
          · simp [e]
          · have : (x - 1) % 2 = 0 := by omega
            simp [this]
        rw [Nat.testBit_zero] at this
        have := of_decide_eq_false this
        omega
      rcases Nat.mod_two_eq_zero_or_one x with e | e
      · have e1 : (x - 1) / 2 = x / 2 - 1 := by omega
        rw [e1] at hh
        have := ih (x / 2) (by omega) (by omega)
        constructor
        · intro h0
          rw [h0] at hh
          obtain ⟨k, hk⟩ := this.1 (by omega)
          exact ⟨k + 1, by rw [Nat.pow_succ]; omega⟩
        · rintro ⟨k, hk⟩
          cases k with
          | zero => simp at hk; omega
          | succ k =>
            have := this.2 ⟨k, by rw [Nat.pow_succ] at hk; omega⟩
            omega
      · have e1 : (x - 1) / 2 = x / 2 := by omega
        rw [e1, Nat.and_self] at hh
        constructor
        · intro h0; rw [h0] at hh; omega
        · rintro ⟨k, hk⟩
          cases k with
          | zero => simp at hk; omega
          | succ k => rw [Nat.pow_succ] at hk; omega

/-- registers that hold so -/
def subr : Regs → Regs → Prop
  | [], _ => True
  | (i, v) :: l, ρ => rget ρ i = some v ∧ subr l ρ
theorem subr_get : ∀ {ρ' ρ : Regs}, subr ρ' ρ → ∀ i v, rget ρ' i = some v → rget ρ i = some v
  | [], _, _, _, _, h => by cases h
  | (k, u) :: l, ρ, ⟨h1, h2⟩, i, v, h => by
    rw [rget_cons] at h
    split at h
    · rename_i e; subst e; injection h with h; subst h; exact h1
    · exact subr_get h2 i v h
section
variable {Q : Post} {ρ : Regs} {L : List Frag}
theorem TC.loops {α : Type} {c : Code} (ρI : α → Regs) (LI : α → List Frag) (I : α → Prop) (μ : α → Nat) (x0 : α) (hI : I x0) (hρ : subr (ρI x0) ρ) (hL : L.Perm (LI x0))
    (round : ∀ x, I x → TC P n (Post.seq (fun ρ' L' => ∃ y, I y ∧ μ y < μ x ∧ subr (ρI y) ρ' ∧ L'.Perm (LI y)) Q) c (ρI x) (LI x)) : TC P n Q (.loop c) ρ L :=
  TC.loop ρI LI I μ x0 hI (subr_get hρ) hL fun x hx => TC.mono (fun e ρ' L' h => by
    cases e with
    | normal => obtain ⟨y, h1, h2, h3, h4⟩ := h; exact ⟨y, h1, h2, subr_get h3, h4⟩
    | _ => exact h) (round x hx)
/-- less is kept in mind -/
theorem TC.keep {c : Code} (ρ' : Regs) (L' : List Frag) (hρ : subr ρ' ρ) (hL : L.Perm L') (k : TC P n Q c ρ' L') : TC P n Q c ρ L := TC.weak (subr_get hρ) (TC.perm hL k)
end
theorem Post.sr {K : Regs → List Frag → Prop} {Q : Post} {ρ : Regs} {L : List Frag} (h : Q .ret ρ L) : Post.seq K Q .ret ρ L := h
theorem Post.br {id : Nat} {Q : Post} {ρ : Regs} {L : List Frag} (h : Q .ret ρ L) : Post.block id Q .ret ρ L := h
end Go.SL
end
