/- A part of proofs about the given program. No condition. -/
import Derived.Test.YtcgfdjijodlopaaGreatSL1
import Derived.Scope
import Derived.ScopeJumps
import Derived.Deep.LoopGhost
set_option linter.all false
/- The rules. -/
namespace Go.SL
open Go.RowKit
variable {P : Program} {n : Nat}

theorem lift_keep {w0 w1 : World} (hk : Keep w0 w1) {Q : Post} {e : Exit} {a : Act} {w : World} (h : lift n w1 Q e a w) : lift n w0 Q e a w := by
  obtain ⟨ρ, L, h1, h2, h3, h4⟩ := h
  exact ⟨ρ, L, h1, h2, hk.trans h3, h4⟩
theorem lift_mono {w0 : World} {Q Q' : Post} (h : ∀ e ρ L, Q e ρ L → Q' e ρ L) {e : Exit} {a : Act} {w : World} (hl : lift n w0 Q e a w) : lift n w0 Q' e a w := by
  obtain ⟨ρ, L, h1, h2, h3, h4⟩ := hl
  exact ⟨ρ, L, h1, h2, h3, h _ _ _ h4⟩

theorem wpList_mono {ops : Array Oper} {Q Q' : Exit → Act → World → Prop} (h : ∀ e a w, Q e a w → Q' e a w) : ∀ (l : List Oper) (a : Act) (w : World), wpList P ops Q l a w → wpList P ops Q' l a w
  | [], a, w, hh => h _ _ _ hh
  | o :: l, a, w, hh => by
    unfold wpList at hh ⊢
    split
    · rename_i hw
      rw [if_pos hw] at hh
      rcases hh with hh | ⟨h1, a', w', h2⟩
      · left
        unfold Oper.wp at hh ⊢
        generalize (execOp a.eval o).run P w = r at *
        cases r with
        | ok nx w' =>
          cases nx <;> simp only [Oper.upon] at hh ⊢
          case value v => exact wpList_mono h l _ _ hh
          case skip => exact wpList_mono h l _ _ hh
          case defer d => exact wpList_mono h l _ _ hh
          case enter f args =>
            refine hh.mono fun e w'' he => ?_
            cases e with
            | returned v => exact wpList_mono h l _ _ he
            | panicked c => exact h _ _ _ he
            | outgrown => obtain ⟨a', w', hq⟩ := he; exact ⟨a', w', h _ _ _ hq⟩
          case row row args => exact hh.mono fun v w'' hv => wpList_mono h l _ _ hv
        | halt x w' =>
          cases x <;> simp only [Oper.upon] at hh ⊢
          exact h _ _ _ hh
      · exact .inr ⟨h1, a', w', h _ _ _ h2⟩
    · rename_i hw
      rw [if_neg hw] at hh
      exact wpList_mono h l _ _ hh

/-! ### an operation's outcome -/
def Wants (n : Nat) (ops : Array Oper) (ρ : Regs) (o : Oper) (b : Bool) : Prop := ∀ a, Rep n a ρ → Region.wanted o (yielded ops a.tmps) = b
theorem Wants.un {ops : Array Oper} {ρ : Regs} {o : Oper} (h : o.guard = none) : Wants n ops ρ o true := fun a _ => by simp [Region.wanted, h]
theorem Wants.of {ops : Array Oper} {ρ : Regs} {o : Oper} {j : Nat} {want b : Bool} {t : Nat} (hg : o.guard = some (j, want)) (hj : (ops[j]?).bind (·.dst) = some t) (hv : rget ρ t = some (.bool b)) :
    Wants n ops ρ o (b == want) := fun a ha => by
  have h1 := ha.get t _ hv
  have hy : yielded ops a.tmps j = some b := by unfold yielded; rw [hj]; simp [h1]
  simp only [Region.wanted, hg, hy]
  cases b <;> cases want <;> rfl
theorem Wants.yes {ops : Array Oper} {ρ : Regs} {o : Oper} {j : Nat} {want b : Bool} {t : Nat} (hg : o.guard = some (j, want)) (hj : (ops[j]?).bind (·.dst) = some t) (hv : rget ρ t = some (.bool b)) (hb : b = want) :
    Wants n ops ρ o true := by have := Wants.of (n := n) hg hj hv; rw [hb] at this; simpa using this
theorem Wants.no {ops : Array Oper} {ρ : Regs} {o : Oper} {j : Nat} {want b : Bool} {t : Nat} (hg : o.guard = some (j, want)) (hj : (ops[j]?).bind (·.dst) = some t) (hv : rget ρ t = some (.bool b)) (hb : b = !want) :
    Wants n ops ρ o false := by have := Wants.of (n := n) hg hj hv; rw [hb] at this; cases want <;> simpa using this

/-- it only reads: the value -/
def LD (P : Program) (ρ : Regs) (L : List Frag) (o : Oper) (v : Value) : Prop := ∀ n a w, Rep n a ρ → Sat w L → (execOp a.eval o).run P w = .ok (.value v) w
/-- it lays a new block -/
def NB (P : Program) (ρ : Regs) (L : List Frag) (o : Oper) (T : TypeId) (z : Array Value) (v : Nat → Value) : Prop :=
  ∀ n a w, Rep n a ρ → Sat w L → (execOp a.eval o).run P w = .ok (.value (v w.heap.size)) (w.alloc (.cells z T))
/-- it changes memory -/
def EF (P : Program) (ρ : Regs) (L : List Frag) (o : Oper) (v : Value) (L' : List Frag) : Prop :=
  ∀ n a w, Rep n a ρ → Sat w L → ∃ w', ((execOp a.eval o).run P w = .ok (.value v) w' ∨ ((execOp a.eval o).run P w = .ok .skip w' ∧ v = undef)) ∧ Sat w' L' ∧ Keep w w'
/-- it changes memory, in ways that are left open -/
def EX (P : Program) (ρ : Regs) (L : List Frag) (o : Oper) (R : Value → List Frag → Prop) : Prop :=
  ∀ n a w, Rep n a ρ → Sat w L → ∃ v L' w', (execOp a.eval o).run P w = .ok (.value v) w' ∧ R v L' ∧ Sat w' L' ∧ Keep w w'
/-- it calls a function -/
def CL (P : Program) (ρ : Regs) (o : Oper) (f : Nat) (args : List Value) : Prop := ∀ n a w, Rep n a ρ → (execOp a.eval o).run P w = .ok (.enter f args.toArray) w

section
variable {ops : Array Oper} {Q : Post} {l : List Oper} {o : Oper} {ρ : Regs} {L : List Frag}

theorem TL.nil (h : Q .normal ρ L) : TL P n ops Q [] ρ L := fun _ w hr hs => ⟨ρ, L, hr, hs, Keep.refl w, h⟩

theorem TL.cons (hw : Wants n ops ρ o true) (h : ∀ a w, Rep n a ρ → Sat w L → o.wp P a w (wpList P ops (lift n w Q) l) (lift n w Q)) : TL P n ops Q (o :: l) ρ L := fun a w hr hs => by
  unfold wpList; rw [if_pos (hw a hr)]; exact .inl (h a w hr hs)

theorem TL.ld {v : Value} (h : LD P ρ L o v) (hw : Wants n ops ρ o true) (hd : dok n o.dst = true) (k : TL P n ops Q l (dpush o.dst v ρ) L) : TL P n ops Q (o :: l) ρ L :=
  TL.cons hw fun a w hr hs => by unfold Oper.wp; rw [h n a w hr hs]; exact k _ _ (hr.put hd v) hs
theorem TL.nb {T : TypeId} {z : Array Value} {v : Nat → Value} (h : NB P ρ L o T z v) (hw : Wants n ops ρ o true) (hd : dok n o.dst = true) (k : ∀ b, TL P n ops Q l (dpush o.dst (v b) ρ) (blk b T z :: L)) : TL P n ops Q (o :: l) ρ L :=
  TL.cons hw fun a w hr hs => by
    unfold Oper.wp; rw [h n a w hr hs]
    exact wpList_mono (fun _ _ _ => lift_keep (Keep.alloc w _)) _ _ _ (k _ _ _ (hr.put hd _) (hs.allocCells z T))
theorem TL.ef {v : Value} {L' : List Frag} (h : EF P ρ L o v L') (hw : Wants n ops ρ o true) (hd : dok n o.dst = true) (k : TL P n ops Q l (dpush o.dst v ρ) L') : TL P n ops Q (o :: l) ρ L :=
  TL.cons hw fun a w hr hs => by
    obtain ⟨w', h1, h2, h3⟩ := h n a w hr hs
    have hk := wpList_mono (fun _ _ _ => lift_keep h3) _ _ _ (k _ _ (hr.put hd v) h2)
    unfold Oper.wp
    rcases h1 with h1 | ⟨h1, rfl⟩ <;> rw [h1] <;> exact hk
theorem TL.ex {R : Value → List Frag → Prop} (h : EX P ρ L o R) (hw : Wants n ops ρ o true) (hd : dok n o.dst = true) (k : ∀ v L', R v L' → TL P n ops Q l (dpush o.dst v ρ) L') : TL P n ops Q (o :: l) ρ L :=
  TL.cons hw fun a w hr hs => by
    obtain ⟨v, L', w', h1, h2, h3, h4⟩ := h n a w hr hs
    unfold Oper.wp; rw [h1]
    exact wpList_mono (fun _ _ _ => lift_keep h4) _ _ _ (k v L' h2 _ _ (hr.put hd v) h3)
theorem TL.cl {f : Nat} {args : List Value} {pre F : List Frag} {post : Value → List Frag → Prop} (hc : CL P ρ o f args) (hf : Fn P f args pre post) (hL : L.Perm (pre ++ F)) (hw : Wants n ops ρ o true) (hd : dok n o.dst = true)
    (k : ∀ v L', post v L' → TL P n ops Q l (dpush o.dst v ρ) (L' ++ F)) : TL P n ops Q (o :: l) ρ L :=
  TL.cons hw fun a w hr hs => by
    unfold Oper.wp; rw [hc n a w hr]
    refine (hf w F (hs.perm hL)).mono fun e w' ⟨v, L', he, hp, hs', hk⟩ => ?_
    subst he
    exact wpList_mono (fun _ _ _ => lift_keep hk) _ _ _ (k v L' hp _ _ (hr.put hd v) hs')
theorem TL.skip (hw : Wants n ops ρ o false) (hd : dok n o.dst = true) (k : TL P n ops Q l (dpush o.dst undef ρ) L) : TL P n ops Q (o :: l) ρ L := fun a w hr hs => by
  unfold wpList; rw [if_neg (by rw [hw a hr]; simp)]; exact k _ _ (hr.put hd undef) hs
/-- the guard isn't known: both ways -/
theorem TL.split {j : Nat} {want b : Bool} {t : Nat} (hg : o.guard = some (j, want)) (hj : (ops[j]?).bind (·.dst) = some t) (hv : rget ρ t = some (.bool b)) (hd : dok n o.dst = true)
    (h1 : b = want → TL P n ops Q (o :: l) ρ L) (h2 : b = (!want) → TL P n ops Q l (dpush o.dst undef ρ) L) : TL P n ops Q (o :: l) ρ L := by
  by_cases h : b = want
  · exact h1 h
  · have hb : b = !want := by cases b <;> cases want <;> simp_all
    exact TL.skip (Wants.no hg hj hv hb) hd (h2 hb)
theorem TL.perm {L' : List Frag} (hp : L.Perm L') (k : TL P n ops Q l ρ L') : TL P n ops Q l ρ L := fun a w hr hs => k a w hr (hs.perm hp)
theorem TL.sub {L' : List Frag} (hp : L'.Sublist L) (k : TL P n ops Q l ρ L') : TL P n ops Q l ρ L := fun a w hr hs => k a w hr (hs.of_sublist hp)
end

/-! ### control -/
section
variable {Q : Post} {ρ : Regs} {L : List Frag}
theorem Code_mono {c : Code} {Q Q' : Exit → Act → World → Prop} {a : Act} {w : World} (hq : ∀ e a w, Q e a w → Q' e a w) (h : c.wp P Q a w) : c.wp P Q' a w := Code.wp_mono hq h

def Post.seq (K : Regs → List Frag → Prop) (Q : Post) : Post := fun e ρ L => match e with | .normal => K ρ L | e => Q e ρ L
theorem TC.seq {x y : Code} (h : TC P n (Post.seq (TC P n Q y) Q) x ρ L) : TC P n Q (.seq x y) ρ L := fun a w hr hs =>
  wp_seq (Code_mono (fun e a' w' hl => by
    obtain ⟨ρ', L', h1, h2, h3, h4⟩ := hl
    cases e with
    | normal => exact Code_mono (fun _ _ _ => lift_keep h3) (h4 a' w' h1 h2)
    | _ => exact ⟨ρ', L', h1, h2, h3, h4⟩) (h a w hr hs))
theorem TC.region {id : Nat} {l : List Oper} (h : TL P n l.toArray Q l ρ L) : TC P n Q (.region id l.toArray false) ρ L := fun a w hr hs => wp_region_lit (h a w hr hs)
theorem TC.cond {c : Operand} {x y : Code} {b : Bool} (hc : rev ρ c = some (.bool b)) (h1 : b = true → TC P n Q x ρ L) (h2 : b = false → TC P n Q y ρ L) : TC P n Q (.cond c x y) ρ L := fun a w hr hs =>
  wp_cond_split (hr.eval hc) (fun hb => h1 hb a w hr hs) (fun hb => h2 hb a w hr hs)
theorem TC.condT {c : Operand} {x y : Code} {b : Bool} (hc : rev ρ c = some (.bool b)) (hb : b = true) (h1 : TC P n Q x ρ L) : TC P n Q (.cond c x y) ρ L := TC.cond hc (fun _ => h1) (fun h => by rw [hb] at h; cases h)
theorem TC.condF {c : Operand} {x y : Code} {b : Bool} (hc : rev ρ c = some (.bool b)) (hb : b = false) (h1 : TC P n Q y ρ L) : TC P n Q (.cond c x y) ρ L := TC.cond hc (fun h => by rw [hb] at h; cases h) (fun _ => h1)
theorem TC.skip (h : Q .normal ρ L) : TC P n Q .skip ρ L := fun _ w hr hs => wp_skip ⟨ρ, L, hr, hs, Keep.refl w, h⟩
theorem TC.ret (h : Q .ret ρ L) : TC P n Q .ret ρ L := fun _ w hr hs => wp_ret ⟨ρ, L, hr, hs, Keep.refl w, h⟩
theorem TC.exit {id : Nat} (h : Q (.exit id) ρ L) : TC P n Q (.exit id) ρ L := fun _ w hr hs => wp_exit ⟨ρ, L, hr, hs, Keep.refl w, h⟩
theorem TC.label {id : Nat} (h : Q .normal ρ L) : TC P n Q (.label id) ρ L := fun _ w hr hs => wp_label ⟨ρ, L, hr, hs, Keep.refl w, h⟩
theorem TC.goto {id : Nat} (h : Q (.goto id) ρ L) : TC P n Q (.goto id) ρ L := fun _ w hr hs => wp_goto ⟨ρ, L, hr, hs, Keep.refl w, h⟩
def Post.block (id : Nat) (Q : Post) : Post := fun e ρ L => match e with | .exit k => if k = id then Q .normal ρ L else Q (.exit k) ρ L | e => Q e ρ L
theorem TC.block {id : Nat} {c : Code} (h : TC P n (Post.block id Q) c ρ L) : TC P n Q (.block id c) ρ L := fun a w hr hs =>
  wp_block (Code_mono (fun e a' w' hl => by
    obtain ⟨ρ', L', h1, h2, h3, h4⟩ := hl
    cases e with
    | exit k =>
      simp only [Exit.inBlock]
      simp only [Post.block] at h4
      split
      · rename_i hk; rw [if_pos hk] at h4; exact ⟨ρ', L', h1, h2, h3, h4⟩
      · rename_i hk; rw [if_neg hk] at h4; exact ⟨ρ', L', h1, h2, h3, h4⟩
    | _ => exact ⟨ρ', L', h1, h2, h3, h4⟩) (h a w hr hs))
def Post.noGoto (Q : Post) : Post := fun e ρ L => match e with | .goto _ => False | e => Q e ρ L
theorem TC.scope {c : Code} (h : TC P n (Post.noGoto Q) c ρ L) : TC P n Q (.scope c) ρ L := fun a w hr hs =>
  wp_scope_straight (Code_mono (fun e a' w' hl => by
    obtain ⟨ρ', L', h1, h2, h3, h4⟩ := hl
    cases e with
    | goto l => exact h4
    | _ => exact ⟨ρ', L', h1, h2, h3, h4⟩) (h a w hr hs))
theorem TC.weak {c : Code} {ρ' : Regs} (hw : ∀ i v, rget ρ' i = some v → rget ρ i = some v) (h : TC P n Q c ρ' L) : TC P n Q c ρ L := fun a w hr hs => h a w (hr.weak hw) hs
theorem TC.perm {c : Code} {L' : List Frag} (hp : L.Perm L') (k : TC P n Q c ρ L') : TC P n Q c ρ L := fun a w hr hs => k a w hr (hs.perm hp)
theorem TC.sub {c : Code} {L' : List Frag} (hp : L'.Sublist L) (k : TC P n Q c ρ L') : TC P n Q c ρ L := fun a w hr hs => k a w hr (hs.of_sublist hp)
theorem TC.fold {c : Code} {l F : List Frag} (k : l.Pairwise Disj → TC P n Q c ρ (un l :: F)) : TC P n Q c ρ (l ++ F) := fun a w hr hs => k (List.pairwise_append.1 hs.dis).1 a w hr hs.fold
theorem TC.unfold {c : Code} {l F : List Frag} (hd : l.Pairwise Disj) (k : TC P n Q c ρ (l ++ F)) : TC P n Q c ρ (un l :: F) := fun a w hr hs => k a w hr (hs.unfold hd)
theorem TC.mono {c : Code} {Q' : Post} (h : ∀ e ρ L, Q e ρ L → Q' e ρ L) (k : TC P n Q c ρ L) : TC P n Q' c ρ L := fun a w hr hs => Code_mono (fun _ _ _ => lift_mono h) (k a w hr hs)
/-- parts that are told apart -/
theorem TC.dis {c : Code} (k : L.Pairwise Disj → TC P n Q c ρ L) : TC P n Q c ρ L := fun a w hr hs => k hs.dis a w hr hs

/-- a loop: what is known at its head, of some thing that gets less -/
theorem TC.loop {α : Type} {c : Code} (ρI : α → Regs) (LI : α → List Frag) (I : α → Prop) (μ : α → Nat) (x0 : α) (hI : I x0)
    (hρ : ∀ i v, rget (ρI x0) i = some v → rget ρ i = some v) (hL : L.Perm (LI x0))
    (round : ∀ x, I x → TC P n (Post.seq (fun ρ' L' => ∃ y, I y ∧ μ y < μ x ∧ (∀ i v, rget (ρI y) i = some v → rget ρ' i = some v) ∧ L'.Perm (LI y)) Q) c (ρI x) (LI x)) : TC P n Q (.loop c) ρ L := fun a w hr hs => by
  refine wp_loop_ghost (fun k a' w' => ∃ x, I x ∧ μ x = k ∧ Rep n a' (ρI x) ∧ Sat w' (LI x) ∧ Keep w w') (μ x0) ⟨x0, hI, rfl, hr.weak hρ, hs.perm hL, Keep.refl w⟩ ?_
  rintro k a' w' ⟨x, h1, rfl, h3, h4, h5⟩
  refine Code_mono (fun e a'' w'' hl => ?_) (round x h1 a' w' h3 h4)
  obtain ⟨ρ', L', g1, g2, g3, g4⟩ := hl
  cases e with
  | normal =>
    obtain ⟨y, y1, y2, y3, y4⟩ := g4
    exact ⟨μ y, y2, y, y1, rfl, g1.weak y3, g2.perm y4, h5.trans g3⟩
  | _ => exact ⟨ρ', L', g1, g2, h5.trans g3, g4⟩
end

/-! ### a whole function -/
structure Body (P : Program) (f : Nat) (fn : Func) (c : Code) : Prop where
  at_ : P.funcs[f]? = some fn
  body : fn.body = some c

/-- what a function hands back: registers, or cells -/
def resv (P : Program) (ρ : Regs) (L : List Frag) : ResultVar → Value → Prop
  | .tmp t, v => rget ρ t = some v
  | .cell p ty, v => ∃ a, rget ρ p = some (.pointer (some a)) ∧ ∀ w, Sat w L → (loadVar ty a).run P w = .ok v w
end Go.SL
