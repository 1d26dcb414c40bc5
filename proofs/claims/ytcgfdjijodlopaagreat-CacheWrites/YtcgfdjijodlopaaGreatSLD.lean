/- A part of proofs about the given program. No condition. -/
import Derived.Test.YtcgfdjijodlopaaGreatSL2
set_option linter.all false
/- A region whose order is drawn: what the text's order shows is so in every order. -/
namespace Go.SL
open Go.RowKit
variable {P : Program}

/-- The walk of a region in the text's order, as something that can be turned round. R is read throughout, W ahead of the first change alone. K: 0 for what reads R, or lays a block; 1 for what reads W; 2 for what changes, or calls. -/
inductive Der (P : Program) (ops : Array Oper) (R W : List Frag) (K : Nat → Nat) (Q : Act → List Frag → Prop) : List Nat → Act → Bool → List Frag → Prop
  | nil {a : Act} {ph : Bool} {L L' : List Frag} (hp : (bif ph then L else W ++ L).Perm L') (h : Q a L') : Der P ops R W K Q [] a ph L
  | ld {i : Nat} {l : List Nat} {o : Oper} {a : Act} {ph : Bool} {L : List Frag} {v : Value} (hi : ops[i]? = some o) (hK : K i ≤ 2) (hw : Region.wanted o (yielded ops a.tmps) = true)
      (h : ∀ w, Sat w R → (execOp a.eval o).run P w = .ok (.value v) w) (k : Der P ops R W K Q l (a.put o.dst v) ph L) : Der P ops R W K Q (i :: l) a ph L
  | rd {i : Nat} {l : List Nat} {o : Oper} {a : Act} {L : List Frag} {v : Value} (hi : ops[i]? = some o) (hK : K i = 1) (hw : Region.wanted o (yielded ops a.tmps) = true)
      (h : ∀ w, Sat w (R ++ W) → (execOp a.eval o).run P w = .ok (.value v) w) (k : Der P ops R W K Q l (a.put o.dst v) false L) : Der P ops R W K Q (i :: l) a false L
  | no {i : Nat} {l : List Nat} {o : Oper} {a : Act} {ph : Bool} {L : List Frag} (hi : ops[i]? = some o) (hw : Region.wanted o (yielded ops a.tmps) = false)
      (k : Der P ops R W K Q l (a.put o.dst undef) ph L) : Der P ops R W K Q (i :: l) a ph L
  | nb {i : Nat} {l : List Nat} {o : Oper} {a : Act} {ph : Bool} {L : List Frag} {T : TypeId} {z : Array Value} {v : Nat → Value} (hi : ops[i]? = some o) (hK : K i = 3 ∨ K i = 4) (hw : Region.wanted o (yielded ops a.tmps) = true)
      (h : ∀ w, (execOp a.eval o).run P w = .ok (.value (v w.heap.size)) (w.alloc (.cells z T))) (k : ∀ b, Der P ops R W K Q l (a.put o.dst (v b)) ph (blk b T z :: L)) : Der P ops R W K Q (i :: l) a ph L
  | ef {i : Nat} {l : List Nat} {o : Oper} {a : Act} {ph : Bool} {L : List Frag} {E : Value → List Frag → Prop} (hi : ops[i]? = some o) (hK : K i = 2) (hw : Region.wanted o (yielded ops a.tmps) = true)
      (h : ∀ w F, Sat w (R ++ (bif ph then L else W ++ L) ++ F) → ∃ v L' w', ((execOp a.eval o).run P w = .ok (.value v) w' ∨ ((execOp a.eval o).run P w = .ok .skip w' ∧ v = undef)) ∧ E v L' ∧ Sat w' (R ++ L' ++ F) ∧ Keep w w')
      (k : ∀ v L', E v L' → Der P ops R W K Q l (a.put o.dst v) true L') : Der P ops R W K Q (i :: l) a ph L
  | cl {i : Nat} {l : List Nat} {o : Oper} {a : Act} {ph : Bool} {L : List Frag} {E : Value → List Frag → Prop} {f : Nat} {args : Array Value} (hi : ops[i]? = some o) (hK : K i = 2) (hw : Region.wanted o (yielded ops a.tmps) = true)
      (h : ∀ w, (execOp a.eval o).run P w = .ok (.enter f args) w)
      (hc : ∀ w F, Sat w (R ++ (bif ph then L else W ++ L) ++ F) → Calls P f args w fun e w' => ∃ v L', e = .returned v ∧ E v L' ∧ Sat w' (R ++ L' ++ F) ∧ Keep w w')
      (k : ∀ v L', E v L' → Der P ops R W K Q l (a.put o.dst v) true L') : Der P ops R W K Q (i :: l) a ph L

section
variable {ops : Array Oper} {R W : List Frag} {K : Nat → Nat} {Q : Act → List Frag → Prop}

/-- nothing that is known of a state hangs on the order of its parts -/
theorem Der.perm {l : List Nat} {a : Act} {ph : Bool} {L L' : List Frag} (h : Der P ops R W K Q l a ph L) (hp : L.Perm L') : Der P ops R W K Q l a ph L' := by
  have hb : ∀ {ph : Bool} {L L' : List Frag}, L.Perm L' → (bif ph then L else W ++ L).Perm (bif ph then L' else W ++ L') := fun {ph} {L} {L'} hp => by
    cases ph
    · exact hp.append_left W
    · exact hp
  induction h generalizing L' with
  | nil h1 h2 => exact .nil ((hb hp).symm.trans h1) h2
  | ld hi hK hw h k ih => exact .ld hi hK hw h (ih hp)
  | rd hi hK hw h k ih => exact .rd hi hK hw h (ih hp)
  | no hi hw k ih => exact .no hi hw (ih hp)
  | nb hi hK hw h k ih => exact .nb hi hK hw h (fun b => ih b (hp.cons _))
  | ef hi hK hw h k ih => exact .ef hi hK hw (fun w F hs => h w F (hs.perm (((hb hp).symm.append_left R).append_right F))) k
  | cl hi hK hw h hc k ih => exact .cl hi hK hw h (fun w F hs => hc w F (hs.perm (((hb hp).symm.append_left R).append_right F))) k

theorem Der.tail {i : Nat} {l l' : List Nat} (hl : ∀ {a : Act} {ph : Bool} {L : List Frag}, Der P ops R W K Q l a ph L → Der P ops R W K Q l' a ph L) {a : Act} {ph : Bool} {L : List Frag} (h : Der P ops R W K Q (i :: l) a ph L) : Der P ops R W K Q (i :: l') a ph L := by
  cases h with
  | ld hi hK hw h k => exact .ld hi hK hw h (hl k)
  | rd hi hK hw h k => exact .rd hi hK hw h (hl k)
  | no hi hw k => exact .no hi hw (hl k)
  | nb hi hK hw h k => exact .nb hi hK hw h (fun b => hl (k b))
  | ef hi hK hw h k => exact .ef hi hK hw h (fun v L' he => hl (k v L' he))
  | cl hi hK hw h hc k => exact .cl hi hK hw h hc (fun v L' he => hl (k v L' he))

/-- x stands ahead of y: may y come first? Kinds: 0 reads R, 1 reads W, 2 changes or calls, 3 lays a block, 4 lays a block whatever the registers hold. -/
def turns (ops : Array Oper) (K : Nat → Nat) (x y : Nat) : Bool :=
  match ops[x]?, ops[y]? with
  | some ox, some oy => ox.apart ops oy && oy.apart ops ox && (K x == 0 || (K x == 1 && K y != 2) || (K x == 2 && K y == 4) || (K x == 3 && (K y == 3 || K y == 4)) || (K x == 4 && (K y == 3 || K y == 4)))
  | _, _ => false

/-- it lays a block, whatever the registers hold -/
def Lays (P : Program) (o : Oper) : Prop := ∃ (T : TypeId) (z : Array Value) (v : Nat → Value), ∀ (a : Act) (w : World), (execOp a.eval o).run P w = .ok (.value (v w.heap.size)) (w.alloc (.cells z T))

theorem alloc_inj {w : World} {o o' : Obj} (h : w.alloc o = w.alloc o') : o = o' := by
  have h1 := heap_alloc_new w o
  have h2 := heap_alloc_new w o'
  rw [h] at h1; rw [h1] at h2; exact Option.some.inj h2
theorem sized (w : World) (n : Nat) : ∃ w' : World, w'.heap.size = n := ⟨{ w with heap := Array.replicate n (.cells #[] 0) }, by simp⟩
theorem lays_same {c : Sem Next} (w0 : World) {T T' : TypeId} {z z' : Array Value} {v v' : Nat → Value} (h : ∀ w : World, c.run P w = .ok (.value (v w.heap.size)) (w.alloc (.cells z T)))
    (h' : ∀ w : World, c.run P w = .ok (.value (v' w.heap.size)) (w.alloc (.cells z' T'))) : T = T' ∧ z = z' ∧ ∀ b, v b = v' b := by
  have e := (h w0).symm.trans (h' w0)
  injection e with e1 e2
  have := alloc_inj e2
  injection this with e3 e4
  refine ⟨e4, e3, fun b => ?_⟩
  obtain ⟨w, rfl⟩ := sized w0 b
  have e := (h w).symm.trans (h' w)
  injection e with e1 e2
  injection e1

theorem Der.inv_no {j : Nat} {o : Oper} {l : List Nat} {a : Act} {ph : Bool} {L : List Frag} (hj : ops[j]? = some o) (hw : Region.wanted o (yielded ops a.tmps) = false) (h : Der P ops R W K Q (j :: l) a ph L) : Der P ops R W K Q l (a.put o.dst undef) ph L := by
  cases h with
  | no hi _ k => rw [hj] at hi; injection hi with hi; subst hi; exact k
  | ld hi _ hw' | rd hi _ hw' | nb hi _ hw' | ef hi _ hw' | cl hi _ hw' => rw [hj] at hi; injection hi with hi; subst hi; rw [hw] at hw'; cases hw'
theorem Der.inv_nb {j : Nat} {o : Oper} {l : List Nat} {a : Act} {ph : Bool} {L : List Frag} (hj : ops[j]? = some o) (hw : Region.wanted o (yielded ops a.tmps) = true) (hK : K j = 3 ∨ K j = 4) (h : Der P ops R W K Q (j :: l) a ph L) :
    ∃ (T : TypeId) (z : Array Value) (v : Nat → Value), (∀ w, (execOp a.eval o).run P w = .ok (.value (v w.heap.size)) (w.alloc (.cells z T))) ∧ ∀ b, Der P ops R W K Q l (a.put o.dst (v b)) ph (blk b T z :: L) := by
  cases h with
  | no hi hw' => rw [hj] at hi; injection hi with hi; subst hi; rw [hw] at hw'; cases hw'
  | nb hi _ _ h k => rw [hj] at hi; injection hi with hi; subst hi; exact ⟨_, _, _, h, k⟩
  | ld hi hK' | rd hi hK' | ef hi hK' | cl hi hK' => exfalso; omega

/-- two steps are turned round -/
theorem Der.turn (w0 : World) (hsel : ∀ (j : Nat) (o : Oper) cs b, ops[j]? = some o → o.op ≠ .select cs b) (hal : ∀ j o, ops[j]? = some o → K j = 4 → Lays P o) {i j : Nat} {l : List Nat} {a : Act} {ph : Bool} {L : List Frag} (ht : turns ops K i j = true)
    (h : Der P ops R W K Q (i :: j :: l) a ph L) : Der P ops R W K Q (j :: i :: l) a ph L := by
  unfold turns at ht
  split at ht
  case h_2 => cases ht
  rename_i oi oj hi hj
  simp only [Bool.and_eq_true] at ht
  obtain ⟨⟨hap, -⟩, hk⟩ := ht
  obtain ⟨h1, h2, h3⟩ := Oper.apart_spec hap
  have eJ : ∀ (a : Act) v, execOp (a.put oi.dst v).eval oj = execOp a.eval oj := fun a v => execOp_put oj (fun cs b => hsel j oj cs b hj) a oi.dst v h1
  have eI : ∀ (a : Act) v, execOp (a.put oj.dst v).eval oi = execOp a.eval oi := fun a v => execOp_put oi (fun cs b => hsel i oi cs b hi) a oj.dst v h3
  have wJ : ∀ (a : Act) v, Region.wanted oj (yielded ops (a.put oi.dst v).tmps) = Region.wanted oj (yielded ops a.tmps) := fun a v => wanted_put oj a oi.dst v h1
  have wI : ∀ (a : Act) v, Region.wanted oi (yielded ops (a.put oj.dst v).tmps) = Region.wanted oi (yielded ops a.tmps) := fun a v => wanted_put oi a oj.dst v h3
  have pc : ∀ (a : Act) v u, (a.put oi.dst v).put oj.dst u = (a.put oj.dst u).put oi.dst v := fun a v u => Act.put_comm a v u h2
  -- what only reads R, or is not wanted: anything may come ahead of it
  have quiet : ∀ (ph : Bool) (v : Value), (∀ (a' : Act) (ph' : Bool) (L' : List Frag), (∃ u, a' = a.put oj.dst u) → (ph' = true ∨ ph' = ph) → Der P ops R W K Q l (a'.put oi.dst v) ph' L' → Der P ops R W K Q (i :: l) a' ph' L') →
      Der P ops R W K Q (j :: l) (a.put oi.dst v) ph L → Der P ops R W K Q (j :: i :: l) a ph L := fun ph v hq hd => by
    cases hd with
    | ld hi' hK hw h k => rw [hj] at hi'; injection hi' with hi'; subst hi'; rw [eJ] at h; rw [wJ] at hw; rw [pc] at k; exact .ld hj hK hw h (hq _ _ _ ⟨_, rfl⟩ (.inr rfl) k)
    | rd hi' hK hw h k => rw [hj] at hi'; injection hi' with hi'; subst hi'; rw [eJ] at h; rw [wJ] at hw; rw [pc] at k; exact .rd hj hK hw h (hq _ _ _ ⟨_, rfl⟩ (.inr rfl) k)
    | no hi' hw k => rw [hj] at hi'; injection hi' with hi'; subst hi'; rw [wJ] at hw; rw [pc] at k; exact .no hj hw (hq _ _ _ ⟨_, rfl⟩ (.inr rfl) k)
    | nb hi' hK hw h k => rw [hj] at hi'; injection hi' with hi'; subst hi'; rw [eJ] at h; rw [wJ] at hw; exact .nb hj hK hw h (fun b => hq _ _ _ ⟨_, rfl⟩ (.inr rfl) (by have := k b; rwa [pc] at this))
    | ef hi' hK hw h k => rw [hj] at hi'; injection hi' with hi'; subst hi'; rw [eJ] at h; rw [wJ] at hw; exact .ef hj hK hw h (fun v' L' he => hq _ _ _ ⟨_, rfl⟩ (.inl rfl) (by have := k v' L' he; rwa [pc] at this))
    | cl hi' hK hw h hc k => rw [hj] at hi'; injection hi' with hi'; subst hi'; rw [eJ] at h; rw [wJ] at hw; exact .cl hj hK hw h hc (fun v' L' he => hq _ _ _ ⟨_, rfl⟩ (.inl rfl) (by have := k v' L' he; rwa [pc] at this))
  cases h with
  | ld hi' hK hw h k =>
    rw [hi] at hi'; injection hi' with hi'; subst hi'
    exact quiet ph _ (fun a' ph' L' ⟨u, hu⟩ _ hd => .ld hi hK (by rw [hu, wI]; exact hw) (by rw [hu, eI]; exact h) hd) k
  | no hi' hw k =>
    rw [hi] at hi'; injection hi' with hi'; subst hi'
    exact quiet ph _ (fun a' ph' L' ⟨u, hu⟩ _ hd => .no hi (by rw [hu, wI]; exact hw) hd) k
  | rd hi' hK hw h k =>
    rw [hi] at hi'; injection hi' with hi'; subst hi'
    have hj2 : K j ≠ 2 := by rw [hK] at hk; intro e; rw [e] at hk; simp at hk
    have step : ∀ (u : Value) (L' : List Frag), Der P ops R W K Q l ((a.put oj.dst u).put oi.dst _) false L' → Der P ops R W K Q (i :: l) (a.put oj.dst u) false L' := fun u L' hd => .rd hi hK (by rw [wI]; exact hw) (by rw [eI]; exact h) hd
    cases k with
    | ld hi' hK hw h k => rw [hj] at hi'; injection hi' with hi'; subst hi'; rw [eJ] at h; rw [wJ] at hw; rw [pc] at k; exact .ld hj hK hw h (step _ _ k)
    | rd hi' hK hw h k => rw [hj] at hi'; injection hi' with hi'; subst hi'; rw [eJ] at h; rw [wJ] at hw; rw [pc] at k; exact .rd hj hK hw h (step _ _ k)
    | no hi' hw k => rw [hj] at hi'; injection hi' with hi'; subst hi'; rw [wJ] at hw; rw [pc] at k; exact .no hj hw (step _ _ k)
    | nb hi' hK hw h k => rw [hj] at hi'; injection hi' with hi'; subst hi'; rw [eJ] at h; rw [wJ] at hw; exact .nb hj hK hw h (fun b => step _ _ (by have := k b; rwa [pc] at this))
    | ef hi' hK hw h k => exact absurd hK hj2
    | cl hi' hK hw h hc k => exact absurd hK hj2
  | nb hi' hK hw h k =>
    rw [hi] at hi'; injection hi' with hi'; subst hi'
    have hj34 : K j = 3 ∨ K j = 4 := by rcases hK with e | e <;> rw [e] at hk <;> simpa using hk
    cases hwj : Region.wanted oj (yielded ops a.tmps) with
    | false => exact .no hj hwj (.nb hi hK (by rw [wI]; exact hw) (by rw [eI]; exact h) fun b => by have := (k b).inv_no hj (by rw [wJ]; exact hwj); rwa [pc] at this)
    | true =>
      obtain ⟨T, z, v, hr, hd⟩ := (k 0).inv_nb hj (by rw [wJ]; exact hwj) hj34
      rw [eJ] at hr
      refine .nb hj hj34 hwj hr fun c => .nb hi hK (by rw [wI]; exact hw) (by rw [eI]; exact h) fun b => ?_
      obtain ⟨T', z', v', hr', hd'⟩ := (k b).inv_nb hj (by rw [wJ]; exact hwj) hj34
      rw [eJ] at hr'
      obtain ⟨rfl, rfl, e⟩ := lays_same w0 hr hr'
      have := hd' c
      rw [pc, ← e c] at this
      exact this.perm (.swap ..)
  | ef hi' hK hw h k =>
    rw [hi] at hi'; injection hi' with hi'; subst hi'
    have hj4 : K j = 4 := by rw [hK] at hk; simpa using hk
    rename_i E
    cases hwj : Region.wanted oj (yielded ops a.tmps) with
    | false => exact .no hj hwj (.ef hi hK (by rw [wI]; exact hw) (by rw [eI]; exact h) fun v L' he => by have := (k v L' he).inv_no hj (by rw [wJ]; exact hwj); rwa [pc] at this)
    | true =>
      obtain ⟨T, z, v, hr⟩ := hal j oj hj hj4
      refine .nb hj (.inr hj4) hwj (hr a) fun b => ?_
      refine .ef (E := fun u L'' => ∃ L', E u L' ∧ L'' = blk b T z :: L') hi hK (by rw [wI]; exact hw) (fun w F hs => ?_) ?_
      rotate_left
      · rintro u L'' ⟨L', he, rfl⟩
        obtain ⟨T', z', v', hr', hd'⟩ := (k u L' he).inv_nb hj (by rw [wJ]; exact hwj) (.inr hj4)
        obtain ⟨rfl, rfl, e⟩ := lays_same w0 (hr _) hr'
        have := hd' b
        rwa [pc, ← e b] at this
      · rw [eI]
        obtain ⟨u, L', w', g1, g2, g3, g4⟩ := h w (blk b T z :: F) (hs.perm (by
          cases ph
          · show (R ++ (W ++ blk b T z :: L) ++ F).Perm (R ++ (W ++ L) ++ blk b T z :: F)
            simp only [List.append_assoc]
            refine List.Perm.append_left R (List.Perm.append_left W ?_)
            exact (List.perm_middle (l₁ := L) (l₂ := F)).symm
          · show (R ++ (blk b T z :: L) ++ F).Perm (R ++ L ++ blk b T z :: F)
            simp only [List.append_assoc]
            exact List.Perm.append_left R (List.perm_middle (l₁ := L) (l₂ := F)).symm))
        refine ⟨u, _, w', g1, ⟨L', g2, rfl⟩, g3.perm ?_, g4⟩
        simp only [List.append_assoc]
        exact List.Perm.append_left R (List.perm_middle (l₁ := L') (l₂ := F))
  | cl hi' hK hw h hc k =>
    rw [hi] at hi'; injection hi' with hi'; subst hi'
    have hj4 : K j = 4 := by rw [hK] at hk; simpa using hk
    rename_i E _ _
    cases hwj : Region.wanted oj (yielded ops a.tmps) with
    | false => exact .no hj hwj (.cl hi hK (by rw [wI]; exact hw) (by rw [eI]; exact h) hc fun v L' he => by have := (k v L' he).inv_no hj (by rw [wJ]; exact hwj); rwa [pc] at this)
    | true =>
      obtain ⟨T, z, v, hr⟩ := hal j oj hj hj4
      refine .nb hj (.inr hj4) hwj (hr a) fun b => ?_
      refine .cl (E := fun u L'' => ∃ L', E u L' ∧ L'' = blk b T z :: L') hi hK (by rw [wI]; exact hw) (by rw [eI]; exact h) (fun w F hs => ?_) ?_
      rotate_left
      · rintro u L'' ⟨L', he, rfl⟩
        obtain ⟨T', z', v', hr', hd'⟩ := (k u L' he).inv_nb hj (by rw [wJ]; exact hwj) (.inr hj4)
        obtain ⟨rfl, rfl, e⟩ := lays_same w0 (hr _) hr'
        have := hd' b
        rwa [pc, ← e b] at this
      · refine (hc w (blk b T z :: F) (hs.perm ?_)).mono fun e w' ⟨u, L', g1, g2, g3, g4⟩ => ⟨u, _, g1, ⟨L', g2, rfl⟩, g3.perm ?_, g4⟩
        · cases ph
          · show (R ++ (W ++ blk b T z :: L) ++ F).Perm (R ++ (W ++ L) ++ blk b T z :: F)
            simp only [List.append_assoc]
            refine List.Perm.append_left R (List.Perm.append_left W ?_)
            exact (List.perm_middle (l₁ := L) (l₂ := F)).symm
          · show (R ++ (blk b T z :: L) ++ F).Perm (R ++ L ++ blk b T z :: F)
            simp only [List.append_assoc]
            exact List.Perm.append_left R (List.perm_middle (l₁ := L) (l₂ := F)).symm
        · simp only [List.append_assoc]
          exact List.Perm.append_left R (List.perm_middle (l₁ := L') (l₂ := F))
end
end Go.SL
